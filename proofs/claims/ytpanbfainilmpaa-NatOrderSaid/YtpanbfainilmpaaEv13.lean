/- Calls by value. -/
import Derived.Test.YtpanbfainilmpaaEv12
set_option linter.unusedVariables false
set_option linter.unusedSimpArgs false
namespace Go.Proofs.Ytpanbfainilmpaa.Ev

/-- What comes back of a call of f. -/
def Gives (P : Program) (f : FuncId) (vs : Array Value) (w : World) (R : Value → World → Prop) : Prop :=
  ((callFunc f vs).run P w = .ok (.enter f vs) w ∧ Calls P f vs w (fun | .returned v, w2 => R v w2 | _, _ => False)) ∨
  (∃ v w1, (callFunc f vs).run P w = .ok (.value v) w1 ∧ R v w1)
theorem Gives.mono {P : Program} {f : FuncId} {vs : Array Value} {w : World} {R R' : Value → World → Prop} (h : Gives P f vs w R) (hr : ∀ v w', R v w' → R' v w') : Gives P f vs w R' := by
  rcases h with ⟨h1, h2⟩ | ⟨v, w1, h1, h2⟩
  · refine .inl ⟨h1, Calls.mono h2 fun e w' he => ?_⟩
    cases e with
    | returned v => exact hr _ _ he
    | panicked c => exact he
    | outgrown => exact he
  · exact .inr ⟨v, w1, h1, hr _ _ h2⟩

def PRs (w : World) (S : Nat → Nat → Prop) : List PV → Value → Prop
  | [x], v => PR w S x v
  | xs, v => ∃ us : List Value, v = .tuple us.toArray ∧ RelL (PR w S) xs us
theorem PRs.move {w w' : World} {S S' : Nat → Nat → Prop} (hS : ∀ b o u, S b o → w.cell? ⟨b, o, none⟩ = some u → S' b o ∧ w'.cell? ⟨b, o, none⟩ = some u) {xs : List PV} {v : Value} (h : PRs w S xs v) : PRs w' S' xs v := by
  unfold PRs at h ⊢
  split
  · exact PR.move hS h
  · rename_i hx
    split at h
    · rename_i x; exact absurd rfl (hx x)
    · obtain ⟨us, rfl, hr⟩ := h
      exact ⟨us, rfl, hr.imp fun _ _ _ h => PR.move hS h⟩
theorem PRs.flat {w : World} {S : Nat → Nat → Prop} {xs : List PV} {v : Value} (h : PRs w S xs v) (hf : xs.all PV.flat = true) (w' : World) (S' : Nat → Nat → Prop) : PRs w' S' xs v := by
  rw [List.all_eq_true] at hf
  unfold PRs at h ⊢
  split
  · rename_i x
    exact PR.flat h (hf _ (by simp)) w' S'
  · rename_i hx
    split at h
    · rename_i x; exact absurd rfl (hx x)
    · obtain ⟨us, rfl, hr⟩ := h
      exact ⟨us, rfl, hr.imp fun x hx _ h => PR.flat h (hf x hx) w' S'⟩
theorem PRs.out {w : World} {g : Gh} {H : HF} {xs : List PV} {v : Value} (h : PRs w g.S xs v) : AVR w g H (outAV xs) v := by
  unfold PRs at h
  unfold outAV
  split
  · rename_i x
    cases x with
    | one x => exact h
    | agg xs =>
      obtain ⟨vs, rfl, hr⟩ := h
      exact ⟨vs, rfl, RelL.map (R := CR w g H) (f := C.d) hr⟩
  · rename_i hx
    split at h
    · rename_i x; exact absurd rfl (hx x)
    · exact h

/-- A function by value: these arguments, these results; nothing that was there changes. -/
def FnOk (P : Program) (f : FuncId) (args rs : List PV) : Prop :=
  ∀ (w : World) (S : Nat → Nat → Prop) (vs : List Value), (∀ b o, S b o → b < w.heap.size) → RelL (PR w S) args vs →
    Gives P f vs.toArray w fun v w' => RowKit.Below w.heap.size w w' ∧ PRs w' (fun b o => S b o ∨ (w.heap.size ≤ b ∧ b < w'.heap.size)) rs v

/-- What an operation's step owes, calls included. -/
def StepOk (P : Program) (o : Oper) (a : Act) (w : World) (g : Gh) (H : HF) (nx : Nat) (re : Re) : Prop :=
  ∀ (next : Act → World → Prop) (Q : Exit → Act → World → Prop), (∀ v w' g', HI w' g' (updF H re.w) → Stp (bn nx re.nx) w g H w' g' (updF H re.w) → AVR w' g' (updF H re.w) re.v v → next (a.put o.dst v) w') → o.wp P a w next Q

section
variable {P : Program} {o : Oper} {a : Act} {w : World} {g : Gh} {H : HF} {f : Fr} {h : Hp} {nx : Nat} {K : Or} {draw : Bool}

theorem OpOk.step {re : Re} (h : OpOk P o a w g H nx re) : StepOk P o a w g H nx re := by
  intro next Q hn
  obtain ⟨v, w', g', hrun, h1, h2, h3⟩ := h
  rcases hrun with hrun | ⟨hrun, rfl⟩
  · simp only [Oper.wp, hrun, Oper.upon]; exact hn _ _ _ h1 h2 h3
  · simp only [Oper.wp, hrun, Oper.upon]; exact hn _ _ _ h1 h2 h3

/-- A call's step. -/
theorem Gives.step {fn : FuncId} {vs : Array Value} {R : Value → World → Prop} (hrun : (execOp a.eval o).run P w = (callFunc fn vs).run P w) (h : Gives P fn vs w R) {next : Act → World → Prop} {Q : Exit → Act → World → Prop}
    (hn : ∀ v w', R v w' → next (a.put o.dst v) w') : o.wp P a w next Q := by
  rcases h with ⟨h1, h2⟩ | ⟨v, w1, h1, h2⟩
  · simp only [Oper.wp, hrun, h1, Oper.upon]
    refine Calls.mono h2 fun e w' he => ?_
    cases e with
    | returned v => exact hn _ _ he
    | panicked c => exact he.elim
    | outgrown => exact he.elim
  · simp only [Oper.wp, hrun, h1, Oper.upon]
    exact hn _ _ h2

theorem execCall {c : Call} {fn : FuncId} {x : Operand} (ho : o.op = .call c) (hc : c.callee = .value x) (hx : a.eval x = .func (.func fn) #[] #[]) :
    (execOp a.eval o).run P w = (callFunc fn (c.args.map a.eval)).run P w := by
  simp [execOp, ho, resolve, hc, hx, Deferred.ofValue, invoke]

/-- The cells that a call's arguments stand on. -/
def Sp (g : Gh) (H : HF) (ids : List Nat) : Nat → Nat → Prop := fun b o => g.S b o ∨ ∃ id ∈ ids, blk g H id = some b
theorem Sp.dr {ids : List Nat} : ∀ b o u, g.S b o → w.cell? ⟨b, o, none⟩ = some u → Sp g H ids b o ∧ w.cell? ⟨b, o, none⟩ = some u := fun _ _ _ h k => ⟨.inl h, k⟩
theorem Sp.mono {A B : List Nat} (hs : ∀ i ∈ A, i ∈ B) : ∀ b o u, Sp g H A b o → w.cell? ⟨b, o, none⟩ = some u → Sp g H B b o ∧ w.cell? ⟨b, o, none⟩ = some u := by
  intro b o u h k
  refine ⟨?_, k⟩
  rcases h with h | ⟨i, hi, hb⟩
  · exact .inl h
  · exact .inr ⟨i, hs i hi, hb⟩

theorem toPV_ok (hi : HI w g H) {sz : Nat} {v : AV} {u : Value} {q : PV × List Nat} (hq : toPV h sz v = some q) (hv : AVR w g H v u) (hr : ∀ id ∈ q.2, H id = h.get id) : PR w (Sp g H q.2) q.1 u := by
  unfold toPV at hq
  split at hq
  · cases hq; exact DR.move Sp.dr (CR.toD hv)
  · cases hq
    obtain ⟨vs, rfl, hrel⟩ := hv
    exact ⟨vs, rfl, RelL.map (hrel.imp fun _ _ _ h => DR.move Sp.dr (CR.toD h))⟩
  · rename_i id off len
    simp only [bindO_eq] at hq
    obtain ⟨e, he, hq⟩ := hq
    cases hq
    unfold elems at he
    simp only at he
    split at he
    · rename_i cells hcells
      split at he
      · rename_i hl
        cases he
        have hH : H id = some (.arr cells) := (hr id (by simp)).trans hcells
        obtain ⟨p, c, e1, hlc, hp⟩ := hv cells hH
        obtain ⟨vs, k1, k2, k3⟩ := arr_vals hi hH hl
        subst e1
        have at_ : ∀ (i : Nat) (e : List D) (j : Nat) (x : D), (chunk sz len ((cells.drop off).map C.toD))[i]? = some e → e[j]? = some x → i < len ∧ ∃ v, vs[i * sz + j]? = some v ∧ DR w g.S x v := by
          intro i e j x he hx
          obtain ⟨hil, rfl⟩ := chunk_get sz len _ i e he
          refine ⟨hil, ?_⟩
          rw [List.getElem?_take] at hx
          split at hx
          · rename_i hjl
            rw [List.getElem?_drop, List.getElem?_map] at hx
            obtain ⟨cc, hcc, rfl⟩ := Option.map_eq_some_iff.1 hx
            have hlt : i * sz + j < len * sz := by
              have : (i + 1) * sz ≤ len * sz := Nat.mul_le_mul_right _ hil
              rw [Nat.succ_mul] at this
              omega
            have : ((cells.drop off).take (len * sz))[i * sz + j]? = some cc := by rw [List.getElem?_take, if_pos hlt]; exact hcc
            obtain ⟨v, hv, hd⟩ := k2.get this
            exact ⟨v, hv, CR.toD hd⟩
          · cases hx
        refine .sl (sz := sz) (b := g.β id) (o := off) (fun i j => (vs[i * sz + j]?).getD undef) (by rw [chunk_len]) hlc (fun i e he => ?_) (fun i e j x he hx => ?_) (fun i e j x he hx => ?_)
        · obtain ⟨hil, rfl⟩ := chunk_get sz len _ i e he
          have : (i + 1) * sz ≤ len * sz := Nat.mul_le_mul_right _ hil
          rw [Nat.succ_mul] at this
          simp
          omega
        · obtain ⟨hil, v, hv, hd⟩ := at_ i e j x he hx
          rw [hv]
          exact ⟨hp (by omega), k3 _ _ hv, .inr ⟨id, by simp, by simp [blk, hH]⟩⟩
        · obtain ⟨hil, v, hv, hd⟩ := at_ i e j x he hx
          rw [hv]
          exact DR.move Sp.dr hd
      · cases he
    · cases he
  · cases hq

theorem toPVs_ok (hi : HI w g H) : ∀ {xs : List Operand} {ts : List TypeId} {as : List (Nat × AO)} {q : List PV × List Nat}, compArgs P xs ts = some as → toPVs h f as = some q → FRu w g H f a (as.flatMap fun p => p.2.us) → (∀ id ∈ q.2, H id = h.get id) →
    RelL (PR w (Sp g H q.2)) q.1 (xs.map a.eval)
  | [], ts, as, q, hc, hq, _, _ => by
    simp only [compArgs, Option.some.injEq] at hc
    subst hc
    simp only [toPVs, Option.some.injEq] at hq
    subst hq
    exact .nil
  | x :: xs, ts, as, q, hc, hq, hf, hr => by
    simp only [compArgs, bindO_eq] at hc
    obtain ⟨y, hy, ps, hps, he⟩ := hc
    cases he
    simp only [toPVs, bindV, bindO_eq] at hq
    obtain ⟨q1, h1, q2, h2, he⟩ := hq
    cases he
    have e1 := toPV_ok hi h1 (compA_ok hy (hf.sub fun s hs => by simp [hs])) fun id hid => hr id (List.mem_append_left _ hid)
    have e2 := toPVs_ok hi hps h2 (hf.sub fun s hs => by simp only [List.flatMap_cons, List.mem_append]; exact .inr hs) fun id hid => hr id (List.mem_append_right _ hid)
    exact .cons (PR.move (Sp.mono fun i hi => List.mem_append_left _ hi) e1) (e2.imp fun _ _ _ h => PR.move (Sp.mono fun i hi => List.mem_append_right _ hi) h)

theorem killIds : ∀ (ids : List Nat) {g : Gh} {H : HF}, HI w g H → ∃ S', (∀ b o, S' b o ↔ Sp g H ids b o) ∧ HI w { g with S := S' } (updF H (ids.map (·, none))) ∧ Stp [] w g H w { g with S := S' } (updF H (ids.map (·, none)))
  | [], g, H, hi => ⟨g.S, fun b o => by simp [Sp], hi, Stp.refl w g H⟩
  | n :: r, g, H, hi => by
    obtain ⟨h1, h2⟩ := killId hi n (fun b => blk g H n = some b) fun b hb => hb
    obtain ⟨S', h3, h4, h5⟩ := killIds r h1
    refine ⟨S', fun b o => (h3 b o).trans ?_, h4, (Stp.trans h2 h5).weaken (by simp)⟩
    simp only [Sp, List.mem_cons, exists_eq_or_imp]
    have hb : ∀ id, blk { g with S := fun b o => g.S b o ∨ blk g H n = some b } (fup H n none) id = some b ↔ id ≠ n ∧ blk g H id = some b := by
      intro id
      by_cases hn : id = n
      · subst hn; simp [blk, fup_same]
      · simp [blk, fup, hn]
    constructor
    · rintro ((h | h) | ⟨id, hid, h⟩)
      · exact .inl h
      · exact .inr (.inl h)
      · exact .inr (.inr ⟨id, hid, ((hb id).1 h).2⟩)
    · rintro (h | h | ⟨id, hid, h⟩)
      · exact .inl (.inl h)
      · exact .inl (.inr h)
      · by_cases hn : id = n
        · subst hn; exact .inl (.inr h)
        · exact .inr ⟨id, hid, (hb id).2 ⟨hn, h⟩⟩

theorem step_call (hi : HI w g H) (hK : ∀ f args rs, K.call f args = some rs → FnOk P f args rs) {c : Call} {fn : FuncId} {x : Operand} {as : List (Nat × AO)} (ho : o.op = .call c) (hc : c.callee = .value x) (hx : a.eval x = .func (.func fn) #[] #[])
    (has : compArgs P c.args.toList c.argTypes.toList = some as) (hf : FRu w g H f a (as.flatMap fun p => p.2.us)) {re : Re} (hre : doCall K draw f h nx fn as = some re) (hrd : ∀ id ∈ re.r, H id = h.get id) : StepOk P o a w g H nx re := by
  intro next Q hn
  simp only [doCall, bindO_eq] at hre
  obtain ⟨q, hq, rs, hrs, hre⟩ := hre
  have hids : ∀ id ∈ q.2, id ∈ re.r := by
    split at hre
    · cases hre; exact fun _ h => h
    · cases hre; exact fun _ h => h
  have hargs := toPVs_ok hi has hq hf fun id hid => hrd id (hids id hid)
  have hg := hK fn q.1 rs hrs w (Sp g H q.2) (c.args.toList.map a.eval) (fun b o hs => by
    rcases hs with hs | ⟨id, _, hb⟩
    · exact hi.lt b o hs
    · exact hi.blk_lt hb) hargs
  have hargs' : (c.args.toList.map a.eval).toArray = c.args.map a.eval := by apply Array.ext'; simp
  rw [hargs'] at hg
  refine Gives.step (execCall ho hc hx) hg fun v w' ⟨hb, hr⟩ => ?_
  split at hre
  · rename_i hcond
    cases hre
    obtain ⟨k1, k2⟩ := cameBack hi hb
    refine hn v w' _ k1 (by rw [bn_self]; exact k2) (PRs.out ?_)
    rw [Bool.or_eq_true] at hcond
    rcases hcond with h0 | h0
    · rw [List.isEmpty_iff] at h0
      refine PRs.move (fun b o u hs hu => ⟨?_, hu⟩) hr
      rcases hs with (hs | ⟨id, hid, _⟩) | hs
      · exact .inl hs
      · rw [h0] at hid; cases hid
      · exact .inr hs
    · exact PRs.flat hr h0 _ _
  · cases hre
    obtain ⟨S', k1, k2, k3⟩ := killIds q.2 hi
    obtain ⟨k4, k5⟩ := cameBack k2 hb
    refine hn v w' _ k4 ?_ (PRs.out ?_)
    · simp only [bn_self]
      exact (Stp.trans k3 k5).weaken (by simp)
    · refine PRs.move (fun b o u hs hu => ⟨?_, hu⟩) hr
      rcases hs with hs | hs
      · exact .inl ((k1 b o).2 hs)
      · exact .inr hs
end
end Go.Proofs.Ytpanbfainilmpaa.Ev
