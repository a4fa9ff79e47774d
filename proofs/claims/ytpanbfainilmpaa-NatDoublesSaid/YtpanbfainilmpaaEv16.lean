/- Regions: one step, and operations in their written order. -/
import Derived.Test.YtpanbfainilmpaaEv15
import Derived.Orders
set_option linter.unusedVariables false
set_option linter.unusedSimpArgs false
namespace Go.Proofs.Ytpanbfainilmpaa.Ev

/-- A state of the evaluator and a state of the machine. -/
structure SI (nt : Nat) (w : World) (g : Gh) (st : St) (a : Act) : Prop where
  hi : HI w g st.h.get
  fr : FR w g st.h.get st.f a
  wf : WFr st.f st.nx
  wh : WH st.h st.nx
  sz : nt ≤ a.tmps.size

section
variable {P : Program} {inl : Nat → Bool} {nt : Nat} {ops : Array Oper} {K : Or}

theorem getD_bool {tmps : Array Value} {s : Nat} {b : Bool} (h : tmps.getD s undef = .bool b) : tmps[s]? = some (.bool b) := by
  by_cases hs : s < tmps.size
  · simp [Array.getD, hs] at h
    simp [hs, h]
  · simp [Array.getD, hs, undef] at h

theorem getD_out {tmps : Array Value} {s : Nat} (h : ¬ s < tmps.size) : tmps.getD s undef = undef := by simp [Array.getD, h]
def boolOf : Value → Option Bool
  | .bool b => some b
  | _ => none
theorem gdB_val {w : World} {g : Gh} {H : HF} {x : AV} {u : Value} {q : Option Bool} (hq : gdB x = some q) (h : AVR w g H x u) : boolOf u = q := by
  unfold gdB at hq
  split at hq
  · obtain ⟨us, rfl, _⟩ := h
    cases hq; rfl
  · cases hq
    rw [sc_val h]; rfl
  · cases hq
theorem yielded_at {ops : Array Oper} {tmps : Array Value} {j s : Nat} (hs : (ops[j]?).bind (·.dst) = some s) : yielded ops tmps j = boolOf (tmps.getD s undef) := by
  unfold yielded
  rw [hs]
  by_cases h : s < tmps.size
  · have h1 : tmps.getD s undef = tmps[s] := by simp [Array.getD, h]
    rw [h1]
    simp only [Option.bind_some, Array.getElem?_eq_getElem h]
    cases tmps[s] <;> rfl
  · rw [getD_out h]
    have : tmps[s]? = none := by simp; omega
    simp only [Option.bind_some, this]
    rfl
theorem compOper_op {o : Oper} {bf : Nat} (h : (compOper P inl nt ops o bf).op ≠ .bad) :
    (∀ d, o.dst = some d → d < nt) ∧ (compOper P inl nt ops o bf).op = compOp P inl o ∧ ∀ j want, o.guard = some (j, want) → ((ops[j]?).bind (·.dst)).isSome = true := by
  have key : ∀ dd : Option Nat, (if (match dd with | some d => decide (d < nt) | none => true) = false then AOp.bad else match o.guard with
      | none => compOp P inl o
      | some (j, _) => if ((ops[j]?).bind (·.dst)).isSome then compOp P inl o else .bad) ≠ .bad →
      (∀ d, dd = some d → d < nt) ∧ (if (match dd with | some d => decide (d < nt) | none => true) = false then AOp.bad else match o.guard with
      | none => compOp P inl o
      | some (j, _) => if ((ops[j]?).bind (·.dst)).isSome then compOp P inl o else .bad) = compOp P inl o ∧ ∀ j want, o.guard = some (j, want) → ((ops[j]?).bind (·.dst)).isSome = true := by
    intro dd hh
    have core : ∀ gg : Option (Nat × Bool), (match gg with
      | none => compOp P inl o
      | some (j, _) => if ((ops[j]?).bind (·.dst)).isSome then compOp P inl o else .bad) ≠ .bad → (match gg with
      | none => compOp P inl o
      | some (j, _) => if ((ops[j]?).bind (·.dst)).isSome then compOp P inl o else .bad) = compOp P inl o ∧ ∀ j want, gg = some (j, want) → ((ops[j]?).bind (·.dst)).isSome = true := by
      intro gg hh
      cases gg with
      | none => exact ⟨rfl, fun j want he => by cases he⟩
      | some p =>
        obtain ⟨j, want⟩ := p
        simp only at hh ⊢
        by_cases hs : ((ops[j]?).bind (·.dst)).isSome = true
        · refine ⟨if_pos hs, fun j' want' he => ?_⟩
          cases he
          exact hs
        · rw [if_neg hs] at hh; exact absurd rfl hh
    cases dd with
    | none => exact ⟨fun d he => (by cases he), core o.guard hh⟩
    | some d =>
      by_cases hd : d < nt
      · simp only [hd, decide_true, Bool.true_eq_false, if_false] at hh ⊢
        exact ⟨fun d' he => (by cases he; exact hd), core o.guard hh⟩
      · simp [hd] at hh
  exact key o.dst h

/-- One operation in its place. -/
theorem step_core {w : World} {g : Gh} {H : HF} {a : Act} {f : Fr} {h : Hp} {nx : Nat} {draw : Bool} {i : Nat} {o : Oper} {ao : AOper} {bf : Nat} (hi : HI w g H) (hK : KOk P inl K) (hwf : WFr f nx) (hwh : WH h nx) (ho : ops[i]? = some o) (hm : ao.bare = compOper P inl nt ops o bf)
    (hks : ∀ c ∈ ao.op.ks, c.ids = []) (hf : FRu w g H f a ao.us) {re : Re} (hre : evStep K draw ao ⟨f, h, nx⟩ = some re) (hrd : ∀ id ∈ re.r, H id = h.get id) (hfr : ∀ i, nx ≤ i → i < re.nx → H i = none) (hcl : Clean H (bn nx re.nx))
    {next : Act → World → Prop} {Q : Exit → Act → World → Prop} (hn : ∀ v w' g', HI w' g' (updF H re.w) → Stp (bn nx re.nx) w g H w' g' (updF H re.w) → AVR w' g' (updF H re.w) re.v v → next (a.put o.dst v) w') :
    wpOp P ops Q i next a w ∧ (∀ d, o.dst = some d → d < nt ∨ re.v = .tu []) ∧ ao.dst = o.dst := by
  have hdst : ao.dst = o.dst := by have := congrArg AOper.dst hm; exact this
  have hg : ao.g = (compOper P inl nt ops o bf).g := by have := congrArg AOper.g hm; exact this
  have hop : ao.op.bare = (compOper P inl nt ops o bf).op := by have := congrArg AOper.op hm; exact this
  -- when the operation itself is evaluated
  have doit : evOp K draw f h nx ao.op = some re → (∀ d, o.dst = some d → d < nt) ∧ compOp? P inl o = some ao.op.bare ∧ ∀ j want, o.guard = some (j, want) → ∃ s, (ops[j]?).bind (·.dst) = some s := by
    intro he
    have hnb : ao.op.bare ≠ .bad := by
      intro hb
      have : ao.op = .bad := by
        cases hao : ao.op <;> rw [hao] at hb <;> simp [AOp.bare] at hb
      rw [this] at he
      simp [evOp] at he
    have hsome : ∀ x : AOp, compOp P inl o = x → x ≠ .bad → compOp? P inl o = some x := by
      intro x hx hxb
      unfold compOp at hx
      split at hx
      · rename_i y hy; rw [hy, hx]
      · exact absurd hx.symm hxb
    rw [hop] at hnb
    obtain ⟨k1, k2, k3⟩ := compOper_op hnb
    rw [← hop] at hnb
    exact ⟨k1, hsome _ (k2.symm.trans hop.symm) hnb, fun j want hgd => isSome_ex (k3 j want hgd)⟩
  have run : evOp K draw f h nx ao.op = some re → o.wp P a w next Q ∨ (o.asks P a w ∧ LetsOut Q) := by
    intro he
    obtain ⟨_, h2, _⟩ := doit he
    exact .inl (evOp_ok hi hK hwf hwh h2 hks (hf.sub fun s hs => by simp only [AOper.us, List.mem_append]; exact .inl hs) he hrd hfr hcl next Q hn)
  refine ⟨?_, ?_, hdst⟩
  · simp only [wpOp, ho]
    simp only [evStep] at hre
    simp only [compOper] at hg
    split at hg
    · rename_i hgn
      rw [hg] at hre
      simp only [Region.wanted, hgn, if_true]
      exact run hre
    · rename_i j want hgs
      rw [hg] at hre
      simp only [bindO_eq] at hre
      obtain ⟨b, hb, hre⟩ := hre
      have hslot := gdB_val hb (hf (((ops[j]?).bind (·.dst)).getD 0) (by simp only [AOper.us, hg, List.mem_append, List.mem_singleton, or_true]))
      simp only [Region.wanted, hgs]
      split at hre
      · rename_i hbw
        obtain ⟨_, _, h3⟩ := doit hre
        obtain ⟨s, hs⟩ := h3 j want hgs
        rw [hs, Option.getD_some] at hslot
        have hy : yielded ops a.tmps j = b := by rw [yielded_at hs, hslot]
        rw [hy, hbw]
        simp only [beq_self_eq_true, if_true]
        exact run hre
      · rename_i hbw
        have hy : (yielded ops a.tmps j == some want) = false := by
          cases hs : (ops[j]?).bind (·.dst) with
          | none => simp [yielded, hs]
          | some s =>
            rw [hs, Option.getD_some] at hslot
            rw [yielded_at hs, hslot]
            simpa using hbw
        rw [hy]
        simp only [Bool.false_eq_true, if_false]
        rw [ok1_eq hre] at hn
        exact hn undef w g hi (by rw [bn_self]; exact Stp.refl w g H) ⟨[], rfl, .nil⟩
  · intro d hod
    simp only [evStep] at hre
    split at hre
    · exact .inl ((doit hre).1 d hod)
    · simp only [bindO_eq] at hre
      obtain ⟨b, hb, hre⟩ := hre
      split at hre
      · exact .inl ((doit hre).1 d hod)
      · rw [ok1_eq hre]; exact .inr rfl

theorem evStep_lt {draw : Bool} {ao : AOper} {st : St} {re : Re} (hK : KWF K) (hwf : WFr st.f st.nx) (hwh : WH st.h st.nx) (hks : ∀ c ∈ ao.op.ks, c.ids = []) (hre : evStep K draw ao st = some re) : ReOk st.nx re := by
  simp only [evStep] at hre
  split at hre
  · exact evOp_lt hK hwf hwh hks hre
  · simp only [bindO_eq] at hre
    obtain ⟨b, hb, hre⟩ := hre
    split at hre
    · exact evOp_lt hK hwf hwh hks hre
    · exact .ok1 hre Lt.nil

theorem ReOk.w {nx : Nat} {re : Re} (h : ReOk nx re) : ∀ e ∈ re.w, e.1 < re.nx ∧ ∀ l, e.2 = some l → Lt l.ids re.nx := by
  intro e he
  have key : ∀ i ∈ (e.1 :: match e.2 with | some l => l.ids | none => []), i < re.nx := fun i hi => h.2 i (List.mem_append_right _ (List.mem_flatMap.2 ⟨e, he, hi⟩))
  refine ⟨key _ List.mem_cons_self, fun l hl i hi => key i (List.mem_cons_of_mem _ ?_)⟩
  rw [hl]
  exact hi
theorem ReOk.v {nx : Nat} {re : Re} (h : ReOk nx re) : Lt re.v.ids re.nx := fun i hi => h.2 i (List.mem_append_left _ hi)

theorem put_get (a : Act) (dst : Option Nat) (v : Value) (s : Nat) : (a.put dst v).tmps.getD s undef = if dst = some s ∧ s < a.tmps.size then v else a.tmps.getD s undef := by
  cases dst with
  | none => simp [Act.put]
  | some d =>
    simp only [Act.put, Option.some.injEq]
    by_cases hd : d = s
    · subst hd
      by_cases hs : d < a.tmps.size
      · simp [hs, Array.getD]
      · simp [hs, Array.getD]
    · rw [if_neg (fun h => hd h.1)]
      rw [Array.getD_eq_getD_getElem?, Array.getD_eq_getD_getElem?, Array.getElem?_setIfInBounds, if_neg hd]
theorem put_size (a : Act) (dst : Option Nat) (v : Value) : (a.put dst v).tmps.size = a.tmps.size := by cases dst <;> simp [Act.put]
theorem put_defers (a : Act) (dst : Option Nat) (v : Value) : (a.put dst v).defers = a.defers := by cases dst <;> rfl

def St.getPut (st : St) (dst : Option Nat) (r : Re) (s : Nat) : AV := if dst = some s then r.v else st.f.get s
theorem put_f (st : St) (dst : Option Nat) (r : Re) (s : Nat) : (st.put dst r).f.get s = if dst = some s then r.v else st.f.get s := by
  cases dst with
  | none => simp [St.put]
  | some d =>
    simp only [St.put, Fr.get, Option.some.injEq]
    by_cases hs : s = d
    · subst hs; simp
    · rw [if_neg hs, if_neg (fun h => hs h.symm)]
theorem put_h (st : St) (dst : Option Nat) (r : Re) : (st.put dst r).h.get = updF st.h.get r.w := Hp.get_upd _ _
theorem put_nx (st : St) (dst : Option Nat) (r : Re) : (st.put dst r).nx = r.nx := rfl

theorem put_wf {st : St} {dst : Option Nat} {r : Re} (hwf : WFr st.f st.nx) (hr : ReOk st.nx r) : WFr (st.put dst r).f (st.put dst r).nx := by
  intro s
  rw [put_f, put_nx]
  split
  · exact hr.v
  · exact (hwf s).le hr.1
theorem put_wh {st : St} {dst : Option Nat} {r : Re} (hwh : WH st.h st.nx) (hr : ReOk st.nx r) : WH (st.put dst r).h (st.put dst r).nx := (hwh.le hr.1).upd hr.w

/-- What a text of operations owes: each is the program's, with the same constants. -/
def OpsOk (P : Program) (inl : Nat → Bool) (nt : Nat) (ops : Array Oper) (aos : List AOper) : Prop :=
  aos.length = ops.size ∧ ∀ (i : Nat) (o : Oper) (ao : AOper), ops[i]? = some o → aos[i]? = some ao → (∃ bf, ao.bare = compOper P inl nt ops o bf) ∧ ∀ c ∈ ao.op.ks, c.ids = []

theorem clean_of {H : HF} {h : Hp} {nx : Nat} (hH : ∀ i, H i = h.get i) (hwh : WH h nx) (m : Nat) : Clean H (bn nx m) := by
  intro id cells hc x hx i hi hb
  rw [hH] at hc
  have := (hwh.get hc).2 i (List.mem_flatMap.2 ⟨x, hx, hi⟩)
  have := (mem_bn.1 hb).1
  omega

/-- Operations in their written order. -/
theorem seq_ok (hK : KOk P inl K) {aos : List AOper} (hm : OpsOk P inl nt ops aos) {Q : Exit → Act → World → Prop} {stn : St} : ∀ (k i : Nat) (st : St) (w : World) (g : Gh) (a : Act), i + k = ops.size → evOps K (aos.drop i) st = some stn → SI nt w g st a →
    (∀ w' g' a', SI nt w' g' stn a' → Stp (bn st.nx stn.nx) w g st.h.get w' g' stn.h.get → a'.defers = a.defers → st.nx ≤ stn.nx → Q .normal a' w') → wpOps P ops Q (List.range' i k) a w
  | 0, i, st, w, g, a, hik, he, hs, hQ => by
    have : aos.drop i = [] := List.drop_eq_nil_of_le (by rw [hm.1]; omega)
    rw [this] at he
    simp only [evOps, Option.some.injEq] at he
    subst he
    simp only [List.range', wpOps]
    exact hQ w g a hs (by rw [bn_self]; exact Stp.refl _ _ _) rfl (Nat.le_refl _)
  | k + 1, i, st, w, g, a, hik, he, hs, hQ => by
    have hil : i < ops.size := by omega
    have hia : i < aos.length := by rw [hm.1]; exact hil
    rw [List.drop_eq_getElem_cons hia] at he
    simp only [evOps, bindO_eq] at he
    obtain ⟨re, hre, he⟩ := he
    obtain ⟨⟨bf, hb⟩, hks⟩ := hm.2 i ops[i] aos[i] (Array.getElem?_eq_getElem hil) (List.getElem?_eq_getElem hia)
    have hr := evStep_lt hK.wf hs.wf hs.wh hks hre
    simp only [List.range', wpOps_cons]
    refine (step_core hs.hi hK hs.wf hs.wh (Array.getElem?_eq_getElem hil) hb hks (fun s _ => hs.fr s) hre (fun _ _ => rfl) (fun j h1 _ => hs.wh.fresh h1) (clean_of (fun _ => rfl) hs.wh _) (fun v w' g' h1 h2 h3 => ?_)).1
    have hcore := (step_core (Q := Q) (next := fun _ _ => True) hs.hi hK hs.wf hs.wh (Array.getElem?_eq_getElem hil) hb hks (fun s _ => hs.fr s) hre (fun _ _ => rfl) (fun j h1 _ => hs.wh.fresh h1) (clean_of (fun _ => rfl) hs.wh _) (fun _ _ _ _ _ _ => trivial)).2
    obtain ⟨hd1, hd2⟩ := hcore
    have hs' : SI nt w' g' (st.put aos[i].dst re) (a.put ops[i].dst v) := by
      refine ⟨by rw [put_h]; exact h1, fun s => ?_, put_wf hs.wf hr, put_wh hs.wh hr, by rw [put_size]; exact hs.sz⟩
      rw [put_h, put_f, put_get, hd2]
      by_cases hds : ops[i].dst = some s
      · rw [if_pos hds]
        by_cases hsz : s < a.tmps.size
        · rw [if_pos ⟨hds, hsz⟩]; exact h3
        · rw [if_neg (fun h => hsz h.2)]
          rcases hd1 s hds with h | h
          · exact absurd (Nat.lt_of_lt_of_le h hs.sz) hsz
          · rw [h, getD_out hsz]; exact ⟨[], rfl, .nil⟩
      · rw [if_neg hds, if_neg (fun h => hds h.1)]
        exact AVR.step h2 (fun j hj hb => by have := hs.wf s j hj; have := (mem_bn.1 hb).1; omega) (hs.fr s)
    refine seq_ok hK hm k (i + 1) (st.put aos[i].dst re) w' g' (a.put ops[i].dst v) (by omega) he hs' fun w2 g2 a2 k1 k2 k3 k4 => hQ w2 g2 a2 k1 ?_ (k3.trans (put_defers _ _ _)) (Nat.le_trans hr.1 k4)
    rw [put_h, put_nx] at k2
    rw [put_nx] at k4
    refine (Stp.trans h2 k2).weaken fun j hj => ?_
    rcases List.mem_append.1 hj with hj | hj
    · have := mem_bn.1 hj; exact mem_bn.2 ⟨this.1, by omega⟩
    · have h5 := mem_bn.1 hj; have h6 := hr.1; exact mem_bn.2 ⟨by omega, h5.2⟩
end
end Go.Proofs.Ytpanbfainilmpaa.Ev
