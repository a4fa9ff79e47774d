/- Calls in the caller's memory. -/
import Derived.Test.YtpanbfainilmpaaEv13
set_option linter.unusedVariables false
set_option linter.unusedSimpArgs false
namespace Go.Proofs.Ytpanbfainilmpaa.Ev

/-- A function that works in its caller's memory. -/
def IFnOk (P : Program) (f : FuncId) (vs : List AV) (h : Hp) (nx : Nat) (q : AV × Hp × Nat) : Prop :=
  ∀ (w : World) (g : Gh) (us : List Value), HI w g h.get → WH h nx → (∀ v ∈ vs, Lt v.ids nx) → RelL (AVR w g h.get) vs us →
    Gives P f us.toArray w fun v w' => ∃ g', HI w' g' q.2.1.get ∧ Stp (bn nx q.2.2) w g h.get w' g' q.2.1.get ∧ AVR w' g' q.2.1.get q.1 v

/-- Two states of the abstract side that agree on some numbers. -/
theorem CR.agree {w : World} {g g' : Gh} {H H' : HF} {x : C} {v : Value} (hS : g'.S = g.S) (h : ∀ i ∈ x.ids, H' i = H i ∧ g'.ρ i = g.ρ i) (hx : CR w g H x v) : CR w g' H' x v := by
  cases x with
  | d x => show DR w g'.S x v; rw [hS]; exact hx
  | nil => exact hx
  | gr t es =>
    obtain ⟨h1, h2⟩ := h t (by simp [C.ids])
    refine ⟨by rw [hS]; exact hx.1, fun n sz ht => ?_⟩
    rw [h1] at ht
    rw [h2]
    exact hx.2 n sz ht
theorem AVR.agree {w : World} {g g' : Gh} {H H' : HF} {x : AV} {v : Value} (hS : g'.S = g.S) (h : ∀ i ∈ x.ids, H' i = H i ∧ g'.ρ i = g.ρ i ∧ g'.β i = g.β i) (hx : AVR w g H x v) : AVR w g' H' x v := by
  cases x with
  | c x => exact CR.agree hS (fun i hi => ⟨(h i hi).1, (h i hi).2.1⟩) hx
  | ag cs =>
    obtain ⟨vs, rfl, hr⟩ := hx
    refine ⟨vs, rfl, hr.imp fun x hm v hx => CR.agree hS (fun i hi => ?_) hx⟩
    have := h i (List.mem_flatMap.2 ⟨x, hm, hi⟩)
    exact ⟨this.1, this.2.1⟩
  | tu xs =>
    obtain ⟨vs, rfl, hr⟩ := hx
    exact ⟨vs, rfl, by rw [hS]; exact hr⟩
  | ref id off len =>
    obtain ⟨h1, _, h3⟩ := h id (by simp [AV.ids])
    intro cells hc
    rw [h1] at hc
    rw [h3]
    exact hx cells hc
  | ptr id off =>
    obtain ⟨h1, _, h3⟩ := h id (by simp [AV.ids])
    intro cells hc
    rw [h1] at hc
    rw [h3]
    exact hx cells hc
  | fptr xs =>
    obtain ⟨b, o, rfl, hr⟩ := hx
    exact ⟨b, o, rfl, by rw [hS]; exact hr⟩
  | top => trivial

/-- Less of the abstract side. -/
theorem CR.sub {w : World} {g : Gh} {H H' : HF} {x : C} {v : Value} (h : ∀ i l, H' i = some l → H i = some l) (hx : CR w g H x v) : CR w g H' x v := by
  cases x with
  | d x => exact hx
  | nil => exact hx
  | gr t es => exact ⟨hx.1, fun n sz ht => hx.2 n sz (h _ _ ht)⟩
theorem AVR.sub {w : World} {g : Gh} {H H' : HF} {x : AV} {v : Value} (h : ∀ i l, H' i = some l → H i = some l) (hx : AVR w g H x v) : AVR w g H' x v := by
  cases x with
  | c x => exact CR.sub h hx
  | ag cs =>
    obtain ⟨vs, rfl, hr⟩ := hx
    exact ⟨vs, rfl, hr.imp fun x hm v hx => CR.sub h hx⟩
  | tu xs => exact hx
  | ref id off len => exact fun cells hc => hx cells (h _ _ hc)
  | ptr id off => exact fun cells hc => hx cells (h _ _ hc)
  | fptr xs => exact hx
  | top => trivial
theorem blk_sub {g : Gh} {H H' : HF} (h : ∀ i l, H' i = some l → H i = some l) {i b : Nat} (hb : blk g H' i = some b) : blk g H i = some b ∧ ∃ l, H' i = some l := by
  unfold blk at hb ⊢
  split at hb
  · rename_i c hc; rw [h _ _ hc]; exact ⟨hb, _, hc⟩
  · rename_i n s hc; rw [h _ _ hc]; exact ⟨hb, _, hc⟩
  · cases hb
theorem HI.sub {w : World} {g : Gh} {H H' : HF} (h : ∀ i l, H' i = some l → H i = some l) (hi : HI w g H) : HI w g H' := by
  refine ⟨fun id cells hc => ?_, fun t n sz ht => hi.tok t n sz (h _ _ ht), fun i j b hij h1 h2 => hi.apart i j b hij (blk_sub h h1).1 (blk_sub h h2).1, hi.lt⟩
  obtain ⟨cur, e, h1, h2, h3, h4⟩ := hi.arr id cells (h _ _ hc)
  refine ⟨cur, e, h1, h2, fun i x hx => ?_, h4⟩
  obtain ⟨v, hv, hd⟩ := h3 i x hx
  exact ⟨v, hv, CR.sub h hd⟩

theorem updF_map (G : HF) : ∀ (l : List Nat) (H : HF) (i : Nat), updF H (l.map fun j => (j, G j)) i = if i ∈ l then G i else H i
  | [], H, i => by simp [updF]
  | n :: r, H, i => by
    simp only [List.map_cons, updF, updF_map G r, List.mem_cons]
    by_cases hr : i ∈ r
    · simp [hr]
    · by_cases hn : i = n
      · subst hn; simp [hr, fup_same]
      · simp [hr, hn, fup]

theorem Hp.get_cut (h : Hp) (ids : List Nat) (i : Nat) : (h.cut ids).get i = if i ∈ ids then h.get i else none := by
  induction h with
  | nil => simp [Hp.cut, Hp.get]
  | cons e r ih =>
    obtain ⟨m, v⟩ := e
    simp only [Hp.cut] at ih ⊢
    rw [List.filter_cons]
    by_cases hm : m ∈ ids
    · simp only [List.contains_eq_mem, hm, decide_true, if_true, Hp.get]
      by_cases hi : i = m
      · subst hi; simp [hm]
      · rw [if_neg hi, if_neg hi]; simpa [List.contains_eq_mem] using ih
    · simp only [List.contains_eq_mem, hm, decide_false, Bool.false_eq_true, if_false, Hp.get]
      by_cases hi : i = m
      · subst hi
        rw [if_neg hm]
        have := ih
        simp only [List.contains_eq_mem, hm, if_false] at this
        exact this
      · rw [if_neg hi]; simpa [List.contains_eq_mem] using ih

section
variable {P : Program} {o : Oper} {a : Act} {w : World} {g : Gh} {H : HF} {f : Fr} {h : Hp} {nx : Nat} {K : Or} {draw : Bool}

theorem args1_ok (hi : HI w g H) : ∀ {xs : List Operand} {as : List AO}, compArgs1 xs = some as → FRu w g H f a (as.flatMap AO.us) → RelL (AVR w g H) (as.map (AO.ev f)) (xs.map a.eval)
  | [], as, hc, _ => by simp only [compArgs1, Option.some.injEq] at hc; subst hc; exact .nil
  | x :: xs, as, hc, hf => by
    simp only [compArgs1, bindO_eq] at hc
    obtain ⟨y, hy, ps, hps, he⟩ := hc
    cases he
    exact .cons (compA_ok hy (hf.sub fun s hs => by simp [hs])) (args1_ok hi hps (hf.sub fun s hs => by simp only [List.flatMap_cons, List.mem_append]; exact .inr hs))

/-- A piece of the abstract side went on; the rest stands beside it. -/
theorem merge (hi : HI w g H) {hc H2 : HF} {rs : List Nat} {nx nx2 : Nat} {w' : World} {g' : Gh} (hc1 : ∀ i, hc i = if i ∈ rs then H i else none) (hrs : Lt rs nx)
    (h2 : HI w' g' H2) (st : Stp (bn nx nx2) w g hc w' g' H2) (hlt : ∀ i l, H2 i = some l → i < nx2) (hnx : nx ≤ nx2)
    (hnam : ∀ i cells, H2 i = some (.arr cells) → ∀ x ∈ cells, ∀ j ∈ C.ids x, (j ∈ rs ∨ nx ≤ j) ∧ j < nx2)
    (hfr : ∀ i, nx ≤ i → i < nx2 → H i = none) (hcl : Clean H (bn nx nx2)) {H' : HF} (hH' : ∀ i, H' i = if i ∈ rs ∨ (nx ≤ i ∧ i < nx2) then H2 i else H i) :
    ∃ g'' : Gh, HI w' g'' H' ∧ Stp (bn nx nx2) w g H w' g'' H' ∧ g''.S = g'.S ∧ ∀ i, (i ∈ rs ∨ (nx ≤ i ∧ i < nx2)) → g''.ρ i = g'.ρ i ∧ g''.β i = g'.β i := by
  have hsub : ∀ i l, hc i = some l → H i = some l := by
    intro i l hl
    rw [hc1] at hl
    split at hl
    · exact hl
    · cases hl
  have hcrs : ∀ i l, hc i = some l → i ∈ rs := by
    intro i l hl
    rw [hc1] at hl
    split at hl
    · assumption
    · cases hl
  refine ⟨⟨g'.S, fun i => if i ∈ rs ∨ (nx ≤ i ∧ i < nx2) then g'.β i else g.β i, fun i => if i ∈ rs ∨ (nx ≤ i ∧ i < nx2) then g'.ρ i else g.ρ i⟩, ?_, ?_, rfl, fun i hc => ⟨if_pos hc, if_pos hc⟩⟩
  all_goals
    have key : ∀ g'' : Gh, g'' = ⟨g'.S, fun i => if i ∈ rs ∨ (nx ≤ i ∧ i < nx2) then g'.β i else g.β i, fun i => if i ∈ rs ∨ (nx ≤ i ∧ i < nx2) then g'.ρ i else g.ρ i⟩ →
        (∀ i, (i ∈ rs ∨ (nx ≤ i ∧ i < nx2)) → H' i = H2 i ∧ g''.β i = g'.β i ∧ g''.ρ i = g'.ρ i ∧ blk g'' H' i = blk g' H2 i) ∧ (∀ i, ¬(i ∈ rs ∨ (nx ≤ i ∧ i < nx2)) → H' i = H i ∧ g''.β i = g.β i ∧ g''.ρ i = g.ρ i ∧ blk g'' H' i = blk g H i) := by
      intro g'' hg
      subst hg
      refine ⟨fun i hc => ?_, fun i hc => ?_⟩
      · have h1 := hH' i
        rw [if_pos hc] at h1
        refine ⟨h1, if_pos hc, if_pos hc, ?_⟩
        simp only [blk, h1, if_pos hc]
      · have h1 := hH' i
        rw [if_neg hc] at h1
        refine ⟨h1, if_neg hc, if_neg hc, ?_⟩
        simp only [blk, h1, if_neg hc]
    generalize hgg : (⟨g'.S, fun i => if i ∈ rs ∨ (nx ≤ i ∧ i < nx2) then g'.β i else g.β i, fun i => if i ∈ rs ∨ (nx ≤ i ∧ i < nx2) then g'.ρ i else g.ρ i⟩ : Gh) = g''
    obtain ⟨kin, kout⟩ := key g'' hgg.symm
    have hS : g''.S = g'.S := by rw [← hgg]
  · -- memory stands
    -- what lies outside: its block did not change, and no cell of it is settled
    have outblk : ∀ i b, ¬(i ∈ rs ∨ (nx ≤ i ∧ i < nx2)) → blk g H i = some b → w'.heap[b]? = w.heap[b]? ∧ (∀ o, g'.S b o → g.S b o) := by
      intro i b hout hb
      have hlt := hi.blk_lt hb
      have hno : ∀ j, blk g hc j ≠ some b := by
        intro j hj
        obtain ⟨h1, l, h2⟩ := blk_sub hsub hj
        have : j ≠ i := fun he => hout (.inl (he ▸ hcrs _ _ h2))
        exact hi.apart j i b this h1 hb
      refine ⟨st.fp b hlt hno, fun o hs => ?_⟩
      rcases st.Snew b o hs with h | ⟨j, hj⟩ | h
      · exact h
      · exact absurd hj (hno j)
      · omega
    refine ⟨fun id cells hcc => ?_, fun t n sz ht => ?_, fun i j b hij hi1 hj1 => ?_, fun b o hs => h2.lt b o (by rw [hS] at hs; exact hs)⟩
    · by_cases hin : id ∈ rs ∨ (nx ≤ id ∧ id < nx2)
      · obtain ⟨q1, q2, q3, q4⟩ := kin id hin
        rw [q1] at hcc
        obtain ⟨cur, e, k1, k2, k3, k4⟩ := h2.arr id cells hcc
        rw [q2]
        refine ⟨cur, e, k1, k2, fun i x hx => ?_, by rw [hS]; exact k4⟩
        obtain ⟨v, hv, hd⟩ := k3 i x hx
        refine ⟨v, hv, CR.agree hS (fun j hj => ?_) hd⟩
        have := hnam id cells hcc x (List.mem_of_getElem? hx) j hj
        have hc : j ∈ rs ∨ (nx ≤ j ∧ j < nx2) := this.1.elim .inl fun h => .inr ⟨h, this.2⟩
        exact ⟨(kin j hc).1, (kin j hc).2.2.1⟩
      · obtain ⟨q1, q2, q3, q4⟩ := kout id hin
        rw [q1] at hcc
        obtain ⟨cur, e, k1, k2, k3, k4⟩ := hi.arr id cells hcc
        obtain ⟨m1, m2⟩ := outblk id (g.β id) hin (by simp [blk, hcc])
        rw [q2]
        refine ⟨cur, e, m1.trans k1, k2, fun i x hx => ?_, fun o hs => k4 o (m2 o (by rw [hS] at hs; exact hs))⟩
        obtain ⟨v, hv, hd⟩ := k3 i x hx
        refine ⟨v, hv, ?_⟩
        cases x with
        | d x => show DR w' g''.S x v; rw [hS]; exact DR.move st.dr hd
        | nil => exact hd
        | gr t es =>
          refine ⟨by rw [hS]; exact DR.move st.dr hd.1, fun n sz ht => ?_⟩
          by_cases htin : t ∈ rs ∨ (nx ≤ t ∧ t < nx2)
          · obtain ⟨r1, r2, r3, r4⟩ := kin t htin
            rw [r1] at ht
            have htb : t ∉ bn nx nx2 := fun hb => hcl id cells hcc _ (List.mem_of_getElem? hx) t (by simp [C.ids]) hb
            obtain ⟨n1, s1, p1, p2, p3⟩ := st.tok t n sz htb ht
            obtain ⟨p4, p5⟩ := hd.2 n1 s1 (hsub _ _ p1)
            refine ⟨Nat.le_trans p4 p2, fun he => ?_⟩
            have e : n1 = n := by omega
            rw [r3, (p3 e).1, (p3 e).2]
            exact p5 (by omega)
          · obtain ⟨r1, r2, r3, r4⟩ := kout t htin
            rw [r1] at ht
            rw [r3]
            exact hd.2 n sz ht
    · by_cases hin : t ∈ rs ∨ (nx ≤ t ∧ t < nx2)
      · obtain ⟨q1, q2, q3, q4⟩ := kin t hin
        rw [q1] at ht
        rw [q3, hS]
        exact h2.tok t n sz ht
      · obtain ⟨q1, q2, q3, q4⟩ := kout t hin
        rw [q1] at ht
        rw [q3]
        rcases hi.tok t n sz ht with h1 | ⟨b, cap, cur, e, k1, k2, k3, k4, k5, k6⟩
        · exact .inl h1
        · obtain ⟨m1, m2⟩ := outblk t b hin (by simp [blk, ht, k1, Value.ownBlock])
          exact .inr ⟨b, cap, cur, e, k1, m1.trans k2, k3, k4, k5, fun o hs => k6 o (m2 o (by rw [hS] at hs; exact hs))⟩
    · have cross : ∀ i j, (i ∈ rs ∨ (nx ≤ i ∧ i < nx2)) → ¬(j ∈ rs ∨ (nx ≤ j ∧ j < nx2)) → blk g' H2 i = some b → blk g H j = some b → False := by
        intro i j hin hout h1 h3
        have hlt := hi.blk_lt h3
        rcases st.own i b h1 with ⟨k, hk⟩ | h
        · obtain ⟨p1, l, p2⟩ := blk_sub hsub hk
          exact hi.apart k j b (fun he => hout (.inl (he ▸ hcrs _ _ p2))) p1 h3
        · omega
      by_cases h1 : i ∈ rs ∨ (nx ≤ i ∧ i < nx2) <;> by_cases h3 : j ∈ rs ∨ (nx ≤ j ∧ j < nx2)
      · rw [(kin i h1).2.2.2] at hi1; rw [(kin j h3).2.2.2] at hj1
        exact h2.apart i j b hij hi1 hj1
      · rw [(kin i h1).2.2.2] at hi1; rw [(kout j h3).2.2.2] at hj1
        exact cross i j h1 h3 hi1 hj1
      · rw [(kout i h1).2.2.2] at hi1; rw [(kin j h3).2.2.2] at hj1
        exact cross j i h3 h1 hj1 hi1
      · rw [(kout i h1).2.2.2] at hi1; rw [(kout j h3).2.2.2] at hj1
        exact hi.apart i j b hij hi1 hj1
  · refine ⟨st.os, st.tape, st.output, st.size, by rw [hS]; exact st.S, st.cell, fun id c hn hcc => ?_, fun t n s hn ht => ?_, fun b hb hn => st.fp b hb fun id hid => hn id (blk_sub hsub hid).1, fun id b hb => ?_, fun b o hs => ?_⟩
    · by_cases hin : id ∈ rs ∨ (nx ≤ id ∧ id < nx2)
      · obtain ⟨q1, q2, q3, q4⟩ := kin id hin
        rw [q1] at hcc
        obtain ⟨c1, p1, p2, p3⟩ := st.arr id c hn hcc
        exact ⟨c1, hsub _ _ p1, p2, q2.trans p3⟩
      · obtain ⟨q1, q2, q3, q4⟩ := kout id hin
        rw [q1] at hcc
        exact ⟨c, hcc, rfl, q2⟩
    · by_cases hin : t ∈ rs ∨ (nx ≤ t ∧ t < nx2)
      · obtain ⟨q1, q2, q3, q4⟩ := kin t hin
        rw [q1] at ht
        obtain ⟨n1, s1, p1, p2, p3⟩ := st.tok t n s hn ht
        exact ⟨n1, s1, hsub _ _ p1, p2, fun he => ⟨q3.trans (p3 he).1, (p3 he).2⟩⟩
      · obtain ⟨q1, q2, q3, q4⟩ := kout t hin
        rw [q1] at ht
        exact ⟨n, s, ht, Nat.le_refl _, fun _ => ⟨q3, rfl⟩⟩
    · by_cases hin : id ∈ rs ∨ (nx ≤ id ∧ id < nx2)
      · rw [(kin id hin).2.2.2] at hb
        rcases st.own id b hb with ⟨j, hj⟩ | h
        · exact .inl ⟨j, (blk_sub hsub hj).1⟩
        · exact .inr h
      · rw [(kout id hin).2.2.2] at hb
        exact .inl ⟨id, hb⟩
    · rw [hS] at hs
      rcases st.Snew b o hs with h | ⟨j, hj⟩ | h
      · exact .inl h
      · exact .inr (.inl ⟨j, (blk_sub hsub hj).1⟩)
      · exact .inr (.inr h)

theorem step_icall (hi : HI w g H) (hK : ∀ f vs h nx q, K.icall f vs h nx = some q → IFnOk P f vs h nx q) (hKw : KWF K) (hwf : WFr f nx) (hwh : WH h nx) {c : Call} {fn : FuncId} {as : List AO} (ho : o.op = .call c) (hc : c.callee = .value (.func fn))
    (has : compArgs1 c.args.toList = some as) (hks : ∀ x ∈ as.flatMap AO.ks, x.ids = []) (hf : FRu w g H f a (as.flatMap AO.us)) {re : Re} (hre : doICall K h nx fn (as.map (AO.ev f)) = some re) (hrd : ∀ id ∈ re.r, H id = h.get id)
    (hfr : ∀ i, nx ≤ i → i < re.nx → H i = none) (hcl : Clean H (bn nx re.nx)) : StepOk P o a w g H nx re := by
  intro next Q hn
  simp only [doICall, bindO_eq] at hre
  obtain ⟨q, hq, hre⟩ := hre
  split at hre
  case isFalse => cases hre
  rename_i hnames
  cases hre
  simp only at hrd hfr hcl
  have hvs : ∀ v ∈ as.map (AO.ev f), Lt v.ids nx := fun v hv => by
    obtain ⟨x, hx, rfl⟩ := List.mem_map.1 hv
    exact ev_lt hwf fun c hc => hks c (List.mem_flatMap.2 ⟨x, hx, hc⟩)
  have hrs : Lt (h.reach ((as.map (AO.ev f)).flatMap AV.ids)) nx := by
    have h1 : Lt ((as.map (AO.ev f)).flatMap AV.ids) nx := fun i hi => by
      obtain ⟨v, hv, hi⟩ := List.mem_flatMap.1 hi
      exact hvs v hv i hi
    refine h1.app fun i hi => ?_
    obtain ⟨j, hj, hi⟩ := List.mem_flatMap.1 hi
    split at hi
    · rename_i l hl; exact (hwh.get hl).2 i hi
    · cases hi
  generalize hrse : h.reach ((as.map (AO.ev f)).flatMap AV.ids) = rs at *
  have hwc : WH (h.cut rs) nx := fun e he => hwh e (List.mem_filter.1 he).1
  obtain ⟨k1, k2, k3⟩ := hKw _ _ _ _ _ hq hvs hwc
  have hc1 : ∀ i, (h.cut rs).get i = if i ∈ rs then H i else none := by
    intro i
    rw [Hp.get_cut]
    split
    · rename_i hm; exact (hrd i hm).symm
    · rfl
  have hsub : ∀ i l, (h.cut rs).get i = some l → H i = some l := by
    intro i l hl
    rw [hc1] at hl
    split at hl
    · exact hl
    · cases hl
  have hargs := args1_ok (a := a) hi has hf
  have hg := hK fn _ _ nx q hq w g (c.args.toList.map a.eval) (HI.sub hsub hi) hwc hvs (hargs.imp fun _ _ _ h => AVR.sub hsub h)
  have hargs' : (c.args.toList.map a.eval).toArray = c.args.map a.eval := by apply Array.ext'; simp
  rw [hargs'] at hg
  refine Gives.step (execCall ho hc rfl) hg fun v w' ⟨g', m1, m2, m3⟩ => ?_
  rw [List.all_eq_true] at hnames
  have hH' : ∀ i, updF H (rs.map (fun i => (i, q.2.1.get i)) ++ (q.2.1.filter fun e => nx ≤ e.1).map (fun e => (e.1, q.2.1.get e.1))) i = if i ∈ rs ∨ (nx ≤ i ∧ i < q.2.2) then q.2.1.get i else H i := by
    intro i
    have e1 : (q.2.1.filter fun e => nx ≤ e.1).map (fun e => (e.1, q.2.1.get e.1)) = ((q.2.1.filter fun e => nx ≤ e.1).map (·.1)).map fun j => (j, q.2.1.get j) := by simp
    rw [e1, ← List.map_append, updF_map]
    by_cases hm : i ∈ rs
    · simp [hm]
    · by_cases hr : nx ≤ i ∧ i < q.2.2
      · simp only [hm, hr, and_self, or_true, if_true]
        split
        · rfl
        · rename_i hnot
          rw [hfr i hr.1 hr.2]
          cases hg : q.2.1.get i with
          | none => rfl
          | some l =>
            exfalso
            apply hnot
            refine List.mem_append_right _ (List.mem_map.2 ⟨(i, l), List.mem_filter.2 ⟨Hp.get_mem hg, by simpa using hr.1⟩, rfl⟩)
      · rw [if_neg, if_neg]
        · rintro (h | h)
          · exact hm h
          · exact hr h
        · intro h
          rcases List.mem_append.1 h with h | h
          · exact hm h
          · obtain ⟨e, he, rfl⟩ := List.mem_map.1 h
            obtain ⟨he1, he2⟩ := List.mem_filter.1 he
            exact hr ⟨by simpa using he2, (k3 e he1).1⟩
  have hnm : ∀ i ∈ (q.1.ids ++ q.2.1.flatMap fun e => e.2.ids), i ∈ rs ∨ nx ≤ i := by
    intro i hi
    have := hnames i hi
    simpa [List.contains_eq_mem] using this
  obtain ⟨g'', r1, r2, r3, r4⟩ := merge hi hc1 hrs m1 m2 (fun i l hl => (k3.get hl).1) k1 (fun i cells hcc x hx j hj => by
    have hj' : j ∈ Loc.ids (.arr cells) := List.mem_flatMap.2 ⟨x, hx, hj⟩
    refine ⟨hnm j (List.mem_append_right _ (List.mem_flatMap.2 ⟨_, Hp.get_mem hcc, hj'⟩)), (k3.get hcc).2 j hj'⟩) hfr hcl hH'
  refine hn v w' g'' r1 r2 (AVR.agree r3 (fun i hi => ?_) m3)
  have hcond : i ∈ rs ∨ (nx ≤ i ∧ i < q.2.2) := (hnm i (List.mem_append_left _ hi)).elim .inl fun h => .inr ⟨h, k2 i hi⟩
  refine ⟨?_, r4 i hcond⟩
  rw [hH', if_pos hcond]
end
end Go.Proofs.Ytpanbfainilmpaa.Ev
