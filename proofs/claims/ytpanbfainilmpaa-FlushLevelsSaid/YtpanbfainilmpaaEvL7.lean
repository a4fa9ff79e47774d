/- The law StreamNext in the evaluator: it answers true. -/
import Derived.Test.YtpanbfainilmpaaEvL6
set_option linter.unusedVariables false
set_option linter.unusedSimpArgs false
set_option maxRecDepth 100000
set_option maxHeartbeats 1000000
namespace Go.Proofs.Ytpanbfainilmpaa.Ev.S
open Go Go.Proofs.Ytpanbfainilmpaa.Ev

def txtN (k : Nat) : ByteArray := Utf8.encode (IntKind.i32.wrap (IntKind.i64.wrap (97 + (k : Int))))
def itm (id : Vid) (k : Nat) : Hld := ⟨⟨1, 0⟩, id, ((k + 1 : Nat) : Int), txtN k⟩
def dd (ks : List Nat) (k : Nat) : List Nat := if k ∈ ks then ks else ks ++ [k]
def nums (o : List Int) : List Nat := o.foldl (fun ks n => dd ks (n.tmod 20).toNat) []
theorem nums_succ (o : List Int) {i : Nat} (h : i < o.length) : nums (o.take (i + 1)) = dd (nums (o.take i)) (o[i].tmod 20).toNat := by
  unfold nums
  rw [← List.take_append_getElem h, List.foldl_append]
  rfl
theorem dd_len (ks : List Nat) (k : Nat) : (dd ks k).length ≤ ks.length + 1 := by
  unfold dd; split
  · omega
  · simp
theorem nums_len (o : List Int) : (nums o).length ≤ o.length := by
  unfold nums
  have : ∀ (o : List Int) (ks : List Nat), (o.foldl (fun ks n => dd ks (n.tmod 20).toNat) ks).length ≤ ks.length + o.length := by
    intro o
    induction o with
    | nil => intro ks; simp
    | cons n o ih =>
      intro ks
      have h1 := ih (dd ks (n.tmod 20).toNat)
      have h2 := dd_len ks (n.tmod 20).toNat
      rw [List.foldl_cons, List.length_cons]; omega
  simpa using this o []
theorem itm_key (id : Vid) (j k : Nat) : hm (itm id j) (itm id k) = decide (j = k) := by
  have : ((itm id j).seq = (itm id k).seq) ↔ j = k := by simp only [itm]; omega
  simp only [hm, show (itm id j).who = (itm id k).who from rfl, show (itm id j).id = (itm id k).id from rfl, sM_self, Bool.true_and]
  rw [show sV (itm id k).id (itm id k).id = true from sV_iff.2 rfl, Bool.true_and]
  simp only [this]
theorem hold_itm (id : Vid) (ks : List Nat) (k : Nat) (h : ks.length < 400) : holdF (ks.map (itm id)) (itm id k) = (dd ks k).map (itm id) := by
  unfold holdF dd
  rw [if_neg (by simp; omega)]
  by_cases hk : k ∈ ks
  · rw [if_pos hk]
    have : ((ks.map (itm id)).findIdx? fun y => hm y (itm id k)) ≠ none := by
      intro hn
      rw [List.findIdx?_eq_none_iff] at hn
      have := hn (itm id k) (List.mem_map.2 ⟨k, hk, rfl⟩)
      rw [itm_key] at this
      simp at this
    rw [if_pos (by rw [Option.isSome_iff_ne_none]; exact this)]
  · rw [if_neg hk]
    have : ((ks.map (itm id)).findIdx? fun y => hm y (itm id k)) = none := by
      rw [List.findIdx?_eq_none_iff]
      intro y hy
      obtain ⟨j, hj, rfl⟩ := List.mem_map.1 hy
      rw [itm_key]
      simp only [decide_eq_false_iff_not]
      rintro rfl
      exact hk hj
    rw [this]
    simp
theorem itm_nm (id : Vid) (j k : Nat) : nm 1 id ((k + 1 : Nat) : Int) (itm id j) = decide (j = k) := by
  have : ((itm id j).seq = ((k + 1 : Nat) : Int)) ↔ j = k := by simp only [itm]; omega
  simp only [nm, show (itm id j).who.node = 1 from rfl, decide_true, Bool.true_and, show sV (itm id j).id id = true from sV_iff.2 rfl]
  simp only [this]
theorem next_itm (id : Vid) (ks : List Nat) (k : Nat) (hnd : ks.Nodup) : nextF (ks.map (itm id)) 1 id ((k + 1 : Nat) : Int) = if k ∈ ks then (txtN k, (ks.filter (fun j => !decide (j = k))).map (itm id), true) else (⟨#[]⟩, ks.map (itm id), false) := by
  have e : ∀ (ks : List Nat), ((ks.map (itm id)).findIdx? (nm 1 id ((k + 1 : Nat) : Int))) = ks.findIdx? fun j => decide (j = k) := by
    intro ks
    rw [List.findIdx?_map]
    congr 1
    funext j
    exact itm_nm id j k
  unfold nextF
  rw [e]
  by_cases hk : k ∈ ks
  · rw [if_pos hk]
    cases hf : ks.findIdx? (fun j => decide (j = k)) with
    | none =>
      rw [List.findIdx?_eq_none_iff] at hf
      have := hf k hk
      simp at this
    | some i =>
      obtain ⟨hi, h1, h2⟩ := find_some hf
      have hik : ks[i] = k := by simpa using h1
      have hx : (ks.map (itm id))[i]? = some (itm id k) := by simp [hi, hik]
      simp only [hx]
      have : ks.filter (fun j => !decide (j = k)) = ks.take i ++ ks.drop (i + 1) := by
        conv => lhs; rw [← List.take_append_drop i ks, List.filter_append, List.drop_eq_getElem_cons hi, List.filter_cons]
        have n1 : (ks.take i).filter (fun j => !decide (j = k)) = ks.take i := by
          rw [List.filter_eq_self]
          intro j hj
          obtain ⟨m, hm, rfl⟩ := List.mem_iff_getElem.1 hj
          rw [List.length_take] at hm
          have := h2 m (by omega)
          rw [List.getElem_take]
          simpa using this
        have n2 : (ks.drop (i + 1)).filter (fun j => !decide (j = k)) = ks.drop (i + 1) := by
          rw [List.filter_eq_self]
          intro j hj
          obtain ⟨m, hm, rfl⟩ := List.mem_iff_getElem.1 hj
          rw [List.length_drop] at hm
          rw [List.getElem_drop]
          have := (List.pairwise_iff_getElem.1 hnd) i (i + 1 + m) hi (by omega) (by omega)
          simp only [Bool.not_eq_true', decide_eq_false_iff_not]
          rw [← hik]
          exact fun he => this he.symm
        rw [n1, n2, hik]
        simp
      rw [this, List.map_append, List.map_take, List.map_drop]
      rfl
  · rw [if_neg hk]
    have : ks.findIdx? (fun j => decide (j = k)) = none := by
      rw [List.findIdx?_eq_none_iff]
      intro j hj
      simp only [decide_eq_false_iff_not]
      rintro rfl
      exact hk hj
    rw [this]
theorem dd_nodup {ks : List Nat} (h : ks.Nodup) (k : Nat) : (dd ks k).Nodup := by
  unfold dd
  split
  · exact h
  · rename_i hk
    rw [List.nodup_append]
    refine ⟨h, by simp, fun a ha b hb => ?_⟩
    rcases List.mem_singleton.1 hb with rfl
    rintro rfl
    exact hk ha
theorem nums_nodup (o : List Int) : (nums o).Nodup := by
  have : ∀ (o : List Int) (ks : List Nat), ks.Nodup → (o.foldl (fun ks n => dd ks (n.tmod 20).toNat) ks).Nodup := by
    intro o
    induction o with
    | nil => intro ks h; exact h
    | cons n o ih => intro ks h; exact ih _ (dd_nodup h _)
  exact this o [] List.nodup_nil
theorem nums_lt (o : List Int) (ho : ∀ n ∈ o, 0 ≤ n) : ∀ k ∈ nums o, k < 20 := by
  have : ∀ (o : List Int) (ks : List Nat), (∀ n ∈ o, 0 ≤ n) → (∀ k ∈ ks, k < 20) → ∀ k ∈ o.foldl (fun ks n => dd ks (n.tmod 20).toNat) ks, k < 20 := by
    intro o
    induction o with
    | nil => intro ks _ h; exact h
    | cons n o ih =>
      intro ks ho h
      refine ih _ (fun m hm => ho m (by simp [hm])) fun k hk => ?_
      have hk : k ∈ dd ks (n.tmod 20).toNat := hk
      unfold dd at hk
      split at hk
      · exact h k hk
      · rcases List.mem_append.1 hk with hk | hk
        · exact h k hk
        · rcases List.mem_singleton.1 hk with rfl
          have := ho n (by simp)
          rw [Int.tmod_eq_emod_of_nonneg this]
          omega
  exact this o [] ho (by simp)
/-- The marks of the numbers that came. -/
def marks (ks : List Nat) : List C := (List.range 20).map fun k => C.d (.sc (.bool (decide (k ∈ ks))))
theorem marks_get (ks : List Nat) {k : Nat} (h : k < 20) : (marks ks)[k]? = some (C.d (.sc (.bool (decide (k ∈ ks))))) := by
  simp [marks, h]
theorem marks_len (ks : List Nat) : (marks ks).length = 20 := by simp [marks]
theorem marks_set (ks : List Nat) {k : Nat} (h : k < 20) : (marks ks).set k (C.d (.sc (.bool true))) = marks (dd ks k) := by
  apply List.ext_getElem
  · simp [marks]
  · intro i h1 h2
    rw [List.length_set, marks_len] at h1
    have hd : (i ∈ dd ks k) ↔ (i ∈ ks ∨ i = k) := by
      unfold dd
      split
      · rename_i hk
        constructor
        · exact .inl
        · rintro (h | rfl)
          · exact h
          · exact hk
      · simp
    rw [List.getElem_set]
    simp only [marks, List.getElem_map, List.getElem_range, hd]
    by_cases hki : k = i
    · subst hki; simp
    · have : i ≠ k := fun h => hki h.symm
      simp [hki, this]
theorem marks_old (ks : List Nat) (n : Nat) : (marks ks).map (C.old n) = marks ks := by
  unfold marks
  rw [List.map_map]
  rfl
def cI {α : Type} (en : α → List D) (c0 : C) (H : Nat → List α) : Nat → C
  | 0 => c0
  | i + 1 => .d (.sl ((H (i + 1)).map en))
theorem cI_toD {α : Type} (en : α → List D) (c0 : C) (H : Nat → List α) (h : c0.toD = .sl ((H 0).map en)) (i : Nat) : (cI en c0 H i).toD = .sl ((H i).map en) := by
  cases i with
  | zero => exact h
  | succ i => rfl
theorem cI_old {α : Type} (en : α → List D) (c0 : C) (n : Nat) (H : Nat → List α) (h : AV.old n (.c c0) = .c c0) (i : Nat) : AV.old n (.c (cI en c0 H i)) = .c (cI en c0 H i) := by
  cases i with
  | zero => exact h
  | succ i => rfl
theorem cI_succ {α : Type} (en : α → List D) (c0 : C) (H : Nat → List α) (i : Nat) : cI en c0 H (i + 1) = .d (.sl ((H (i + 1)).map en)) := rfl
theorem marks0 : [[C.d (D.sc (Value.bool false))], [C.d (D.sc (Value.bool false))], [C.d (D.sc (Value.bool false))], [C.d (D.sc (Value.bool false))], [C.d (D.sc (Value.bool false))], [C.d (D.sc (Value.bool false))], [C.d (D.sc (Value.bool false))], [C.d (D.sc (Value.bool false))], [C.d (D.sc (Value.bool false))], [C.d (D.sc (Value.bool false))], [C.d (D.sc (Value.bool false))], [C.d (D.sc (Value.bool false))], [C.d (D.sc (Value.bool false))], [C.d (D.sc (Value.bool false))], [C.d (D.sc (Value.bool false))], [C.d (D.sc (Value.bool false))], [C.d (D.sc (Value.bool false))], [C.d (D.sc (Value.bool false))], [C.d (D.sc (Value.bool false))], [C.d (D.sc (Value.bool false))]].flatten = marks [] := rfl
theorem z20 : decide (((20 : Nat) : Int) < 20) = false := by decide
theorem mb20 : ((20 : Int) * ((1 : Nat) : Int) ≤ ((maxBytes : Nat) : Int)) = True := eq_true (by decide)

abbrev nH (o : List Int) (id : Vid) (i : Nat) : List Hld := (nums (o.take i)).map (itm id)
abbrev s7 (o : List Int) (id : Vid) (i : Nat) : St := ⟨[(0, (AV.c (C.d (D.sl (o.map fun n => [.sc (.int .u8 n)]))))), (3, .ptr 0 0), (5, .c (cH Hld.enc 1 (nH o id) i)), (6, .ref 2 0 20), (7, (AV.c (C.d (D.sc (Value.int IntKind.i64 (i))))))], [(0, .arr [(C.d (D.sc (Value.int IntKind.i64 (id.c)))), (C.d (D.sc (Value.int IntKind.i64 (id.n)))), (C.d (D.sc (Value.int IntKind.i64 (id.i))))]), (1, .tok 0 0), (2, .arr (marks (nums (o.take i))))], 3⟩
theorem law7_step (o : List Int) (id : Vid) (hl : o.length ≤ 60) (ho : ∀ n ∈ o, 0 ≤ n) (i : Nat) (hi : i < o.length) :
    loopR AA XX [0, 3, 5, 6, 7] 3 b7_0 (RUN AA XX b7_0 (s7 o id i)) = loopR AA XX [0, 3, 5, 6, 7] 3 b7_0 (RUN AA XX b7_0 (s7 o id (i + 1))) := by
  have hlt := ltT hi
  have hg := getm o (fun n => [D.sc (.int .u8 n)]) hi
  have hw := wrap_succ i (by omega)
  have t5 := cH_toD Hld.enc 1 (nH o id) rfl i
  have o5 := cH_old Hld.enc 1 3 (nH o id) (by omega) i
  have hb := nums_len (o.take i)
  rw [List.length_take] at hb
  have hs := nums_succ o hi
  have hpos := ho _ (List.getElem_mem hi)
  have hm0 : o[i].tmod 20 = o[i] % 20 := Int.tmod_eq_emod_of_nonneg hpos
  obtain ⟨k, hk⟩ : ∃ k : Nat, (o[i].tmod 20).toNat = k := ⟨_, rfl⟩
  have hk20 : k < 20 := by omega
  have hkw : IntKind.i64.wrap (o[i].tmod 20) = (k : Int) := by rw [wrap_i64 _ (by omega) (by omega)]; omega
  rw [hk] at hs
  have a1 := Hold36 (nH o id i) (itm id k) (by simp only [List.length_map]; omega)
  rw [hold_itm id _ k (by omega), ← hs] at a1
  have hw2 := wrap_succ k (by omega)
  have m1 := marks_set (nums (o.take i)) hk20
  rw [← hs] at m1
  have q1 : ((k : Int) < ((20 : Nat) : Int)) = True := eq_true (by omega)
  have q2 : (k < 20) = True := eq_true hk20
  simp only [Hld.enc, itm, txtN] at a1
  rw [b7_0_run]
  simp only [s7, nH, go_sem, ↓reduceIte, Nat.reduceAdd, Nat.reduceSub, Nat.reduceMul, Nat.reduceEqDiff, Nat.reduceLT, Nat.reduceShiftRight, Nat.reduceAnd, Nat.reduceBNe, Nat.reduceLeDiff, Nat.reduceBEq, Nat.testBit, Nat.zero_lt_one, Int.reduceToNat, Int.reduceNeg, Int.reduceLE, Int.reduceLT, Int.reduceEq, decide_true, decide_false, Bool.and_true, Bool.true_and, Bool.and_false, Bool.false_and, Bool.or_true, Bool.true_or, Bool.or_false, Bool.false_or, Bool.not_true, Bool.not_false, beq_self_eq_true, reduceCtorEq, Int.le_refl, Nat.add_zero, and_self, and_true, true_and, or_true, true_or, if_true, if_false, Nat.le_refl, Bool.and_self, eq_self, Bool.not_false, Bool.not_true, hlt, hg, hw, hkw, hw2, t5, o5, cH_succ, q1, q2, a1, m1, marks_len, marks_old, Nat.mul_one, Vid.enc, txtN]
abbrev kH (ks : List Nat) (id : Vid) (k : Nat) : List Hld := (ks.filter fun j => decide (k ≤ j)).map (itm id)
abbrev t7 (ks : List Nat) (id : Vid) (c0 : C) (k : Nat) : St := ⟨[(3, .ptr 0 0), (5, .c (cI Hld.enc c0 (kH ks id) k)), (6, .ref 2 0 20), (9, (AV.c (C.d (D.sc (Value.int IntKind.i64 (k))))))], [(0, .arr [(C.d (D.sc (Value.int IntKind.i64 (id.c)))), (C.d (D.sc (Value.int IntKind.i64 (id.n)))), (C.d (D.sc (Value.int IntKind.i64 (id.i))))]), (1, .tok 0 0), (2, .arr (marks ks))], 3⟩
theorem law7_take (ks : List Nat) (id : Vid) (c0 : C) (hc : c0.toD = .sl ((ks.map (itm id)).map Hld.enc)) (ho : AV.old 3 (.c c0) = .c c0) (hnd : ks.Nodup) (hl : ks.length ≤ 60) (k : Nat) (hk : k < 20) :
    loopR AA XX [3, 5, 6, 9] 3 b7_1 (RUN AA XX b7_1 (t7 ks id c0 k)) = loopR AA XX [3, 5, 6, 9] 3 b7_1 (RUN AA XX b7_1 (t7 ks id c0 (k + 1))) := by
  have hw := wrap_succ k (by omega)
  have h0 : ks.filter (fun j => decide (0 ≤ j)) = ks := by simp
  have t5 := cI_toD Hld.enc c0 (kH ks id) (by rw [hc]; simp only [kH, h0]) k
  have o5 := cI_old Hld.enc c0 3 (kH ks id) ho k
  have q1 : decide ((k : Int) < 20) = true := by simp; omega
  have q2 : ((k : Int) < ((20 : Nat) : Int)) = True := eq_true (by omega)
  have hm := marks_get ks hk
  have hfl : (ks.filter fun j => decide (k ≤ j)).length ≤ ks.length := List.length_filter_le _ _
  have a1 := Next38 (kH ks id k) 1 id ((k + 1 : Nat) : Int) (by simp only [kH, List.length_map]; omega)
  rw [next_itm id _ k (hnd.filter _)] at a1
  have hmem : (k ∈ ks.filter fun j => decide (k ≤ j)) ↔ k ∈ ks := by simp
  have hf2 : (ks.filter fun j => decide (k ≤ j)).filter (fun j => !decide (j = k)) = ks.filter fun j => decide (k + 1 ≤ j) := by
    rw [List.filter_filter]
    apply List.filter_congr
    intro j _
    rw [Bool.eq_iff_iff]
    simp only [Bool.and_eq_true, Bool.not_eq_true', decide_eq_false_iff_not, decide_eq_true_eq]
    omega
  simp only [Vid.enc] at a1
  rw [b7_1_run]
  by_cases hks : k ∈ ks
  · rw [if_pos (hmem.2 hks), hf2] at a1
    simp only [hks, decide_true] at hm
    simp only [t7, go_sem, ↓reduceIte, Nat.reduceAdd, Nat.reduceSub, Nat.reduceMul, Nat.reduceEqDiff, Nat.reduceLT, Nat.reduceShiftRight, Nat.reduceAnd, Nat.reduceBNe, Nat.reduceLeDiff, Nat.reduceBEq, Nat.testBit, Nat.zero_lt_one, Int.reduceToNat, Int.reduceNeg, Int.reduceLE, Int.reduceLT, Int.reduceEq, decide_true, decide_false, Bool.and_true, Bool.true_and, Bool.and_false, Bool.false_and, Bool.or_true, Bool.true_or, Bool.or_false, Bool.false_or, Bool.not_true, Bool.not_false, beq_self_eq_true, reduceCtorEq, Int.le_refl, Nat.add_zero, and_self, and_true, true_and, or_true, true_or, if_true, if_false, Nat.le_refl, Bool.and_self, eq_self, Bool.not_false, Bool.not_true, hw, t5, o5, cI_succ, q1, q2, hm, a1, Nat.mul_one, txtN, marks_old]
  · rw [if_neg (fun h => hks (hmem.1 h))] at a1
    have hf3 : ks.filter (fun j => decide (k ≤ j)) = ks.filter fun j => decide (k + 1 ≤ j) := by
      apply List.filter_congr
      intro j hj
      rw [Bool.eq_iff_iff]
      simp only [decide_eq_true_eq]
      have : j ≠ k := fun h => hks (h ▸ hj)
      omega
    simp only [hks, decide_false] at hm
    rw [hf3] at a1
    simp only [kH, hf3] at t5 a1
    simp only [t7, kH, go_sem, ↓reduceIte, Nat.reduceAdd, Nat.reduceSub, Nat.reduceMul, Nat.reduceEqDiff, Nat.reduceLT, Nat.reduceShiftRight, Nat.reduceAnd, Nat.reduceBNe, Nat.reduceLeDiff, Nat.reduceBEq, Nat.testBit, Nat.zero_lt_one, Int.reduceToNat, Int.reduceNeg, Int.reduceLE, Int.reduceLT, Int.reduceEq, decide_true, decide_false, Bool.and_true, Bool.true_and, Bool.and_false, Bool.false_and, Bool.or_true, Bool.true_or, Bool.or_false, Bool.false_or, Bool.not_true, Bool.not_false, beq_self_eq_true, reduceCtorEq, Int.le_refl, Nat.add_zero, and_self, and_true, true_and, or_true, true_or, if_true, if_false, Nat.le_refl, Bool.and_self, eq_self, Bool.not_false, Bool.not_true, hw, t5, o5, cI_succ, q1, q2, hm, a1, Nat.mul_one, marks_old]
theorem law7 (o : List Int) (id : Vid) (ho : o.length ≤ 140737488351232 ∧ ∀ n ∈ o, (Lit.int .u8 n).wf = true) (_ : True) : (KL AA XX).call 7 [(PV.one (D.sl (o.map fun n => [.sc (.int .u8 n)]))), .agg id.enc] = some [(PV.one (D.sc (Value.bool (true))))] := by
  obtain ⟨hlen, hwf⟩ := ho
  have hpos : ∀ n ∈ o, 0 ≤ n := by
    intro n hn
    have := hwf n hn
    simp only [Lit.wf, Bool.and_eq_true, decide_eq_true_eq] at this
    exact this.1
  rw [c7]
  by_cases h1 : 60 < o.length
  · have d1 : decide ((60 : Int) < (o.length : Int)) = true := by simp; omega
    simp only [go_sem, ↓reduceIte, Nat.reduceAdd, Nat.reduceSub, Nat.reduceMul, Nat.reduceEqDiff, Nat.reduceLT, Nat.reduceShiftRight, Nat.reduceAnd, Nat.reduceBNe, Nat.reduceLeDiff, Nat.reduceBEq, Nat.testBit, Nat.zero_lt_one, Int.reduceToNat, Int.reduceNeg, Int.reduceLE, Int.reduceLT, Int.reduceEq, decide_true, decide_false, Bool.and_true, Bool.true_and, Bool.and_false, Bool.false_and, Bool.or_true, Bool.true_or, Bool.or_false, Bool.false_or, Bool.not_true, Bool.not_false, beq_self_eq_true, reduceCtorEq, Int.le_refl, Nat.add_zero, and_self, and_true, true_and, or_true, true_or, if_true, if_false, Nat.le_refl, Bool.and_self, eq_self, Bool.not_false, Bool.not_true, d1, awake30, Vid.enc]
  have d1 : decide ((60 : Int) < (o.length : Int)) = false := by simp; omega
  have go := iter (F := fun (i : Nat) => loopR AA XX [0, 3, 5, 6, 7] 3 b7_0 (RUN AA XX b7_0 (s7 o id i))) (Nat.zero_le o.length) fun i _ hi => law7_step o id (by omega) hpos i hi
  have s0 : s7 o id 0 = ⟨[(0, (AV.c (C.d (D.sl (o.map fun n => [.sc (.int .u8 n)]))))), (3, .ptr 0 0), (5, .c (.gr 1 [])), (6, .ref 2 0 20), (7, (AV.c (C.d (D.sc (Value.int IntKind.i64 (0))))))], [(0, .arr [(C.d (D.sc (Value.int IntKind.i64 (id.c)))), (C.d (D.sc (Value.int IntKind.i64 (id.n)))), (C.d (D.sc (Value.int IntKind.i64 (id.i))))]), (1, .tok 0 0), (2, .arr (marks []))], 3⟩ := rfl
  have t5 := cH_toD Hld.enc 1 (nH o id) rfl o.length
  have o5 := cH_old Hld.enc 1 3 (nH o id) (by omega) o.length
  have hks : nH o id o.length = (nums o).map (itm id) := by simp [nH]
  rw [hks] at t5
  have hb := nums_len o
  have hnd := nums_nodup o
  have hlt20 := nums_lt o hpos
  have go2 := iter (F := fun (k : Nat) => loopR AA XX [3, 5, 6, 9] 3 b7_1 (RUN AA XX b7_1 (t7 (nums o) id (cH Hld.enc 1 (nH o id) o.length) k))) (Nat.zero_le 20) fun k _ hk => law7_take (nums o) id _ t5 o5 hnd (by omega) k hk
  have t0 : t7 (nums o) id (cH Hld.enc 1 (nH o id) o.length) 0 = ⟨[(3, .ptr 0 0), (5, .c (cH Hld.enc 1 (nH o id) o.length)), (6, .ref 2 0 20), (9, (AV.c (C.d (D.sc (Value.int IntKind.i64 (0))))))], [(0, .arr [(C.d (D.sc (Value.int IntKind.i64 (id.c)))), (C.d (D.sc (Value.int IntKind.i64 (id.n)))), (C.d (D.sc (Value.int IntKind.i64 (id.i))))]), (1, .tok 0 0), (2, .arr (marks (nums o)))], 3⟩ := rfl
  have hend : kH (nums o) id 20 = [] := by
    have : (nums o).filter (fun j => decide (20 ≤ j)) = [] := by
      rw [List.filter_eq_nil_iff]
      intro j hj
      have := hlt20 j hj
      simp; omega
    simp only [kH, this, List.map_nil]
  have h00 : (nums o).filter (fun j => decide (0 ≤ j)) = nums o := by simp
  have t6 := cI_toD Hld.enc (cH Hld.enc 1 (nH o id) o.length) (kH (nums o) id) (by rw [t5]; simp only [kH, h00]) 20
  rw [hend] at t6
  rw [s0] at go
  rw [t0] at go2
  simp only [go_sem, ↓reduceIte, Nat.reduceAdd, Nat.reduceSub, Nat.reduceMul, Nat.reduceEqDiff, Nat.reduceLT, Nat.reduceShiftRight, Nat.reduceAnd, Nat.reduceBNe, Nat.reduceLeDiff, Nat.reduceBEq, Nat.testBit, Nat.zero_lt_one, Int.reduceToNat, Int.reduceNeg, Int.reduceLE, Int.reduceLT, Int.reduceEq, decide_true, decide_false, Bool.and_true, Bool.true_and, Bool.and_false, Bool.false_and, Bool.or_true, Bool.true_or, Bool.or_false, Bool.false_or, Bool.not_true, Bool.not_false, beq_self_eq_true, reduceCtorEq, Int.le_refl, Nat.add_zero, and_self, and_true, true_and, or_true, true_or, if_true, if_false, Nat.le_refl, Bool.and_self, eq_self, Bool.not_false, Bool.not_true, d1, Vid.enc, marks0, marks_old, mb20]
  rw [go, b7_0_run]
  simp only [s7, go_sem, ↓reduceIte, Nat.reduceAdd, Nat.reduceSub, Nat.reduceMul, Nat.reduceEqDiff, Nat.reduceLT, Nat.reduceShiftRight, Nat.reduceAnd, Nat.reduceBNe, Nat.reduceLeDiff, Nat.reduceBEq, Nat.testBit, Nat.zero_lt_one, Int.reduceToNat, Int.reduceNeg, Int.reduceLE, Int.reduceLT, Int.reduceEq, decide_true, decide_false, Bool.and_true, Bool.true_and, Bool.and_false, Bool.false_and, Bool.or_true, Bool.true_or, Bool.or_false, Bool.false_or, Bool.not_true, Bool.not_false, beq_self_eq_true, reduceCtorEq, Int.le_refl, Nat.add_zero, and_self, and_true, true_and, or_true, true_or, if_true, if_false, Nat.le_refl, Bool.and_self, eq_self, Bool.not_false, Bool.not_true, Int.lt_irrefl, o5, marks_old, List.take_length]
  rw [go2, b7_1_run]
  have hl6 : lenOf [(0, Loc.arr [(C.d (D.sc (Value.int IntKind.i64 (id.c)))), (C.d (D.sc (Value.int IntKind.i64 (id.n)))), (C.d (D.sc (Value.int IntKind.i64 (id.i))))]), (1, Loc.tok 0 0), (2, Loc.arr (marks (nums o)))] (.c (cI Hld.enc (cH Hld.enc 1 (nH o id) o.length) (kH (nums o) id) 20)) = some (0, []) := by
    rw [show cI Hld.enc (cH Hld.enc 1 (nH o id) o.length) (kH (nums o) id) 20 = .d (.sl ((kH (nums o) id 20).map Hld.enc)) from rfl, hend]; rfl
  simp only [t7, go_sem, ↓reduceIte, Nat.reduceAdd, Nat.reduceSub, Nat.reduceMul, Nat.reduceEqDiff, Nat.reduceLT, Nat.reduceShiftRight, Nat.reduceAnd, Nat.reduceBNe, Nat.reduceLeDiff, Nat.reduceBEq, Nat.testBit, Nat.zero_lt_one, Int.reduceToNat, Int.reduceNeg, Int.reduceLE, Int.reduceLT, Int.reduceEq, decide_true, decide_false, Bool.and_true, Bool.true_and, Bool.and_false, Bool.false_and, Bool.or_true, Bool.true_or, Bool.or_false, Bool.false_or, Bool.not_true, Bool.not_false, beq_self_eq_true, reduceCtorEq, Int.le_refl, Nat.add_zero, and_self, and_true, true_and, or_true, true_or, if_true, if_false, Nat.le_refl, Bool.and_self, eq_self, Bool.not_false, Bool.not_true, Int.lt_irrefl, awake30, hl6, z20]
  rfl
end Go.Proofs.Ytpanbfainilmpaa.Ev.S
