/- What the functions of the texts' chapters compute: comparing members, counting, the same. -/
import Derived.Test.YtpanbfainilmpaaEvS2
import Derived.Test.YtpanbfainilmpaaEvSt
set_option linter.unusedVariables false
set_option linter.unusedSimpArgs false
set_option maxRecDepth 100000
namespace Go.Proofs.Ytpanbfainilmpaa.Ev.S
open Go Go.Proofs.Ytpanbfainilmpaa.Ev

/-- A loop's rounds, from one to another. -/
theorem iter {α : Type} {F : Nat → α} {m k : Nat} (h : m ≤ k) (step : ∀ i, m ≤ i → i < k → F i = F (i + 1)) : F m = F k := by
  induction k with
  | zero => obtain rfl : m = 0 := by omega
            rfl
  | succ k ih =>
    rcases Nat.lt_or_ge k m with hk | hk
    · obtain rfl : m = k + 1 := by omega
      rfl
    · rw [ih hk (fun i h1 h2 => step i h1 (by omega)), step k hk (by omega)]
theorem ltT {i n : Nat} (h : i < n) : decide ((i : Int) < (n : Int)) = true := by simp; omega
theorem ltF {i n : Nat} (h : n ≤ i) : decide ((i : Int) < (n : Int)) = false := by simp; omega
theorem getm {α : Type} (l : List α) (en : α → List D) {i : Nat} (h : i < l.length) : (l.map en)[i]? = some (en l[i]) := by simp [h]

def less (a b : Mem) : Bool := decide (a.node < b.node) || (decide (a.node = b.node) && decide (a.inc < b.inc))
theorem Less91 (a b : Mem) : (KL AA XX).call 91 [.agg a.enc, .agg b.enc] = some [(PV.one (D.sc (Value.bool (less a b))))] := by
  rw [c91]
  by_cases h1 : a.node < b.node <;> by_cases h2 : a.node = b.node <;> by_cases h3 : a.inc < b.inc <;>
    simp only [go_sem, ↓reduceIte, Nat.reduceAdd, Nat.reduceSub, Nat.reduceMul, Nat.reduceEqDiff, Nat.reduceLT, Nat.reduceShiftRight, Nat.reduceAnd, Nat.reduceBNe, Nat.reduceLeDiff, Nat.reduceBEq, Nat.testBit, Nat.zero_lt_one, Int.reduceToNat, Int.reduceNeg, Int.reduceLE, Int.reduceLT, Int.reduceEq, decide_true, decide_false, Bool.and_true, Bool.true_and, Bool.and_false, Bool.false_and, Bool.or_true, Bool.true_or, Bool.or_false, Bool.false_or, Bool.not_true, Bool.not_false, beq_self_eq_true, reduceCtorEq, Int.le_refl, Nat.add_zero, and_self, and_true, true_and, or_true, true_or, if_true, if_false, Nat.le_refl, Bool.and_self, eq_self, Bool.not_false, Bool.not_true, Mem.enc, less, h1, h2, h3, Int.lt_irrefl]
  all_goals omega
theorem Less43 (a b : Mem) : (KL AA XX).call 43 [.agg a.enc, .agg b.enc] = some [(PV.one (D.sc (Value.bool (less a b))))] := by
  rw [c43]
  by_cases h1 : a.node < b.node <;> by_cases h2 : a.node = b.node <;> by_cases h3 : a.inc < b.inc <;>
    simp only [go_sem, ↓reduceIte, Nat.reduceAdd, Nat.reduceSub, Nat.reduceMul, Nat.reduceEqDiff, Nat.reduceLT, Nat.reduceShiftRight, Nat.reduceAnd, Nat.reduceBNe, Nat.reduceLeDiff, Nat.reduceBEq, Nat.testBit, Nat.zero_lt_one, Int.reduceToNat, Int.reduceNeg, Int.reduceLE, Int.reduceLT, Int.reduceEq, decide_true, decide_false, Bool.and_true, Bool.true_and, Bool.and_false, Bool.false_and, Bool.or_true, Bool.true_or, Bool.or_false, Bool.false_or, Bool.not_true, Bool.not_false, beq_self_eq_true, reduceCtorEq, Int.le_refl, Nat.add_zero, and_self, and_true, true_and, or_true, true_or, if_true, if_false, Nat.le_refl, Bool.and_self, eq_self, Bool.not_false, Bool.not_true, Mem.enc, less, h1, h2, h3, Int.lt_irrefl]
  all_goals omega

def count : List Strm → Mem → Nat
  | [], _ => 0
  | s :: r, m => if s.who.node = m.node ∧ s.who.inc = m.inc then s.texts.length else count r m

theorem count34_loop (l : List Strm) (m : Mem) (hl : l.length < 2305843009213693952) : ∀ (n i : Nat), l.length - i = n → i ≤ l.length →
    callR [.t 4 1] (thenR AA XX (.seq (.reg false [⟨some 4, .asg (.k (.d (.sc (.int .i64 0)))), none, 0⟩]) .ret) (blockR 0 (loopR AA XX [0, 3, 7, 8] 1 b34_0 (RUN AA XX b34_0
      ⟨[(0, (AV.c (C.d (D.sl (l.map Strm.enc))))), (3, .ptr 0 0), (7, (AV.c (C.d (D.sc (Value.int IntKind.i64 (l.length)))))), (8, (AV.c (C.d (D.sc (Value.int IntKind.i64 (i))))))], [(0, .arr [(C.d (D.sc (Value.int IntKind.i64 (m.node)))), (C.d (D.sc (Value.int IntKind.i64 (m.inc))))])], 1⟩)))) = some [(PV.one (D.sc (Value.int IntKind.i64 (count (l.drop i) m))))] := by
  intro n
  induction n with
  | zero =>
    intro i hn hi
    obtain rfl : i = l.length := by omega
    rw [b34_0_run]
    simp only [go_sem, ↓reduceIte, Nat.reduceAdd, Nat.reduceSub, Nat.reduceMul, Nat.reduceEqDiff, Nat.reduceLT, Nat.reduceShiftRight, Nat.reduceAnd, Nat.reduceBNe, Nat.reduceLeDiff, Nat.reduceBEq, Nat.testBit, Nat.zero_lt_one, Int.reduceToNat, Int.reduceNeg, Int.reduceLE, Int.reduceLT, Int.reduceEq, decide_true, decide_false, Bool.and_true, Bool.true_and, Bool.and_false, Bool.false_and, Bool.or_true, Bool.true_or, Bool.or_false, Bool.false_or, Bool.not_true, Bool.not_false, beq_self_eq_true, reduceCtorEq, Int.le_refl, Nat.add_zero, and_self, and_true, true_and, or_true, true_or, if_true, if_false, Nat.le_refl, Bool.and_self, eq_self, Bool.not_false, Bool.not_true, Int.lt_irrefl, List.drop_length, count]
    rfl
  | succ n ih =>
    intro i hn hi
    have hlt : i < l.length := by omega
    have hd := ltT hlt
    have hg := getm l Strm.enc hlt
    have hdr : l.drop i = l[i] :: l.drop (i + 1) := List.drop_eq_getElem_cons hlt
    have hw := wrap_succ i (by omega)
    have ih1 := ih (i + 1) (by omega) (by omega)
    rw [hdr, count, b34_0_run]
    by_cases h1 : l[i].who.node = m.node <;> by_cases h2 : l[i].who.inc = m.inc <;>
      simp only [go_sem, ↓reduceIte, Nat.reduceAdd, Nat.reduceSub, Nat.reduceMul, Nat.reduceEqDiff, Nat.reduceLT, Nat.reduceShiftRight, Nat.reduceAnd, Nat.reduceBNe, Nat.reduceLeDiff, Nat.reduceBEq, Nat.testBit, Nat.zero_lt_one, Int.reduceToNat, Int.reduceNeg, Int.reduceLE, Int.reduceLT, Int.reduceEq, decide_true, decide_false, Bool.and_true, Bool.true_and, Bool.and_false, Bool.false_and, Bool.or_true, Bool.true_or, Bool.or_false, Bool.false_or, Bool.not_true, Bool.not_false, beq_self_eq_true, reduceCtorEq, Int.le_refl, Nat.add_zero, and_self, and_true, true_and, or_true, true_or, if_true, if_false, Nat.le_refl, Bool.and_self, eq_self, Bool.not_false, Bool.not_true, hd, hg, Strm.enc, h1, h2, hw, ih1]
theorem Count34 (l : List Strm) (m : Mem) (hl : l.length < 2305843009213693952) : (KL AA XX).call 34 [(PV.one (D.sl (l.map Strm.enc))), .agg m.enc] = some [(PV.one (D.sc (Value.int IntKind.i64 (count l m))))] := by
  rw [c34]
  simp only [go_sem, ↓reduceIte, Nat.reduceAdd, Nat.reduceSub, Nat.reduceMul, Nat.reduceEqDiff, Nat.reduceLT, Nat.reduceShiftRight, Nat.reduceAnd, Nat.reduceBNe, Nat.reduceLeDiff, Nat.reduceBEq, Nat.testBit, Nat.zero_lt_one, Int.reduceToNat, Int.reduceNeg, Int.reduceLE, Int.reduceLT, Int.reduceEq, decide_true, decide_false, Bool.and_true, Bool.true_and, Bool.and_false, Bool.false_and, Bool.or_true, Bool.true_or, Bool.or_false, Bool.false_or, Bool.not_true, Bool.not_false, beq_self_eq_true, reduceCtorEq, Int.le_refl, Nat.add_zero, and_self, and_true, true_and, or_true, true_or, if_true, if_false, Nat.le_refl, Bool.and_self, eq_self, Bool.not_false, Bool.not_true, Mem.enc]
  exact count34_loop l m hl _ 0 rfl (Nat.zero_le _)

theorem count35_loop (l : List Strm) (m : Mem) (hl : l.length < 2305843009213693952) : ∀ (n i : Nat), l.length - i = n → i ≤ l.length →
    callR [.t 4 1] (thenR AA XX (.seq (.reg false [⟨some 4, .asg (.k (.d (.sc (.int .i64 0)))), none, 0⟩]) .ret) (blockR 0 (loopR AA XX [0, 3, 5] 1 b35_0 (RUN AA XX b35_0
      ⟨[(0, (AV.c (C.d (D.sl (l.map Strm.enc))))), (3, .ptr 0 0), (5, (AV.c (C.d (D.sc (Value.int IntKind.i64 (i))))))], [(0, .arr [(C.d (D.sc (Value.int IntKind.i64 (m.node)))), (C.d (D.sc (Value.int IntKind.i64 (m.inc))))])], 1⟩)))) = some [(PV.one (D.sc (Value.int IntKind.i64 (count (l.drop i) m))))] := by
  intro n
  induction n with
  | zero =>
    intro i hn hi
    obtain rfl : i = l.length := by omega
    rw [b35_0_run]
    simp only [go_sem, ↓reduceIte, Nat.reduceAdd, Nat.reduceSub, Nat.reduceMul, Nat.reduceEqDiff, Nat.reduceLT, Nat.reduceShiftRight, Nat.reduceAnd, Nat.reduceBNe, Nat.reduceLeDiff, Nat.reduceBEq, Nat.testBit, Nat.zero_lt_one, Int.reduceToNat, Int.reduceNeg, Int.reduceLE, Int.reduceLT, Int.reduceEq, decide_true, decide_false, Bool.and_true, Bool.true_and, Bool.and_false, Bool.false_and, Bool.or_true, Bool.true_or, Bool.or_false, Bool.false_or, Bool.not_true, Bool.not_false, beq_self_eq_true, reduceCtorEq, Int.le_refl, Nat.add_zero, and_self, and_true, true_and, or_true, true_or, if_true, if_false, Nat.le_refl, Bool.and_self, eq_self, Bool.not_false, Bool.not_true, Int.lt_irrefl, List.drop_length, count]
    rfl
  | succ n ih =>
    intro i hn hi
    have hlt : i < l.length := by omega
    have hd := ltT hlt
    have hg := getm l Strm.enc hlt
    have hdr : l.drop i = l[i] :: l.drop (i + 1) := List.drop_eq_getElem_cons hlt
    have hw := wrap_succ i (by omega)
    have ih1 := ih (i + 1) (by omega) (by omega)
    rw [hdr, count, b35_0_run]
    by_cases h1 : l[i].who.node = m.node <;> by_cases h2 : l[i].who.inc = m.inc <;>
      simp only [go_sem, ↓reduceIte, Nat.reduceAdd, Nat.reduceSub, Nat.reduceMul, Nat.reduceEqDiff, Nat.reduceLT, Nat.reduceShiftRight, Nat.reduceAnd, Nat.reduceBNe, Nat.reduceLeDiff, Nat.reduceBEq, Nat.testBit, Nat.zero_lt_one, Int.reduceToNat, Int.reduceNeg, Int.reduceLE, Int.reduceLT, Int.reduceEq, decide_true, decide_false, Bool.and_true, Bool.true_and, Bool.and_false, Bool.false_and, Bool.or_true, Bool.true_or, Bool.or_false, Bool.false_or, Bool.not_true, Bool.not_false, beq_self_eq_true, reduceCtorEq, Int.le_refl, Nat.add_zero, and_self, and_true, true_and, or_true, true_or, if_true, if_false, Nat.le_refl, Bool.and_self, eq_self, Bool.not_false, Bool.not_true, hd, hg, Strm.enc, h1, h2, hw, ih1]
theorem Count35 (l : List Strm) (m : Mem) (hl : l.length < 2305843009213693952) : (KL AA XX).call 35 [(PV.one (D.sl (l.map Strm.enc))), .agg m.enc] = some [(PV.one (D.sc (Value.int IntKind.i64 (count l m))))] := by
  rw [c35]
  simp only [go_sem, ↓reduceIte, Nat.reduceAdd, Nat.reduceSub, Nat.reduceMul, Nat.reduceEqDiff, Nat.reduceLT, Nat.reduceShiftRight, Nat.reduceAnd, Nat.reduceBNe, Nat.reduceLeDiff, Nat.reduceBEq, Nat.testBit, Nat.zero_lt_one, Int.reduceToNat, Int.reduceNeg, Int.reduceLE, Int.reduceLT, Int.reduceEq, decide_true, decide_false, Bool.and_true, Bool.true_and, Bool.and_false, Bool.false_and, Bool.or_true, Bool.true_or, Bool.or_false, Bool.false_or, Bool.not_true, Bool.not_false, beq_self_eq_true, reduceCtorEq, Int.le_refl, Nat.add_zero, and_self, and_true, true_and, or_true, true_or, if_true, if_false, Nat.le_refl, Bool.and_self, eq_self, Bool.not_false, Bool.not_true, Mem.enc]
  exact count35_loop l m hl _ 0 rfl (Nat.zero_le _)

/-! ### The same -/
theorem same33_in (l : List Strm) (i : Nat) (hi : i < l.length) (hb : l[i].texts.length < 2305843009213693952) : ∃ F', blockR 2 (loopR AA XX [0, 1, 5, 6] 0 b33_1 (RUN AA XX b33_1
      ⟨[(0, (AV.c (C.d (D.sl (l.map Strm.enc))))), (1, (AV.c (C.d (D.sl (l.map Strm.enc))))), (5, (AV.c (C.d (D.sc (Value.int IntKind.i64 (i)))))), (6, (AV.c (C.d (D.sc (Value.int IntKind.i64 (0))))))], [], 0⟩)) = some (.norm, ⟨F', [], 0⟩) ∧ F'.get 0 = (AV.c (C.d (D.sl (l.map Strm.enc)))) ∧ F'.get 1 = (AV.c (C.d (D.sl (l.map Strm.enc)))) ∧ F'.get 5 = (AV.c (C.d (D.sc (Value.int IntKind.i64 (i))))) := by
  have hg := getm l Strm.enc hi
  have := iter (F := fun (k : Nat) => loopR AA XX [0, 1, 5, 6] 0 b33_1 (RUN AA XX b33_1 ⟨[(0, (AV.c (C.d (D.sl (l.map Strm.enc))))), (1, (AV.c (C.d (D.sl (l.map Strm.enc))))), (5, (AV.c (C.d (D.sc (Value.int IntKind.i64 (i)))))), (6, (AV.c (C.d (D.sc (Value.int IntKind.i64 (k))))))], [], 0⟩)) (Nat.zero_le l[i].texts.length) fun k _ hk => by
    have hd := ltT hk
    have hg2 := getm l[i].texts tenc hk
    have hw := wrap_succ k (by omega)
    show loopR _ _ _ _ _ (RUN _ _ _ _) = _
    rw [b33_1_run]
    simp only [go_sem, ↓reduceIte, Nat.reduceAdd, Nat.reduceSub, Nat.reduceMul, Nat.reduceEqDiff, Nat.reduceLT, Nat.reduceShiftRight, Nat.reduceAnd, Nat.reduceBNe, Nat.reduceLeDiff, Nat.reduceBEq, Nat.testBit, Nat.zero_lt_one, Int.reduceToNat, Int.reduceNeg, Int.reduceLE, Int.reduceLT, Int.reduceEq, decide_true, decide_false, Bool.and_true, Bool.true_and, Bool.and_false, Bool.false_and, Bool.or_true, Bool.true_or, Bool.or_false, Bool.false_or, Bool.not_true, Bool.not_false, beq_self_eq_true, reduceCtorEq, Int.le_refl, Nat.add_zero, and_self, and_true, true_and, or_true, true_or, if_true, if_false, Nat.le_refl, Bool.and_self, eq_self, Bool.not_false, Bool.not_true, hd, hg, hg2, Strm.enc, tenc, hw]
  rw [show (((0 : Nat) : Int)) = 0 from rfl] at this
  rw [this, b33_1_run]
  simp only [go_sem, ↓reduceIte, Nat.reduceAdd, Nat.reduceSub, Nat.reduceMul, Nat.reduceEqDiff, Nat.reduceLT, Nat.reduceShiftRight, Nat.reduceAnd, Nat.reduceBNe, Nat.reduceLeDiff, Nat.reduceBEq, Nat.testBit, Nat.zero_lt_one, Int.reduceToNat, Int.reduceNeg, Int.reduceLE, Int.reduceLT, Int.reduceEq, decide_true, decide_false, Bool.and_true, Bool.true_and, Bool.and_false, Bool.false_and, Bool.or_true, Bool.true_or, Bool.or_false, Bool.false_or, Bool.not_true, Bool.not_false, beq_self_eq_true, reduceCtorEq, Int.le_refl, Nat.add_zero, and_self, and_true, true_and, or_true, true_or, if_true, if_false, Nat.le_refl, Bool.and_self, eq_self, Bool.not_false, Bool.not_true, hg, Strm.enc, Int.lt_irrefl]
  exact ⟨_, rfl, rfl, rfl, rfl⟩
theorem Same33 (l : List Strm) (hl : l.length < 2305843009213693952) (hb : ∀ s ∈ l, s.texts.length < 2305843009213693952) : (KL AA XX).call 33 [(PV.one (D.sl (l.map Strm.enc))), (PV.one (D.sl (l.map Strm.enc)))] = some [(PV.one (D.sc (Value.bool (true))))] := by
  rw [c33]
  have := iter (F := fun (i : Nat) => loopR AA XX [0, 1, 5] 0 b33_0 (RUN AA XX b33_0 ⟨[(0, (AV.c (C.d (D.sl (l.map Strm.enc))))), (1, (AV.c (C.d (D.sl (l.map Strm.enc))))), (5, (AV.c (C.d (D.sc (Value.int IntKind.i64 (i))))))], [], 0⟩)) (Nat.zero_le l.length) fun i _ hi => by
    have hd := ltT hi
    have hg := getm l Strm.enc hi
    have hw := wrap_succ i (by omega)
    obtain ⟨F', h1, h2, h3, h4⟩ := same33_in l i hi (hb _ (List.getElem_mem hi))
    show loopR _ _ _ _ _ (RUN _ _ _ _) = _
    rw [b33_0_run]
    simp only [go_sem, ↓reduceIte, Nat.reduceAdd, Nat.reduceSub, Nat.reduceMul, Nat.reduceEqDiff, Nat.reduceLT, Nat.reduceShiftRight, Nat.reduceAnd, Nat.reduceBNe, Nat.reduceLeDiff, Nat.reduceBEq, Nat.testBit, Nat.zero_lt_one, Int.reduceToNat, Int.reduceNeg, Int.reduceLE, Int.reduceLT, Int.reduceEq, decide_true, decide_false, Bool.and_true, Bool.true_and, Bool.and_false, Bool.false_and, Bool.or_true, Bool.true_or, Bool.or_false, Bool.false_or, Bool.not_true, Bool.not_false, beq_self_eq_true, reduceCtorEq, Int.le_refl, Nat.add_zero, and_self, and_true, true_and, or_true, true_or, if_true, if_false, Nat.le_refl, Bool.and_self, eq_self, Bool.not_false, Bool.not_true, hd, hg, Strm.enc, hw, h1, h2, h3, h4]
  rw [show (((0 : Nat) : Int)) = 0 from rfl] at this
  simp only [go_sem, ↓reduceIte, Nat.reduceAdd, Nat.reduceSub, Nat.reduceMul, Nat.reduceEqDiff, Nat.reduceLT, Nat.reduceShiftRight, Nat.reduceAnd, Nat.reduceBNe, Nat.reduceLeDiff, Nat.reduceBEq, Nat.testBit, Nat.zero_lt_one, Int.reduceToNat, Int.reduceNeg, Int.reduceLE, Int.reduceLT, Int.reduceEq, decide_true, decide_false, Bool.and_true, Bool.true_and, Bool.and_false, Bool.false_and, Bool.or_true, Bool.true_or, Bool.or_false, Bool.false_or, Bool.not_true, Bool.not_false, beq_self_eq_true, reduceCtorEq, Int.le_refl, Nat.add_zero, and_self, and_true, true_and, or_true, true_or, if_true, if_false, Nat.le_refl, Bool.and_self, eq_self, Bool.not_false, Bool.not_true]
  rw [this, b33_0_run]
  simp only [go_sem, ↓reduceIte, Nat.reduceAdd, Nat.reduceSub, Nat.reduceMul, Nat.reduceEqDiff, Nat.reduceLT, Nat.reduceShiftRight, Nat.reduceAnd, Nat.reduceBNe, Nat.reduceLeDiff, Nat.reduceBEq, Nat.testBit, Nat.zero_lt_one, Int.reduceToNat, Int.reduceNeg, Int.reduceLE, Int.reduceLT, Int.reduceEq, decide_true, decide_false, Bool.and_true, Bool.true_and, Bool.and_false, Bool.false_and, Bool.or_true, Bool.true_or, Bool.or_false, Bool.false_or, Bool.not_true, Bool.not_false, beq_self_eq_true, reduceCtorEq, Int.le_refl, Nat.add_zero, and_self, and_true, true_and, or_true, true_or, if_true, if_false, Nat.le_refl, Bool.and_self, eq_self, Bool.not_false, Bool.not_true, Int.lt_irrefl]
theorem SameH40 (l : List Hld) (hl : l.length < 2305843009213693952) : (KL AA XX).call 40 [(PV.one (D.sl (l.map Hld.enc))), (PV.one (D.sl (l.map Hld.enc)))] = some [(PV.one (D.sc (Value.bool (true))))] := by
  rw [c40]
  have := iter (F := fun (i : Nat) => loopR AA XX [0, 1, 5] 0 b40_0 (RUN AA XX b40_0 ⟨[(0, (AV.c (C.d (D.sl (l.map Hld.enc))))), (1, (AV.c (C.d (D.sl (l.map Hld.enc))))), (5, (AV.c (C.d (D.sc (Value.int IntKind.i64 (i))))))], [], 0⟩)) (Nat.zero_le l.length) fun i _ hi => by
    have hd := ltT hi
    have hg := getm l Hld.enc hi
    have hw := wrap_succ i (by omega)
    show loopR _ _ _ _ _ (RUN _ _ _ _) = _
    rw [b40_0_run]
    simp only [go_sem, ↓reduceIte, Nat.reduceAdd, Nat.reduceSub, Nat.reduceMul, Nat.reduceEqDiff, Nat.reduceLT, Nat.reduceShiftRight, Nat.reduceAnd, Nat.reduceBNe, Nat.reduceLeDiff, Nat.reduceBEq, Nat.testBit, Nat.zero_lt_one, Int.reduceToNat, Int.reduceNeg, Int.reduceLE, Int.reduceLT, Int.reduceEq, decide_true, decide_false, Bool.and_true, Bool.true_and, Bool.and_false, Bool.false_and, Bool.or_true, Bool.true_or, Bool.or_false, Bool.false_or, Bool.not_true, Bool.not_false, beq_self_eq_true, reduceCtorEq, Int.le_refl, Nat.add_zero, and_self, and_true, true_and, or_true, true_or, if_true, if_false, Nat.le_refl, Bool.and_self, eq_self, Bool.not_false, Bool.not_true, hd, hg, Hld.enc, hw]
  rw [show (((0 : Nat) : Int)) = 0 from rfl] at this
  simp only [go_sem, ↓reduceIte, Nat.reduceAdd, Nat.reduceSub, Nat.reduceMul, Nat.reduceEqDiff, Nat.reduceLT, Nat.reduceShiftRight, Nat.reduceAnd, Nat.reduceBNe, Nat.reduceLeDiff, Nat.reduceBEq, Nat.testBit, Nat.zero_lt_one, Int.reduceToNat, Int.reduceNeg, Int.reduceLE, Int.reduceLT, Int.reduceEq, decide_true, decide_false, Bool.and_true, Bool.true_and, Bool.and_false, Bool.false_and, Bool.or_true, Bool.true_or, Bool.or_false, Bool.false_or, Bool.not_true, Bool.not_false, beq_self_eq_true, reduceCtorEq, Int.le_refl, Nat.add_zero, and_self, and_true, true_and, or_true, true_or, if_true, if_false, Nat.le_refl, Bool.and_self, eq_self, Bool.not_false, Bool.not_true]
  rw [this, b40_0_run]
  simp only [go_sem, ↓reduceIte, Nat.reduceAdd, Nat.reduceSub, Nat.reduceMul, Nat.reduceEqDiff, Nat.reduceLT, Nat.reduceShiftRight, Nat.reduceAnd, Nat.reduceBNe, Nat.reduceLeDiff, Nat.reduceBEq, Nat.testBit, Nat.zero_lt_one, Int.reduceToNat, Int.reduceNeg, Int.reduceLE, Int.reduceLT, Int.reduceEq, decide_true, decide_false, Bool.and_true, Bool.true_and, Bool.and_false, Bool.false_and, Bool.or_true, Bool.true_or, Bool.or_false, Bool.false_or, Bool.not_true, Bool.not_false, beq_self_eq_true, reduceCtorEq, Int.le_refl, Nat.add_zero, and_self, and_true, true_and, or_true, true_or, if_true, if_false, Nat.le_refl, Bool.and_self, eq_self, Bool.not_false, Bool.not_true, Int.lt_irrefl]
end Go.Proofs.Ytpanbfainilmpaa.Ev.S
