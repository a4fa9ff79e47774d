/- The laws of chapter 01 in the evaluator: they answer true. -/
import Derived.Test.YtpanbfainilmpaaEvNF4
import Derived.Test.YtpanbfainilmpaaEvNA
set_option linter.unusedVariables false
set_option linter.unusedSimpArgs false
set_option maxRecDepth 100000
set_option maxHeartbeats 4000000
namespace Go.Proofs.Ytpanbfainilmpaa.Ev.N
open Go Go.Proofs.Ytpanbfainilmpaa.Ev

theorem Equal65 (l : List Nat) (hl : l.length ≤ 10000000) : (KL AA XX).call 65 [(PV.one (D.sl (List.map n64 (l)))), (PV.one (D.sl (List.map n64 (l))))] = some [(PV.one (D.sc (Value.bool (true))))] := by
  have go := iter (F := fun (i : Nat) => loopR AA XX [0, 1, 5] 0 b65_0 (RUN AA XX b65_0 ⟨[(0, (AV.c (C.d (D.sl (List.map n64 (l)))))), (1, (AV.c (C.d (D.sl (List.map n64 (l)))))), (5, (AV.c (C.d (D.sc (Value.int IntKind.i64 (i))))))], [], 0⟩)) (Nat.zero_le l.length) fun i _ hi => by
    have hlt := ltT hi
    have hw := wrap_succ i (by omega)
    have hg := getn hi
    have d : decide (((l[i] : Nat) : Int) = ((l[i] : Nat) : Int)) = true := decide_eq_true rfl
    show loopR _ _ _ _ _ (RUN _ _ _ _) = _
    rw [b65_0_run]
    simp only [go_sem, ↓reduceIte, Nat.reduceAdd, Nat.reduceSub, Nat.reduceMul, Nat.reduceEqDiff, Nat.reduceLT, Nat.reduceShiftRight, Nat.reduceAnd, Nat.reduceBNe, Nat.reduceLeDiff, Nat.reduceBEq, Nat.testBit, Nat.zero_lt_one, Int.reduceToNat, Int.reduceNeg, Int.reduceLE, Int.reduceLT, Int.reduceEq, decide_true, decide_false, Bool.and_true, Bool.true_and, Bool.and_false, Bool.false_and, Bool.or_true, Bool.true_or, Bool.or_false, Bool.false_or, Bool.not_true, Bool.not_false, beq_self_eq_true, reduceCtorEq, Int.le_refl, Nat.add_zero, and_self, and_true, true_and, or_true, true_or, if_true, if_false, Nat.le_refl, Bool.and_self, eq_self, Bool.not_false, Bool.not_true, hlt, hw, hg, d]
  simp only [show ((0 : Nat) : Int) = 0 from rfl] at go
  have d : decide (((l.length : Nat) : Int) = ((l.length : Nat) : Int)) = true := decide_eq_true rfl
  rw [c65]
  simp only [go_sem, ↓reduceIte, Nat.reduceAdd, Nat.reduceSub, Nat.reduceMul, Nat.reduceEqDiff, Nat.reduceLT, Nat.reduceShiftRight, Nat.reduceAnd, Nat.reduceBNe, Nat.reduceLeDiff, Nat.reduceBEq, Nat.testBit, Nat.zero_lt_one, Int.reduceToNat, Int.reduceNeg, Int.reduceLE, Int.reduceLT, Int.reduceEq, decide_true, decide_false, Bool.and_true, Bool.true_and, Bool.and_false, Bool.false_and, Bool.or_true, Bool.true_or, Bool.or_false, Bool.false_or, Bool.not_true, Bool.not_false, beq_self_eq_true, reduceCtorEq, Int.le_refl, Nat.add_zero, and_self, and_true, true_and, or_true, true_or, if_true, if_false, Nat.le_refl, Bool.and_self, eq_self, Bool.not_false, Bool.not_true, d]
  rw [go, b65_0_run]
  simp only [go_sem, ↓reduceIte, Nat.reduceAdd, Nat.reduceSub, Nat.reduceMul, Nat.reduceEqDiff, Nat.reduceLT, Nat.reduceShiftRight, Nat.reduceAnd, Nat.reduceBNe, Nat.reduceLeDiff, Nat.reduceBEq, Nat.testBit, Nat.zero_lt_one, Int.reduceToNat, Int.reduceNeg, Int.reduceLE, Int.reduceLT, Int.reduceEq, decide_true, decide_false, Bool.and_true, Bool.true_and, Bool.and_false, Bool.false_and, Bool.or_true, Bool.true_or, Bool.or_false, Bool.false_or, Bool.not_true, Bool.not_false, beq_self_eq_true, reduceCtorEq, Int.le_refl, Nat.add_zero, and_self, and_true, true_and, or_true, true_or, if_true, if_false, Nat.le_refl, Bool.and_self, eq_self, Bool.not_false, Bool.not_true, Int.lt_irrefl]

theorem Equal85 (l : List Nat) (hl : l.length ≤ 10000000) : (KL AA XX).call 85 [(PV.one (D.sl (List.map n64 (l)))), (PV.one (D.sl (List.map n64 (l))))] = some [(PV.one (D.sc (Value.bool (true))))] := by
  have go := iter (F := fun (i : Nat) => loopR AA XX [0, 1, 5] 0 b85_0 (RUN AA XX b85_0 ⟨[(0, (AV.c (C.d (D.sl (List.map n64 (l)))))), (1, (AV.c (C.d (D.sl (List.map n64 (l)))))), (5, (AV.c (C.d (D.sc (Value.int IntKind.i64 (i))))))], [], 0⟩)) (Nat.zero_le l.length) fun i _ hi => by
    have hlt := ltT hi
    have hw := wrap_succ i (by omega)
    have hg := getn hi
    have d : decide (((l[i] : Nat) : Int) = ((l[i] : Nat) : Int)) = true := decide_eq_true rfl
    show loopR _ _ _ _ _ (RUN _ _ _ _) = _
    rw [b85_0_run]
    simp only [go_sem, ↓reduceIte, Nat.reduceAdd, Nat.reduceSub, Nat.reduceMul, Nat.reduceEqDiff, Nat.reduceLT, Nat.reduceShiftRight, Nat.reduceAnd, Nat.reduceBNe, Nat.reduceLeDiff, Nat.reduceBEq, Nat.testBit, Nat.zero_lt_one, Int.reduceToNat, Int.reduceNeg, Int.reduceLE, Int.reduceLT, Int.reduceEq, decide_true, decide_false, Bool.and_true, Bool.true_and, Bool.and_false, Bool.false_and, Bool.or_true, Bool.true_or, Bool.or_false, Bool.false_or, Bool.not_true, Bool.not_false, beq_self_eq_true, reduceCtorEq, Int.le_refl, Nat.add_zero, and_self, and_true, true_and, or_true, true_or, if_true, if_false, Nat.le_refl, Bool.and_self, eq_self, Bool.not_false, Bool.not_true, hlt, hw, hg, d]
  simp only [show ((0 : Nat) : Int) = 0 from rfl] at go
  have d : decide (((l.length : Nat) : Int) = ((l.length : Nat) : Int)) = true := decide_eq_true rfl
  rw [c85]
  simp only [go_sem, ↓reduceIte, Nat.reduceAdd, Nat.reduceSub, Nat.reduceMul, Nat.reduceEqDiff, Nat.reduceLT, Nat.reduceShiftRight, Nat.reduceAnd, Nat.reduceBNe, Nat.reduceLeDiff, Nat.reduceBEq, Nat.testBit, Nat.zero_lt_one, Int.reduceToNat, Int.reduceNeg, Int.reduceLE, Int.reduceLT, Int.reduceEq, decide_true, decide_false, Bool.and_true, Bool.true_and, Bool.and_false, Bool.false_and, Bool.or_true, Bool.true_or, Bool.or_false, Bool.false_or, Bool.not_true, Bool.not_false, beq_self_eq_true, reduceCtorEq, Int.le_refl, Nat.add_zero, and_self, and_true, true_and, or_true, true_or, if_true, if_false, Nat.le_refl, Bool.and_self, eq_self, Bool.not_false, Bool.not_true, d]
  rw [go, b85_0_run]
  simp only [go_sem, ↓reduceIte, Nat.reduceAdd, Nat.reduceSub, Nat.reduceMul, Nat.reduceEqDiff, Nat.reduceLT, Nat.reduceShiftRight, Nat.reduceAnd, Nat.reduceBNe, Nat.reduceLeDiff, Nat.reduceBEq, Nat.testBit, Nat.zero_lt_one, Int.reduceToNat, Int.reduceNeg, Int.reduceLE, Int.reduceLT, Int.reduceEq, decide_true, decide_false, Bool.and_true, Bool.true_and, Bool.and_false, Bool.false_and, Bool.or_true, Bool.true_or, Bool.or_false, Bool.false_or, Bool.not_true, Bool.not_false, beq_self_eq_true, reduceCtorEq, Int.le_refl, Nat.add_zero, and_self, and_true, true_and, or_true, true_or, if_true, if_false, Nat.le_refl, Bool.and_self, eq_self, Bool.not_false, Bool.not_true, Int.lt_irrefl]

theorem Small61 (a b : List Nat) : (KL AA XX).call 61 [(PV.one (D.sl (List.map n64 (a)))), (PV.one (D.sl (List.map n64 (b))))] = some [(PV.one (D.sc (Value.bool (decide (a.length ≤ 50 ∧ b.length ≤ 50)))))] := by
  rw [c61]
  by_cases h1 : a.length ≤ 50
  · have d1 : decide ((a.length : Int) ≤ 50) = true := decide_eq_true (by omega)
    by_cases h2 : b.length ≤ 50
    · have d2 : decide ((b.length : Int) ≤ 50) = true := decide_eq_true (by omega)
      simp only [go_sem, ↓reduceIte, Nat.reduceAdd, Nat.reduceSub, Nat.reduceMul, Nat.reduceEqDiff, Nat.reduceLT, Nat.reduceShiftRight, Nat.reduceAnd, Nat.reduceBNe, Nat.reduceLeDiff, Nat.reduceBEq, Nat.testBit, Nat.zero_lt_one, Int.reduceToNat, Int.reduceNeg, Int.reduceLE, Int.reduceLT, Int.reduceEq, decide_true, decide_false, Bool.and_true, Bool.true_and, Bool.and_false, Bool.false_and, Bool.or_true, Bool.true_or, Bool.or_false, Bool.false_or, Bool.not_true, Bool.not_false, beq_self_eq_true, reduceCtorEq, Int.le_refl, Nat.add_zero, and_self, and_true, true_and, or_true, true_or, if_true, if_false, Nat.le_refl, Bool.and_self, eq_self, Bool.not_false, Bool.not_true, d1, d2, h1, h2]
    · have d2 : decide ((b.length : Int) ≤ 50) = false := decide_eq_false (by omega)
      simp only [go_sem, ↓reduceIte, Nat.reduceAdd, Nat.reduceSub, Nat.reduceMul, Nat.reduceEqDiff, Nat.reduceLT, Nat.reduceShiftRight, Nat.reduceAnd, Nat.reduceBNe, Nat.reduceLeDiff, Nat.reduceBEq, Nat.testBit, Nat.zero_lt_one, Int.reduceToNat, Int.reduceNeg, Int.reduceLE, Int.reduceLT, Int.reduceEq, decide_true, decide_false, Bool.and_true, Bool.true_and, Bool.and_false, Bool.false_and, Bool.or_true, Bool.true_or, Bool.or_false, Bool.false_or, Bool.not_true, Bool.not_false, beq_self_eq_true, reduceCtorEq, Int.le_refl, Nat.add_zero, and_self, and_true, true_and, or_true, true_or, if_true, if_false, Nat.le_refl, Bool.and_self, eq_self, Bool.not_false, Bool.not_true, d1, d2, h1, h2, and_false]
  · have d1 : decide ((a.length : Int) ≤ 50) = false := decide_eq_false (by omega)
    simp only [go_sem, ↓reduceIte, Nat.reduceAdd, Nat.reduceSub, Nat.reduceMul, Nat.reduceEqDiff, Nat.reduceLT, Nat.reduceShiftRight, Nat.reduceAnd, Nat.reduceBNe, Nat.reduceLeDiff, Nat.reduceBEq, Nat.testBit, Nat.zero_lt_one, Int.reduceToNat, Int.reduceNeg, Int.reduceLE, Int.reduceLT, Int.reduceEq, decide_true, decide_false, Bool.and_true, Bool.true_and, Bool.and_false, Bool.false_and, Bool.or_true, Bool.true_or, Bool.or_false, Bool.false_or, Bool.not_true, Bool.not_false, beq_self_eq_true, reduceCtorEq, Int.le_refl, Nat.add_zero, and_self, and_true, true_and, or_true, true_or, if_true, if_false, Nat.le_refl, Bool.and_self, eq_self, Bool.not_false, Bool.not_true, d1, h1, false_and]
theorem nbits_lim {n k : Nat} (h : n < B64 ^ k) : nbits n ≤ 64 * k := by rw [nbits_le, ← Bp_eq]; exact h
theorem dlen {n k : Nat} (h : n < B64 ^ k) : (dig n).length ≤ k := by rw [dig_len]; exact nlen_le.2 h
theorem vlt {l : List Nat} (h : Limbs l) {k : Nat} (hk : l.length ≤ k) : val l < B64 ^ k := Nat.lt_of_lt_of_le (val_lt h) (Nat.pow_le_pow_right B_pos hk)
theorem add_lt {a b k : Nat} (ha : a < B64 ^ k) (hb : b < B64 ^ k) : a + b < B64 ^ (k + 1) := by
  have : 2 * B64 ^ k ≤ B64 * B64 ^ k := Nat.mul_le_mul_right _ (by decide)
  rw [Nat.pow_succ, Nat.mul_comm]; omega

theorem nat15 {a b : List Nat} (ha : Limbs a) (hb : Limbs b) : (KL AA XX).call 15 [(PV.one (D.sl (List.map n64 (a)))), (PV.one (D.sl (List.map n64 (b))))] = some [(PV.one (D.sc (Value.bool (true))))] := by
  have s61 := Small61 a b
  rw [c15]
  by_cases h : a.length ≤ 50 ∧ b.length ≤ 50
  · obtain ⟨la, lb⟩ := h
    have hA := vlt ha la
    have hB := vlt hb lb
    have f1 := Sub63 ha hb (by omega) (by omega)
    have f2 := Sub64 ha hb (by omega) (by omega)
    have f3 := Add66 ha hb (by omega) (by omega)
    have f4 := Add59 ha hb (by omega) (by omega)
    have f5 := Cmp67 ha hb (by omega) (by omega)
    have f6 := Compare60 ha hb (by omega) (by omega)
    have f7 := Trim68 ha (by omega)
    have f8 := Trim69 ha (by omega)
    have e1 := Equal65 (dig (val a + val b)) (Nat.le_trans (dlen (add_lt hA hB)) (by omega))
    have e2 := Equal65 (dig (val a)) (Nat.le_trans (dlen hA) (by omega))
    have d1 : decide (cmpI (val a) (val b) = cmpI (val a) (val b)) = true := decide_eq_true rfl
    have d0 : decide (a.length ≤ 50 ∧ b.length ≤ 50) = true := decide_eq_true ⟨la, lb⟩
    unfold subV at f1 f2
    by_cases hle : val b ≤ val a
    · rw [if_pos hle] at f1 f2
      have e3 := Equal65 (dig (val a - val b)) (Nat.le_trans (dlen (Nat.lt_of_le_of_lt (Nat.sub_le _ _) hA)) (by omega))
      simp only [go_sem, ↓reduceIte, Nat.reduceAdd, Nat.reduceSub, Nat.reduceMul, Nat.reduceEqDiff, Nat.reduceLT, Nat.reduceShiftRight, Nat.reduceAnd, Nat.reduceBNe, Nat.reduceLeDiff, Nat.reduceBEq, Nat.testBit, Nat.zero_lt_one, Int.reduceToNat, Int.reduceNeg, Int.reduceLE, Int.reduceLT, Int.reduceEq, decide_true, decide_false, Bool.and_true, Bool.true_and, Bool.and_false, Bool.false_and, Bool.or_true, Bool.true_or, Bool.or_false, Bool.false_or, Bool.not_true, Bool.not_false, beq_self_eq_true, reduceCtorEq, Int.le_refl, Nat.add_zero, and_self, and_true, true_and, or_true, true_or, if_true, if_false, Nat.le_refl, Bool.and_self, eq_self, Bool.not_false, Bool.not_true, s61, d0, awake62, f1, f2, f3, f4, f5, f6, f7, f8, e1, e2, e3, d1, nl]
    · rw [if_neg hle] at f1 f2
      have e3 := Equal65 [] (by simp)
      simp only [List.map_nil] at e3
      simp only [go_sem, ↓reduceIte, Nat.reduceAdd, Nat.reduceSub, Nat.reduceMul, Nat.reduceEqDiff, Nat.reduceLT, Nat.reduceShiftRight, Nat.reduceAnd, Nat.reduceBNe, Nat.reduceLeDiff, Nat.reduceBEq, Nat.testBit, Nat.zero_lt_one, Int.reduceToNat, Int.reduceNeg, Int.reduceLE, Int.reduceLT, Int.reduceEq, decide_true, decide_false, Bool.and_true, Bool.true_and, Bool.and_false, Bool.false_and, Bool.or_true, Bool.true_or, Bool.or_false, Bool.false_or, Bool.not_true, Bool.not_false, beq_self_eq_true, reduceCtorEq, Int.le_refl, Nat.add_zero, and_self, and_true, true_and, or_true, true_or, if_true, if_false, Nat.le_refl, Bool.and_self, eq_self, Bool.not_false, Bool.not_true, s61, d0, awake62, f1, f2, f3, f4, f5, f6, f7, f8, e1, e2, e3, d1, nl]
  · have d0 : decide (a.length ≤ 50 ∧ b.length ≤ 50) = false := decide_eq_false h
    simp only [go_sem, ↓reduceIte, Nat.reduceAdd, Nat.reduceSub, Nat.reduceMul, Nat.reduceEqDiff, Nat.reduceLT, Nat.reduceShiftRight, Nat.reduceAnd, Nat.reduceBNe, Nat.reduceLeDiff, Nat.reduceBEq, Nat.testBit, Nat.zero_lt_one, Int.reduceToNat, Int.reduceNeg, Int.reduceLE, Int.reduceLT, Int.reduceEq, decide_true, decide_false, Bool.and_true, Bool.true_and, Bool.and_false, Bool.false_and, Bool.or_true, Bool.true_or, Bool.or_false, Bool.false_or, Bool.not_true, Bool.not_false, beq_self_eq_true, reduceCtorEq, Int.le_refl, Nat.add_zero, and_self, and_true, true_and, or_true, true_or, if_true, if_false, Nat.le_refl, Bool.and_self, eq_self, Bool.not_false, Bool.not_true, s61, d0, awake62]
theorem nat16 {a : List Nat} (ha : Limbs a) (i : Int) (hi : (Lit.int .i64 i).wf = true) : (KL AA XX).call 16 [(PV.one (D.sl (List.map n64 (a)))), (PV.one (D.sc (Value.int IntKind.i64 (i))))] = some [(PV.one (D.sc (Value.bool (true))))] := by
  have s61 := Small61 a []
  simp only [List.map_nil] at s61
  rw [c16]
  by_cases h : a.length ≤ 50
  · have d0 : decide (a.length ≤ 50 ∧ ([] : List Nat).length ≤ 50) = true := decide_eq_true ⟨h, by simp⟩
    have hA := vlt ha h
    have f1 := Bits70 ha (by omega)
    have f2 := Bits56 ha (by omega)
    have f3 := Bit71 ha (by omega) i hi
    have f4 := Bit72 ha (by omega) i hi
    have f5 := Double73 ha (by omega) i
    have f6 := Double74 ha (by omega) i
    have hc := b2_le i
    have e1 := Equal65 (dig (2 * val a + b2 i)) (Nat.le_trans (dlen (k := 51) (by
      have : 2 * B64 ^ 50 ≤ B64 * B64 ^ 50 := Nat.mul_le_mul_right _ (by decide)
      rw [Nat.pow_succ, Nat.mul_comm (B64 ^ 50)]; omega)) (by omega))
    have d1 : decide (((nbits (val a) : Nat) : Int) = ((nbits (val a) : Nat) : Int)) = true := decide_eq_true rfl
    have d2 : decide (((bitN (val a) i : Nat) : Int) = ((bitN (val a) i : Nat) : Int)) = true := decide_eq_true rfl
    rw [d0] at s61
    simp only [go_sem, ↓reduceIte, Nat.reduceAdd, Nat.reduceSub, Nat.reduceMul, Nat.reduceEqDiff, Nat.reduceLT, Nat.reduceShiftRight, Nat.reduceAnd, Nat.reduceBNe, Nat.reduceLeDiff, Nat.reduceBEq, Nat.testBit, Nat.zero_lt_one, Int.reduceToNat, Int.reduceNeg, Int.reduceLE, Int.reduceLT, Int.reduceEq, decide_true, decide_false, Bool.and_true, Bool.true_and, Bool.and_false, Bool.false_and, Bool.or_true, Bool.true_or, Bool.or_false, Bool.false_or, Bool.not_true, Bool.not_false, beq_self_eq_true, reduceCtorEq, Int.le_refl, Nat.add_zero, and_self, and_true, true_and, or_true, true_or, if_true, if_false, Nat.le_refl, Bool.and_self, eq_self, Bool.not_false, Bool.not_true, s61, awake62, f1, f2, f3, f4, f5, f6, e1, d1, d2]
  · have d0 : decide (a.length ≤ 50 ∧ ([] : List Nat).length ≤ 50) = false := decide_eq_false fun h' => h h'.1
    rw [d0] at s61
    simp only [go_sem, ↓reduceIte, Nat.reduceAdd, Nat.reduceSub, Nat.reduceMul, Nat.reduceEqDiff, Nat.reduceLT, Nat.reduceShiftRight, Nat.reduceAnd, Nat.reduceBNe, Nat.reduceLeDiff, Nat.reduceBEq, Nat.testBit, Nat.zero_lt_one, Int.reduceToNat, Int.reduceNeg, Int.reduceLE, Int.reduceLT, Int.reduceEq, decide_true, decide_false, Bool.and_true, Bool.true_and, Bool.and_false, Bool.false_and, Bool.or_true, Bool.true_or, Bool.or_false, Bool.false_or, Bool.not_true, Bool.not_false, beq_self_eq_true, reduceCtorEq, Int.le_refl, Nat.add_zero, and_self, and_true, true_and, or_true, true_or, if_true, if_false, Nat.le_refl, Bool.and_self, eq_self, Bool.not_false, Bool.not_true, s61, awake62]
theorem nat17 {a b c : List Nat} (ha : Limbs a) (hb : Limbs b) (hc : Limbs c) (lc : c.length ≤ 1000000000000000) : (KL AA XX).call 17 [(PV.one (D.sl (List.map n64 (a)))), (PV.one (D.sl (List.map n64 (b)))), (PV.one (D.sl (List.map n64 (c))))] = some [(PV.one (D.sc (Value.bool (true))))] := by
  have s61 := Small61 a b
  rw [c17]
  by_cases h : a.length ≤ 50 ∧ b.length ≤ 50
  · have d0 : decide (a.length ≤ 50 ∧ b.length ≤ 50) = true := decide_eq_true h
    obtain ⟨la, lb⟩ := h
    by_cases h50 : c.length ≤ 50
    · have d9 : decide ((50 : Int) < (c.length : Int)) = false := decide_eq_false (by omega)
      have hA := vlt ha la
      have hB := vlt hb lb
      have hC := vlt hc h50
      have hAB := add_lt hA hB
      have hBC := add_lt hB hC
      have lAB := dlen hAB
      have lBC := dlen hBC
      have f1 := Add66 ha hb (by omega) (by omega)
      have f2 := Add66 hb ha (by omega) (by omega)
      have f3 := Add66 (dig_limbs (val a + val b)) hc (by omega) (by omega)
      have f4 := Add66 hb hc (by omega) (by omega)
      have f5 := Add66 ha (dig_limbs (val b + val c)) (by omega) (by omega)
      have f6 := Sub63 (dig_limbs (val a + val b)) hb (by omega) (by omega)
      have f7 := Sub63 ha hb (by omega) (by omega)
      have f8 := Cmp67 ha hb (by omega) (by omega)
      have f9 := Trim68 ha (by omega)
      rw [val_dig] at f3 f5 f6
      rw [Nat.add_comm (val b) (val a)] at f2
      rw [← Nat.add_assoc] at f5
      have e6 : subV (val a + val b) (val b) = [nl (dig (val a)), .one (.sc (.bool true))] := by
        unfold subV; rw [if_pos (by omega), Nat.add_sub_cancel]
      rw [e6] at f6
      have hABC : val a + val b + val c < B64 ^ 52 := add_lt hAB (Nat.lt_of_lt_of_le hC (Nat.pow_le_pow_right B_pos (by omega)))
      have e1 := Equal65 (dig (val a + val b)) (by omega)
      have e2 := Equal65 (dig (val a + val b + val c)) (Nat.le_trans (dlen hABC) (by omega))
      have e3 := Equal65 (dig (val a)) (Nat.le_trans (dlen hA) (by omega))
      unfold subV at f7
      by_cases hle : val b ≤ val a
      · rw [if_pos hle] at f7
        have dc : decide ((0 : Int) ≤ cmpI (val a) (val b)) = true := by
          unfold cmpI; rw [if_neg (by omega)]; split <;> rfl
        have f10 := Add66 (dig_limbs (val a - val b)) hb (Nat.le_trans (dlen (Nat.lt_of_le_of_lt (Nat.sub_le _ _) hA)) (by omega)) (by omega)
        rw [val_dig, Nat.sub_add_cancel hle] at f10
        simp only [go_sem, ↓reduceIte, Nat.reduceAdd, Nat.reduceSub, Nat.reduceMul, Nat.reduceEqDiff, Nat.reduceLT, Nat.reduceShiftRight, Nat.reduceAnd, Nat.reduceBNe, Nat.reduceLeDiff, Nat.reduceBEq, Nat.testBit, Nat.zero_lt_one, Int.reduceToNat, Int.reduceNeg, Int.reduceLE, Int.reduceLT, Int.reduceEq, decide_true, decide_false, Bool.and_true, Bool.true_and, Bool.and_false, Bool.false_and, Bool.or_true, Bool.true_or, Bool.or_false, Bool.false_or, Bool.not_true, Bool.not_false, beq_self_eq_true, reduceCtorEq, Int.le_refl, Nat.add_zero, and_self, and_true, true_and, or_true, true_or, if_true, if_false, Nat.le_refl, Bool.and_self, eq_self, Bool.not_false, Bool.not_true, s61, d0, d9, awake62, f1, f2, f3, f4, f5, f6, f7, f8, f9, f10, e1, e2, e3, dc, nl]
      · rw [if_neg hle] at f7
        have dc : decide ((0 : Int) ≤ cmpI (val a) (val b)) = false := by
          unfold cmpI; rw [if_pos (by omega)]; rfl
        simp only [go_sem, ↓reduceIte, Nat.reduceAdd, Nat.reduceSub, Nat.reduceMul, Nat.reduceEqDiff, Nat.reduceLT, Nat.reduceShiftRight, Nat.reduceAnd, Nat.reduceBNe, Nat.reduceLeDiff, Nat.reduceBEq, Nat.testBit, Nat.zero_lt_one, Int.reduceToNat, Int.reduceNeg, Int.reduceLE, Int.reduceLT, Int.reduceEq, decide_true, decide_false, Bool.and_true, Bool.true_and, Bool.and_false, Bool.false_and, Bool.or_true, Bool.true_or, Bool.or_false, Bool.false_or, Bool.not_true, Bool.not_false, beq_self_eq_true, reduceCtorEq, Int.le_refl, Nat.add_zero, and_self, and_true, true_and, or_true, true_or, if_true, if_false, Nat.le_refl, Bool.and_self, eq_self, Bool.not_false, Bool.not_true, s61, d0, d9, awake62, f1, f2, f3, f4, f5, f6, f7, f8, f9, e1, e2, e3, dc, nl]
    · have d9 : decide ((50 : Int) < (c.length : Int)) = true := decide_eq_true (by omega)
      simp only [go_sem, ↓reduceIte, Nat.reduceAdd, Nat.reduceSub, Nat.reduceMul, Nat.reduceEqDiff, Nat.reduceLT, Nat.reduceShiftRight, Nat.reduceAnd, Nat.reduceBNe, Nat.reduceLeDiff, Nat.reduceBEq, Nat.testBit, Nat.zero_lt_one, Int.reduceToNat, Int.reduceNeg, Int.reduceLE, Int.reduceLT, Int.reduceEq, decide_true, decide_false, Bool.and_true, Bool.true_and, Bool.and_false, Bool.false_and, Bool.or_true, Bool.true_or, Bool.or_false, Bool.false_or, Bool.not_true, Bool.not_false, beq_self_eq_true, reduceCtorEq, Int.le_refl, Nat.add_zero, and_self, and_true, true_and, or_true, true_or, if_true, if_false, Nat.le_refl, Bool.and_self, eq_self, Bool.not_false, Bool.not_true, s61, d0, d9, awake62]
  · have d0 : decide (a.length ≤ 50 ∧ b.length ≤ 50) = false := decide_eq_false h
    simp only [go_sem, ↓reduceIte, Nat.reduceAdd, Nat.reduceSub, Nat.reduceMul, Nat.reduceEqDiff, Nat.reduceLT, Nat.reduceShiftRight, Nat.reduceAnd, Nat.reduceBNe, Nat.reduceLeDiff, Nat.reduceBEq, Nat.testBit, Nat.zero_lt_one, Int.reduceToNat, Int.reduceNeg, Int.reduceLE, Int.reduceLT, Int.reduceEq, decide_true, decide_false, Bool.and_true, Bool.true_and, Bool.and_false, Bool.false_and, Bool.or_true, Bool.true_or, Bool.or_false, Bool.false_or, Bool.not_true, Bool.not_false, beq_self_eq_true, reduceCtorEq, Int.le_refl, Nat.add_zero, and_self, and_true, true_and, or_true, true_or, if_true, if_false, Nat.le_refl, Bool.and_self, eq_self, Bool.not_false, Bool.not_true, s61, d0, awake62]
theorem nat19 {a : List Nat} (ha : Limbs a) : (KL AA XX).call 19 [(PV.one (D.sl (List.map n64 (a))))] = some [(PV.one (D.sc (Value.bool (true))))] := by
  have s61 := Small61 a []
  simp only [List.map_nil] at s61
  rw [c19]
  by_cases h : a.length ≤ 50
  · have d0 : decide (a.length ≤ 50 ∧ ([] : List Nat).length ≤ 50) = true := decide_eq_true ⟨h, by simp⟩
    have hA := vlt ha h
    rw [d0] at s61
    have f1 := Double73 ha (by omega) 0
    have f2 := Double73 ha (by omega) 1
    rw [show b2 0 = 0 from rfl, Nat.add_zero] at f1
    rw [show b2 1 = 1 from rfl] at f2
    have hD : 2 * val a < B64 ^ 51 := by rw [Nat.two_mul]; exact add_lt hA hA
    have hE : 2 * val a + 1 < B64 ^ 52 := add_lt hD (Nat.one_lt_pow (by decide) (by decide))
    have f3 := Add66 ha ha (by omega) (by omega)
    rw [← Nat.two_mul] at f3
    have l1 : Limbs [1] := Limbs.cons (by decide) Limbs.nil
    have f4 := Add66 (dig_limbs (2 * val a)) l1 (Nat.le_trans (dlen hD) (by omega)) (by simp)
    rw [val_dig, show val [1] = 1 from rfl] at f4
    simp only [List.map_cons, List.map_nil, n64, show ((1 : Nat) : Int) = 1 from rfl] at f4
    have f5 := Bits70 ha (by omega)
    have f6 := Bits70 (dig_limbs (2 * val a)) (Nat.le_trans (dlen hD) (by omega))
    have f7 := Bit71 (dig_limbs (2 * val a + 1)) (Nat.le_trans (dlen hE) (by omega)) 0 rfl
    have hb : bitN (val (dig (2 * val a + 1))) 0 = 1 := by
      rw [val_dig]
      show (if (0 : Int) < 0 then 0 else (2 * val a + 1) / 2 ^ (0 : Int).toNat % 2) = 1
      rw [if_neg (by omega), show (0 : Int).toNat = 0 from rfl, Nat.pow_zero, Nat.div_one]
      omega
    rw [hb] at f7
    rw [val_dig] at f6
    have e1 := Equal65 (dig (2 * val a)) (Nat.le_trans (dlen hD) (by omega))
    have e2 := Equal65 (dig (2 * val a + 1)) (Nat.le_trans (dlen hE) (by omega))
    have hb3 := nbits_lim hA
    by_cases hz : val a = 0
    · have hn : nbits (val a) = 0 := by rw [hz]; rfl
      have hn2 : nbits (2 * val a) = 0 := by rw [hz]; rfl
      rw [hn] at f5
      rw [hn2] at f6
      simp only [go_sem, ↓reduceIte, Nat.reduceAdd, Nat.reduceSub, Nat.reduceMul, Nat.reduceEqDiff, Nat.reduceLT, Nat.reduceShiftRight, Nat.reduceAnd, Nat.reduceBNe, Nat.reduceLeDiff, Nat.reduceBEq, Nat.testBit, Nat.zero_lt_one, Int.reduceToNat, Int.reduceNeg, Int.reduceLE, Int.reduceLT, Int.reduceEq, decide_true, decide_false, Bool.and_true, Bool.true_and, Bool.and_false, Bool.false_and, Bool.or_true, Bool.true_or, Bool.or_false, Bool.false_or, Bool.not_true, Bool.not_false, beq_self_eq_true, reduceCtorEq, Int.le_refl, Nat.add_zero, and_self, and_true, true_and, or_true, true_or, if_true, if_false, Nat.le_refl, Bool.and_self, eq_self, Bool.not_false, Bool.not_true, s61, awake62, f1, f2, f3, f4, f5, f6, f7, e1, e2, show ((0 : Nat) : Int) = 0 from rfl, show ((1 : Nat) : Int) = 1 from rfl, Int.lt_irrefl]
    · have hn2 : nbits (2 * val a) = nbits (val a) + 1 := by
        have := nbits_shift (n := 2 * val a) (s := 1) (by omega)
        rw [this, show 2 * val a / 2 ^ 1 = val a by omega]; omega
      have hp : 0 < nbits (val a) := by unfold nbits; rw [if_neg hz]; omega
      have d1 : decide ((0 : Int) < ((nbits (val a) : Nat) : Int)) = true := decide_eq_true (by omega)
      have hw := wrap_succ (nbits (val a)) (by omega)
      rw [hn2] at f6
      have d2 : decide (((nbits (val a) + 1 : Nat) : Int) = ((nbits (val a) + 1 : Nat) : Int)) = true := decide_eq_true rfl
      simp only [go_sem, ↓reduceIte, Nat.reduceAdd, Nat.reduceSub, Nat.reduceMul, Nat.reduceEqDiff, Nat.reduceLT, Nat.reduceShiftRight, Nat.reduceAnd, Nat.reduceBNe, Nat.reduceLeDiff, Nat.reduceBEq, Nat.testBit, Nat.zero_lt_one, Int.reduceToNat, Int.reduceNeg, Int.reduceLE, Int.reduceLT, Int.reduceEq, decide_true, decide_false, Bool.and_true, Bool.true_and, Bool.and_false, Bool.false_and, Bool.or_true, Bool.true_or, Bool.or_false, Bool.false_or, Bool.not_true, Bool.not_false, beq_self_eq_true, reduceCtorEq, Int.le_refl, Nat.add_zero, and_self, and_true, true_and, or_true, true_or, if_true, if_false, Nat.le_refl, Bool.and_self, eq_self, Bool.not_false, Bool.not_true, s61, awake62, f1, f2, f3, f4, f5, f6, f7, e1, e2, d1, hw, d2, show ((1 : Nat) : Int) = 1 from rfl]
  · have d0 : decide (a.length ≤ 50 ∧ ([] : List Nat).length ≤ 50) = false := decide_eq_false fun h' => h h'.1
    rw [d0] at s61
    simp only [go_sem, ↓reduceIte, Nat.reduceAdd, Nat.reduceSub, Nat.reduceMul, Nat.reduceEqDiff, Nat.reduceLT, Nat.reduceShiftRight, Nat.reduceAnd, Nat.reduceBNe, Nat.reduceLeDiff, Nat.reduceBEq, Nat.testBit, Nat.zero_lt_one, Int.reduceToNat, Int.reduceNeg, Int.reduceLE, Int.reduceLT, Int.reduceEq, decide_true, decide_false, Bool.and_true, Bool.true_and, Bool.and_false, Bool.false_and, Bool.or_true, Bool.true_or, Bool.or_false, Bool.false_or, Bool.not_true, Bool.not_false, beq_self_eq_true, reduceCtorEq, Int.le_refl, Nat.add_zero, and_self, and_true, true_and, or_true, true_or, if_true, if_false, Nat.le_refl, Bool.and_self, eq_self, Bool.not_false, Bool.not_true, s61, awake62]
end Go.Proofs.Ytpanbfainilmpaa.Ev.N
