/- Texts that were joined: EvNA, EvNL1, EvNL5, EvN1, EvP, Ev28, EvX1, EvO1, EvOF, EvX2, EvX3, EvX4, EvX5, EvN3, EvNL6. -/
import Derived.KernelRfl
import Derived.Test.YtpanbfainilmpaaProg
import Derived.Test.YtpanbfainilmpaaRows
import Derived.ProofKit
import Derived.OpenShut
import Derived.SizedLaws
import Derived.ChangeArms
import Derived.ChangeStays
import Derived.WideShapes
import Derived.ChangeShapes
import Derived.WideKeyArgs
import Derived.ChangeSame
import Derived.RangeFuncNested
import Derived.RangeFuncBound
import Derived.RangeFuncCalls
import Derived.RangeFuncLeaves
import Derived.RangeFuncBox
import Derived.Shelf.Abstract
import Derived.Shelf.RegionOpen
import Derived.WalkKit
import Derived.OwnWalkIn
import Derived.TacticsInMore
import Derived.LoopNIn
import Derived.LoopIn
import Derived.Maps.AppendAt
import Derived.Shelf.Spec.BitsCarry
import Derived.Test.YtpanbfainilmpaaEvH4
section
/- The documents' examples of the numbers' chapters, reckoned by the kernel. -/
set_option linter.unusedVariables false
set_option linter.unusedSimpArgs false
set_option maxRecDepth 100000
namespace Go.Proofs.Ytpanbfainilmpaa.Ev.N
open Go Go.Proofs.Ytpanbfainilmpaa.Ev
theorem awake_of {k n : Nat} (h : (mkK AA XX n).call k [] = some [.one (.sc (.bool true))]) : (KL AA XX).call k [] = some [.one (.sc (.bool true))] := (KL_call AA XX).2 ⟨n, h⟩
theorem awake62 : (KL AA XX).call 62 [] = some [.one (.sc (.bool true))] := awake_of (n := 200) (by kernel_rfl)
theorem awake82 : (KL AA XX).call 82 [] = some [.one (.sc (.bool true))] := awake_of (n := 300) (by kernel_rfl)
end Go.Proofs.Ytpanbfainilmpaa.Ev.N
end
section
/- The laws of chapter 01 in the evaluator: they answer true. -/
set_option linter.unusedVariables false
set_option linter.unusedSimpArgs false
set_option maxRecDepth 100000
set_option maxHeartbeats 4000000
namespace Go.Proofs.Ytpanbfainilmpaa.Ev.N
open Go Go.Proofs.Ytpanbfainilmpaa.Ev

theorem Equal65 (l : List Nat) (hl : l.length ≤ 10000000) : (KL AA XX).call 65 [(PV.one (D.sl (List.map n64 (l)))), (PV.one (D.sl (List.map n64 (l))))] = some [(PV.one (D.sc (Value.bool (true))))] := by
  have go := iter (F := fun (i : Nat) => loopR AA XX [0, 1, 5] 0 b65_0 (RUN AA XX b65_0 ⟨[(0, (AV.c (C.d (D.sl (List.map n64 (l)))))), (1, (AV.c (C.d (D.sl (List.map n64 (l)))))), (5, (AV.c (C.d (D.sc (Value.int IntKind.i64 (i))))))], [], 0⟩)) (Nat.zero_le l.length) fun i _ hi => by
    have hlt := ltT hi
    have hw := wrap_succ i (by omega)
    have hg := getn hi
    have d : decide (((l[i] : Nat) : Int) = ((l[i] : Nat) : Int)) = true := decide_eq_true rfl
    show loopR _ _ _ _ _ (RUN _ _ _ _) = _
    rw [b65_0_run]
    simp only [go_sem, ↓reduceIte, Nat.reduceAdd, Nat.reduceSub, Nat.reduceMul, Nat.reduceEqDiff, Nat.reduceLT, Nat.reduceShiftRight, Nat.reduceAnd, Nat.reduceBNe, Nat.reduceLeDiff, Nat.reduceBEq, Nat.testBit, Nat.zero_lt_one, Int.reduceToNat, Int.reduceNeg, Int.reduceLE, Int.reduceLT, Int.reduceEq, decide_true, decide_false, Bool.and_true, Bool.true_and, Bool.and_false, Bool.false_and, Bool.or_true, Bool.true_or, Bool.or_false, Bool.false_or, Bool.not_true, Bool.not_false, beq_self_eq_true, reduceCtorEq, Int.le_refl, Nat.add_zero, and_self, and_true, true_and, or_true, true_or, if_true, if_false, Nat.le_refl, Bool.and_self, eq_self, Bool.not_false, Bool.not_true, hlt, hw, hg, d]
  simp only [show ((0 : Nat) : Int) = 0 from rfl] at go
  have d : decide (((l.length : Nat) : Int) = ((l.length : Nat) : Int)) = true := decide_eq_true rfl
  rw [c65]
  simp only [go_sem, ↓reduceIte, Nat.reduceAdd, Nat.reduceSub, Nat.reduceMul, Nat.reduceEqDiff, Nat.reduceLT, Nat.reduceShiftRight, Nat.reduceAnd, Nat.reduceBNe, Nat.reduceLeDiff, Nat.reduceBEq, Nat.testBit, Nat.zero_lt_one, Int.reduceToNat, Int.reduceNeg, Int.reduceLE, Int.reduceLT, Int.reduceEq, decide_true, decide_false, Bool.and_true, Bool.true_and, Bool.and_false, Bool.false_and, Bool.or_true, Bool.true_or, Bool.or_false, Bool.false_or, Bool.not_true, Bool.not_false, beq_self_eq_true, reduceCtorEq, Int.le_refl, Nat.add_zero, and_self, and_true, true_and, or_true, true_or, if_true, if_false, Nat.le_refl, Bool.and_self, eq_self, Bool.not_false, Bool.not_true, d]
  rw [go, b65_0_run]
  simp only [go_sem, ↓reduceIte, Nat.reduceAdd, Nat.reduceSub, Nat.reduceMul, Nat.reduceEqDiff, Nat.reduceLT, Nat.reduceShiftRight, Nat.reduceAnd, Nat.reduceBNe, Nat.reduceLeDiff, Nat.reduceBEq, Nat.testBit, Nat.zero_lt_one, Int.reduceToNat, Int.reduceNeg, Int.reduceLE, Int.reduceLT, Int.reduceEq, decide_true, decide_false, Bool.and_true, Bool.true_and, Bool.and_false, Bool.false_and, Bool.or_true, Bool.true_or, Bool.or_false, Bool.false_or, Bool.not_true, Bool.not_false, beq_self_eq_true, reduceCtorEq, Int.le_refl, Nat.add_zero, and_self, and_true, true_and, or_true, true_or, if_true, if_false, Nat.le_refl, Bool.and_self, eq_self, Bool.not_false, Bool.not_true, Int.lt_irrefl]

theorem Equal85 (l : List Nat) (hl : l.length ≤ 10000000) : (KL AA XX).call 85 [(PV.one (D.sl (List.map n64 (l)))), (PV.one (D.sl (List.map n64 (l))))] = some [(PV.one (D.sc (Value.bool (true))))] := by
  have go := iter (F := fun (i : Nat) => loopR AA XX [0, 1, 5] 0 b85_0 (RUN AA XX b85_0 ⟨[(0, (AV.c (C.d (D.sl (List.map n64 (l)))))), (1, (AV.c (C.d (D.sl (List.map n64 (l)))))), (5, (AV.c (C.d (D.sc (Value.int IntKind.i64 (i))))))], [], 0⟩)) (Nat.zero_le l.length) fun i _ hi => by
    have hlt := ltT hi
    have hw := wrap_succ i (by omega)
    have hg := getn hi
    have d : decide (((l[i] : Nat) : Int) = ((l[i] : Nat) : Int)) = true := decide_eq_true rfl
    show loopR _ _ _ _ _ (RUN _ _ _ _) = _
    rw [b85_0_run]
    simp only [go_sem, ↓reduceIte, Nat.reduceAdd, Nat.reduceSub, Nat.reduceMul, Nat.reduceEqDiff, Nat.reduceLT, Nat.reduceShiftRight, Nat.reduceAnd, Nat.reduceBNe, Nat.reduceLeDiff, Nat.reduceBEq, Nat.testBit, Nat.zero_lt_one, Int.reduceToNat, Int.reduceNeg, Int.reduceLE, Int.reduceLT, Int.reduceEq, decide_true, decide_false, Bool.and_true, Bool.true_and, Bool.and_false, Bool.false_and, Bool.or_true, Bool.true_or, Bool.or_false, Bool.false_or, Bool.not_true, Bool.not_false, beq_self_eq_true, reduceCtorEq, Int.le_refl, Nat.add_zero, and_self, and_true, true_and, or_true, true_or, if_true, if_false, Nat.le_refl, Bool.and_self, eq_self, Bool.not_false, Bool.not_true, hlt, hw, hg, d]
  simp only [show ((0 : Nat) : Int) = 0 from rfl] at go
  have d : decide (((l.length : Nat) : Int) = ((l.length : Nat) : Int)) = true := decide_eq_true rfl
  rw [c85]
  simp only [go_sem, ↓reduceIte, Nat.reduceAdd, Nat.reduceSub, Nat.reduceMul, Nat.reduceEqDiff, Nat.reduceLT, Nat.reduceShiftRight, Nat.reduceAnd, Nat.reduceBNe, Nat.reduceLeDiff, Nat.reduceBEq, Nat.testBit, Nat.zero_lt_one, Int.reduceToNat, Int.reduceNeg, Int.reduceLE, Int.reduceLT, Int.reduceEq, decide_true, decide_false, Bool.and_true, Bool.true_and, Bool.and_false, Bool.false_and, Bool.or_true, Bool.true_or, Bool.or_false, Bool.false_or, Bool.not_true, Bool.not_false, beq_self_eq_true, reduceCtorEq, Int.le_refl, Nat.add_zero, and_self, and_true, true_and, or_true, true_or, if_true, if_false, Nat.le_refl, Bool.and_self, eq_self, Bool.not_false, Bool.not_true, d]
  rw [go, b85_0_run]
  simp only [go_sem, ↓reduceIte, Nat.reduceAdd, Nat.reduceSub, Nat.reduceMul, Nat.reduceEqDiff, Nat.reduceLT, Nat.reduceShiftRight, Nat.reduceAnd, Nat.reduceBNe, Nat.reduceLeDiff, Nat.reduceBEq, Nat.testBit, Nat.zero_lt_one, Int.reduceToNat, Int.reduceNeg, Int.reduceLE, Int.reduceLT, Int.reduceEq, decide_true, decide_false, Bool.and_true, Bool.true_and, Bool.and_false, Bool.false_and, Bool.or_true, Bool.true_or, Bool.or_false, Bool.false_or, Bool.not_true, Bool.not_false, beq_self_eq_true, reduceCtorEq, Int.le_refl, Nat.add_zero, and_self, and_true, true_and, or_true, true_or, if_true, if_false, Nat.le_refl, Bool.and_self, eq_self, Bool.not_false, Bool.not_true, Int.lt_irrefl]

theorem Small61 (a b : List Nat) : (KL AA XX).call 61 [(PV.one (D.sl (List.map n64 (a)))), (PV.one (D.sl (List.map n64 (b))))] = some [(PV.one (D.sc (Value.bool (decide (a.length ≤ 50 ∧ b.length ≤ 50)))))] := by
  rw [c61]
  by_cases h1 : a.length ≤ 50
  · have d1 : decide ((a.length : Int) ≤ 50) = true := decide_eq_true (by omega)
    by_cases h2 : b.length ≤ 50
    · have d2 : decide ((b.length : Int) ≤ 50) = true := decide_eq_true (by omega)
      simp only [go_sem, ↓reduceIte, Nat.reduceAdd, Nat.reduceSub, Nat.reduceMul, Nat.reduceEqDiff, Nat.reduceLT, Nat.reduceShiftRight, Nat.reduceAnd, Nat.reduceBNe, Nat.reduceLeDiff, Nat.reduceBEq, Nat.testBit, Nat.zero_lt_one, Int.reduceToNat, Int.reduceNeg, Int.reduceLE, Int.reduceLT, Int.reduceEq, decide_true, decide_false, Bool.and_true, Bool.true_and, Bool.and_false, Bool.false_and, Bool.or_true, Bool.true_or, Bool.or_false, Bool.false_or, Bool.not_true, Bool.not_false, beq_self_eq_true, reduceCtorEq, Int.le_refl, Nat.add_zero, and_self, and_true, true_and, or_true, true_or, if_true, if_false, Nat.le_refl, Bool.and_self, eq_self, Bool.not_false, Bool.not_true, d1, d2, h1, h2]
    · have d2 : decide ((b.length : Int) ≤ 50) = false := decide_eq_false (by omega)
      simp only [go_sem, ↓reduceIte, Nat.reduceAdd, Nat.reduceSub, Nat.reduceMul, Nat.reduceEqDiff, Nat.reduceLT, Nat.reduceShiftRight, Nat.reduceAnd, Nat.reduceBNe, Nat.reduceLeDiff, Nat.reduceBEq, Nat.testBit, Nat.zero_lt_one, Int.reduceToNat, Int.reduceNeg, Int.reduceLE, Int.reduceLT, Int.reduceEq, decide_true, decide_false, Bool.and_true, Bool.true_and, Bool.and_false, Bool.false_and, Bool.or_true, Bool.true_or, Bool.or_false, Bool.false_or, Bool.not_true, Bool.not_false, beq_self_eq_true, reduceCtorEq, Int.le_refl, Nat.add_zero, and_self, and_true, true_and, or_true, true_or, if_true, if_false, Nat.le_refl, Bool.and_self, eq_self, Bool.not_false, Bool.not_true, d1, d2, h1, h2, and_false]
  · have d1 : decide ((a.length : Int) ≤ 50) = false := decide_eq_false (by omega)
    simp only [go_sem, ↓reduceIte, Nat.reduceAdd, Nat.reduceSub, Nat.reduceMul, Nat.reduceEqDiff, Nat.reduceLT, Nat.reduceShiftRight, Nat.reduceAnd, Nat.reduceBNe, Nat.reduceLeDiff, Nat.reduceBEq, Nat.testBit, Nat.zero_lt_one, Int.reduceToNat, Int.reduceNeg, Int.reduceLE, Int.reduceLT, Int.reduceEq, decide_true, decide_false, Bool.and_true, Bool.true_and, Bool.and_false, Bool.false_and, Bool.or_true, Bool.true_or, Bool.or_false, Bool.false_or, Bool.not_true, Bool.not_false, beq_self_eq_true, reduceCtorEq, Int.le_refl, Nat.add_zero, and_self, and_true, true_and, or_true, true_or, if_true, if_false, Nat.le_refl, Bool.and_self, eq_self, Bool.not_false, Bool.not_true, d1, h1, false_and]
theorem nbits_lim {n k : Nat} (h : n < B64 ^ k) : nbits n ≤ 64 * k := by rw [nbits_le, ← Bp_eq]; exact h
theorem dlen {n k : Nat} (h : n < B64 ^ k) : (dig n).length ≤ k := by rw [dig_len]; exact nlen_le.2 h
theorem vlt {l : List Nat} (h : Limbs l) {k : Nat} (hk : l.length ≤ k) : val l < B64 ^ k := Nat.lt_of_lt_of_le (val_lt h) (Nat.pow_le_pow_right B_pos hk)
theorem add_lt {a b k : Nat} (ha : a < B64 ^ k) (hb : b < B64 ^ k) : a + b < B64 ^ (k + 1) := by
  have : 2 * B64 ^ k ≤ B64 * B64 ^ k := Nat.mul_le_mul_right _ (by decide)
  rw [Nat.pow_succ, Nat.mul_comm]; omega

theorem nat15 {a b : List Nat} (ha : Limbs a) (hb : Limbs b) : (KL AA XX).call 15 [(PV.one (D.sl (List.map n64 (a)))), (PV.one (D.sl (List.map n64 (b))))] = some [(PV.one (D.sc (Value.bool (true))))] := by
  have s61 := Small61 a b
  rw [c15]
  by_cases h : a.length ≤ 50 ∧ b.length ≤ 50
  · obtain ⟨la, lb⟩ := h
    have hA := vlt ha la
    have hB := vlt hb lb
    have f1 := Sub63 ha hb (by omega) (by omega)
    have f2 := Sub64 ha hb (by omega) (by omega)
    have f3 := Add66 ha hb (by omega) (by omega)
    have f4 := Add59 ha hb (by omega) (by omega)
    have f5 := Cmp67 ha hb (by omega) (by omega)
    have f6 := Compare60 ha hb (by omega) (by omega)
    have f7 := Trim68 ha (by omega)
    have f8 := Trim69 ha (by omega)
    have e1 := Equal65 (dig (val a + val b)) (Nat.le_trans (dlen (add_lt hA hB)) (by omega))
    have e2 := Equal65 (dig (val a)) (Nat.le_trans (dlen hA) (by omega))
    have d1 : decide (cmpI (val a) (val b) = cmpI (val a) (val b)) = true := decide_eq_true rfl
    have d0 : decide (a.length ≤ 50 ∧ b.length ≤ 50) = true := decide_eq_true ⟨la, lb⟩
    unfold subV at f1 f2
    by_cases hle : val b ≤ val a
    · rw [if_pos hle] at f1 f2
      have e3 := Equal65 (dig (val a - val b)) (Nat.le_trans (dlen (Nat.lt_of_le_of_lt (Nat.sub_le _ _) hA)) (by omega))
      simp only [go_sem, ↓reduceIte, Nat.reduceAdd, Nat.reduceSub, Nat.reduceMul, Nat.reduceEqDiff, Nat.reduceLT, Nat.reduceShiftRight, Nat.reduceAnd, Nat.reduceBNe, Nat.reduceLeDiff, Nat.reduceBEq, Nat.testBit, Nat.zero_lt_one, Int.reduceToNat, Int.reduceNeg, Int.reduceLE, Int.reduceLT, Int.reduceEq, decide_true, decide_false, Bool.and_true, Bool.true_and, Bool.and_false, Bool.false_and, Bool.or_true, Bool.true_or, Bool.or_false, Bool.false_or, Bool.not_true, Bool.not_false, beq_self_eq_true, reduceCtorEq, Int.le_refl, Nat.add_zero, and_self, and_true, true_and, or_true, true_or, if_true, if_false, Nat.le_refl, Bool.and_self, eq_self, Bool.not_false, Bool.not_true, s61, d0, awake62, f1, f2, f3, f4, f5, f6, f7, f8, e1, e2, e3, d1, nl]
    · rw [if_neg hle] at f1 f2
      have e3 := Equal65 [] (by simp)
      simp only [List.map_nil] at e3
      simp only [go_sem, ↓reduceIte, Nat.reduceAdd, Nat.reduceSub, Nat.reduceMul, Nat.reduceEqDiff, Nat.reduceLT, Nat.reduceShiftRight, Nat.reduceAnd, Nat.reduceBNe, Nat.reduceLeDiff, Nat.reduceBEq, Nat.testBit, Nat.zero_lt_one, Int.reduceToNat, Int.reduceNeg, Int.reduceLE, Int.reduceLT, Int.reduceEq, decide_true, decide_false, Bool.and_true, Bool.true_and, Bool.and_false, Bool.false_and, Bool.or_true, Bool.true_or, Bool.or_false, Bool.false_or, Bool.not_true, Bool.not_false, beq_self_eq_true, reduceCtorEq, Int.le_refl, Nat.add_zero, and_self, and_true, true_and, or_true, true_or, if_true, if_false, Nat.le_refl, Bool.and_self, eq_self, Bool.not_false, Bool.not_true, s61, d0, awake62, f1, f2, f3, f4, f5, f6, f7, f8, e1, e2, e3, d1, nl]
  · have d0 : decide (a.length ≤ 50 ∧ b.length ≤ 50) = false := decide_eq_false h
    simp only [go_sem, ↓reduceIte, Nat.reduceAdd, Nat.reduceSub, Nat.reduceMul, Nat.reduceEqDiff, Nat.reduceLT, Nat.reduceShiftRight, Nat.reduceAnd, Nat.reduceBNe, Nat.reduceLeDiff, Nat.reduceBEq, Nat.testBit, Nat.zero_lt_one, Int.reduceToNat, Int.reduceNeg, Int.reduceLE, Int.reduceLT, Int.reduceEq, decide_true, decide_false, Bool.and_true, Bool.true_and, Bool.and_false, Bool.false_and, Bool.or_true, Bool.true_or, Bool.or_false, Bool.false_or, Bool.not_true, Bool.not_false, beq_self_eq_true, reduceCtorEq, Int.le_refl, Nat.add_zero, and_self, and_true, true_and, or_true, true_or, if_true, if_false, Nat.le_refl, Bool.and_self, eq_self, Bool.not_false, Bool.not_true, s61, d0, awake62]
theorem nat16 {a : List Nat} (ha : Limbs a) (i : Int) (hi : (Lit.int .i64 i).wf = true) : (KL AA XX).call 16 [(PV.one (D.sl (List.map n64 (a)))), (PV.one (D.sc (Value.int IntKind.i64 (i))))] = some [(PV.one (D.sc (Value.bool (true))))] := by
  have s61 := Small61 a []
  simp only [List.map_nil] at s61
  rw [c16]
  by_cases h : a.length ≤ 50
  · have d0 : decide (a.length ≤ 50 ∧ ([] : List Nat).length ≤ 50) = true := decide_eq_true ⟨h, by simp⟩
    have hA := vlt ha h
    have f1 := Bits70 ha (by omega)
    have f2 := Bits56 ha (by omega)
    have f3 := Bit71 ha (by omega) i hi
    have f4 := Bit72 ha (by omega) i hi
    have f5 := Double73 ha (by omega) i
    have f6 := Double74 ha (by omega) i
    have hc := b2_le i
    have e1 := Equal65 (dig (2 * val a + b2 i)) (Nat.le_trans (dlen (k := 51) (by
      have : 2 * B64 ^ 50 ≤ B64 * B64 ^ 50 := Nat.mul_le_mul_right _ (by decide)
      rw [Nat.pow_succ, Nat.mul_comm (B64 ^ 50)]; omega)) (by omega))
    have d1 : decide (((nbits (val a) : Nat) : Int) = ((nbits (val a) : Nat) : Int)) = true := decide_eq_true rfl
    have d2 : decide (((bitN (val a) i : Nat) : Int) = ((bitN (val a) i : Nat) : Int)) = true := decide_eq_true rfl
    rw [d0] at s61
    simp only [go_sem, ↓reduceIte, Nat.reduceAdd, Nat.reduceSub, Nat.reduceMul, Nat.reduceEqDiff, Nat.reduceLT, Nat.reduceShiftRight, Nat.reduceAnd, Nat.reduceBNe, Nat.reduceLeDiff, Nat.reduceBEq, Nat.testBit, Nat.zero_lt_one, Int.reduceToNat, Int.reduceNeg, Int.reduceLE, Int.reduceLT, Int.reduceEq, decide_true, decide_false, Bool.and_true, Bool.true_and, Bool.and_false, Bool.false_and, Bool.or_true, Bool.true_or, Bool.or_false, Bool.false_or, Bool.not_true, Bool.not_false, beq_self_eq_true, reduceCtorEq, Int.le_refl, Nat.add_zero, and_self, and_true, true_and, or_true, true_or, if_true, if_false, Nat.le_refl, Bool.and_self, eq_self, Bool.not_false, Bool.not_true, s61, awake62, f1, f2, f3, f4, f5, f6, e1, d1, d2]
  · have d0 : decide (a.length ≤ 50 ∧ ([] : List Nat).length ≤ 50) = false := decide_eq_false fun h' => h h'.1
    rw [d0] at s61
    simp only [go_sem, ↓reduceIte, Nat.reduceAdd, Nat.reduceSub, Nat.reduceMul, Nat.reduceEqDiff, Nat.reduceLT, Nat.reduceShiftRight, Nat.reduceAnd, Nat.reduceBNe, Nat.reduceLeDiff, Nat.reduceBEq, Nat.testBit, Nat.zero_lt_one, Int.reduceToNat, Int.reduceNeg, Int.reduceLE, Int.reduceLT, Int.reduceEq, decide_true, decide_false, Bool.and_true, Bool.true_and, Bool.and_false, Bool.false_and, Bool.or_true, Bool.true_or, Bool.or_false, Bool.false_or, Bool.not_true, Bool.not_false, beq_self_eq_true, reduceCtorEq, Int.le_refl, Nat.add_zero, and_self, and_true, true_and, or_true, true_or, if_true, if_false, Nat.le_refl, Bool.and_self, eq_self, Bool.not_false, Bool.not_true, s61, awake62]
theorem nat17 {a b c : List Nat} (ha : Limbs a) (hb : Limbs b) (hc : Limbs c) (lc : c.length ≤ 1000000000000000) : (KL AA XX).call 17 [(PV.one (D.sl (List.map n64 (a)))), (PV.one (D.sl (List.map n64 (b)))), (PV.one (D.sl (List.map n64 (c))))] = some [(PV.one (D.sc (Value.bool (true))))] := by
  have s61 := Small61 a b
  rw [c17]
  by_cases h : a.length ≤ 50 ∧ b.length ≤ 50
  · have d0 : decide (a.length ≤ 50 ∧ b.length ≤ 50) = true := decide_eq_true h
    obtain ⟨la, lb⟩ := h
    by_cases h50 : c.length ≤ 50
    · have d9 : decide ((50 : Int) < (c.length : Int)) = false := decide_eq_false (by omega)
      have hA := vlt ha la
      have hB := vlt hb lb
      have hC := vlt hc h50
      have hAB := add_lt hA hB
      have hBC := add_lt hB hC
      have lAB := dlen hAB
      have lBC := dlen hBC
      have f1 := Add66 ha hb (by omega) (by omega)
      have f2 := Add66 hb ha (by omega) (by omega)
      have f3 := Add66 (dig_limbs (val a + val b)) hc (by omega) (by omega)
      have f4 := Add66 hb hc (by omega) (by omega)
      have f5 := Add66 ha (dig_limbs (val b + val c)) (by omega) (by omega)
      have f6 := Sub63 (dig_limbs (val a + val b)) hb (by omega) (by omega)
      have f7 := Sub63 ha hb (by omega) (by omega)
      have f8 := Cmp67 ha hb (by omega) (by omega)
      have f9 := Trim68 ha (by omega)
      rw [val_dig] at f3 f5 f6
      rw [Nat.add_comm (val b) (val a)] at f2
      rw [← Nat.add_assoc] at f5
      have e6 : subV (val a + val b) (val b) = [nl (dig (val a)), .one (.sc (.bool true))] := by
        unfold subV; rw [if_pos (by omega), Nat.add_sub_cancel]
      rw [e6] at f6
      have hABC : val a + val b + val c < B64 ^ 52 := add_lt hAB (Nat.lt_of_lt_of_le hC (Nat.pow_le_pow_right B_pos (by omega)))
      have e1 := Equal65 (dig (val a + val b)) (by omega)
      have e2 := Equal65 (dig (val a + val b + val c)) (Nat.le_trans (dlen hABC) (by omega))
      have e3 := Equal65 (dig (val a)) (Nat.le_trans (dlen hA) (by omega))
      unfold subV at f7
      by_cases hle : val b ≤ val a
      · rw [if_pos hle] at f7
        have dc : decide ((0 : Int) ≤ cmpI (val a) (val b)) = true := by
          unfold cmpI; rw [if_neg (by omega)]; split <;> rfl
        have f10 := Add66 (dig_limbs (val a - val b)) hb (Nat.le_trans (dlen (Nat.lt_of_le_of_lt (Nat.sub_le _ _) hA)) (by omega)) (by omega)
        rw [val_dig, Nat.sub_add_cancel hle] at f10
        simp only [go_sem, ↓reduceIte, Nat.reduceAdd, Nat.reduceSub, Nat.reduceMul, Nat.reduceEqDiff, Nat.reduceLT, Nat.reduceShiftRight, Nat.reduceAnd, Nat.reduceBNe, Nat.reduceLeDiff, Nat.reduceBEq, Nat.testBit, Nat.zero_lt_one, Int.reduceToNat, Int.reduceNeg, Int.reduceLE, Int.reduceLT, Int.reduceEq, decide_true, decide_false, Bool.and_true, Bool.true_and, Bool.and_false, Bool.false_and, Bool.or_true, Bool.true_or, Bool.or_false, Bool.false_or, Bool.not_true, Bool.not_false, beq_self_eq_true, reduceCtorEq, Int.le_refl, Nat.add_zero, and_self, and_true, true_and, or_true, true_or, if_true, if_false, Nat.le_refl, Bool.and_self, eq_self, Bool.not_false, Bool.not_true, s61, d0, d9, awake62, f1, f2, f3, f4, f5, f6, f7, f8, f9, f10, e1, e2, e3, dc, nl]
      · rw [if_neg hle] at f7
        have dc : decide ((0 : Int) ≤ cmpI (val a) (val b)) = false := by
          unfold cmpI; rw [if_pos (by omega)]; rfl
        simp only [go_sem, ↓reduceIte, Nat.reduceAdd, Nat.reduceSub, Nat.reduceMul, Nat.reduceEqDiff, Nat.reduceLT, Nat.reduceShiftRight, Nat.reduceAnd, Nat.reduceBNe, Nat.reduceLeDiff, Nat.reduceBEq, Nat.testBit, Nat.zero_lt_one, Int.reduceToNat, Int.reduceNeg, Int.reduceLE, Int.reduceLT, Int.reduceEq, decide_true, decide_false, Bool.and_true, Bool.true_and, Bool.and_false, Bool.false_and, Bool.or_true, Bool.true_or, Bool.or_false, Bool.false_or, Bool.not_true, Bool.not_false, beq_self_eq_true, reduceCtorEq, Int.le_refl, Nat.add_zero, and_self, and_true, true_and, or_true, true_or, if_true, if_false, Nat.le_refl, Bool.and_self, eq_self, Bool.not_false, Bool.not_true, s61, d0, d9, awake62, f1, f2, f3, f4, f5, f6, f7, f8, f9, e1, e2, e3, dc, nl]
    · have d9 : decide ((50 : Int) < (c.length : Int)) = true := decide_eq_true (by omega)
      simp only [go_sem, ↓reduceIte, Nat.reduceAdd, Nat.reduceSub, Nat.reduceMul, Nat.reduceEqDiff, Nat.reduceLT, Nat.reduceShiftRight, Nat.reduceAnd, Nat.reduceBNe, Nat.reduceLeDiff, Nat.reduceBEq, Nat.testBit, Nat.zero_lt_one, Int.reduceToNat, Int.reduceNeg, Int.reduceLE, Int.reduceLT, Int.reduceEq, decide_true, decide_false, Bool.and_true, Bool.true_and, Bool.and_false, Bool.false_and, Bool.or_true, Bool.true_or, Bool.or_false, Bool.false_or, Bool.not_true, Bool.not_false, beq_self_eq_true, reduceCtorEq, Int.le_refl, Nat.add_zero, and_self, and_true, true_and, or_true, true_or, if_true, if_false, Nat.le_refl, Bool.and_self, eq_self, Bool.not_false, Bool.not_true, s61, d0, d9, awake62]
  · have d0 : decide (a.length ≤ 50 ∧ b.length ≤ 50) = false := decide_eq_false h
    simp only [go_sem, ↓reduceIte, Nat.reduceAdd, Nat.reduceSub, Nat.reduceMul, Nat.reduceEqDiff, Nat.reduceLT, Nat.reduceShiftRight, Nat.reduceAnd, Nat.reduceBNe, Nat.reduceLeDiff, Nat.reduceBEq, Nat.testBit, Nat.zero_lt_one, Int.reduceToNat, Int.reduceNeg, Int.reduceLE, Int.reduceLT, Int.reduceEq, decide_true, decide_false, Bool.and_true, Bool.true_and, Bool.and_false, Bool.false_and, Bool.or_true, Bool.true_or, Bool.or_false, Bool.false_or, Bool.not_true, Bool.not_false, beq_self_eq_true, reduceCtorEq, Int.le_refl, Nat.add_zero, and_self, and_true, true_and, or_true, true_or, if_true, if_false, Nat.le_refl, Bool.and_self, eq_self, Bool.not_false, Bool.not_true, s61, d0, awake62]
theorem nat19 {a : List Nat} (ha : Limbs a) : (KL AA XX).call 19 [(PV.one (D.sl (List.map n64 (a))))] = some [(PV.one (D.sc (Value.bool (true))))] := by
  have s61 := Small61 a []
  simp only [List.map_nil] at s61
  rw [c19]
  by_cases h : a.length ≤ 50
  · have d0 : decide (a.length ≤ 50 ∧ ([] : List Nat).length ≤ 50) = true := decide_eq_true ⟨h, by simp⟩
    have hA := vlt ha h
    rw [d0] at s61
    have f1 := Double73 ha (by omega) 0
    have f2 := Double73 ha (by omega) 1
    rw [show b2 0 = 0 from rfl, Nat.add_zero] at f1
    rw [show b2 1 = 1 from rfl] at f2
    have hD : 2 * val a < B64 ^ 51 := by rw [Nat.two_mul]; exact add_lt hA hA
    have hE : 2 * val a + 1 < B64 ^ 52 := add_lt hD (Nat.one_lt_pow (by decide) (by decide))
    have f3 := Add66 ha ha (by omega) (by omega)
    rw [← Nat.two_mul] at f3
    have l1 : Limbs [1] := Limbs.cons (by decide) Limbs.nil
    have f4 := Add66 (dig_limbs (2 * val a)) l1 (Nat.le_trans (dlen hD) (by omega)) (by simp)
    rw [val_dig, show val [1] = 1 from rfl] at f4
    simp only [List.map_cons, List.map_nil, n64, show ((1 : Nat) : Int) = 1 from rfl] at f4
    have f5 := Bits70 ha (by omega)
    have f6 := Bits70 (dig_limbs (2 * val a)) (Nat.le_trans (dlen hD) (by omega))
    have f7 := Bit71 (dig_limbs (2 * val a + 1)) (Nat.le_trans (dlen hE) (by omega)) 0 rfl
    have hb : bitN (val (dig (2 * val a + 1))) 0 = 1 := by
      rw [val_dig]
      show (if (0 : Int) < 0 then 0 else (2 * val a + 1) / 2 ^ (0 : Int).toNat % 2) = 1
      rw [if_neg (by omega), show (0 : Int).toNat = 0 from rfl, Nat.pow_zero, Nat.div_one]
      omega
    rw [hb] at f7
    rw [val_dig] at f6
    have e1 := Equal65 (dig (2 * val a)) (Nat.le_trans (dlen hD) (by omega))
    have e2 := Equal65 (dig (2 * val a + 1)) (Nat.le_trans (dlen hE) (by omega))
    have hb3 := nbits_lim hA
    by_cases hz : val a = 0
    · have hn : nbits (val a) = 0 := by rw [hz]; rfl
      have hn2 : nbits (2 * val a) = 0 := by rw [hz]; rfl
      rw [hn] at f5
      rw [hn2] at f6
      simp only [go_sem, ↓reduceIte, Nat.reduceAdd, Nat.reduceSub, Nat.reduceMul, Nat.reduceEqDiff, Nat.reduceLT, Nat.reduceShiftRight, Nat.reduceAnd, Nat.reduceBNe, Nat.reduceLeDiff, Nat.reduceBEq, Nat.testBit, Nat.zero_lt_one, Int.reduceToNat, Int.reduceNeg, Int.reduceLE, Int.reduceLT, Int.reduceEq, decide_true, decide_false, Bool.and_true, Bool.true_and, Bool.and_false, Bool.false_and, Bool.or_true, Bool.true_or, Bool.or_false, Bool.false_or, Bool.not_true, Bool.not_false, beq_self_eq_true, reduceCtorEq, Int.le_refl, Nat.add_zero, and_self, and_true, true_and, or_true, true_or, if_true, if_false, Nat.le_refl, Bool.and_self, eq_self, Bool.not_false, Bool.not_true, s61, awake62, f1, f2, f3, f4, f5, f6, f7, e1, e2, show ((0 : Nat) : Int) = 0 from rfl, show ((1 : Nat) : Int) = 1 from rfl, Int.lt_irrefl]
    · have hn2 : nbits (2 * val a) = nbits (val a) + 1 := by
        have := nbits_shift (n := 2 * val a) (s := 1) (by omega)
        rw [this, show 2 * val a / 2 ^ 1 = val a by omega]; omega
      have hp : 0 < nbits (val a) := by unfold nbits; rw [if_neg hz]; omega
      have d1 : decide ((0 : Int) < ((nbits (val a) : Nat) : Int)) = true := decide_eq_true (by omega)
      have hw := wrap_succ (nbits (val a)) (by omega)
      rw [hn2] at f6
      have d2 : decide (((nbits (val a) + 1 : Nat) : Int) = ((nbits (val a) + 1 : Nat) : Int)) = true := decide_eq_true rfl
      simp only [go_sem, ↓reduceIte, Nat.reduceAdd, Nat.reduceSub, Nat.reduceMul, Nat.reduceEqDiff, Nat.reduceLT, Nat.reduceShiftRight, Nat.reduceAnd, Nat.reduceBNe, Nat.reduceLeDiff, Nat.reduceBEq, Nat.testBit, Nat.zero_lt_one, Int.reduceToNat, Int.reduceNeg, Int.reduceLE, Int.reduceLT, Int.reduceEq, decide_true, decide_false, Bool.and_true, Bool.true_and, Bool.and_false, Bool.false_and, Bool.or_true, Bool.true_or, Bool.or_false, Bool.false_or, Bool.not_true, Bool.not_false, beq_self_eq_true, reduceCtorEq, Int.le_refl, Nat.add_zero, and_self, and_true, true_and, or_true, true_or, if_true, if_false, Nat.le_refl, Bool.and_self, eq_self, Bool.not_false, Bool.not_true, s61, awake62, f1, f2, f3, f4, f5, f6, f7, e1, e2, d1, hw, d2, show ((1 : Nat) : Int) = 1 from rfl]
  · have d0 : decide (a.length ≤ 50 ∧ ([] : List Nat).length ≤ 50) = false := decide_eq_false fun h' => h h'.1
    rw [d0] at s61
    simp only [go_sem, ↓reduceIte, Nat.reduceAdd, Nat.reduceSub, Nat.reduceMul, Nat.reduceEqDiff, Nat.reduceLT, Nat.reduceShiftRight, Nat.reduceAnd, Nat.reduceBNe, Nat.reduceLeDiff, Nat.reduceBEq, Nat.testBit, Nat.zero_lt_one, Int.reduceToNat, Int.reduceNeg, Int.reduceLE, Int.reduceLT, Int.reduceEq, decide_true, decide_false, Bool.and_true, Bool.true_and, Bool.and_false, Bool.false_and, Bool.or_true, Bool.true_or, Bool.or_false, Bool.false_or, Bool.not_true, Bool.not_false, beq_self_eq_true, reduceCtorEq, Int.le_refl, Nat.add_zero, and_self, and_true, true_and, or_true, true_or, if_true, if_false, Nat.le_refl, Bool.and_self, eq_self, Bool.not_false, Bool.not_true, s61, awake62]
end Go.Proofs.Ytpanbfainilmpaa.Ev.N
end
section
/- The laws of chapter 04 in the evaluator. -/
set_option linter.unusedVariables false
set_option linter.unusedSimpArgs false
set_option maxRecDepth 100000
set_option maxHeartbeats 4000000
namespace Go.Proofs.Ytpanbfainilmpaa.Ev.N
open Go Go.Proofs.Ytpanbfainilmpaa.Ev

theorem nbits_ne {n : Nat} (h : n ≠ 0) : decide (((nbits n : Nat) : Int) = 0) = false := by
  unfold nbits
  rw [if_neg h]
  exact decide_eq_false (by omega)
theorem rlen {M k : Nat} (hM : M ≠ 0) (h : M < B64 ^ k) (x : Nat) : (dig (x % M)).length ≤ k := mod_len hM h x
theorem cmpM {M : Nat} (hM : M ≠ 0) (x : Nat) : cmpI (x % M) M = -1 := if_pos (Nat.mod_lt _ (Nat.pos_of_ne_zero hM))

theorem mod13 {a b m : List Nat} (ha : Limbs a) (hb : Limbs b) (hm : Limbs m) : (KL AA XX).call 13 [(PV.one (D.sl (List.map n64 (a)))), (PV.one (D.sl (List.map n64 (b)))), (PV.one (D.sl (List.map n64 (m))))] = some [(PV.one (D.sc (Value.bool (true))))] := by
  have s := Small52_3 a b m 6
  rw [show (((6 : Nat)) : Int) = 6 from rfl] at s
  rw [c13]
  by_cases h : a.length ≤ 6 ∧ b.length ≤ 6 ∧ m.length ≤ 6
  · rw [decide_eq_true h] at s
    obtain ⟨la, lb, lm⟩ := h
    have f0 := Bits56 hm (by omega)
    by_cases hM : val m = 0
    · rw [hM, show nbits 0 = 0 from rfl] at f0
      simp only [go_sem, ↓reduceIte, Nat.reduceAdd, Nat.reduceSub, Nat.reduceMul, Nat.reduceEqDiff, Nat.reduceLT, Nat.reduceShiftRight, Nat.reduceAnd, Nat.reduceBNe, Nat.reduceLeDiff, Nat.reduceBEq, Nat.testBit, Nat.zero_lt_one, Int.reduceToNat, Int.reduceNeg, Int.reduceLE, Int.reduceLT, Int.reduceEq, decide_true, decide_false, Bool.and_true, Bool.true_and, Bool.and_false, Bool.false_and, Bool.or_true, Bool.true_or, Bool.or_false, Bool.false_or, Bool.not_true, Bool.not_false, beq_self_eq_true, reduceCtorEq, Int.le_refl, Nat.add_zero, and_self, and_true, true_and, or_true, true_or, if_true, if_false, Nat.le_refl, Bool.and_self, eq_self, Bool.not_false, Bool.not_true, s, f0, awake53, show ((0 : Nat) : Int) = 0 from rfl]
    · have d0 := nbits_ne hM
      have hA := vlt ha la
      have hB := vlt hb lb
      have hMl := vlt hm lm
      have f1 := Rest55 ha hm (by omega) (by omega)
      have f2 := Rest55 hb hm (by omega) (by omega)
      have f3 := Times58 ha hb hm (by omega) (by omega) (by omega)
      have l1 := rlen hM hMl (val a)
      have l2 := rlen hM hMl (val b)
      have f4 := Times58 (dig_limbs (val a % val m)) (dig_limbs (val b % val m)) hm (by omega) (by omega) (by omega)
      have f5 := Add59 ha hb (by omega) (by omega)
      have l5 := dlen (add_lt hA hB)
      have f6 := Rest55 (dig_limbs (val a + val b)) hm (by omega) (by omega)
      have f7 := Add59 (dig_limbs (val a % val m)) (dig_limbs (val b % val m)) (by omega) (by omega)
      rw [val_dig, val_dig] at f7 f4
      rw [val_dig] at f6
      have l7 : (dig (val a % val m + val b % val m)).length ≤ 7 := dlen (add_lt (Nat.lt_trans (Nat.mod_lt _ (Nat.pos_of_ne_zero hM)) hMl) (Nat.lt_trans (Nat.mod_lt _ (Nat.pos_of_ne_zero hM)) hMl))
      have f8 := Rest55 (dig_limbs (val a % val m + val b % val m)) hm (by omega) (by omega)
      rw [val_dig] at f8
      rw [restV_pos hM] at f1 f2 f3 f4 f6 f8
      rw [← Nat.mul_mod] at f4
      rw [← Nat.add_mod] at f8
      have l3 := rlen hM hMl (val a * val b)
      have l6 := rlen hM hMl (val a + val b)
      have g1 := Same57 (dig_limbs (val a * val b % val m)) (dig_limbs (val a * val b % val m)) (by omega) (by omega)
      have g2 := Same57 (dig_limbs ((val a + val b) % val m)) (dig_limbs ((val a + val b) % val m)) (by omega) (by omega)
      rw [decide_eq_true rfl] at g1 g2
      have g3 := Compare60 (dig_limbs (val a % val m)) hm (by omega) (by omega)
      rw [val_dig, cmpM hM] at g3
      simp only [go_sem, ↓reduceIte, Nat.reduceAdd, Nat.reduceSub, Nat.reduceMul, Nat.reduceEqDiff, Nat.reduceLT, Nat.reduceShiftRight, Nat.reduceAnd, Nat.reduceBNe, Nat.reduceLeDiff, Nat.reduceBEq, Nat.testBit, Nat.zero_lt_one, Int.reduceToNat, Int.reduceNeg, Int.reduceLE, Int.reduceLT, Int.reduceEq, decide_true, decide_false, Bool.and_true, Bool.true_and, Bool.and_false, Bool.false_and, Bool.or_true, Bool.true_or, Bool.or_false, Bool.false_or, Bool.not_true, Bool.not_false, beq_self_eq_true, reduceCtorEq, Int.le_refl, Nat.add_zero, and_self, and_true, true_and, or_true, true_or, if_true, if_false, Nat.le_refl, Bool.and_self, eq_self, Bool.not_false, Bool.not_true, s, f0, d0, awake53, f1, f2, f3, f4, f5, f6, f7, f8, g1, g2, g3, nl]
  · rw [decide_eq_false h] at s
    simp only [go_sem, ↓reduceIte, Nat.reduceAdd, Nat.reduceSub, Nat.reduceMul, Nat.reduceEqDiff, Nat.reduceLT, Nat.reduceShiftRight, Nat.reduceAnd, Nat.reduceBNe, Nat.reduceLeDiff, Nat.reduceBEq, Nat.testBit, Nat.zero_lt_one, Int.reduceToNat, Int.reduceNeg, Int.reduceLE, Int.reduceLT, Int.reduceEq, decide_true, decide_false, Bool.and_true, Bool.true_and, Bool.and_false, Bool.false_and, Bool.or_true, Bool.true_or, Bool.or_false, Bool.false_or, Bool.not_true, Bool.not_false, beq_self_eq_true, reduceCtorEq, Int.le_refl, Nat.add_zero, and_self, and_true, true_and, or_true, true_or, if_true, if_false, Nat.le_refl, Bool.and_self, eq_self, Bool.not_false, Bool.not_true, s, awake53]

theorem mod27 {a b m : List Nat} (ha : Limbs a) (hb : Limbs b) (hm : Limbs m) : (KL AA XX).call 27 [(PV.one (D.sl (List.map n64 (a)))), (PV.one (D.sl (List.map n64 (b)))), (PV.one (D.sl (List.map n64 (m))))] = some [(PV.one (D.sc (Value.bool (true))))] := by
  have s := Small52_3 a b m 3
  rw [show (((3 : Nat)) : Int) = 3 from rfl] at s
  rw [c27]
  by_cases h : a.length ≤ 3 ∧ b.length ≤ 3 ∧ m.length ≤ 3
  · rw [decide_eq_true h] at s
    obtain ⟨la, lb, lm⟩ := h
    have f1 := Power54 ha hb hm (by omega) (by omega) (by omega)
    have f2 := Power88 ha hb hm (by omega) (by omega) (by omega)
    have f3 := Times58 ha hb hm (by omega) (by omega) (by omega)
    have f4 := Times89 ha hb hm (by omega) (by omega) (by omega)
    have f5 := Rest55 ha hm (by omega) (by omega)
    have f6 := Rest90 ha hm (by omega) (by omega)
    obtain ⟨P, hP⟩ : ∃ P, val a ^ val b = P := ⟨_, rfl⟩
    rw [hP] at f1 f2
    by_cases hM : val m = 0
    · unfold restV at f1 f2 f3 f4 f5 f6
      rw [if_pos hM] at f1 f2 f3 f4 f5 f6
      have g := Same57 Limbs.nil Limbs.nil (by simp) (by simp)
      rw [decide_eq_true rfl, List.map_nil] at g
      simp only [go_sem, ↓reduceIte, Nat.reduceAdd, Nat.reduceSub, Nat.reduceMul, Nat.reduceEqDiff, Nat.reduceLT, Nat.reduceShiftRight, Nat.reduceAnd, Nat.reduceBNe, Nat.reduceLeDiff, Nat.reduceBEq, Nat.testBit, Nat.zero_lt_one, Int.reduceToNat, Int.reduceNeg, Int.reduceLE, Int.reduceLT, Int.reduceEq, decide_true, decide_false, Bool.and_true, Bool.true_and, Bool.and_false, Bool.false_and, Bool.or_true, Bool.true_or, Bool.or_false, Bool.false_or, Bool.not_true, Bool.not_false, beq_self_eq_true, reduceCtorEq, Int.le_refl, Nat.add_zero, and_self, and_true, true_and, or_true, true_or, if_true, if_false, Nat.le_refl, Bool.and_self, eq_self, Bool.not_false, Bool.not_true, s, awake53, f1, f2, f3, f4, f5, f6, g, nl, List.map_nil]
    · have hMl := vlt hm lm
      rw [restV_pos hM] at f1 f2 f3 f4 f5 f6
      have l1 := rlen hM hMl P
      have l2 := rlen hM hMl (val a * val b)
      have l3 := rlen hM hMl (val a)
      have g1 := Same57 (dig_limbs (P % val m)) (dig_limbs (P % val m)) (by omega) (by omega)
      have g2 := Same57 (dig_limbs (val a * val b % val m)) (dig_limbs (val a * val b % val m)) (by omega) (by omega)
      have g3 := Same57 (dig_limbs (val a % val m)) (dig_limbs (val a % val m)) (by omega) (by omega)
      rw [decide_eq_true rfl] at g1 g2 g3
      simp only [go_sem, ↓reduceIte, Nat.reduceAdd, Nat.reduceSub, Nat.reduceMul, Nat.reduceEqDiff, Nat.reduceLT, Nat.reduceShiftRight, Nat.reduceAnd, Nat.reduceBNe, Nat.reduceLeDiff, Nat.reduceBEq, Nat.testBit, Nat.zero_lt_one, Int.reduceToNat, Int.reduceNeg, Int.reduceLE, Int.reduceLT, Int.reduceEq, decide_true, decide_false, Bool.and_true, Bool.true_and, Bool.and_false, Bool.false_and, Bool.or_true, Bool.true_or, Bool.or_false, Bool.false_or, Bool.not_true, Bool.not_false, beq_self_eq_true, reduceCtorEq, Int.le_refl, Nat.add_zero, and_self, and_true, true_and, or_true, true_or, if_true, if_false, Nat.le_refl, Bool.and_self, eq_self, Bool.not_false, Bool.not_true, s, awake53, f1, f2, f3, f4, f5, f6, g1, g2, g3, nl]
  · rw [decide_eq_false h] at s
    simp only [go_sem, ↓reduceIte, Nat.reduceAdd, Nat.reduceSub, Nat.reduceMul, Nat.reduceEqDiff, Nat.reduceLT, Nat.reduceShiftRight, Nat.reduceAnd, Nat.reduceBNe, Nat.reduceLeDiff, Nat.reduceBEq, Nat.testBit, Nat.zero_lt_one, Int.reduceToNat, Int.reduceNeg, Int.reduceLE, Int.reduceLT, Int.reduceEq, decide_true, decide_false, Bool.and_true, Bool.true_and, Bool.and_false, Bool.false_and, Bool.or_true, Bool.true_or, Bool.or_false, Bool.false_or, Bool.not_true, Bool.not_false, beq_self_eq_true, reduceCtorEq, Int.le_refl, Nat.add_zero, and_self, and_true, true_and, or_true, true_or, if_true, if_false, Nat.le_refl, Bool.and_self, eq_self, Bool.not_false, Bool.not_true, s, awake53]

theorem mod29 {a e m : List Nat} (ha : Limbs a) (he : Limbs e) (hm : Limbs m) : (KL AA XX).call 29 [(PV.one (D.sl (List.map n64 (a)))), (PV.one (D.sl (List.map n64 (e)))), (PV.one (D.sl (List.map n64 (m))))] = some [(PV.one (D.sc (Value.bool (true))))] := by
  have s := Small52_3 a e m 4
  rw [show (((4 : Nat)) : Int) = 4 from rfl] at s
  rw [c29]
  by_cases h : a.length ≤ 4 ∧ e.length ≤ 4 ∧ m.length ≤ 4
  · rw [decide_eq_true h] at s
    obtain ⟨la, le, lm⟩ := h
    have f0 := Bits56 hm (by omega)
    by_cases hM : val m = 0
    · rw [hM, show nbits 0 = 0 from rfl] at f0
      simp only [go_sem, ↓reduceIte, Nat.reduceAdd, Nat.reduceSub, Nat.reduceMul, Nat.reduceEqDiff, Nat.reduceLT, Nat.reduceShiftRight, Nat.reduceAnd, Nat.reduceBNe, Nat.reduceLeDiff, Nat.reduceBEq, Nat.testBit, Nat.zero_lt_one, Int.reduceToNat, Int.reduceNeg, Int.reduceLE, Int.reduceLT, Int.reduceEq, decide_true, decide_false, Bool.and_true, Bool.true_and, Bool.and_false, Bool.false_and, Bool.or_true, Bool.true_or, Bool.or_false, Bool.false_or, Bool.not_true, Bool.not_false, beq_self_eq_true, reduceCtorEq, Int.le_refl, Nat.add_zero, and_self, and_true, true_and, or_true, true_or, if_true, if_false, Nat.le_refl, Bool.and_self, eq_self, Bool.not_false, Bool.not_true, s, f0, awake53, show ((0 : Nat) : Int) = 0 from rfl]
    · have d0 := nbits_ne hM
      have hA := vlt ha la
      have hE := vlt he le
      have hMl := vlt hm lm
      have one := one_limb (show 1 < B64 by decide)
      have f1 := Power54 ha he hm (by omega) (by omega) (by omega)
      have f2 := Add59 he one (by omega) (by simp)
      rw [val_one] at f2
      have l2 : (dig (val e + 1)).length ≤ 5 := dlen (add_lt hE (Nat.one_lt_pow (by decide) (by decide)))
      have f3 := Power54 ha (dig_limbs (val e + 1)) hm (by omega) (by omega) (by omega)
      rw [val_dig, Nat.pow_succ] at f3
      obtain ⟨P, hP⟩ : ∃ P, val a ^ val e = P := ⟨_, rfl⟩
      rw [hP] at f1 f3
      have lP := rlen hM hMl P
      have f4 := Times58 (dig_limbs (P % val m)) ha hm (by omega) (by omega) (by omega)
      rw [val_dig] at f4
      have f5 := Power54 ha Limbs.nil hm (by omega) (by simp) (by omega)
      rw [show val [] = 0 from rfl, Nat.pow_zero] at f5
      have f6 := Rest55 one hm (by simp) (by omega)
      rw [val_one] at f6
      have f7 := Add59 ha hm (by omega) (by omega)
      have l7 := dlen (add_lt hA hMl)
      have f8 := Power54 (dig_limbs (val a + val m)) he hm (by omega) (by omega) (by omega)
      rw [val_dig] at f8
      rw [restV_pos hM] at f1 f3 f4 f5 f6 f8
      rw [Nat.mod_mul_mod] at f4
      rw [Nat.pow_mod, Nat.add_mod_right, ← Nat.pow_mod, hP] at f8
      simp only [List.map_cons, List.map_nil, n64, show ((1 : Nat) : Int) = 1 from rfl] at f2 f5 f6
      have lQ := rlen hM hMl (P * val a)
      have l1 := rlen hM hMl 1
      have g1 := Same57 (dig_limbs (P % val m)) (dig_limbs (P % val m)) (by omega) (by omega)
      have g2 := Same57 (dig_limbs (P * val a % val m)) (dig_limbs (P * val a % val m)) (by omega) (by omega)
      have g3 := Same57 (dig_limbs (1 % val m)) (dig_limbs (1 % val m)) (by omega) (by omega)
      rw [decide_eq_true rfl] at g1 g2 g3
      simp only [go_sem, ↓reduceIte, Nat.reduceAdd, Nat.reduceSub, Nat.reduceMul, Nat.reduceEqDiff, Nat.reduceLT, Nat.reduceShiftRight, Nat.reduceAnd, Nat.reduceBNe, Nat.reduceLeDiff, Nat.reduceBEq, Nat.testBit, Nat.zero_lt_one, Int.reduceToNat, Int.reduceNeg, Int.reduceLE, Int.reduceLT, Int.reduceEq, decide_true, decide_false, Bool.and_true, Bool.true_and, Bool.and_false, Bool.false_and, Bool.or_true, Bool.true_or, Bool.or_false, Bool.false_or, Bool.not_true, Bool.not_false, beq_self_eq_true, reduceCtorEq, Int.le_refl, Nat.add_zero, and_self, and_true, true_and, or_true, true_or, if_true, if_false, Nat.le_refl, Bool.and_self, eq_self, Bool.not_false, Bool.not_true, s, f0, d0, awake53, f1, f2, f3, f4, f5, f6, f7, f8, g1, g2, g3, nl]
  · rw [decide_eq_false h] at s
    simp only [go_sem, ↓reduceIte, Nat.reduceAdd, Nat.reduceSub, Nat.reduceMul, Nat.reduceEqDiff, Nat.reduceLT, Nat.reduceShiftRight, Nat.reduceAnd, Nat.reduceBNe, Nat.reduceLeDiff, Nat.reduceBEq, Nat.testBit, Nat.zero_lt_one, Int.reduceToNat, Int.reduceNeg, Int.reduceLE, Int.reduceLT, Int.reduceEq, decide_true, decide_false, Bool.and_true, Bool.true_and, Bool.and_false, Bool.false_and, Bool.or_true, Bool.true_or, Bool.or_false, Bool.false_or, Bool.not_true, Bool.not_false, beq_self_eq_true, reduceCtorEq, Int.le_refl, Nat.add_zero, and_self, and_true, true_and, or_true, true_or, if_true, if_false, Nat.le_refl, Bool.and_self, eq_self, Bool.not_false, Bool.not_true, s, awake53]

theorem mod28_gen {a b m e f : List Nat} (ha : Limbs a) (hb : Limbs b) (hm : Limbs m) (he : Limbs e) (hf : Limbs f) (le : e.length = 1) (lf : f.length = 1) (xe : List.map n64 e = [[D.sc (Value.int .u64 29)]]) (xf : List.map n64 f = [[D.sc (Value.int .u64 1000003)]]) : (KL AA XX).call 28 [(PV.one (D.sl (List.map n64 (a)))), (PV.one (D.sl (List.map n64 (b)))), (PV.one (D.sl (List.map n64 (m))))] = some [(PV.one (D.sc (Value.bool (true))))] := by
  have s := Small52_3 a b m 4
  rw [show (((4 : Nat)) : Int) = 4 from rfl] at s
  rw [c28]
  by_cases h : a.length ≤ 4 ∧ b.length ≤ 4 ∧ m.length ≤ 4
  · rw [decide_eq_true h] at s
    obtain ⟨la, lb, lm⟩ := h
    have f0 := Bits56 hm (by omega)
    by_cases hM : val m = 0
    · rw [hM, show nbits 0 = 0 from rfl] at f0
      simp only [go_sem, ↓reduceIte, Nat.reduceAdd, Nat.reduceSub, Nat.reduceMul, Nat.reduceEqDiff, Nat.reduceLT, Nat.reduceShiftRight, Nat.reduceAnd, Nat.reduceBNe, Nat.reduceLeDiff, Nat.reduceBEq, Nat.testBit, Nat.zero_lt_one, Int.reduceToNat, Int.reduceNeg, Int.reduceLE, Int.reduceLT, Int.reduceEq, decide_true, decide_false, Bool.and_true, Bool.true_and, Bool.and_false, Bool.false_and, Bool.or_true, Bool.true_or, Bool.or_false, Bool.false_or, Bool.not_true, Bool.not_false, beq_self_eq_true, reduceCtorEq, Int.le_refl, Nat.add_zero, and_self, and_true, true_and, or_true, true_or, if_true, if_false, Nat.le_refl, Bool.and_self, eq_self, Bool.not_false, Bool.not_true, s, f0, awake53, show ((0 : Nat) : Int) = 0 from rfl]
    · have d0 := nbits_ne hM
      have hA := vlt ha la
      have hB := vlt hb lb
      have hMl := vlt hm lm
      have hE := vlt he (Nat.le_of_eq le)
      have hF := vlt hf (Nat.le_of_eq lf)
      obtain ⟨A, xA⟩ : ∃ A, val a = A := ⟨_, rfl⟩
      obtain ⟨B, xB⟩ : ∃ B, val b = B := ⟨_, rfl⟩
      obtain ⟨M, xM⟩ : ∃ M, val m = M := ⟨_, rfl⟩
      obtain ⟨E, xE⟩ : ∃ E, val e = E := ⟨_, rfl⟩
      obtain ⟨F, xF⟩ : ∃ F, val f = F := ⟨_, rfl⟩
      have x1 := Power54 ha he hm (by omega) (by omega) (by omega)
      have y1 := Power54 ha hf hm (by omega) (by omega) (by omega)
      have ef := Add59 he hf (by omega) (by omega)
      have lef := dlen (add_lt hE hF)
      have sum := Power54 ha (dig_limbs (val e + val f)) hm (by omega) (by omega) (by omega)
      rw [val_dig] at sum
      have ab := Times58 ha hb hm (by omega) (by omega) (by omega)
      have d1 := Power54 hb he hm (by omega) (by omega) (by omega)
      simp only [xA, xB, xM, xE, xF] at x1 y1 ef sum ab d1 hMl lef f0 d0 hM
      rw [restV_pos hM] at x1 y1 sum ab d1
      have ll := fun x => rlen hM hMl x
      have z1 := Times58 (dig_limbs (A ^ E % M)) (dig_limbs (A ^ F % M)) hm (by have := ll (A ^ E); omega) (by have := ll (A ^ F); omega) (by omega)
      have again := Power54 (dig_limbs (A ^ E % M)) hf hm (by have := ll (A ^ E); omega) (by omega) (by omega)
      have both := Power54 (dig_limbs (A ^ F % M)) he hm (by have := ll (A ^ F); omega) (by omega) (by omega)
      have c1 := Power54 (dig_limbs (A * B % M)) he hm (by have := ll (A * B); omega) (by omega) (by omega)
      have g1 := Times58 (dig_limbs (A ^ E % M)) (dig_limbs (B ^ E % M)) hm (by have := ll (A ^ E); omega) (by have := ll (B ^ E); omega) (by omega)
      rw [val_dig, val_dig] at z1 g1
      rw [val_dig] at again both c1
      simp only [xM, xE, xF] at z1 again both c1 g1
      rw [restV_pos hM] at z1 again both c1 g1
      rw [← Nat.mul_mod, ← Nat.pow_add] at z1
      rw [← Nat.pow_mod, ← Nat.pow_mul] at again both
      rw [Nat.mul_comm F E] at both
      rw [← Nat.pow_mod] at c1
      rw [← Nat.mul_mod, ← Nat.mul_pow] at g1
      obtain ⟨X, hX⟩ : ∃ X, A ^ E % M = X := ⟨_, rfl⟩
      have lX := ll (A ^ E)
      have k1 := Compare60 (dig_limbs (A ^ E % M)) hm (by omega) (by omega)
      rw [val_dig, xM, cmpM hM] at k1
      obtain ⟨Z, hZ⟩ : ∃ Z, A ^ (E + F) % M = Z := ⟨_, rfl⟩
      have lZ := ll (A ^ (E + F))
      have k2 := Compare60 (dig_limbs (A ^ (E + F) % M)) hm (by omega) (by omega)
      rw [val_dig, xM, cmpM hM] at k2
      obtain ⟨G, hG⟩ : ∃ G, A ^ (E * F) % M = G := ⟨_, rfl⟩
      have lG := ll (A ^ (E * F))
      obtain ⟨H, hH⟩ : ∃ H, (A * B) ^ E % M = H := ⟨_, rfl⟩
      have lH := ll ((A * B) ^ E)
      rw [hX] at lX x1 z1 again g1 k1
      rw [hZ] at lZ z1 sum k2
      rw [hG] at lG again both
      rw [hH] at lH c1 g1
      have s1 := Same57 (dig_limbs Z) (dig_limbs Z) (by omega) (by omega)
      have s2 := Same57 (dig_limbs G) (dig_limbs G) (by omega) (by omega)
      have s3 := Same57 (dig_limbs H) (dig_limbs H) (by omega) (by omega)
      rw [decide_eq_true rfl] at s1 s2 s3
      rw [xe] at x1 ef both c1 d1
      rw [xf] at y1 ef again
      simp only [go_sem, ↓reduceIte, Nat.reduceAdd, Nat.reduceSub, Nat.reduceMul, Nat.reduceEqDiff, Nat.reduceLT, Nat.reduceShiftRight, Nat.reduceAnd, Nat.reduceBNe, Nat.reduceLeDiff, Nat.reduceBEq, Nat.testBit, Nat.zero_lt_one, Int.reduceToNat, Int.reduceNeg, Int.reduceLE, Int.reduceLT, Int.reduceEq, decide_true, decide_false, Bool.and_true, Bool.true_and, Bool.and_false, Bool.false_and, Bool.or_true, Bool.true_or, Bool.or_false, Bool.false_or, Bool.not_true, Bool.not_false, beq_self_eq_true, reduceCtorEq, Int.le_refl, Nat.add_zero, and_self, and_true, true_and, or_true, true_or, if_true, if_false, Nat.le_refl, Bool.and_self, eq_self, Bool.not_false, Bool.not_true, s, f0, d0, awake53, x1, y1, ef, sum, ab, d1, z1, again, both, c1, g1, k1, k2, s1, s2, s3, nl]
  · rw [decide_eq_false h] at s
    simp only [go_sem, ↓reduceIte, Nat.reduceAdd, Nat.reduceSub, Nat.reduceMul, Nat.reduceEqDiff, Nat.reduceLT, Nat.reduceShiftRight, Nat.reduceAnd, Nat.reduceBNe, Nat.reduceLeDiff, Nat.reduceBEq, Nat.testBit, Nat.zero_lt_one, Int.reduceToNat, Int.reduceNeg, Int.reduceLE, Int.reduceLT, Int.reduceEq, decide_true, decide_false, Bool.and_true, Bool.true_and, Bool.and_false, Bool.false_and, Bool.or_true, Bool.true_or, Bool.or_false, Bool.false_or, Bool.not_true, Bool.not_false, beq_self_eq_true, reduceCtorEq, Int.le_refl, Nat.add_zero, and_self, and_true, true_and, or_true, true_or, if_true, if_false, Nat.le_refl, Bool.and_self, eq_self, Bool.not_false, Bool.not_true, s, awake53]
theorem mod28 {a b m : List Nat} (ha : Limbs a) (hb : Limbs b) (hm : Limbs m) : (KL AA XX).call 28 [(PV.one (D.sl (List.map n64 (a)))), (PV.one (D.sl (List.map n64 (b)))), (PV.one (D.sl (List.map n64 (m))))] = some [(PV.one (D.sc (Value.bool (true))))] :=
  mod28_gen ha hb hm (one_limb (show 29 < B64 by decide)) (one_limb (show 1000003 < B64 by decide)) rfl rfl rfl rfl

theorem six_idx {i : Nat} (h : i < 6) : [(C.d (D.sc (Value.int IntKind.u64 (2)))), (C.d (D.sc (Value.int IntKind.u64 (3)))), (C.d (D.sc (Value.int IntKind.u64 (23)))), (C.d (D.sc (Value.int IntKind.u64 (2039)))), (C.d (D.sc (Value.int IntKind.u64 (65537)))), (C.d (D.sc (Value.int IntKind.u64 (2305843009213693951))))][i]? = some ((C.d (D.sc (Value.int IntKind.u64 ((six i : Nat)))))) := by
  match i, h with
  | 0, _ => rfl
  | 1, _ => rfl
  | 2, _ => rfl
  | 3, _ => rfl
  | 4, _ => rfl
  | 5, _ => rfl
theorem six_two (i : Nat) : 2 ≤ six i ∧ six i < B64 := by
  unfold six
  split <;> exact ⟨by decide, by decide⟩
theorem mod10 {a : List Nat} (ha : Limbs a) (w : Nat) (hw : w < 256) : (KL AA XX).call 10 [(PV.one (D.sl (List.map n64 (a)))), (PV.one (D.sc (Value.int IntKind.u8 (w))))] = some [(PV.one (D.sc (Value.bool (true))))] := by
  have s := Small52_1 a 4
  rw [show (((4 : Nat)) : Int) = 4 from rfl] at s
  rw [c10]
  by_cases h : a.length ≤ 4
  · rw [decide_eq_true h] at s
    have hA := vlt ha h
    have hi : w % 6 < 6 := Nat.mod_lt _ (by omega)
    have hx := six_idx hi
    have hr : (w : Int).tmod 6 = ((w % 6 : Nat) : Int) := rfl
    obtain ⟨p2, pB⟩ := six_two (w % 6)
    have hferm := six_fermat (w % 6) (val a)
    obtain ⟨p, hp⟩ : ∃ p, six (w % 6) = p := ⟨_, rfl⟩
    rw [hp] at hx p2 pB hferm
    have q1 : (((w % 6 : Nat) : Int) < ((6 : Nat) : Int)) = True := eq_true (by omega)
    have w1 : IntKind.u64.wrap ((p : Int) - 1) = ((p - 1 : Nat) : Int) := by
      rw [show (p : Int) - 1 = ((p - 1 : Nat) : Int) by omega]
      exact wrap_u64_lt (by omega)
    have f1 := Power54 ha (one_limb (show p - 1 < B64 by omega)) (one_limb pB) (by omega) (by simp) (by simp)
    have f2 := Rest55 ha (one_limb pB) (by omega) (by simp)
    rw [val_one, val_one, restV_pos (by omega)] at f1
    rw [val_one, restV_pos (by omega)] at f2
    have hpB : p < B64 ^ 1 := by rw [Nat.pow_one]; exact pB
    have l2 := rlen (by omega) hpB (val a)
    have f3 := Bits56 (dig_limbs (val a % p)) (by omega)
    rw [val_dig] at f3
    by_cases h0 : val a % p = 0
    · have e0 : val a ^ (p - 1) % p = 0 := by rw [Nat.pow_mod, h0, Nat.zero_pow (by omega), Nat.zero_mod]
      rw [e0, dig_zero] at f1
      rw [h0, dig_zero] at f2
      rw [h0, dig_zero, show nbits 0 = 0 from rfl] at f3
      simp only [List.map_cons, List.map_nil, n64, nl, show ((0 : Nat) : Int) = 0 from rfl] at f1 f2 f3
      simp only [go_sem, ↓reduceIte, Nat.reduceAdd, Nat.reduceSub, Nat.reduceMul, Nat.reduceEqDiff, Nat.reduceLT, Nat.reduceShiftRight, Nat.reduceAnd, Nat.reduceBNe, Nat.reduceLeDiff, Nat.reduceBEq, Nat.testBit, Nat.zero_lt_one, Int.reduceToNat, Int.reduceNeg, Int.reduceLE, Int.reduceLT, Int.reduceEq, decide_true, decide_false, Bool.and_true, Bool.true_and, Bool.and_false, Bool.false_and, Bool.or_true, Bool.true_or, Bool.or_false, Bool.false_or, Bool.not_true, Bool.not_false, beq_self_eq_true, reduceCtorEq, Int.le_refl, Nat.add_zero, and_self, and_true, true_and, or_true, true_or, if_true, if_false, Nat.le_refl, Bool.and_self, eq_self, Bool.not_false, Bool.not_true, s, awake53, hr, hx, q1, w1, Nat.mul_one, f1, f2, f3, show ((0 : Nat) : Int) = 0 from rfl]
    · rw [hferm h0, show dig 1 = [1] by decide] at f1
      have d0 := nbits_ne h0
      have g := Same57 (one_limb (show 1 < B64 by decide)) (one_limb (show 1 < B64 by decide)) (by simp) (by simp)
      rw [decide_eq_true rfl] at g
      simp only [List.map_cons, List.map_nil, n64, nl, show ((1 : Nat) : Int) = 1 from rfl] at f1 f2 f3 g
      simp only [go_sem, ↓reduceIte, Nat.reduceAdd, Nat.reduceSub, Nat.reduceMul, Nat.reduceEqDiff, Nat.reduceLT, Nat.reduceShiftRight, Nat.reduceAnd, Nat.reduceBNe, Nat.reduceLeDiff, Nat.reduceBEq, Nat.testBit, Nat.zero_lt_one, Int.reduceToNat, Int.reduceNeg, Int.reduceLE, Int.reduceLT, Int.reduceEq, decide_true, decide_false, Bool.and_true, Bool.true_and, Bool.and_false, Bool.false_and, Bool.or_true, Bool.true_or, Bool.or_false, Bool.false_or, Bool.not_true, Bool.not_false, beq_self_eq_true, reduceCtorEq, Int.le_refl, Nat.add_zero, and_self, and_true, true_and, or_true, true_or, if_true, if_false, Nat.le_refl, Bool.and_self, eq_self, Bool.not_false, Bool.not_true, s, awake53, hr, hx, q1, w1, Nat.mul_one, f1, f2, f3, d0, g]
  · rw [decide_eq_false h] at s
    simp only [go_sem, ↓reduceIte, Nat.reduceAdd, Nat.reduceSub, Nat.reduceMul, Nat.reduceEqDiff, Nat.reduceLT, Nat.reduceShiftRight, Nat.reduceAnd, Nat.reduceBNe, Nat.reduceLeDiff, Nat.reduceBEq, Nat.testBit, Nat.zero_lt_one, Int.reduceToNat, Int.reduceNeg, Int.reduceLE, Int.reduceLT, Int.reduceEq, decide_true, decide_false, Bool.and_true, Bool.true_and, Bool.and_false, Bool.false_and, Bool.or_true, Bool.true_or, Bool.or_false, Bool.false_or, Bool.not_true, Bool.not_false, beq_self_eq_true, reduceCtorEq, Int.le_refl, Nat.add_zero, and_self, and_true, true_and, or_true, true_or, if_true, if_false, Nat.le_refl, Bool.and_self, eq_self, Bool.not_false, Bool.not_true, s, awake53]
end Go.Proofs.Ytpanbfainilmpaa.Ev.N
end
section
/- The functions' texts are the program's. -/
set_option linter.unusedVariables false
set_option linter.unusedSimpArgs false
set_option maxRecDepth 100000
namespace Go.Proofs.Ytpanbfainilmpaa.Ev.N
open Go.Proofs Go.Proofs.Ytpanbfainilmpaa.Ev
def NI : Nat → Bool := fun f => f == 117 || f == 118 || f == 121 || f == 126 || f == 127
def Ent (f : Nat) (a : AFunc) : Prop := ∃ fn, Try.prog.funcs[f]? = some fn ∧ a.bare = compF Try.prog NI fn ∧ a.body.cl = true ∧ okF Try.prog fn = true
theorem e10 : Ent 10 a10 := ⟨Try.f10, by kernel_rfl, by kernel_rfl, by kernel_rfl, by kernel_rfl⟩
theorem e13 : Ent 13 a13 := ⟨Try.f13, by kernel_rfl, by kernel_rfl, by kernel_rfl, by kernel_rfl⟩
theorem e15 : Ent 15 a15 := ⟨Try.f15, by kernel_rfl, by kernel_rfl, by kernel_rfl, by kernel_rfl⟩
theorem e16 : Ent 16 a16 := ⟨Try.f16, by kernel_rfl, by kernel_rfl, by kernel_rfl, by kernel_rfl⟩
theorem e17 : Ent 17 a17 := ⟨Try.f17, by kernel_rfl, by kernel_rfl, by kernel_rfl, by kernel_rfl⟩
theorem e18 : Ent 18 a18 := ⟨Try.f18, by kernel_rfl, by kernel_rfl, by kernel_rfl, by kernel_rfl⟩
theorem e19 : Ent 19 a19 := ⟨Try.f19, by kernel_rfl, by kernel_rfl, by kernel_rfl, by kernel_rfl⟩
theorem e22 : Ent 22 a22 := ⟨Try.f22, by kernel_rfl, by kernel_rfl, by kernel_rfl, by kernel_rfl⟩
theorem e23 : Ent 23 a23 := ⟨Try.f23, by kernel_rfl, by kernel_rfl, by kernel_rfl, by kernel_rfl⟩
theorem e24 : Ent 24 a24 := ⟨Try.f24, by kernel_rfl, by kernel_rfl, by kernel_rfl, by kernel_rfl⟩
theorem e25 : Ent 25 a25 := ⟨Try.f25, by kernel_rfl, by kernel_rfl, by kernel_rfl, by kernel_rfl⟩
theorem e26 : Ent 26 a26 := ⟨Try.f26, by kernel_rfl, by kernel_rfl, by kernel_rfl, by kernel_rfl⟩
theorem e27 : Ent 27 a27 := ⟨Try.f27, by kernel_rfl, by kernel_rfl, by kernel_rfl, by kernel_rfl⟩
theorem e28 : Ent 28 a28 := ⟨Try.f28, by kernel_rfl, by kernel_rfl, by kernel_rfl, by kernel_rfl⟩
theorem e29 : Ent 29 a29 := ⟨Try.f29, by kernel_rfl, by kernel_rfl, by kernel_rfl, by kernel_rfl⟩
theorem e52 : Ent 52 a52 := ⟨Try.f52, by kernel_rfl, by kernel_rfl, by kernel_rfl, by kernel_rfl⟩
theorem e53 : Ent 53 a53 := ⟨Try.f53, by kernel_rfl, by kernel_rfl, by kernel_rfl, by kernel_rfl⟩
theorem e54 : Ent 54 a54 := ⟨Try.f54, by kernel_rfl, by kernel_rfl, by kernel_rfl, by kernel_rfl⟩
theorem e55 : Ent 55 a55 := ⟨Try.f55, by kernel_rfl, by kernel_rfl, by kernel_rfl, by kernel_rfl⟩
theorem e56 : Ent 56 a56 := ⟨Try.f56, by kernel_rfl, by kernel_rfl, by kernel_rfl, by kernel_rfl⟩
theorem e57 : Ent 57 a57 := ⟨Try.f57, by kernel_rfl, by kernel_rfl, by kernel_rfl, by kernel_rfl⟩
theorem e58 : Ent 58 a58 := ⟨Try.f58, by kernel_rfl, by kernel_rfl, by kernel_rfl, by kernel_rfl⟩
theorem e59 : Ent 59 a59 := ⟨Try.f59, by kernel_rfl, by kernel_rfl, by kernel_rfl, by kernel_rfl⟩
theorem e60 : Ent 60 a60 := ⟨Try.f60, by kernel_rfl, by kernel_rfl, by kernel_rfl, by kernel_rfl⟩
theorem e61 : Ent 61 a61 := ⟨Try.f61, by kernel_rfl, by kernel_rfl, by kernel_rfl, by kernel_rfl⟩
theorem e62 : Ent 62 a62 := ⟨Try.f62, by kernel_rfl, by kernel_rfl, by kernel_rfl, by kernel_rfl⟩
theorem e64 : Ent 64 a64 := ⟨Try.f64, by kernel_rfl, by kernel_rfl, by kernel_rfl, by kernel_rfl⟩
theorem e65 : Ent 65 a65 := ⟨Try.f65, by kernel_rfl, by kernel_rfl, by kernel_rfl, by kernel_rfl⟩
theorem e68 : Ent 68 a68 := ⟨Try.f68, by kernel_rfl, by kernel_rfl, by kernel_rfl, by kernel_rfl⟩
theorem e69 : Ent 69 a69 := ⟨Try.f69, by kernel_rfl, by kernel_rfl, by kernel_rfl, by kernel_rfl⟩
theorem e70 : Ent 70 a70 := ⟨Try.f70, by kernel_rfl, by kernel_rfl, by kernel_rfl, by kernel_rfl⟩
theorem e71 : Ent 71 a71 := ⟨Try.f71, by kernel_rfl, by kernel_rfl, by kernel_rfl, by kernel_rfl⟩
theorem e72 : Ent 72 a72 := ⟨Try.f72, by kernel_rfl, by kernel_rfl, by kernel_rfl, by kernel_rfl⟩
theorem e73 : Ent 73 a73 := ⟨Try.f73, by kernel_rfl, by kernel_rfl, by kernel_rfl, by kernel_rfl⟩
theorem e74 : Ent 74 a74 := ⟨Try.f74, by kernel_rfl, by kernel_rfl, by kernel_rfl, by kernel_rfl⟩
theorem e82 : Ent 82 a82 := ⟨Try.f82, by kernel_rfl, by kernel_rfl, by kernel_rfl, by kernel_rfl⟩
theorem e83 : Ent 83 a83 := ⟨Try.f83, by kernel_rfl, by kernel_rfl, by kernel_rfl, by kernel_rfl⟩
theorem e84 : Ent 84 a84 := ⟨Try.f84, by kernel_rfl, by kernel_rfl, by kernel_rfl, by kernel_rfl⟩
theorem e85 : Ent 85 a85 := ⟨Try.f85, by kernel_rfl, by kernel_rfl, by kernel_rfl, by kernel_rfl⟩
theorem e86 : Ent 86 a86 := ⟨Try.f86, by kernel_rfl, by kernel_rfl, by kernel_rfl, by kernel_rfl⟩
theorem e87 : Ent 87 a87 := ⟨Try.f87, by kernel_rfl, by kernel_rfl, by kernel_rfl, by kernel_rfl⟩
theorem e88 : Ent 88 a88 := ⟨Try.f88, by kernel_rfl, by kernel_rfl, by kernel_rfl, by kernel_rfl⟩
theorem e89 : Ent 89 a89 := ⟨Try.f89, by kernel_rfl, by kernel_rfl, by kernel_rfl, by kernel_rfl⟩
theorem e90 : Ent 90 a90 := ⟨Try.f90, by kernel_rfl, by kernel_rfl, by kernel_rfl, by kernel_rfl⟩
theorem e94 : Ent 94 a94 := ⟨Try.f94, by kernel_rfl, by kernel_rfl, by kernel_rfl, by kernel_rfl⟩
theorem e95 : Ent 95 a95 := ⟨Try.f95, by kernel_rfl, by kernel_rfl, by kernel_rfl, by kernel_rfl⟩
theorem e96 : Ent 96 a96 := ⟨Try.f96, by kernel_rfl, by kernel_rfl, by kernel_rfl, by kernel_rfl⟩
theorem e97 : Ent 97 a97 := ⟨Try.f97, by kernel_rfl, by kernel_rfl, by kernel_rfl, by kernel_rfl⟩
theorem e98 : Ent 98 a98 := ⟨Try.f98, by kernel_rfl, by kernel_rfl, by kernel_rfl, by kernel_rfl⟩
theorem e99 : Ent 99 a99 := ⟨Try.f99, by kernel_rfl, by kernel_rfl, by kernel_rfl, by kernel_rfl⟩
theorem e101 : Ent 101 a101 := ⟨Try.f101, by kernel_rfl, by kernel_rfl, by kernel_rfl, by kernel_rfl⟩
theorem e104 : Ent 104 a104 := ⟨Try.f104, by kernel_rfl, by kernel_rfl, by kernel_rfl, by kernel_rfl⟩
theorem e115 : Ent 115 a115 := ⟨Try.f115, by kernel_rfl, by kernel_rfl, by kernel_rfl, by kernel_rfl⟩
theorem e116 : Ent 116 a116 := ⟨Try.f116, by kernel_rfl, by kernel_rfl, by kernel_rfl, by kernel_rfl⟩
theorem e117 : Ent 117 a117 := ⟨Try.f117, by kernel_rfl, by kernel_rfl, by kernel_rfl, by kernel_rfl⟩
theorem e118 : Ent 118 a118 := ⟨Try.f118, by kernel_rfl, by kernel_rfl, by kernel_rfl, by kernel_rfl⟩
theorem e119 : Ent 119 a119 := ⟨Try.f119, by kernel_rfl, by kernel_rfl, by kernel_rfl, by kernel_rfl⟩
theorem e120 : Ent 120 a120 := ⟨Try.f120, by kernel_rfl, by kernel_rfl, by kernel_rfl, by kernel_rfl⟩
theorem e121 : Ent 121 a121 := ⟨Try.f121, by kernel_rfl, by kernel_rfl, by kernel_rfl, by kernel_rfl⟩
theorem e123 : Ent 123 a123 := ⟨Try.f123, by kernel_rfl, by kernel_rfl, by kernel_rfl, by kernel_rfl⟩
theorem e126 : Ent 126 a126 := ⟨Try.f126, by kernel_rfl, by kernel_rfl, by kernel_rfl, by kernel_rfl⟩
theorem e127 : Ent 127 a127 := ⟨Try.f127, by kernel_rfl, by kernel_rfl, by kernel_rfl, by kernel_rfl⟩
theorem ents : ∀ f a, AA f = some a → Ent f a := by
  intro f fn' h
  unfold AA at h
  split at h
  · cases h; exact e10
  · cases h; exact e13
  · cases h; exact e15
  · cases h; exact e16
  · cases h; exact e17
  · cases h; exact e18
  · cases h; exact e19
  · cases h; exact e22
  · cases h; exact e23
  · cases h; exact e24
  · cases h; exact e25
  · cases h; exact e26
  · cases h; exact e27
  · cases h; exact e28
  · cases h; exact e29
  · cases h; exact e52
  · cases h; exact e53
  · cases h; exact e54
  · cases h; exact e55
  · cases h; exact e56
  · cases h; exact e57
  · cases h; exact e58
  · cases h; exact e59
  · cases h; exact e60
  · cases h; exact e61
  · cases h; exact e62
  · cases h; exact e64
  · cases h; exact e65
  · cases h; exact e68
  · cases h; exact e69
  · cases h; exact e70
  · cases h; exact e71
  · cases h; exact e72
  · cases h; exact e73
  · cases h; exact e74
  · cases h; exact e82
  · cases h; exact e83
  · cases h; exact e84
  · cases h; exact e85
  · cases h; exact e86
  · cases h; exact e87
  · cases h; exact e88
  · cases h; exact e89
  · cases h; exact e90
  · cases h; exact e94
  · cases h; exact e95
  · cases h; exact e96
  · cases h; exact e97
  · cases h; exact e98
  · cases h; exact e99
  · cases h; exact e101
  · cases h; exact e104
  · cases h; exact e115
  · cases h; exact e116
  · cases h; exact e117
  · cases h; exact e118
  · cases h; exact e119
  · cases h; exact e120
  · cases h; exact e121
  · cases h; exact e123
  · cases h; exact e126
  · cases h; exact e127
  · cases h
end Go.Proofs.Ytpanbfainilmpaa.Ev.N
end
section
/- Closed facts of the program that every claim of this seat asks, each proved alone. -/
set_option linter.unusedVariables false
set_option maxRecDepth 100000
set_option linter.unusedSimpArgs false
namespace Go.Proofs.Ytpanbfainilmpaa.Ev
open Go Go.Proofs
theorem words_app (w r : List Char) (h : ∀ c ∈ w, c ≠ Char.ofNat 32) : wordsSigns (w ++ Char.ofNat 32 :: r) = w :: wordsSigns r := by
  induction w with
  | nil => rfl
  | cons c w ih =>
    rw [List.cons_append, wordsSigns.eq_3 _ _ (fun he => h c (by simp) he), ih fun d hd => h d (by simp [hd])]
def io1 : List Nat := [104, 97, 114, 110, 101, 115, 115]
def io2 : List Nat := [50, 57, 98, 101, 100, 52, 53, 49, 53, 50, 52, 99, 99, 56, 100, 51, 98, 54, 49, 102, 101, 98, 48, 102, 100, 102, 100, 57, 98, 50, 51, 54, 102, 97, 97, 97, 100, 50, 50, 50, 48, 99, 49, 50, 101, 48, 52, 100, 55, 56, 57, 56, 101, 52, 49, 98, 102, 102, 54, 49, 56, 50, 100, 49]
def io3 : List Nat := [99, 117, 116]
def io4 : List Nat := [97, 116, 32, 108, 111, 100, 103, 101, 47, 108, 111, 100, 103, 101, 108, 97, 119, 49, 57, 46, 83, 116, 114, 101, 97, 109, 65, 100, 100, 115, 32, 108, 111, 100, 103, 101, 47, 108, 111, 100, 103, 101, 108, 97, 119, 49, 57, 46, 83, 116, 114, 101, 97, 109, 72, 111, 108, 100, 115, 32, 108, 111, 100, 103, 101, 47, 108, 111, 100, 103, 101, 108, 97, 119, 49, 57, 46, 83, 116, 114, 101, 97, 109, 79, 114, 100, 101, 114, 32, 108, 111, 100, 103, 101, 47, 108, 111, 100, 103, 101, 108, 97, 119, 49, 57, 46, 83, 116, 114, 101, 97, 109, 79, 110, 99, 101, 32, 108, 111, 100, 103, 101, 47, 108, 111, 100, 103, 101, 108, 97, 119, 49, 57, 46, 83, 116, 114, 101, 97, 109, 78, 101, 120, 116, 32, 108, 111, 100, 103, 101, 47, 108, 111, 100, 103, 101, 108, 97, 119, 50, 48, 46, 70, 108, 117, 115, 104, 85, 110, 105, 116, 101, 115, 32, 108, 111, 100, 103, 101, 47, 108, 111, 100, 103, 101, 108, 97, 119, 50, 48, 46, 70, 108, 117, 115, 104, 76, 97, 99, 107, 115, 32, 108, 111, 100, 103, 101, 47, 108, 111, 100, 103, 101, 108, 97, 119, 48, 52, 46, 77, 111, 100, 117, 108, 117, 115, 70, 101, 114, 109, 97, 116, 32, 108, 111, 100, 103, 101, 47, 108, 111, 100, 103, 101, 108, 97, 119, 50, 48, 46, 70, 108, 117, 115, 104, 76, 101, 118, 101, 108, 115, 32, 108, 111, 100, 103, 101, 47, 108, 111, 100, 103, 101, 108, 97, 119, 50, 48, 46, 70, 108, 117, 115, 104, 79, 114, 100, 101, 114, 32, 108, 111, 100, 103, 101, 47, 108, 111, 100, 103, 101, 108, 97, 119, 48, 52, 46, 77, 111, 100, 117, 108, 117, 115, 82, 105, 110, 103, 115, 32, 108, 111, 100, 103, 101, 47, 108, 111, 100, 103, 101, 108, 97, 119, 50, 48, 46, 70, 108, 117, 115, 104, 65, 103, 97, 105, 110, 32, 108, 111, 100, 103, 101, 47, 108, 111, 100, 103, 101, 108, 97, 119, 48, 49, 46, 78, 97, 116, 84, 101, 108, 108, 115, 32, 108, 111, 100, 103, 101, 47, 108, 111, 100, 103, 101, 108, 97, 119, 48, 49, 46, 78, 97, 116, 66, 105, 116, 115, 32, 108, 111, 100, 103, 101, 47, 108, 111, 100, 103, 101, 108, 97, 119, 48, 49, 46, 78, 97, 116, 65, 100, 100, 115, 32, 108, 111, 100, 103, 101, 47, 108, 111, 100, 103, 101, 108, 97, 119, 48, 49, 46, 78, 97, 116, 79, 114, 100, 101, 114, 32, 108, 111, 100, 103, 101, 47, 108, 111, 100, 103, 101, 108, 97, 119, 48, 49, 46, 78, 97, 116, 68, 111, 117, 98, 108, 101, 115, 32, 108, 111, 100, 103, 101, 47, 108, 111, 100, 103, 101, 108, 97, 119, 50, 53, 46, 84, 114, 97, 99, 101, 80, 97, 114, 116, 115, 32, 108, 111, 100, 103, 101, 47, 108, 111, 100, 103, 101, 108, 97, 119, 50, 53, 46, 84, 114, 97, 99, 101, 83, 101, 99, 114, 101, 116, 115, 32, 108, 111, 100, 103, 101, 47, 108, 111, 100, 103, 101, 108, 97, 119, 48, 50, 46, 76, 111, 110, 103, 84, 101, 108, 108, 115, 32, 108, 111, 100, 103, 101, 47, 108, 111, 100, 103, 101, 108, 97, 119, 48, 50, 46, 76, 111, 110, 103, 69, 117, 99, 108, 105, 100, 32, 108, 111, 100, 103, 101, 47, 108, 111, 100, 103, 101, 108, 97, 119, 48, 50, 46, 76, 111, 110, 103, 66, 97, 99, 107, 32, 108, 111, 100, 103, 101, 47, 108, 111, 100, 103, 101, 108, 97, 119, 48, 50, 46, 76, 111, 110, 103, 82, 105, 110, 103, 115, 32, 108, 111, 100, 103, 101, 47, 108, 111, 100, 103, 101, 108, 97, 119, 48, 50, 46, 76, 111, 110, 103, 76, 105, 109, 98, 115, 32, 108, 111, 100, 103, 101, 47, 108, 111, 100, 103, 101, 108, 97, 119, 48, 52, 46, 77, 111, 100, 117, 108, 117, 115, 84, 101, 108, 108, 115, 32, 108, 111, 100, 103, 101, 47, 108, 111, 100, 103, 101, 108, 97, 119, 48, 52, 46, 77, 111, 100, 117, 108, 117, 115, 80, 111, 119, 101, 114, 115, 32, 108, 111, 100, 103, 101, 47, 108, 111, 100, 103, 101, 108, 97, 119, 48, 52, 46, 77, 111, 100, 117, 108, 117, 115, 83, 116, 101, 112, 115]
def ch (l : List Nat) : List Char := l.map Char.ofNat
theorem ioS : Try.prog.initOrder = String.ofList (ch io1 ++ Char.ofNat 32 :: (ch io2 ++ Char.ofNat 32 :: (ch io3 ++ Char.ofNat 32 :: ch io4))) := by kernel_rfl
theorem ioL : wordsSigns Try.prog.initOrder.toList = ch io1 :: ch io2 :: ch io3 :: wordsSigns (ch io4) := by
  rw [ioS, String.toList_ofList, words_app _ _ (by decide), words_app _ _ (by decide), words_app _ _ (by decide)]
theorem ioB (R : List (List Char)) : behindMainWord (ch io1 :: ch io2 :: ch io3 :: R) = ch io3 :: R := by kernel_rfl
theorem ioT (R : List (List Char)) : stripLifts liftWords (ch io3 :: R) = ([], ch io3 :: R) := by kernel_rfl
theorem ioa1 : (ch io3 == "gc".toList) = false := by kernel_rfl
theorem ioa2 : (ch io3 == "spec".toList) = false := by kernel_rfl
theorem ioa3 : (ch io3 == "cut".toList) = true := by kernel_rfl
theorem ioa4 : (ch io3 == "carried".toList) = false := by kernel_rfl
theorem ioa5 : (some (ch io3) == some "cut".toList) = true := by kernel_rfl
theorem ioa6 : (some (ch io3) == some "carried".toList) = false := by kernel_rfl
theorem make_of (P : Program) (R : List (List Char)) (h : wordsSigns P.initOrder.toList = ch io1 :: ch io2 :: ch io3 :: R) : (P.make == some Make.cut) = true := by
  have : P.make = some Make.cut := by
    unfold Program.make
    rw [h, ioB]
    simp only [ioa1, ioa2, ioa3, Bool.false_or, Bool.true_or, Bool.or_false, if_true, Bool.false_eq_true, if_false]
  rw [this]; rfl
theorem lifts_of (P : Program) (R : List (List Char)) (h : wordsSigns P.initOrder.toList = ch io1 :: ch io2 :: ch io3 :: R) : (false == P.liftsFinal) = true := by
  have : P.liftsFinal = false := by
    unfold Program.liftsFinal Program.headLifts
    rw [h, ioB]
    simp only [ioT, ioa5, ioa6, List.head?_cons, Bool.false_and, Bool.false_or, if_true, List.contains_nil]
  rw [this]; rfl
theorem enter_of (P : Program) (R : List (List Char)) (h : wordsSigns P.initOrder.toList = ch io1 :: ch io2 :: ch io3 :: R) (b1 : P.laysLater = false) (b2 : P.bearsReflect = false) (b3 : P.doorFits [] = true) : P.mayEnter = true := by
  unfold Program.mayEnter
  rw [h, ioB]
  simp only [ioT, ioa1, ioa2, ioa4, ioa5, b1, b2, b3, List.head?_cons, List.contains_nil, Bool.false_and, Bool.false_or, Bool.not_false, Bool.or_true, Bool.and_true, Bool.true_and]
theorem lays : Try.prog.laysLater = false := by kernel_rfl
theorem bears : Try.prog.bearsReflect = false := by kernel_rfl
theorem door : Try.prog.doorFits [] = true := by kernel_rfl
theorem fMake : (Try.prog.make == some Make.cut) = true := make_of _ _ ioL
theorem fLifts : (false == Try.prog.liftsFinal) = true := lifts_of _ _ ioL
theorem fEnter : Try.prog.mayEnter = true := enter_of _ _ ioL lays bears door
theorem fLaid : laidOutB Try.prog = true := by kernel_rfl
theorem fMaps : mapsRowed Try.prog = true := by kernel_rfl
theorem fPlain : (true == Try.prog.plainKeys) = true := by kernel_rfl
theorem fHeard : Try.prog.stopsHeard = true := by kernel_rfl
theorem fOwn : ownKnob Try.prog.godebug = none := by kernel_rfl
theorem and_i {a b : Bool} (ha : a = true) (hb : b = true) : (a && b) = true := by rw [ha, hb]; rfl
end Go.Proofs.Ytpanbfainilmpaa.Ev
end
section
/- Reading a claim's arguments as the evaluator's data. -/
set_option linter.unusedVariables false
set_option linter.unusedSimpArgs false
namespace Go.Proofs.Ytpanbfainilmpaa.Ev
open Go.ChangeShapes Go.WideShapes Go.RowKit Go.WideElems

/-- The cells that are there. -/
def Sz (w : World) : Nat → Nat → Prop := fun b _ => b < w.heap.size

/-- What reads as a datum of type t is, cell by cell, the code of some α. -/
structure RD (P : Program) (t : TypeId) {α : Type} (en : α → List D) (ok : α → Prop) : Prop where
  run : ∀ {H : Type} {enc : TypeId × Value → H} {w : World} {base : Nat} {spare : Nat → Bool} {held : Bool} (n : Nat) (cs : List Value) (x : DataW H × List MemPlace),
    DataW.trod enc P w base spare held n t cs = some x → (x.1.weights P t).all (· ≤ reachBytes) = true → ∃ a : α, RelL (DR w (Sz w)) (en a) cs ∧ ok a
/-- The same of a struct's fields from an offset on. -/
structure RDs (P : Program) (fs : List Field) (off tot : Nat) {α : Type} (en : α → List D) (ok : α → Prop) : Prop where
  run : ∀ {H : Type} {enc : TypeId × Value → H} {w : World} {base : Nat} {spare : Nat → Bool} {held : Bool} (n : Nat) (cs : List Value) (xs : List (DataW H × List MemPlace)),
    cs.length = tot → xs.length = fs.length → (∀ (i : Nat) (f : Field), fs[i]? = some f → DataW.trod enc P w base spare held n f.type ((cs.drop f.offset).take (P.cellsOf f.type)) = xs[i]?) →
    (DataW.weightsEach P (fs.map (·.type)) (xs.map (·.1))).all (· ≤ reachBytes) = true → ∃ a : α, RelL (DR w (Sz w)) (en a) (cs.drop off) ∧ ok a

section
variable {P : Program} {t e : TypeId}
theorem RD.int {k : IntKind} (ht : P.underlying t = some (.int k)) : RD P t (fun n : Int => [.sc (.int k n)]) (fun n => (Lit.int k n).wf = true) := by
  refine ⟨?_⟩
  intro H enc w base spare held n cs x h hw
  obtain ⟨m, rfl, _, h2⟩ := DataW.trod_int ht h
  exact ⟨m, .cons (.sc rfl) .nil, h2⟩
theorem RD.bool (ht : P.underlying t = some .bool) : RD P t (fun n : Bool => [.sc (.bool n)]) (fun _ => True) := by
  refine ⟨?_⟩
  intro H enc w base spare held n cs x h hw
  obtain ⟨m, rfl, _⟩ := DataW.trod_bool ht h
  exact ⟨m, .cons (.sc rfl) .nil, trivial⟩
theorem RD.str (ht : P.underlying t = some .string) : RD P t (fun s : ByteArray => [.sc (.string s)]) (fun s => s.size ≤ reachBytes) := by
  refine ⟨?_⟩
  intro H enc w base spare held n cs x h hw
  obtain ⟨s, rfl, rfl, h2⟩ := DataW.trod_string ht h
  refine ⟨s, .cons (.sc rfl) .nil, ?_⟩
  simp only [DataW.weights, List.all_cons, List.all_nil, Bool.and_true, decide_eq_true_eq] at hw
  rwa [Array.length_toList] at hw
theorem weightsAll_all {H : Type} {ds : List (DataW H)} (h : (DataW.weightsAll P e ds).all (· ≤ reachBytes) = true) {i : Nat} {d : DataW H} (hd : ds[i]? = some d) : (d.weights P e).all (· ≤ reachBytes) = true := by
  induction ds generalizing i with
  | nil => simp at hd
  | cons a r ih =>
    simp only [DataW.weightsAll, List.all_append, Bool.and_eq_true] at h
    cases i with
    | zero => simp at hd; subst hd; exact h.1
    | succ i => exact ih h.2 (by simpa using hd)
theorem RD.slice {α : Type} {en : α → List D} {ok : α → Prop} {sz by' : Nat} (ht : P.underlying t = some (.slice e)) (hb : P.bytesOf e = by') (hc : P.cellsOf e = sz) (h0 : 0 < sz) (hlen : ∀ a, (en a).length = sz) (he : RD P e en ok) :
    RD P t (fun l : List α => [.sl (l.map en)]) (fun l => l.length * by' ≤ reachBytes ∧ ∀ a ∈ l, ok a) := by
  refine ⟨?_⟩
  intro H enc w base spare held n cs x h hw
  rcases DataW.trod_slice ht h with ⟨rfl, rfl⟩ | ⟨a, len, cap, elems, rest, m, rfl, rfl, rfl, hbase, hl, hcap, hel, hat, hsp, hns⟩
  · refine ⟨[], .cons ?_ .nil, by simp, by simp⟩
    exact .sl (sz := 0) (b := 0) (o := 0) (fun _ _ => undef) rfl (Nat.le_refl _) (by simp) (by simp) (by simp)
  · rw [hc] at hat
    simp only [DataW.weights, ht, hb, List.all_cons, List.all_append, Bool.and_eq_true, decide_eq_true_eq, List.length_map] at hw
    obtain ⟨hw1, hw2, _⟩ := hw
    have key : ∀ i : Fin len, ∃ (a' : α) (cs' : List Value), w.cells? base (a.add (i.1 * sz)) sz = some cs' ∧ RelL (DR w (Sz w)) (en a') cs' ∧ ok a' := by
      intro i
      have hi := hat i.1 i.2
      have hlt : i.1 < elems.length := by rw [hel]; exact i.2
      rw [List.getElem?_eq_getElem hlt] at hi
      rw [Option.bind_eq_some_iff] at hi
      obtain ⟨cs', h1, h2⟩ := hi
      obtain ⟨a', h3, h4⟩ := he.run _ _ _ h2 (weightsAll_all hw2 (i := i.1) (by rw [List.getElem?_map, List.getElem?_eq_getElem hlt]; rfl))
      exact ⟨a', cs', h1, h3, h4⟩
    refine ⟨List.ofFn fun i => Classical.choose (key i), .cons ?_ .nil, ?_, ?_⟩
    · have hget : ∀ (i : Nat) (e' : List D), ((List.ofFn fun i => Classical.choose (key i)).map en)[i]? = some e' → ∃ (hi : i < len), e' = en (Classical.choose (key ⟨i, hi⟩)) := by
        intro i e' h
        rw [List.getElem?_map] at h
        obtain ⟨y, hy, rfl⟩ := Option.map_eq_some_iff.1 h
        rw [List.getElem?_ofFn] at hy
        split at hy
        · rename_i hi; cases hy; exact ⟨hi, rfl⟩
        · cases hy
      have hcell : ∀ (i : Nat) (hi : i < len) (j : Nat) (x : D), (en (Classical.choose (key ⟨i, hi⟩)))[j]? = some x → ∃ v, w.cell? ((a.add (i * sz)).add j) = some v ∧ DR w (Sz w) x v := by
        intro i hi j x hx
        obtain ⟨cs', h1, h2, _⟩ := Classical.choose_spec (key ⟨i, hi⟩)
        obtain ⟨v, hv, hr⟩ := h2.get hx
        have hj : j < sz := by rw [← hlen (Classical.choose (key ⟨i, hi⟩))]; exact (List.getElem?_eq_some_iff.1 hx).1
        obtain ⟨_, _, h3⟩ := World.cells?_some h1
        exact ⟨v, by rw [h3 j hj]; exact hv, hr⟩
      have hspot : ∀ (i : Nat) (hi : i < len), a.spot = none := by
        intro i hi
        have h0l : 0 < len := by omega
        have : ∃ x, (en (Classical.choose (key ⟨0, h0l⟩)))[0]? = some x := ⟨_, List.getElem?_eq_getElem (by rw [hlen]; exact h0)⟩
        obtain ⟨x, hx⟩ := this
        obtain ⟨v, hv, _⟩ := hcell 0 h0l 0 x hx
        simp only [Nat.zero_mul, Addr.add, if_true] at hv
        unfold World.cell? at hv
        split at hv
        · cases hs : a.spot with
          | none => rfl
          | some _ => simp [hs] at hv
        · cases hv
      have hadr : ∀ (i : Nat) (hi : i < len) (j : Nat), (a.add (i * sz)).add j = ⟨a.block, a.off + (i * sz + j), none⟩ := by
        intro i hi j
        have hs := hspot i hi
        obtain ⟨b, o, s⟩ := a
        simp only at hs
        subst hs
        simp only [Addr.add]
        split <;> split <;> simp_all <;> omega
      refine .sl (sz := sz) (b := a.block) (o := a.off) (fun i j => (w.cell? ⟨a.block, a.off + (i * sz + j), none⟩).getD undef) (by simp) hl ?_ ?_ ?_
      · intro i e' h
        obtain ⟨hi, rfl⟩ := hget i e' h
        exact hlen _
      · intro i e' j x h hx
        obtain ⟨hi, rfl⟩ := hget i e' h
        obtain ⟨v, hv, _⟩ := hcell i hi j x hx
        rw [hadr i hi j] at hv
        refine ⟨?_, by rw [hv]; rfl, ?_⟩
        · have := hspot i hi
          obtain ⟨b, o, s⟩ := a
          simp only at this
          subst this
          rfl
        · show a.block < w.heap.size
          unfold World.cell? at hv
          cases hh : w.heap[a.block]? with
          | none => simp [hh] at hv
          | some _ => exact (Array.getElem?_eq_some_iff.1 hh).1
      · intro i e' j x h hx
        obtain ⟨hi, rfl⟩ := hget i e' h
        obtain ⟨v, hv, hr⟩ := hcell i hi j x hx
        rw [hadr i hi j] at hv
        simp only [hv, Option.getD_some]
        exact hr
    · rw [List.length_ofFn]
      rw [hel] at hw1
      exact Nat.le_trans (Nat.mul_le_mul_right _ (Nat.le_add_right _ _)) hw1
    · intro a' ha
      rw [List.mem_ofFn] at ha
      obtain ⟨i, rfl⟩ := ha
      exact (Classical.choose_spec (Classical.choose_spec (key i))).2.2
theorem RDs.nil (tot : Nat) : RDs P [] tot tot (fun _ : Unit => []) (fun _ => True) := by
  refine ⟨?_⟩
  intro H enc w base spare held n cs xs hc hx h hw
  refine ⟨(), ?_, trivial⟩
  rw [← hc, List.drop_length]
  exact .nil
theorem RDs.cons {f : Field} {fs : List Field} {off tot sz : Nat} {α β : Type} {en1 : α → List D} {en2 : β → List D} {ok1 : α → Prop} {ok2 : β → Prop} (hoff : f.offset = off) (hsz : P.cellsOf f.type = sz) (hlen : ∀ a, (en1 a).length = sz)
    (h1 : RD P f.type en1 ok1) (h2 : RDs P fs (off + sz) tot en2 ok2) : RDs P (f :: fs) off tot (fun p : α × β => en1 p.1 ++ en2 p.2) (fun p => ok1 p.1 ∧ ok2 p.2) := by
  refine ⟨?_⟩
  intro H enc w base spare held n cs xs hc hx h hw
  cases xs with
  | nil => simp at hx
  | cons x xs =>
    simp only [List.map_cons, DataW.weightsEach, List.all_append, Bool.and_eq_true] at hw
    have e0 := h 0 f rfl
    rw [hoff, hsz] at e0
    obtain ⟨a, r1, r2⟩ := h1.run _ _ x (by simpa using e0) hw.1
    obtain ⟨b, r3, r4⟩ := h2.run n cs xs hc (by simpa using hx) (fun i f' hf => by simpa using h (i + 1) f' (by simpa using hf)) hw.2
    refine ⟨(a, b), ?_, r2, r4⟩
    have := r1.append r3
    have hd : (cs.drop off).take sz ++ cs.drop (off + sz) = cs.drop off := by
      rw [← List.drop_drop, List.take_append_drop]
    rwa [hd] at this
theorem RD.struct {fs : Array Field} {tot : Nat} {α : Type} {en : α → List D} {ok : α → Prop} (ht : P.underlying t = some (.struct fs)) (hc : P.cellsOf t = tot) (h : RDs P fs.toList 0 tot en ok) : RD P t en ok := by
  refine ⟨?_⟩
  intro H enc w base spare held n cs x hx hw
  obtain ⟨xs, m, rfl, rfl, hl, hxl, hat⟩ := DataW.trod_struct ht hx
  simp only [DataW.weights, ht] at hw
  exact h.run m cs xs (hl.trans hc) (by simpa using hxl) (fun i f hf => hat i f (by simpa using hf)) hw
theorem RD.iso {α β : Type} {en : α → List D} {ok : α → Prop} {en' : β → List D} {ok' : β → Prop} (h : RD P t en ok) (f : α → β) (he : ∀ a, en' (f a) = en a) (hok : ∀ a, ok a → ok' (f a)) : RD P t en' ok' := by
  refine ⟨?_⟩
  intro H enc w base spare held n cs x hx hw
  obtain ⟨a, h1, h2⟩ := h.run n cs x hx hw
  exact ⟨f a, by rw [he]; exact h1, hok a h2⟩

/-! ### Arguments -/
variable {H : Type} {enc : TypeId × Value → H} {w : World} {base b0 : Nat} {spare : Nat → Bool} {held : Bool} {v : Value} {d : DataW H} {p : List MemPlace}
theorem RD.arg1 {α : Type} {en : α → D} {ok : α → Prop} (h : RD P t (fun a => [en a]) ok) (hv : v.cells = #[v]) (hd : DataW.Trod enc P w base spare held t v d p) (hw : (d.weights P t).all (· ≤ reachBytes) = true) :
    ∃ a, PR w (Sz w) (.one (en a)) v ∧ ok a := by
  obtain ⟨n, hn⟩ := hd
  obtain ⟨a, h1, h2⟩ := h.run n _ _ hn hw
  rw [hv] at h1
  exact ⟨a, h1.head, h2⟩
theorem RD.argA {α : Type} {en : α → List D} {ok : α → Prop} {fs : Array Field} (h : RD P t en ok) (ht : P.underlying t = some (.struct fs)) (hval : Value.okWide P w .any b0 t v) (hd : DataW.Trod enc P w base spare held t v d p) (hw : (d.weights P t).all (· ≤ reachBytes) = true) :
    ∃ a, PR w (Sz w) (.agg (en a)) v ∧ ok a := by
  obtain ⟨cs, rfl, _⟩ := okWide_struct ht hval
  obtain ⟨n, hn⟩ := hd
  obtain ⟨a, h1, h2⟩ := h.run n _ _ hn hw
  exact ⟨a, ⟨cs.toList, by simp, by simpa [Value.cells] using h1⟩, h2⟩
theorem RD.argS {α : Type} {en : α → D} {ok : α → Prop} (h : RD P t (fun a => [en a]) ok) (ht : P.underlying t = some (.slice e)) (hval : Value.okWide P w .any b0 t v) (hd : DataW.Trod enc P w base spare held t v d p) (hw : (d.weights P t).all (· ≤ reachBytes) = true) :
    ∃ a, PR w (Sz w) (.one (en a)) v ∧ ok a := by
  obtain ⟨a, l, c, rfl⟩ := okWide_slice ht hval
  exact h.arg1 rfl hd hw
theorem RD.argI {α : Type} {en : α → D} {ok : α → Prop} {k : IntKind} (h : RD P t (fun a => [en a]) ok) (ht : P.underlying t = some (.int k)) (hval : Value.okWide P w .any b0 t v) (hd : DataW.Trod enc P w base spare held t v d p) (hw : (d.weights P t).all (· ≤ reachBytes) = true) :
    ∃ a, PR w (Sz w) (.one (en a)) v ∧ ok a := by
  obtain ⟨n, rfl⟩ := okWide_int ht hval
  exact h.arg1 rfl hd hw

/-! ### A law's call -/
theorem law_calls {inl : Nat → Bool} {A : Nat → Option AFunc} {X : Nat → Option (List PV → Option (List PV))} (env : Env P inl A X) {k n : Nat} {fa : AFunc} (hA : A k = some fa) {args : List PV}
    (h : (mkK A X n).call k args = some [.one (.sc (.bool true))]) {W : World} {vs : List Value} (hargs : RelL (PR W (Sz W)) args vs) :
    Calls P k vs.toArray W fun e W' => e = .returned (.bool true) ∧ Below W.heap.size W W' := by
  obtain ⟨fn, hf, _, _, hok⟩ := env.fn k fa hA
  have h1 := (kOk env n).call k args _ h W (Sz W) vs (fun b o h => h) hargs
  obtain ⟨c, hc, hrun⟩ := enter_ok hf hok vs.toArray W
  rcases h1 with ⟨_, h2⟩ | ⟨v, w1, h2, _⟩
  · refine h2.mono fun e W' he => ?_
    cases e with
    | returned v =>
      obtain ⟨hb, hp⟩ := he
      have : v = .bool true := by
        cases hp with
        | sc h => rfl
      subst this
      exact ⟨rfl, hb⟩
    | panicked c => exact he.elim
    | outgrown => exact he.elim
  · rw [hrun] at h2
    simp at h2

theorem sameAt_below {W W' : World} (hb : Below W.heap.size W W') {p : MemPlace} (hp : p.block < W.heap.size) : W.sameAt W' p := by
  cases p with
  | cell b o => simp only [World.sameAt, World.cell?, hb.block b hp]
  | map b => simp only [World.sameAt, hb.block b hp]

theorem post_of_below {f : Func} {s : ChangeSpec} {apart fresh handsOn again : Bool} {W W' : World} {args : Array Value} {v : Value} {ds gs : List (DataW H)} {before pa pv : List MemPlace}
    (hW : DataW.Whole enc P f.params.toList s.vars apart W args.toList ds gs before)
    (hres : ∀ (b : Nat) (sp : Nat → Bool) (hd : Bool), DataW.TrodAll enc P W' b sp hd f.resultTypes.toList (v.resultList f.resultTypes.size) (s.fn H (ds ++ gs)).results [])
    (hargs : ∀ sp : Nat → Bool, (∀ p ∈ before, sp p.block = true) → DataW.TrodAll enc P W' 0 sp true f.params.toList args.toList (s.fn H (ds ++ gs)).args pa)
    (hvars : ∀ sp : Nat → Bool, (∀ p ∈ before, sp p.block = true) → DataW.TrodVars enc P W' sp s.vars (s.fn H (ds ++ gs)).vars pv)
    (hps : before = pa ++ pv) (hb : Below W.heap.size W W')
    (hok : ∀ (j : Nat) (t : TypeId) (r : Value), f.resultTypes[j]? = some t → (v.resultList f.resultTypes.size)[j]? = some r → Value.okWide P W' .any 0 t r) :
    s.post enc P f apart fresh handsOn again W args v W' := by
  have hlt : ∀ p ∈ before, p.block < W.heap.size := fun p hp => hW.lt p hp
  have hold : ∀ p ∈ before, (fun b => decide (b < W.heap.size)) p.block = true := fun p hp => by simpa using hlt p hp
  refine ⟨ds, gs, before, [], pa, pv, hW, hres _ _ _, hargs _ hold, hvars _ hold, World.keptBut_mono (fun p hp => ⟨hp, ?_⟩) (hb.frame (· ∈ before)), fun _ => ?_⟩
  · rw [hps, List.mem_append] at hp
    exact Or.inr hp
  · obtain ⟨_, _, _, _, _, hz, hn⟩ := hW
    refine ⟨hok, _, _, ([] ++ pa) ++ pv, ⟨[] ++ pa, pv, trodAll_append (hargs _ (fun _ _ => rfl)) (hres _ _ _), hvars _ (fun _ _ => rfl), rfl, ?_, ?_⟩, ?_⟩
    · intro b off hp
      have hin : MemPlace.cell b off ∈ before := by rw [hps]; simpa using hp
      rw [hb.frozen (hlt _ hin)]
      exact hz b off hin
    · intro ha
      have := hn ha
      rw [hps] at this
      simpa using this
    · intro p hp _
      rw [hps]
      simpa using hp

theorem trodAll_stays {W W' : World} (hl : laidOutB P = true) {sp : Nat → Bool} : ∀ {ts : List TypeId} {vs : List Value} {ds : List (DataW H)} {ps : List MemPlace},
    (∀ t ∈ ts, P.readableRec t = true ∧ t < P.types.size) → DataW.TrodAll enc P W 0 (fun _ => true) true ts vs ds ps → (∀ p ∈ ps, W.sameAt W' p) → (∀ p ∈ ps, sp p.block = true) → DataW.TrodAll enc P W' 0 sp true ts vs ds ps
  | [], [], [], ps, _, h, _, _ => h
  | t :: ts, v :: vs, d :: ds, ps, ht, h, hs, hp => by
    obtain ⟨p, q, h1, h2, rfl⟩ := h
    exact ⟨p, q, Trod_stays hl (ht t (by simp)).1 (ht t (by simp)).2 h1 (fun x hx => hs x (by simp [hx])) (fun x hx => hp x (by simp [hx])),
      trodAll_stays hl (fun t' ht' => ht t' (by simp [ht'])) h2 (fun x hx => hs x (by simp [hx])) (fun x hx => hp x (by simp [hx])), rfl⟩
  | [], [], _ :: _, ps, _, h, _, _ => h.elim
  | [], _ :: _, _, ps, _, h, _, _ => h.elim
  | _ :: _, [], _, ps, _, h, _, _ => h.elim
  | _ :: _, _ :: _, [], ps, _, h, _, _ => h.elim
end
end Go.Proofs.Ytpanbfainilmpaa.Ev
end
section
/- The iterator over two numbers' limbs: its contract. -/
set_option linter.unusedVariables false
set_option linter.unusedSimpArgs false
namespace Go.Proofs.Ytpanbfainilmpaa.Ev.N
open Go Go.Proofs Go.RowKit Go.Shelf Go.Proofs.Ytpanbfainilmpaa.Ev
attribute [local go_sem] Oper.semAt_some

/-- What has come when k rounds are over. -/
def upto {α : Type} (f : Nat → α) (k : Nat) : List α := (List.range k).map f
theorem upto_succ {α : Type} (f : Nat → α) (k : Nat) : upto f (k + 1) = upto f k ++ [f k] := by simp [upto, List.range_succ]
theorem upto_length {α : Type} (f : Nat → α) (k : Nat) : (upto f k).length = k := by simp [upto]

/-- The slice value holds these limbs, below n₀. -/
def HL (n₀ : Nat) (W : World) (p : Option Addr) (l : List Nat) : Prop :=
  ∀ j, j < l.length → ∃ b off, p = some ⟨b, off, none⟩ ∧ b < n₀ ∧ W.cell? ⟨b, off + j, none⟩ = some (.int .u64 (limb l j : Nat))
theorem HL.below {n₀ : Nat} {A B : World} (h : Below n₀ A B) {p : Option Addr} {l : List Nat} (hl : HL n₀ A p l) : HL n₀ B p l := fun j hj => by
  obtain ⟨b, off, e, hb, hc⟩ := hl j hj
  exact ⟨b, off, e, hb, (h.cell (p := ⟨b, off + j, none⟩) hb).trans hc⟩
/-- What a round keeps: what lay below n₀, and the two boxes. -/
def KpB (n₀ Ba Bb : Nat) (W W' : World) : Prop := Below n₀ W W' ∧ W'.heap[Ba]? = W.heap[Ba]? ∧ W'.heap[Bb]? = W.heap[Bb]?
theorem KpB.refl (n₀ Ba Bb : Nat) (W : World) : KpB n₀ Ba Bb W W := ⟨Below.refl _ _, rfl, rfl⟩
theorem KpB.trans {n₀ Ba Bb : Nat} {A B C : World} (h : KpB n₀ Ba Bb A B) (k : KpB n₀ Ba Bb B C) : KpB n₀ Ba Bb A C := ⟨h.1.trans k.1, k.2.1.trans h.2.1, k.2.2.trans h.2.2⟩
theorem KpB.book {n₀ Ba Bb : Nat} {w : World} (hn : n₀ ≤ w.heap.size) (ha : Ba < w.heap.size) (hb : Bb < w.heap.size) (W : World) (l : Nat) (o o' : Obj) (hl : w.heap.size ≤ l) (h : W.heap[l]? = some o) (hc : o.isCells = false) (hw : o.isWalk = false) : KpB n₀ Ba Bb W (W.putObj l o') :=
  ⟨belowK_b hn W l o o' hl h hc hw, World.putObj_heap_other (by omega), World.putObj_heap_other (by omega)⟩
abbrev UU := { p : Nat × Nat // p.1 < B64 ∧ p.2 < B64 }
abbrev encs (x : UU) : Array Value := #[.int .u64 (x.1.1 : Int), .int .u64 (x.1.2 : Int)]
abbrev prs {a b : List Nat} (ha : Limbs a) (hb : Limbs b) (j : Nat) : UU := ⟨(limb a j, limb b j), limb_lt ha j, limb_lt hb j⟩

set_option maxRecDepth 100000 in
set_option maxHeartbeats 4000000 in
theorem limbs1_in (F : Fence) (n : Nat) (h7 : F.fn 122) (hro : F.round = none) (hn : 1 ≤ n) (l Ba Bb n₀ : Nat) (pa pb : Option Addr) (ca cb : Nat) (a b : List Nat) (ha : Limbs a) (hb : Limbs b) (la : a.length ≤ 1000000) (lb : b.length ≤ 1000000) (J Jx : List UU → World → Prop)
    (hY : ∀ pre x W, J pre W → pre.length < max a.length b.length → YieldAt F (n - 1) Try.prog l (encs x) W fun e W' =>
      (e = .returned (.bool true) ∧ J (pre ++ [x]) W' ∧ KpB n₀ Ba Bb W W') ∨ (e = .returned (.bool false) ∧ Jx (pre ++ [x]) W'))
    (W : World) (hBa : W.cell? ⟨Ba, 0, none⟩ = some (.slice pa a.length ca)) (hBb : W.cell? ⟨Bb, 0, none⟩ = some (.slice pb b.length cb)) (hca : HL n₀ W pa a) (hcb : HL n₀ W pb b) (h0 : J [] W) :
    CallsIn F n Try.prog 122 #[.func (.yield l) #[] #[], .pointer (some ⟨Ba, 0, none⟩), .pointer (some ⟨Bb, 0, none⟩)] W fun e W' => (∃ v, e = .returned v) ∧
      ((∃ ys, ys = upto (prs ha hb) (max a.length b.length) ∧ J ys W') ∨ (∃ pre, (∃ k, k ≤ max a.length b.length ∧ pre = upto (prs ha hb) k) ∧ Jx pre W')) := by
  refine callsIn_of_wp Try.func122 rfl h7 ?_ hro
  simp only [Try.ntmps122, List.size_toArray, List.length_cons, List.length_nil, Nat.reduceAdd, Nat.reduceSub, Array.replicate_succ, Array.replicate_zero, List.push_toArray, List.append_toArray, List.nil_append, List.cons_append]
  rcases Nat.lt_or_ge a.length b.length with hab | hab
  · have hm : max a.length b.length = b.length := by omega
    rw [hm] at hY ⊢
    gi_wp2
    gi_loopw [12] (fun i wr => ∃ k : Nat, k ≤ b.length ∧ i = .int .i64 k ∧ J (upto (prs ha hb) k) wr ∧ KpB n₀ Ba Bb W wr)
      (fun i _ => b.length - (intOf i).toNat)
    case atStart => exact ⟨0, Nat.zero_le _, rfl, h0, KpB.refl _ _ _ _⟩
    case round =>
      obtain ⟨k, hk, rfl, hJs, hnx⟩ := hrel
      by_cases hlt : k < b.length
      · obtain ⟨fn, tmps, assign, body, hy, hR⟩ := hY _ (prs ha hb k) wr hJs (by rw [upto_length]; exact hlt)
        have ha1 := (World.cell?_of_block (a := ⟨Ba, 0, none⟩) hnx.2.1).trans hBa
        have hb1 := (World.cell?_of_block (a := ⟨Bb, 0, none⟩) hnx.2.2).trans hBb
        obtain ⟨bb, ob, rfl, hbb, hcb'⟩ := hcb.below hnx.1 k hlt
        by_cases hka : k < a.length
        · obtain ⟨ba, oa, rfl, hba, hca'⟩ := hca.below hnx.1 k hka
          gi_wp2
          refine hR.mono ?_
          rintro e W3 (⟨rfl, hJ3, hk3⟩ | ⟨rfl, hJx3⟩)
          · gi_wp2
            go_roundw
            case rel => exact ⟨k + 1, by omega, by simp, by rw [upto_succ]; exact hJ3, hnx.trans hk3⟩
            case measure => simp [intOf]; omega
          · gi_wp2
            refine bodyPost_ret (results_none rfl _ _ _) rfl ?_
            exact ⟨⟨_, rfl⟩, .inr ⟨_, ⟨k + 1, by omega, (upto_succ _ _).symm⟩, hJx3⟩⟩
        · have hz : limb a k = 0 := limb_none (by omega)
          simp only [prs, encs, hz, Int.natCast_zero] at hy
          gi_wp2
          refine hR.mono ?_
          rintro e W3 (⟨rfl, hJ3, hk3⟩ | ⟨rfl, hJx3⟩)
          · gi_wp2
            go_roundw
            case rel => exact ⟨k + 1, by omega, by simp, by rw [upto_succ]; exact hJ3, hnx.trans hk3⟩
            case measure => simp [intOf]; omega
          · gi_wp2
            refine bodyPost_ret (results_none rfl _ _ _) rfl ?_
            exact ⟨⟨_, rfl⟩, .inr ⟨_, ⟨k + 1, by omega, (upto_succ _ _).symm⟩, hJx3⟩⟩
      · obtain rfl : k = b.length := by omega
        gi_wp2
        go_end0
        exact ⟨⟨_, rfl⟩, .inl ⟨_, rfl, hJs⟩⟩
  · have hm : max a.length b.length = a.length := by omega
    rw [hm] at hY ⊢
    gi_wp2
    gi_loopw [12] (fun i wr => ∃ k : Nat, k ≤ a.length ∧ i = .int .i64 k ∧ J (upto (prs ha hb) k) wr ∧ KpB n₀ Ba Bb W wr)
      (fun i _ => a.length - (intOf i).toNat)
    case atStart => exact ⟨0, Nat.zero_le _, rfl, h0, KpB.refl _ _ _ _⟩
    case round =>
      obtain ⟨k, hk, rfl, hJs, hnx⟩ := hrel
      by_cases hlt : k < a.length
      · obtain ⟨fn, tmps, assign, body, hy, hR⟩ := hY _ (prs ha hb k) wr hJs (by rw [upto_length]; exact hlt)
        have ha1 := (World.cell?_of_block (a := ⟨Ba, 0, none⟩) hnx.2.1).trans hBa
        have hb1 := (World.cell?_of_block (a := ⟨Bb, 0, none⟩) hnx.2.2).trans hBb
        obtain ⟨ba, oa, rfl, hba, hca'⟩ := hca.below hnx.1 k hlt
        by_cases hkb : k < b.length
        · obtain ⟨bb, ob, rfl, hbb, hcb'⟩ := hcb.below hnx.1 k hkb
          gi_wp2
          refine hR.mono ?_
          rintro e W3 (⟨rfl, hJ3, hk3⟩ | ⟨rfl, hJx3⟩)
          · gi_wp2
            go_roundw
            case rel => exact ⟨k + 1, by omega, by simp, by rw [upto_succ]; exact hJ3, hnx.trans hk3⟩
            case measure => simp [intOf]; omega
          · gi_wp2
            refine bodyPost_ret (results_none rfl _ _ _) rfl ?_
            exact ⟨⟨_, rfl⟩, .inr ⟨_, ⟨k + 1, by omega, (upto_succ _ _).symm⟩, hJx3⟩⟩
        · have hz : limb b k = 0 := limb_none (by omega)
          simp only [prs, encs, hz, Int.natCast_zero] at hy
          gi_wp2
          refine hR.mono ?_
          rintro e W3 (⟨rfl, hJ3, hk3⟩ | ⟨rfl, hJx3⟩)
          · gi_wp2
            go_roundw
            case rel => exact ⟨k + 1, by omega, by simp, by rw [upto_succ]; exact hJ3, hnx.trans hk3⟩
            case measure => simp [intOf]; omega
          · gi_wp2
            refine bodyPost_ret (results_none rfl _ _ _) rfl ?_
            exact ⟨⟨_, rfl⟩, .inr ⟨_, ⟨k + 1, by omega, (upto_succ _ _).symm⟩, hJx3⟩⟩
      · obtain rfl : k = a.length := by omega
        gi_wp2
        go_end0
        exact ⟨⟨_, rfl⟩, .inl ⟨_, rfl, hJs⟩⟩

set_option maxRecDepth 100000 in
set_option maxHeartbeats 1000000 in
/-- limbs(a, b): both slices are boxed; the function value captures the boxes. -/
theorem limbs_in (F : Fence) (n : Nat) (h5 : F.fn 102) (hro : F.round = none) (pa pb : Option Addr) (la ca lb cb : Nat) (w : World) :
    CallsIn F n Try.prog 102 #[.slice pa la ca, .slice pb lb cb] w fun e w' => e = .returned (.func (.func 122) #[] #[.pointer (some ⟨w.heap.size, 0, none⟩), .pointer (some ⟨w.heap.size + 1, 0, none⟩)]) ∧ w' = (w.alloc (.cells #[.slice pa la ca] 64)).alloc (.cells #[.slice pb lb cb] 64) := by
  refine callsIn_of_wp Try.func102 rfl h5 ?_ hro
  simp only [Try.ntmps102, List.size_toArray, List.length_cons, List.length_nil, Nat.reduceAdd, Nat.reduceSub, Array.replicate_succ, Array.replicate_zero, List.push_toArray, List.append_toArray, List.nil_append, List.cons_append]
  gi_wp2
  go_ret
  exact ⟨rfl, rfl⟩
/-- It hands back a value that gives all pairs of limbs, or the first ones. -/
theorem limbs_stops (F : Fence) (n : Nat) (h7 : F.fn 122) (hro : F.round = none) (hn : 1 ≤ n) (Ba Bb n₀ : Nat) (pa pb : Option Addr) (ca cb : Nat) (a b : List Nat) (ha : Limbs a) (hb : Limbs b) (la : a.length ≤ 1000000) (lb : b.length ≤ 1000000) (w : World)
    (hBa0 : Ba < w.heap.size) (hBb0 : Bb < w.heap.size) (hn₀ : n₀ ≤ w.heap.size) (hBa : w.cell? ⟨Ba, 0, none⟩ = some (.slice pa a.length ca)) (hBb : w.cell? ⟨Bb, 0, none⟩ = some (.slice pb b.length cb)) (hca : HL n₀ w pa a) (hcb : HL n₀ w pb b) :
    SeqStopsK F n Try.prog 122 #[.pointer (some ⟨Ba, 0, none⟩), .pointer (some ⟨Bb, 0, none⟩)] encs (KpB n₀ Ba Bb) (fun ys => ys = upto (prs ha hb) (max a.length b.length))
      (fun pre => ∃ k, k ≤ max a.length b.length ∧ pre = upto (prs ha hb) k) (max a.length b.length) w := fun l J Jx W hW _ _ hY h0 => by
  have hbw := hW.mono hn₀
  exact limbs1_in F n h7 hro hn l Ba Bb n₀ pa pb ca cb a b ha hb la lb J Jx hY W ((hW.cell (p := ⟨Ba, 0, none⟩) hBa0).trans hBa) ((hW.cell (p := ⟨Bb, 0, none⟩) hBb0).trans hBb) (hca.below hbw) (hcb.below hbw) h0
theorem dr_sc {w : World} {S : Nat → Nat → Prop} {x v : Value} (h : DR w S (.sc x) v) : v = x := by cases h; rfl
/-- What an argument by value says of its cells. -/
theorem HL.of {w : World} {S : Nat → Nat → Prop} (hS : ∀ b o, S b o → b < w.heap.size) {l : List Nat} {v : Value} (h : PR w S (nl l) v) : ∃ p c, v = .slice p l.length c ∧ HL w.heap.size w p l := by
  have h : DR w S (.sl (l.map n64)) v := h
  cases h with
  | @sl es a n c sz b o vs hn hc hsz ha hr =>
    rw [List.length_map] at hn
    subst hn
    refine ⟨a, c, rfl, fun j hj => ?_⟩
    have hg : (l.map n64)[j]? = some (n64 l[j]) := by simp [hj]
    have h1 := ha j _ 0 _ hg rfl
    have h2 := hr j _ 0 _ hg rfl
    have hs : sz = 1 := (hsz j _ hg).symm
    subst hs
    refine ⟨b, o, h1.1, hS _ _ h1.2.2, ?_⟩
    have e : vs j 0 = .int .u64 (l[j] : Int) := dr_sc h2
    rw [limb_get hj, ← e]
    simpa using h1.2.1
end Go.Proofs.Ytpanbfainilmpaa.Ev.N
end
section
/- Their texts are the program's. -/
set_option linter.unusedVariables false
set_option linter.unusedSimpArgs false
set_option maxRecDepth 100000
namespace Go.Proofs.Ytpanbfainilmpaa.Ev.O
open Go.Proofs Go.Proofs.Ytpanbfainilmpaa.Ev
def NI : Nat → Bool := fun _ => false
def Ent (f : Nat) (a : AFunc) : Prop := ∃ fn, Try.prog.funcs[f]? = some fn ∧ a.bare = compF Try.prog NI fn ∧ a.body.cl = true ∧ okF Try.prog fn = true
theorem e68 : Ent 68 a68 := ⟨Try.f68, by kernel_rfl, by kernel_rfl, by kernel_rfl, by kernel_rfl⟩
theorem e104 : Ent 104 a104 := ⟨Try.f104, by kernel_rfl, by kernel_rfl, by kernel_rfl, by kernel_rfl⟩
theorem e123 : Ent 123 a123 := ⟨Try.f123, by kernel_rfl, by kernel_rfl, by kernel_rfl, by kernel_rfl⟩
theorem env : Env Try.prog NI AA XX := by
  refine ⟨by kernel_rfl, fun f fn' h => ?_, fun f e h => by cases h⟩
  unfold AA at h
  split at h
  · cases h; exact e68
  · cases h; exact e104
  · cases h; exact e123
  · cases h
end Go.Proofs.Ytpanbfainilmpaa.Ev.O
end
section
/- Trimming, and comparing words, by themselves. -/
set_option linter.unusedVariables false
set_option linter.unusedSimpArgs false
set_option maxRecDepth 100000
set_option maxHeartbeats 2000000
namespace Go.Proofs.Ytpanbfainilmpaa.Ev.O
open Go Go.Proofs.Ytpanbfainilmpaa.Ev Go.Proofs.Ytpanbfainilmpaa.Ev.N

theorem Nan123 (x : Nat) : (KL AA XX).call 123 [(PV.one (D.sc (Value.int IntKind.u64 ((x : Nat)))))] = some [(PV.one (D.sc (Value.bool (false))))] := by
  rw [c123]
  have d : decide (((x : Nat) : Int) = ((x : Nat) : Int)) = true := decide_eq_true rfl
  simp only [go_sem, ↓reduceIte, Nat.reduceAdd, Nat.reduceSub, Nat.reduceMul, Nat.reduceEqDiff, Nat.reduceLT, Nat.reduceShiftRight, Nat.reduceAnd, Nat.reduceBNe, Nat.reduceLeDiff, Nat.reduceBEq, Nat.testBit, Nat.zero_lt_one, Int.reduceToNat, Int.reduceNeg, Int.reduceLE, Int.reduceLT, Int.reduceEq, decide_true, decide_false, Bool.and_true, Bool.true_and, Bool.and_false, Bool.false_and, Bool.or_true, Bool.true_or, Bool.or_false, Bool.false_or, Bool.not_true, Bool.not_false, beq_self_eq_true, reduceCtorEq, Int.le_refl, Nat.add_zero, and_self, and_true, true_and, or_true, true_or, if_true, if_false, Nat.le_refl, Bool.and_self, eq_self, Bool.not_false, Bool.not_true, d]
theorem Cmp104 (x y : Nat) : (KL AA XX).call 104 [(PV.one (D.sc (Value.int IntKind.u64 ((x : Nat))))), (PV.one (D.sc (Value.int IntKind.u64 ((y : Nat)))))] = some [(PV.one (D.sc (Value.int IntKind.i64 (cmpI x y))))] := by
  have n1 := Nan123 x
  have n2 := Nan123 y
  rw [c104]
  by_cases h1 : x < y
  · have d1 : decide ((x : Int) < (y : Int)) = true := decide_eq_true (by omega)
    have hc : cmpI x y = -1 := if_pos h1
    simp only [go_sem, ↓reduceIte, Nat.reduceAdd, Nat.reduceSub, Nat.reduceMul, Nat.reduceEqDiff, Nat.reduceLT, Nat.reduceShiftRight, Nat.reduceAnd, Nat.reduceBNe, Nat.reduceLeDiff, Nat.reduceBEq, Nat.testBit, Nat.zero_lt_one, Int.reduceToNat, Int.reduceNeg, Int.reduceLE, Int.reduceLT, Int.reduceEq, decide_true, decide_false, Bool.and_true, Bool.true_and, Bool.and_false, Bool.false_and, Bool.or_true, Bool.true_or, Bool.or_false, Bool.false_or, Bool.not_true, Bool.not_false, beq_self_eq_true, reduceCtorEq, Int.le_refl, Nat.add_zero, and_self, and_true, true_and, or_true, true_or, if_true, if_false, Nat.le_refl, Bool.and_self, eq_self, Bool.not_false, Bool.not_true, n1, n2, d1, hc]
  · have d1 : decide ((x : Int) < (y : Int)) = false := decide_eq_false (by omega)
    by_cases h2 : y < x
    · have d2 : decide ((y : Int) < (x : Int)) = true := decide_eq_true (by omega)
      have hc : cmpI x y = 1 := by unfold cmpI; rw [if_neg h1, if_pos h2]
      simp only [go_sem, ↓reduceIte, Nat.reduceAdd, Nat.reduceSub, Nat.reduceMul, Nat.reduceEqDiff, Nat.reduceLT, Nat.reduceShiftRight, Nat.reduceAnd, Nat.reduceBNe, Nat.reduceLeDiff, Nat.reduceBEq, Nat.testBit, Nat.zero_lt_one, Int.reduceToNat, Int.reduceNeg, Int.reduceLE, Int.reduceLT, Int.reduceEq, decide_true, decide_false, Bool.and_true, Bool.true_and, Bool.and_false, Bool.false_and, Bool.or_true, Bool.true_or, Bool.or_false, Bool.false_or, Bool.not_true, Bool.not_false, beq_self_eq_true, reduceCtorEq, Int.le_refl, Nat.add_zero, and_self, and_true, true_and, or_true, true_or, if_true, if_false, Nat.le_refl, Bool.and_self, eq_self, Bool.not_false, Bool.not_true, n1, n2, d1, d2, hc]
    · have d2 : decide ((y : Int) < (x : Int)) = false := decide_eq_false (by omega)
      have hc : cmpI x y = 0 := by unfold cmpI; rw [if_neg h1, if_neg h2]
      simp only [go_sem, ↓reduceIte, Nat.reduceAdd, Nat.reduceSub, Nat.reduceMul, Nat.reduceEqDiff, Nat.reduceLT, Nat.reduceShiftRight, Nat.reduceAnd, Nat.reduceBNe, Nat.reduceLeDiff, Nat.reduceBEq, Nat.testBit, Nat.zero_lt_one, Int.reduceToNat, Int.reduceNeg, Int.reduceLE, Int.reduceLT, Int.reduceEq, decide_true, decide_false, Bool.and_true, Bool.true_and, Bool.and_false, Bool.false_and, Bool.or_true, Bool.true_or, Bool.or_false, Bool.false_or, Bool.not_true, Bool.not_false, beq_self_eq_true, reduceCtorEq, Int.le_refl, Nat.add_zero, and_self, and_true, true_and, or_true, true_or, if_true, if_false, Nat.le_refl, Bool.and_self, eq_self, Bool.not_false, Bool.not_true, n1, n2, d1, d2, hc]

theorem Trim68 {l : List Nat} (h : Limbs l) (hl : l.length ≤ 2000000) : (KL AA XX).call 68 [(PV.one (D.sl (List.map n64 (l))))] = some [(PV.one (D.sl (List.map n64 (dig (val l)))))] := by
  have hm := top_le h
  have go := iter (F := fun (i : Nat) => loopR AA XX [0, 3] 1 b68_0 (RUN AA XX b68_0 ⟨[(0, (AV.c (C.d (D.sl (List.map n64 (l)))))), (3, (AV.c (C.d (D.sc (Value.int IntKind.i64 (i))))))], [(0, .tok 0 0)], 1⟩)) hm fun i hi1 hi2 => by
    have hz := top_zero h hi2 hi1
    have hg := getn hi2
    rw [hz] at hg
    have hw : IntKind.i64.wrap (((i + 1 : Nat) : Int) - 1) = (i : Int) := by rw [wrap_i64 _ (by omega) (by omega)]; omega
    have h0 : decide ((0 : Int) < ((i + 1 : Nat) : Int)) = true := decide_eq_true (by omega)
    refine Eq.symm ?_
    show loopR _ _ _ _ _ (RUN _ _ _ _) = _
    rw [b68_0_run]
    simp only [go_sem, ↓reduceIte, Nat.reduceAdd, Nat.reduceSub, Nat.reduceMul, Nat.reduceEqDiff, Nat.reduceLT, Nat.reduceShiftRight, Nat.reduceAnd, Nat.reduceBNe, Nat.reduceLeDiff, Nat.reduceBEq, Nat.testBit, Nat.zero_lt_one, Int.reduceToNat, Int.reduceNeg, Int.reduceLE, Int.reduceLT, Int.reduceEq, decide_true, decide_false, Bool.and_true, Bool.true_and, Bool.and_false, Bool.false_and, Bool.or_true, Bool.true_or, Bool.or_false, Bool.false_or, Bool.not_true, Bool.not_false, beq_self_eq_true, reduceCtorEq, Int.le_refl, Nat.add_zero, and_self, and_true, true_and, or_true, true_or, if_true, if_false, Nat.le_refl, Bool.and_self, eq_self, Bool.not_false, Bool.not_true, hw, h0, hg, Int.natCast_zero]
  have ht := top_take h
  have q1 : ((nlen (val l) : Int) ≤ (l.length : Int)) = True := eq_true (by omega)
  have mb := mbk (show (dig (val l)).length ≤ 10000000 by rw [dig_len]; omega) (Nat.le_refl _) (show 8 ≤ 1000 by omega)
  have hd := dig_len (val l)
  rw [c68]
  simp only [go_sem, ↓reduceIte, Nat.reduceAdd, Nat.reduceSub, Nat.reduceMul, Nat.reduceEqDiff, Nat.reduceLT, Nat.reduceShiftRight, Nat.reduceAnd, Nat.reduceBNe, Nat.reduceLeDiff, Nat.reduceBEq, Nat.testBit, Nat.zero_lt_one, Int.reduceToNat, Int.reduceNeg, Int.reduceLE, Int.reduceLT, Int.reduceEq, decide_true, decide_false, Bool.and_true, Bool.true_and, Bool.and_false, Bool.false_and, Bool.or_true, Bool.true_or, Bool.or_false, Bool.false_or, Bool.not_true, Bool.not_false, beq_self_eq_true, reduceCtorEq, Int.le_refl, Nat.add_zero, and_self, and_true, true_and, or_true, true_or, if_true, if_false, Nat.le_refl, Bool.and_self, eq_self, Bool.not_false, Bool.not_true]
  rw [← go, b68_0_run]
  rcases hn : nlen (val l) with _ | m
  · rw [hn] at ht q1
    have e0 : dig (val l) = [] := by rw [← ht, List.take_zero]
    rw [e0] at mb ⊢
    have q1' : ((0 : Int) ≤ (l.length : Int)) = True := eq_true (by omega)
    simp only [go_sem, ↓reduceIte, Nat.reduceAdd, Nat.reduceSub, Nat.reduceMul, Nat.reduceEqDiff, Nat.reduceLT, Nat.reduceShiftRight, Nat.reduceAnd, Nat.reduceBNe, Nat.reduceLeDiff, Nat.reduceBEq, Nat.testBit, Nat.zero_lt_one, Int.reduceToNat, Int.reduceNeg, Int.reduceLE, Int.reduceLT, Int.reduceEq, decide_true, decide_false, Bool.and_true, Bool.true_and, Bool.and_false, Bool.false_and, Bool.or_true, Bool.true_or, Bool.or_false, Bool.false_or, Bool.not_true, Bool.not_false, beq_self_eq_true, reduceCtorEq, Int.le_refl, Nat.add_zero, and_self, and_true, true_and, or_true, true_or, if_true, if_false, Nat.le_refl, Bool.and_self, eq_self, Bool.not_false, Bool.not_true, Int.natCast_zero, Int.lt_irrefl, tk64, q1', mb, all64, Nat.zero_le, show ((0 : Nat) : Int) = 0 from rfl]
  · rw [hn] at ht q1
    have hml : m < l.length := by omega
    have hg := getn hml
    have hnz := top_not h hml hn
    have hw : IntKind.i64.wrap (((m + 1 : Nat) : Int) - 1) = (m : Int) := by rw [wrap_i64 _ (by omega) (by omega)]; omega
    have h0 : decide ((0 : Int) < ((m + 1 : Nat) : Int)) = true := decide_eq_true (by omega)
    have h1 : decide (((l[m] : Nat) : Int) = 0) = false := decide_eq_false (by omega)
    simp only [go_sem, ↓reduceIte, Nat.reduceAdd, Nat.reduceSub, Nat.reduceMul, Nat.reduceEqDiff, Nat.reduceLT, Nat.reduceShiftRight, Nat.reduceAnd, Nat.reduceBNe, Nat.reduceLeDiff, Nat.reduceBEq, Nat.testBit, Nat.zero_lt_one, Int.reduceToNat, Int.reduceNeg, Int.reduceLE, Int.reduceLT, Int.reduceEq, decide_true, decide_false, Bool.and_true, Bool.true_and, Bool.and_false, Bool.false_and, Bool.or_true, Bool.true_or, Bool.or_false, Bool.false_or, Bool.not_true, Bool.not_false, beq_self_eq_true, reduceCtorEq, Int.le_refl, Nat.add_zero, and_self, and_true, true_and, or_true, true_or, if_true, if_false, Nat.le_refl, Bool.and_self, eq_self, Bool.not_false, Bool.not_true, hw, h0, h1, hg, tk64, q1, ht, mb, all64]
end Go.Proofs.Ytpanbfainilmpaa.Ev.O
end
section
/- Comparing: its contract. -/
set_option linter.unusedVariables false
set_option linter.unusedSimpArgs false
namespace Go.Proofs.Ytpanbfainilmpaa.Ev.N
open Go Go.Proofs Go.RowKit Go.Shelf Go.Proofs.Ytpanbfainilmpaa.Ev
attribute [local go_sem] Oper.semAt_some

theorem gives_calls {P : Program} {f : FuncId} {vs : Array Value} {w : World} {R : Value → World → Prop} (he : (callFunc f vs).run P w = .ok (.enter f vs) w) (h : Gives P f vs w R) : Calls P f vs w (fun | .returned v, w2 => R v w2 | _, _ => False) := by
  rcases h with ⟨_, h⟩ | ⟨v, w1, h1, _⟩
  · exact h
  · rw [he] at h1; cases h1
theorem cmp104 (x y : Nat) (w : World) : Calls Try.prog 104 #[.int .u64 (x : Int), .int .u64 (y : Int)] w fun e w' => e = .returned (.int .i64 (cmpI x y)) ∧ Below w.heap.size w w' := by
  obtain ⟨n, hn⟩ := (KL_call O.AA O.XX).1 (O.Cmp104 x y)
  have h := (kOk O.env n).call _ _ _ hn w (fun _ _ => False) [.int .u64 (x : Int), .int .u64 (y : Int)] (fun _ _ h => h.elim) (RelL.cons (DR.sc rfl) (RelL.cons (DR.sc rfl) RelL.nil))
  refine (gives_calls (enters_of Try.func104 (by kernel_rfl) rfl _ _) h).mono fun e w' he => ?_
  cases e with
  | returned v =>
    obtain ⟨hb, hr⟩ := he
    have : v = .int .i64 (cmpI x y) := dr_sc hr
    exact ⟨by rw [this], hb⟩
  | panicked c => exact he.elim
  | outgrown => exact he.elim
/-- The last pair that is not the same. -/
def accC (pre : List UU) : Int := pre.foldl (fun o p => if cmpI p.1.1 p.1.2 = 0 then o else cmpI p.1.1 p.1.2) 0
theorem accC_snoc (pre : List UU) (x : UU) : accC (pre ++ [x]) = if cmpI x.1.1 x.1.2 = 0 then accC pre else cmpI x.1.1 x.1.2 := by simp [accC]

theorem KeepsOthers.of_below {W W' : World} (h : Below W.heap.size W W') : KeepsOthers W W' := ⟨h.size, fun k o hk _ => (h.block k (Array.getElem?_eq_some_iff.1 hk).1).trans hk⟩
theorem KpB.of_below {n₀ Ba Bb : Nat} {W W' : World} (h : Below W.heap.size W W') (hn : n₀ ≤ W.heap.size) (ha : Ba < W.heap.size) (hb : Bb < W.heap.size) : KpB n₀ Ba Bb W W' := ⟨h.mono hn, h.block _ ha, h.block _ hb⟩
theorem KpB.set {n₀ Ba Bb B : Nat} {W W' : World} (h : KpB n₀ Ba Bb W W') (ha : Ba ≠ B) (hb : Bb ≠ B) (hn : n₀ ≤ B) (v : Value) : KpB n₀ Ba Bb W (W'.setCell ⟨B, 0, none⟩ v) :=
  ⟨h.1.setCell (p := ⟨B, 0, none⟩) hn v, (Below.heap_setCell _ _ _ _ ha).trans h.2.1, (Below.heap_setCell _ _ _ _ hb).trans h.2.2⟩
set_option maxRecDepth 100000 in
set_option maxHeartbeats 4000000 in
theorem Compare_in (pa pb : Option Addr) (ca cb : Nat) (a b : List Nat) (ha : Limbs a) (hb : Limbs b) (la : a.length ≤ 1000000) (lb : b.length ≤ 1000000) (w : World) (hA : HL w.heap.size w pa a) (hB : HL w.heap.size w pb b) :
    CallsIn Fence.wide 5 Try.prog 67 #[.slice pa a.length ca, .slice pb b.length cb] w fun e W' => e = .returned (.int .i64 (accC (upto (prs ha hb) (max a.length b.length)))) ∧ Below w.heap.size w W' := by
  refine callsIn_of_wp_marks Try.func67 rfl trivial ?_ rfl
  simp only [Try.ntmps67, List.size_toArray, List.length_cons, List.length_nil, Nat.reduceAdd, Nat.reduceSub, Array.replicate_succ, Array.replicate_zero, List.push_toArray, List.append_toArray, List.nil_append, List.cons_append]
  gi_wp2_with (refine ⟨trivial, ?_⟩; gi_at_call 102; refine (limbs_in Fence.wide 4 trivial rfl _ _ _ _ _ _ _).mono ?_; rintro e w' ⟨rfl, rfl⟩)
  have bO := Boxed.new w 3 (.int .i64 0)
  have bA := Boxed.new (w.alloc (.cells #[.int .i64 0] 3)) 64 (.slice pa a.length ca)
  have bB := Boxed.new ((w.alloc (.cells #[.int .i64 0] 3)).alloc (.cells #[.slice pa a.length ca] 64)) 64 (.slice pb b.length cb)
  rw [World.size_alloc] at bA
  rw [World.size_alloc, World.size_alloc] at bB
  have hB0 : Below w.heap.size w (((w.alloc (.cells #[.int .i64 0] 3)).alloc (.cells #[.slice pa a.length ca] 64)).alloc (.cells #[.slice pb b.length cb] 64)) := (((Below.refl _ w).alloc (Nat.le_refl _) _).alloc (by simp) _).alloc (by simp; omega) _
  obtain ⟨W0, hW0⟩ : ∃ W0, ((w.alloc (.cells #[.int .i64 0] 3)).alloc (.cells #[.slice pa a.length ca] 64)).alloc (.cells #[.slice pb b.length cb] 64) = W0 := ⟨_, rfl⟩
  have hsz : W0.heap.size = w.heap.size + 3 := by rw [← hW0]; simp
  have bO0 : Boxed W0 w.heap.size 3 (.int .i64 0) := by rw [← hW0]; exact (bO.alloc _).alloc _
  have bA0 : Boxed W0 (w.heap.size + 1) 64 (.slice pa a.length ca) := by rw [← hW0]; exact bA.alloc _
  have bB0 : Boxed W0 (w.heap.size + 1 + 1) 64 (.slice pb b.length cb) := by rw [← hW0]; exact bB
  rw [hW0] at hB0 ⊢
  clear bO bA bB hW0
  refine wpIn_rangeFunc_ownG rfl (by omega) (gf := 122) (lb := #[.pointer (some ⟨w.heap.size + 1, 0, none⟩), .pointer (some ⟨w.heap.size + 1 + 1, 0, none⟩)]) rfl trivial (enters_of Try.func122 (by kernel_rfl) rfl)
    (limbs_stops Fence.wide 4 trivial rfl (by omega) (w.heap.size + 1) (w.heap.size + 1 + 1) w.heap.size pa pb ca cb a b ha hb la lb W0 (by omega) (by omega) (by omega) bA0.cell bB0.cell (hA.below hB0) (hB.below hB0)) KpB.trans (KpB.book (by omega) (by omega) (by omega)) (Below.refl _ _) (fun _ => rfl)
    (fun pre W => (W.cell? ⟨w.heap.size, 0, none⟩ = some (.int .i64 (accC pre)) ∧ W.frozen? ⟨w.heap.size, 0, none⟩ = false) ∧ Below w.heap.size W0 W)
    (fun _ _ _ => False)
    (OwnFrom.and (Own.from (fun s A B row hs hg hr => ⟨cell_kept hs.1 hg hr, (frozen_kept hs.1 hg hr).trans hs.2⟩) _) (ownFrom_below (by omega) (by omega)))
    (fun _ _ _ _ _ hs _ _ => hs)
    ⟨⟨bO0.cell, bO0.frozen⟩, Below.refl _ _⟩
    (fun x => { tmps := #[.slice pa a.length ca, .slice pb b.length cb, undef, undef, .int .i64 0, .pointer (some ⟨w.heap.size, 0, none⟩), .int .u64 (x.1.1 : Int), .int .u64 (x.1.2 : Int), undef, .slice pa a.length ca, .slice pb b.length cb, .func (.func 122) #[] #[.pointer (some ⟨w.heap.size + 1, 0, none⟩), .pointer (some ⟨w.heap.size + 1 + 1, 0, none⟩)], .int .u64 (x.1.1 : Int), .int .u64 (x.1.2 : Int), undef, undef, undef, undef, undef, undef, undef], defers := [] }) ?assign ?body ?done ?stop
  case assign =>
    intro l x W K hK
    gi_wp2
    exact hK
  case body =>
    rintro l pre x W ⟨⟨hc, hf⟩, hBW⟩ _
    have hlt : w.heap.size < W.heap.size := by
      obtain ⟨o, ho, _⟩ := cells_of_cell hc
      exact (Array.getElem?_eq_some_iff.1 ho).1
    gi_wp2_with (refine ⟨trivial, ?_⟩; gi_at_call 104; refine (CallsIn.inRound l (callsIn_wide.2 (cmp104 x.1.1 x.1.2 W))).mono ?_; rintro e w' ⟨rfl, hb'⟩; have hc1 := (hb'.cell (p := ⟨w.heap.size, 0, none⟩) hlt).trans hc; have hf1 := (hb'.frozen (p := ⟨w.heap.size, 0, none⟩) hlt).trans hf)
    · have hne : ¬ cmpI x.1.1 x.1.2 = 0 := by
        have : (cmpI x.val.fst x.val.snd != 0) = true := by assumption
        simpa using this
      have e : accC (pre ++ [x]) = cmpI x.1.1 x.1.2 := by rw [accC_snoc, if_neg hne]
      exact ⟨((KeepsOthers.of_below hb').trans (KeepsOthers.setCell _ _ _)).from _, (KpB.of_below hb' (Nat.le_of_lt hlt) (by have := hBW.size; omega) (by have := hBW.size; omega)).set (by omega) (by omega) (Nat.le_refl _) _,
        ⟨by rw [e]; exact World.cell?_setCell_same' _ _ _ (by rw [hc1]; rfl), by rw [World.frozen?_setCell]; exact hf1⟩, (hBW.trans (hb'.mono (Nat.le_of_lt hlt))).setCell (p := ⟨w.heap.size, 0, none⟩) (Nat.le_refl _) _⟩
    · have he : cmpI x.1.1 x.1.2 = 0 := by
        have : (cmpI x.val.fst x.val.snd != 0) = false := by assumption
        simpa using this
      have e : accC (pre ++ [x]) = accC pre := by rw [accC_snoc, if_pos he]
      exact ⟨(KeepsOthers.of_below hb').from _, KpB.of_below hb' (Nat.le_of_lt hlt) (by have := hBW.size; omega) (by have := hBW.size; omega), ⟨by rw [e]; exact hc1, hf1⟩, hBW.trans (hb'.mono (Nat.le_of_lt hlt))⟩
  case done =>
    rintro D ys W hD rfl ⟨⟨hc, _⟩, hBW⟩ hK
    gi_wp2
    refine ⟨by simp, .inl ⟨_, _, rfl, run_takeDeferred hK, ?_⟩⟩
    exact ⟨_, results_tmp rfl _ _ _, rfl, (hB0.trans hBW).trans (belowK_b (w := w) (Nat.le_refl _) W D _ _ (by omega) hK rfl rfl)⟩
  case stop =>
    rintro D c pre W _ _ h _
    exact h.elim

theorem accC_upto {a b : List Nat} (ha : Limbs a) (hb : Limbs b) (k : Nat) : accC (upto (prs ha hb) k) = cmpI (val a % B64 ^ k) (val b % B64 ^ k) := by
  induction k with
  | zero => simp [upto, accC, Nat.mod_one, cmpI]
  | succ k ih =>
    rw [upto_succ, accC_snoc, ih]
    simp only [prs]
    rw [limb_eq ha, limb_eq hb]
    have ea : val a % B64 ^ (k + 1) / B64 ^ k % B64 = val a / B64 ^ k % B64 := by
      rw [Nat.pow_succ, Nat.mod_mul_right_div_self, Nat.mod_mod]
    have eb : val b % B64 ^ (k + 1) / B64 ^ k % B64 = val b / B64 ^ k % B64 := by
      rw [Nat.pow_succ, Nat.mod_mul_right_div_self, Nat.mod_mod]
    have hz : val a % B64 ^ (k + 1) / B64 ^ (k + 1) = val b % B64 ^ (k + 1) / B64 ^ (k + 1) := by
      rw [Nat.div_eq_of_lt (Nat.mod_lt _ (Bp_pos _)), Nat.div_eq_of_lt (Nat.mod_lt _ (Bp_pos _))]
    by_cases hne : val a / B64 ^ k % B64 = val b / B64 ^ k % B64
    · rw [hne, cmpI_self, if_pos rfl, Nat.mod_pow_succ, Nat.mod_pow_succ, hne]
      unfold cmpI
      simp only [Nat.add_lt_add_iff_right]
    · have h1 := cmp_top hz (by rw [ea, eb]; exact hne)
      rw [ea, eb] at h1
      rw [h1]
      unfold cmpI
      rcases Nat.lt_trichotomy (val a / B64 ^ k % B64) (val b / B64 ^ k % B64) with h | h | h
      · simp [h]
      · exact absurd h hne
      · have h' : ¬ val a / B64 ^ k % B64 < val b / B64 ^ k % B64 := by omega
        simp [h, h']
theorem un64_inv : ∀ {A : List (List D)} {l : List Nat}, un64 A = some l → A = l.map n64 ∧ Limbs l := by
  intro A
  induction A with
  | nil => intro l h; cases h; exact ⟨rfl, Limbs.nil⟩
  | cons e A ih =>
    intro l h
    unfold un64 at h
    split at h
    · rename_i heq; cases heq
    · rename_i x r heq
      cases heq
      split at h
      · rename_i hx
        obtain ⟨m, hm, rfl⟩ := Option.map_eq_some_iff.1 h
        obtain ⟨rfl, hl⟩ := ih hm
        have hB : B64 = 18446744073709551616 := rfl
        refine ⟨?_, Limbs.cons (by omega) hl⟩
        rw [List.map_cons]
        congr 1
        show [D.sc (Value.int .u64 x)] = [D.sc (Value.int .u64 ((x.toNat : Nat) : Int))]
        rw [Int.toNat_of_nonneg hx.1]
      · cases h
    · cases h
theorem two64_inv {f : List Nat → List Nat → Option (List PV)} {args rs : List PV} (h : two64 f args = some rs) : ∃ a b, args = [nl a, nl b] ∧ Limbs a ∧ Limbs b ∧ a.length ≤ 1000000 ∧ b.length ≤ 1000000 ∧ f a b = some rs := by
  unfold two64 at h
  split at h
  · rename_i A B
    cases ha : un64 A with
    | none => rw [ha] at h; cases h
    | some a =>
      cases hb : un64 B with
      | none => rw [ha, hb] at h; cases h
      | some b =>
        rw [ha, hb] at h
        simp only [Option.bind_some] at h
        split at h
        · rename_i hl
          obtain ⟨rfl, la⟩ := un64_inv ha
          obtain ⟨rfl, lb⟩ := un64_inv hb
          exact ⟨a, b, rfl, la, lb, hl.1, hl.2, h⟩
        · cases h
  · cases h
theorem two_args {w : World} {S : Nat → Nat → Prop} (hS : ∀ b o, S b o → b < w.heap.size) {a b : List Nat} {vs : List Value} (h : RelL (PR w S) [nl a, nl b] vs) : ∃ pa ca pb cb, vs = [.slice pa a.length ca, .slice pb b.length cb] ∧ HL w.heap.size w pa a ∧ HL w.heap.size w pb b := by
  obtain ⟨u, hu, h1⟩ := h.get (i := 0) rfl
  obtain ⟨v, hv, h2⟩ := h.get (i := 1) rfl
  have hl := h.1
  obtain ⟨pa, ca, rfl, ha⟩ := HL.of hS h1
  obtain ⟨pb, cb, rfl, hb⟩ := HL.of hS h2
  match vs, hl with
  | [x, y], _ =>
    simp only [List.getElem?_cons_zero, List.getElem?_cons_succ, Option.some.injEq] at hu hv
    exact ⟨pa, ca, pb, cb, by rw [hu, hv], ha, hb⟩
theorem cmpI_mod {a b : List Nat} (ha : Limbs a) (hb : Limbs b) : accC (upto (prs ha hb) (max a.length b.length)) = cmpI (val a) (val b) := by
  rw [accC_upto ha hb]
  have h1 := val_lt ha
  have h2 := val_lt hb
  have e1 : B64 ^ a.length ≤ B64 ^ max a.length b.length := Nat.pow_le_pow_right B_pos (by omega)
  have e2 : B64 ^ b.length ≤ B64 ^ max a.length b.length := Nat.pow_le_pow_right B_pos (by omega)
  rw [Nat.mod_eq_of_lt (by omega), Nat.mod_eq_of_lt (by omega)]
/-- nat.Compare -/
theorem ok67 (args rs : List PV) (h : x67 args = some rs) : FnOk Try.prog 67 args rs := by
  obtain ⟨a, b, rfl, ha, hb, la, lb, hf⟩ := two64_inv h
  cases hf
  intro w S vs hS hargs
  obtain ⟨pa, ca, pb, cb, rfl, hA, hB⟩ := two_args hS hargs
  refine .inl ⟨enters_of Try.func67 (by kernel_rfl) rfl _ _, (callsIn_wide.1 (Compare_in pa pb ca cb a b ha hb la lb w hA hB)).mono ?_⟩
  rintro e W' ⟨rfl, hb'⟩
  refine ⟨hb', ?_⟩
  rw [cmpI_mod ha hb]
  exact DR.sc rfl
end Go.Proofs.Ytpanbfainilmpaa.Ev.N
end
section
/- bits.Add64, bits.Sub64: what the model gives. -/
set_option linter.unusedVariables false
set_option linter.unusedSimpArgs false
namespace Go.Proofs.Ytpanbfainilmpaa.Ev.N
open Go Go.Proofs Go.RowKit Go.Shelf Go.Proofs.Ytpanbfainilmpaa.Ev

theorem run100 (x y c : Nat) (hc : c ≤ 1) (w : World) : (callFunc 100 #[.int .u64 (x : Int), .int .u64 (y : Int), .int .u64 (c : Int)]).run Try.prog w =
    .ok (.value (.tuple #[.int .u64 (((x + y + c) % B64 : Nat) : Int), .int .u64 (((x + y + c) / B64 : Nat) : Int)])) w := by
  rw [run_callFunc_extern Try.func100 (by kernel_rfl) (by kernel_rfl) (by kernel_rfl) (e := add64Entry) (by kernel_rfl)]
  have : c = 0 ∨ c = 1 := by omega
  rcases this with rfl | rfl <;> rfl
theorem run103 (x y c : Nat) (hc : c ≤ 1) (w : World) : (callFunc 103 #[.int .u64 (x : Int), .int .u64 (y : Int), .int .u64 (c : Int)]).run Try.prog w =
    .ok (.value (.tuple #[.int .u64 (((x + B64 - y - c) % B64 : Nat) : Int), .int .u64 ((if x < y + c then 1 else 0 : Nat) : Int)])) w := by
  rw [run_callFunc_extern Try.func103 (by kernel_rfl) (by kernel_rfl) (by kernel_rfl) (e := sub64Entry) (by kernel_rfl)]
  have : c = 0 ∨ c = 1 := by omega
  rcases this with rfl | rfl <;> rfl
theorem three64_inv {f : Nat → Nat → Nat → Nat × Nat} {args rs : List PV} (h : three64 f args = some rs) : ∃ x y c : Nat, args = [.one (.sc (.int .u64 (x : Int))), .one (.sc (.int .u64 (y : Int))), .one (.sc (.int .u64 (c : Int)))] ∧ c ≤ 1 ∧ rs = [.one (.sc (.int .u64 ((f x y c).1 : Nat))), .one (.sc (.int .u64 ((f x y c).2 : Nat)))] := by
  unfold three64 at h
  split at h
  · rename_i x y c
    split at h
    · rename_i hx
      cases h
      refine ⟨x.toNat, y.toNat, c.toNat, ?_, by omega, rfl⟩
      rw [Int.toNat_of_nonneg hx.1, Int.toNat_of_nonneg hx.2.1, Int.toNat_of_nonneg hx.2.2.1]
    · cases h
  · cases h
theorem three_args {w : World} {S : Nat → Nat → Prop} {x y z : Value} {vs : List Value} (h : RelL (PR w S) [.one (.sc x), .one (.sc y), .one (.sc z)] vs) : vs = [x, y, z] := by
  obtain ⟨u, hu, h1⟩ := h.get (i := 0) rfl
  obtain ⟨v, hv, h2⟩ := h.get (i := 1) rfl
  obtain ⟨t, ht, h3⟩ := h.get (i := 2) rfl
  have hl := h.1
  have e1 : u = x := dr_sc h1
  have e2 : v = y := dr_sc h2
  have e3 : t = z := dr_sc h3
  match vs, hl with
  | [a, b, c], _ =>
    simp only [List.getElem?_cons_zero, List.getElem?_cons_succ, Option.some.injEq] at hu hv ht
    rw [hu, hv, ht, e1, e2, e3]
theorem two_out {w : World} {S : Nat → Nat → Prop} (x y : Int) : PRs w S [.one (.sc (.int .u64 x)), .one (.sc (.int .u64 y))] (.tuple #[.int .u64 x, .int .u64 y]) :=
  ⟨[.int .u64 x, .int .u64 y], rfl, RelL.cons (DR.sc rfl) (RelL.cons (DR.sc rfl) RelL.nil)⟩
theorem ok100 (args rs : List PV) (h : x100 args = some rs) : FnOk Try.prog 100 args rs := by
  obtain ⟨x, y, c, rfl, hc, rfl⟩ := three64_inv h
  intro w S vs hS hargs
  obtain rfl := three_args hargs
  exact .inr ⟨_, w, run100 x y c hc w, Below.refl _ _, two_out _ _⟩
theorem ok103 (args rs : List PV) (h : x103 args = some rs) : FnOk Try.prog 103 args rs := by
  obtain ⟨x, y, c, rfl, hc, rfl⟩ := three64_inv h
  intro w S vs hS hargs
  obtain rfl := three_args hargs
  exact .inr ⟨_, w, run103 x y c hc w, Below.refl _ _, two_out _ _⟩
end Go.Proofs.Ytpanbfainilmpaa.Ev.N
end
section
/- nat.Add: its contract. -/
set_option linter.unusedVariables false
set_option linter.unusedSimpArgs false
namespace Go.Proofs.Ytpanbfainilmpaa.Ev.N
open Go Go.Proofs Go.RowKit Go.Shelf Go.Proofs.Ytpanbfainilmpaa.Ev
attribute [local go_sem] Oper.semAt_some

theorem info66 : (Try.prog.info? 66).map (fun i => (i.zero, i.size, i.bytes)) = some (some (.int .u64 0), 1, 8) := by kernel_rfl
def addS (pre : List UU) : List Nat × Nat := pre.foldl (fun s p => (s.1 ++ [(p.1.1 + p.1.2 + s.2) % B64], (p.1.1 + p.1.2 + s.2) / B64)) ([], 0)
theorem addS_snoc (pre : List UU) (x : UU) : addS (pre ++ [x]) = ((addS pre).1 ++ [(x.1.1 + x.1.2 + (addS pre).2) % B64], (x.1.1 + x.1.2 + (addS pre).2) / B64) := by simp [addS]
theorem addS_len (pre : List UU) : (addS pre).1.length = pre.length := by
  have : ∀ (pre : List UU) (s : List Nat × Nat), (pre.foldl (fun s p => (s.1 ++ [(p.1.1 + p.1.2 + s.2) % B64], (p.1.1 + p.1.2 + s.2) / B64)) s).1.length = s.1.length + pre.length := by
    intro pre
    induction pre with
    | nil => intro s; rfl
    | cons x pre ih =>
      intro s
      rw [List.foldl_cons, ih]
      simp; omega
  have h := this pre ([], 0)
  simpa [addS] using h
theorem addS_cry (pre : List UU) : (addS pre).2 ≤ 1 := by
  have : ∀ (pre : List UU) (s : List Nat × Nat), s.2 ≤ 1 → (pre.foldl (fun s p => (s.1 ++ [(p.1.1 + p.1.2 + s.2) % B64], (p.1.1 + p.1.2 + s.2) / B64)) s).2 ≤ 1 := by
    intro pre
    induction pre with
    | nil => intro s h; exact h
    | cons x pre ih =>
      intro s h
      rw [List.foldl_cons]
      apply ih
      have h1 := x.2.1
      have h2 := x.2.2
      show (x.1.1 + x.1.2 + s.2) / B64 ≤ 1
      rw [← Nat.lt_succ_iff, Nat.div_lt_iff_lt_mul B_pos]
      omega
  exact this pre ([], 0) (Nat.zero_le _)
theorem addS_upto {a b : List Nat} (ha : Limbs a) (hb : Limbs b) (k : Nat) : addS (upto (prs ha hb) k) = (digs k (val a + val b), cry (val a) (val b) k) := by
  induction k with
  | zero => simp [upto, addS, digs, cry_zero]
  | succ k ih =>
    rw [upto_succ, addS_snoc, ih]
    simp only [prs]
    rw [limb_eq ha, limb_eq hb, ← sum_digit, ← cry_succ, digs_succ]

theorem own_ne {W : World} {base : Nat} {e : TypeId} {size : Nat} {v : Value} {k : Nat} {xs : List Value} (h : W.ownsRow base e size v k xs) {B : Nat} (hB : B < base) : some B ≠ v.ownBlock := by
  rcases h.2 with ⟨rfl, _⟩ | ⟨g, cap, cur, rfl, hb, _⟩
  · simp [Value.ownBlock]
  · intro e'
    obtain rfl : B = g := by simpa [Value.ownBlock] using e'
    omega
theorem step_world {W w1 : World} {n0 m : Nat} {v x2 x3 : Value} {tmp : Obj} {k : Nat} {xs : List Value} (h2 : ((W.setCell ⟨n0 + 1, 0, none⟩ x2).setCell ⟨n0 + 1 + 1, 0, none⟩ x3).ownsRow m 66 1 v k xs)
    (hg : (((W.setCell ⟨n0 + 1, 0, none⟩ x2).setCell ⟨n0 + 1 + 1, 0, none⟩ x3).alloc tmp).grownBy w1 v.ownBlock) (hm : n0 + 5 ≤ m) (hs : m ≤ W.heap.size) (v' : Value) :
    KeepsOthers W (w1.setCell ⟨n0, 0, none⟩ v') ∧ KpB n0 (n0 + 1 + 1 + 1) (n0 + 1 + 1 + 1 + 1) W (w1.setCell ⟨n0, 0, none⟩ v') := by
  have hne : ∀ k, n0 < k → k < m → k ≠ n0 + 1 → k ≠ n0 + 1 + 1 → (w1.setCell ⟨n0, 0, none⟩ v').heap[k]? = W.heap[k]? := fun k h0 h1 h3 h4 => by
    rw [Below.heap_setCell _ _ _ _ (show k ≠ n0 by omega), hg.block k (by simp; omega) (own_ne h2 h1), Below.heap_alloc _ _ _ (by simp; omega), Below.heap_setCell _ _ _ _ h4, Below.heap_setCell _ _ _ _ h3]
  refine ⟨?_, ?_, hne _ (by omega) (by omega) (by omega) (by omega), hne _ (by omega) (by omega) (by omega) (by omega)⟩
  · refine ((((KeepsOthers.setCell W _ _).trans (KeepsOthers.setCell _ _ _)).trans (KeepsOthers.alloc _ tmp)).trans (KeepsOthers.of_grownBy hg fun j o ej hj => ?_)).trans (KeepsOthers.setCell _ _ _)
    rcases (h2.alloc tmp).2 with ⟨rfl, _⟩ | ⟨g, cap, cur, rfl, _, hgb, _⟩
    · simp [Value.ownBlock] at ej
    · obtain rfl : g = j := by simpa [Value.ownBlock] using ej
      rw [hgb] at hj; cases hj; rfl
  · refine (((((Below.refl n0 W).setCell (p := ⟨n0 + 1, 0, none⟩) (by simp) x2).setCell (p := ⟨n0 + 1 + 1, 0, none⟩) (by simp; omega) x3).alloc (by simp; omega) tmp).grown hg (by simp; omega) fun j ej => ?_).setCell (p := ⟨n0, 0, none⟩) (Nat.le_refl _) v'
    rcases Nat.lt_or_ge j n0 with h | h
    · exact absurd ej.symm (own_ne h2 (by omega))
    · exact h
theorem fin_list {a b : List Nat} (ha : Limbs a) (hb : Limbs b) : Limbs (digs (max a.length b.length) (val a + val b) ++ [cry (val a) (val b) (max a.length b.length)]) ∧ val (digs (max a.length b.length) (val a + val b) ++ [cry (val a) (val b) (max a.length b.length)]) = val a + val b := by
  have e1 : B64 ^ a.length ≤ B64 ^ max a.length b.length := Nat.pow_le_pow_right B_pos (by omega)
  have e2 : B64 ^ b.length ≤ B64 ^ max a.length b.length := Nat.pow_le_pow_right B_pos (by omega)
  have hA := Nat.lt_of_lt_of_le (val_lt ha) e1
  have hB := Nat.lt_of_lt_of_le (val_lt hb) e2
  rw [sum_digs hA hB]
  exact ⟨digs_limbs _ _, sum_val hA hB⟩
/-- An owned row as an argument. -/
theorem row_arg {w : World} {base : Nat} {v : Value} {l : List Nat} (h : w.ownsRow base 66 1 v l.length (l.map fun x : Nat => Value.int .u64 (x : Int))) : PR w (fun b _ => base ≤ b ∧ b < w.heap.size) (nl l) v := by
  show DR w _ (.sl (l.map n64)) v
  rcases h.2 with ⟨rfl, h0⟩ | ⟨g, cap, cur, rfl, hb, hg, hc1, _, _, hx⟩
  · have : l = [] := List.length_eq_zero_iff.1 h0
    subst this
    exact .sl (sz := 1) (b := 0) (o := 0) (fun _ _ => .bool false) rfl (Nat.le_refl _) (fun _ _ h => by cases h) (fun _ _ _ _ h => by cases h) (fun _ _ _ _ h => by cases h)
  · have hlt : g < w.heap.size := (Array.getElem?_eq_some_iff.1 hg).1
    have hcell : ∀ i (hi : i < l.length), w.cell? ⟨g, i, none⟩ = some (.int .u64 (l[i] : Int)) := fun i hi => by
      have h1 : (cur.toList.take (l.length * 1))[i]? = (l.map fun x : Nat => Value.int .u64 (x : Int))[i]? := by rw [hx]
      rw [List.getElem?_take, if_pos (by omega), List.getElem?_map, List.getElem?_eq_getElem hi] at h1
      simp [World.cell?, hg]
      simpa using h1
    refine .sl (sz := 1) (b := g) (o := 0) (fun i _ => .int .u64 (limb l i : Int)) (by simp) hc1 (fun i e he => ?_) (fun i e j x he hx => ?_) (fun i e j x he hx => ?_)
    · rw [List.getElem?_map] at he
      obtain ⟨y, _, rfl⟩ := Option.map_eq_some_iff.1 he
      rfl
    · rw [List.getElem?_map] at he
      obtain ⟨y, hy, rfl⟩ := Option.map_eq_some_iff.1 he
      obtain ⟨hi, rfl⟩ := List.getElem?_eq_some_iff.1 hy
      have hj : j = 0 := by
        have := (List.getElem?_eq_some_iff.1 hx).1
        simp at this; omega
      subst hj
      refine ⟨rfl, ?_, hb, hlt⟩
      rw [limb_get hi]
      simpa using hcell i hi
    · rw [List.getElem?_map] at he
      obtain ⟨y, hy, rfl⟩ := Option.map_eq_some_iff.1 he
      obtain ⟨hi, rfl⟩ := List.getElem?_eq_some_iff.1 hy
      have hj : j = 0 := by
        have := (List.getElem?_eq_some_iff.1 hx).1
        simp at this; omega
      subst hj
      cases hx
      rw [limb_get hi]
      exact .sc rfl
theorem trim68 {l : List Nat} (hl : Limbs l) (hlen : l.length ≤ 2000000) {w : World} {base : Nat} (hbase : base ≤ w.heap.size) {v : Value} (h : w.ownsRow base 66 1 v l.length (l.map fun x : Nat => Value.int .u64 (x : Int))) :
    Calls Try.prog 68 #[v] w fun e w' => ∃ v2, e = .returned v2 ∧ Below w.heap.size w w' ∧ PRs w' (fun b _ => base ≤ b ∧ b < w'.heap.size) [nl (dig (val l))] v2 := by
  obtain ⟨n, hn⟩ := (KL_call O.AA O.XX).1 (O.Trim68 hl hlen)
  have h := (kOk O.env n).call _ _ _ hn w _ [v] (fun _ _ h => h.2) (RelL.cons (row_arg h) RelL.nil)
  refine (gives_calls (enters_of Try.func68 (by kernel_rfl) rfl _ _) h).mono fun e w' he => ?_
  cases e with
  | returned v2 =>
    obtain ⟨hb, hr⟩ := he
    refine ⟨v2, rfl, hb, PRs.move (fun b o u hs hu => ⟨?_, hu⟩) hr⟩
    have := hb.size
    rcases hs with hs | hs
    · exact ⟨hs.1, by omega⟩
    · exact ⟨by omega, hs.2⟩
  | panicked c => exact he.elim
  | outgrown => exact he.elim
set_option maxRecDepth 100000 in
set_option maxHeartbeats 4000000 in
theorem Add_in (pa pb : Option Addr) (ca cb : Nat) (a b : List Nat) (ha : Limbs a) (hb : Limbs b) (la : a.length ≤ 1000000) (lb : b.length ≤ 1000000) (w : World) (hA : HL w.heap.size w pa a) (hB : HL w.heap.size w pb b) :
    CallsIn Fence.wide 5 Try.prog 66 #[.slice pa a.length ca, .slice pb b.length cb] w fun e W' => ∃ v, e = .returned v ∧ Below w.heap.size w W' ∧ PRs W' (fun b _ => w.heap.size ≤ b ∧ b < W'.heap.size) [nl (dig (val a + val b))] v := by
  refine callsIn_of_wp_marks Try.func66 rfl trivial ?_ rfl
  obtain ⟨i0, hi, hz0, hz1, hz2⟩ := info_parts info66
  simp only [Try.ntmps66, List.size_toArray, List.length_cons, List.length_nil, Nat.reduceAdd, Nat.reduceSub, Array.replicate_succ, Array.replicate_zero, List.push_toArray, List.append_toArray, List.nil_append, List.cons_append]
  gi_wp2_with (refine ⟨trivial, ?_⟩; gi_at_call 102; refine (limbs_in Fence.wide 4 trivial rfl _ _ _ _ _ _ _).mono ?_; rintro e w' ⟨rfl, rfl⟩)
  obtain ⟨W0, hW0⟩ : ∃ W0, ((((w.alloc (.cells #[.slice none 0 0] 64)).alloc (.cells #[.int .u64 0] 66)).alloc (.cells #[.int .u64 0] 66)).alloc (.cells #[.slice pa a.length ca] 64)).alloc (.cells #[.slice pb b.length cb] 64) = W0 := ⟨_, rfl⟩
  have hsz : W0.heap.size = w.heap.size + 5 := by rw [← hW0]; simp
  have hB0 : Below w.heap.size w W0 := by
    rw [← hW0]
    exact (((((Below.refl _ w).alloc (Nat.le_refl _) _).alloc (by simp) _).alloc (by simp; omega) _).alloc (by simp; omega) _).alloc (by simp; omega) _
  have bO0 : Boxed W0 w.heap.size 64 (.slice none 0 0) := by rw [← hW0]; exact ((((Boxed.new w _ _).alloc _).alloc _).alloc _).alloc _
  have bN0 : Boxed W0 (w.heap.size + 1) 66 (.int .u64 0) := by
    rw [← hW0]
    have := Boxed.new (w.alloc (.cells #[.slice none 0 0] 64)) 66 (.int .u64 0)
    rw [World.size_alloc] at this
    exact ((this.alloc _).alloc _).alloc _
  have bC0 : Boxed W0 (w.heap.size + 1 + 1) 66 (.int .u64 0) := by
    rw [← hW0]
    have := Boxed.new ((w.alloc (.cells #[.slice none 0 0] 64)).alloc (.cells #[.int .u64 0] 66)) 66 (.int .u64 0)
    rw [World.size_alloc, World.size_alloc] at this
    exact (this.alloc _).alloc _
  have bA0 : Boxed W0 (w.heap.size + 1 + 1 + 1) 64 (.slice pa a.length ca) := by
    rw [← hW0]
    have := Boxed.new (((w.alloc (.cells #[.slice none 0 0] 64)).alloc (.cells #[.int .u64 0] 66)).alloc (.cells #[.int .u64 0] 66)) 64 (.slice pa a.length ca)
    rw [World.size_alloc, World.size_alloc, World.size_alloc] at this
    exact this.alloc _
  have bB0 : Boxed W0 (w.heap.size + 1 + 1 + 1 + 1) 64 (.slice pb b.length cb) := by
    rw [← hW0]
    have := Boxed.new ((((w.alloc (.cells #[.slice none 0 0] 64)).alloc (.cells #[.int .u64 0] 66)).alloc (.cells #[.int .u64 0] 66)).alloc (.cells #[.slice pa a.length ca] 64)) 64 (.slice pb b.length cb)
    rw [World.size_alloc, World.size_alloc, World.size_alloc, World.size_alloc] at this
    exact this
  rw [hW0]
  clear hW0
  refine wpIn_rangeFunc_ownG rfl (by omega) (gf := 122) (lb := #[.pointer (some ⟨w.heap.size + 1 + 1 + 1, 0, none⟩), .pointer (some ⟨w.heap.size + 1 + 1 + 1 + 1, 0, none⟩)]) rfl trivial (enters_of Try.func122 (by kernel_rfl) rfl)
    (limbs_stops Fence.wide 4 trivial rfl (by omega) (w.heap.size + 1 + 1 + 1) (w.heap.size + 1 + 1 + 1 + 1) w.heap.size pa pb ca cb a b ha hb la lb W0 (by omega) (by omega) (by omega) bA0.cell bB0.cell (hA.below hB0) (hB.below hB0)) KpB.trans (KpB.book (by omega) (by omega) (by omega)) (Below.refl _ _) (fun _ => rfl)
    (fun pre W => ((∃ v, Boxed W w.heap.size 64 v ∧ W.ownsRow W0.heap.size 66 1 v (addS pre).1.length ((addS pre).1.map fun x : Nat => Value.int .u64 (x : Int)) ∧ True) ∧ (∃ y : Nat, Boxed W (w.heap.size + 1) 66 (.int .u64 (y : Int))) ∧ Boxed W (w.heap.size + 1 + 1) 66 (.int .u64 ((addS pre).2 : Int))) ∧ Below w.heap.size W0 W)
    (fun _ _ _ => False)
    (OwnFrom.and (Own.from (fun s A B row hs hg hr => ⟨holdsRow_own W0.heap.size w.heap.size 64 66 1 (fun pre : List UU => (addS pre).1.length) (fun pre => (addS pre).1.map fun x : Nat => Value.int .u64 (x : Int)) (fun _ _ => True) s A B row hs.1 hg hr, hs.2.1.imp fun y hy => hy.kept hg (fun e => by obtain ⟨o, ho, hc⟩ := hr _ e.symm; rw [show A.heap[_]? = _ from hy] at ho; cases ho; cases hc), hs.2.2.kept hg (fun e => by obtain ⟨o, ho, hc⟩ := hr _ e.symm; rw [show A.heap[_]? = _ from hs.2.2] at ho; cases ho; cases hc)⟩) _) (ownFrom_below (by omega) (by omega)))
    (fun _ _ _ _ _ hs _ _ => hs)
    ⟨⟨⟨_, bO0, World.ownsRow_nil _ _ _ _, trivial⟩, ⟨0, bN0⟩, bC0⟩, Below.refl _ _⟩
    (fun x => { tmps := #[.slice pa a.length ca, .slice pb b.length cb, undef, undef, .slice none 0 0, .pointer (some ⟨w.heap.size, 0, none⟩), .pointer (some ⟨w.heap.size + 1, 0, none⟩), .pointer (some ⟨w.heap.size + 1 + 1, 0, none⟩), .int .u64 (x.1.1 : Int), .int .u64 (x.1.2 : Int), .slice pa a.length ca, .slice pb b.length cb, .func (.func 122) #[] #[.pointer (some ⟨w.heap.size + 1 + 1 + 1, 0, none⟩), .pointer (some ⟨w.heap.size + 1 + 1 + 1 + 1, 0, none⟩)], .int .u64 (x.1.1 : Int), .int .u64 (x.1.2 : Int), undef, undef, undef, undef, undef, undef, undef, undef, undef, undef, undef, undef, undef, undef, undef, undef], defers := [] }) ?assign ?body ?done ?stop
  case assign =>
    intro l x W K hK
    gi_wp2
    exact hK
  case body =>
    rintro l pre x W ⟨⟨⟨v, hv, hrow, _⟩, ⟨y, hn⟩, hc⟩, hBW⟩ hlt
    have hadd := run100 x.1.1 x.1.2 (addS pre).2 (addS_cry pre)
    obtain ⟨d, hd⟩ : ∃ d, (x.1.1 + x.1.2 + (addS pre).2) % B64 = d := ⟨_, rfl⟩
    obtain ⟨e, he⟩ : ∃ e, (x.1.1 + x.1.2 + (addS pre).2) / B64 = e := ⟨_, rfl⟩
    have hsn := addS_snoc pre x
    have hlen := addS_len pre
    rw [hd, he] at hadd hsn
    obtain ⟨c0, hc0⟩ : ∃ c0, (addS pre).2 = c0 := ⟨_, rfl⟩
    rw [hc0] at hadd hc
    obtain ⟨o, ho⟩ : ∃ o, (addS pre).1 = o := ⟨_, rfl⟩
    rw [ho] at hrow hsn hlen
    clear hd he
    have hvc := hv.cell
    have hnc := hn.cell
    have hnf := hn.frozen
    have hcc := hc.cell
    have hcf := hc.frozen
    have hm1 : some (w.heap.size + 1) ≠ v.ownBlock := own_ne hrow (by omega)
    have hm2 : some (w.heap.size + 1 + 1) ≠ v.ownBlock := own_ne hrow (by omega)
    have hm0 : some w.heap.size ≠ v.ownBlock := own_ne hrow (by omega)
    have hv1 : Boxed (W.setCell ⟨w.heap.size + 1, 0, none⟩ (.int .u64 (d : Int))) w.heap.size 64 v := hv.kept (grownBy_setCell' W _ _) (by simp)
    have hv2 : Boxed ((W.setCell ⟨w.heap.size + 1, 0, none⟩ (.int .u64 (d : Int))).setCell ⟨w.heap.size + 1 + 1, 0, none⟩ (.int .u64 (e : Int))) w.heap.size 64 v := hv1.kept (grownBy_setCell' _ _ _) (by simp; omega)
    have hc1 : Boxed (W.setCell ⟨w.heap.size + 1, 0, none⟩ (.int .u64 (d : Int))) (w.heap.size + 1 + 1) 66 (.int .u64 (c0 : Int)) := hc.kept (grownBy_setCell' W _ _) (by simp)
    have hc2 : Boxed ((W.setCell ⟨w.heap.size + 1, 0, none⟩ (.int .u64 (d : Int))).setCell ⟨w.heap.size + 1 + 1, 0, none⟩ (.int .u64 (e : Int))) (w.heap.size + 1 + 1) 66 (.int .u64 (e : Int)) := hc1.set _
    have hn1 : Boxed (W.setCell ⟨w.heap.size + 1, 0, none⟩ (.int .u64 (d : Int))) (w.heap.size + 1) 66 (.int .u64 (d : Int)) := hn.set _
    have hn2 : Boxed ((W.setCell ⟨w.heap.size + 1, 0, none⟩ (.int .u64 (d : Int))).setCell ⟨w.heap.size + 1 + 1, 0, none⟩ (.int .u64 (e : Int))) (w.heap.size + 1) 66 (.int .u64 (d : Int)) := hn1.kept (grownBy_setCell' _ _ _) (by simp)
    have hrow1 := hrow.kept (grownBy_setCell' W (w.heap.size + 1) (.int .u64 (d : Int))) (.inr hm1.symm)
    have hrow2 := hrow1.kept (grownBy_setCell' _ (w.heap.size + 1 + 1) (.int .u64 (e : Int))) (.inr hm2.symm)
    have hc1c := hc1.cell
    have hc1f := hc1.frozen
    have hv2c := hv2.cell
    have hn2c := hn2.cell
    have hW := hBW.size
    have hml : 1000001 ≤ maxLen := by decide +kernel
    have hpl : o.length ≤ 999999 := by omega
    have hnew := cell_one_new ((W.setCell ⟨w.heap.size + 1, 0, none⟩ (.int .u64 (d : Int))).setCell ⟨w.heap.size + 1 + 1, 0, none⟩ (.int .u64 (e : Int))) (.int .u64 (d : Int)) 66
    simp only [World.size_setCell] at hnew
    gi_wp2_with first
      | (refine ⟨trivial, ?_⟩)
      | (gi_at_builtin; refine wpListIn_append_own _ rfl _ _ 64 rfl W0.heap.size 66 i0 (.int .u64 0) 1 8 Try.underlying64 hi hz0 hz1 hz2 rfl (by decide) _ _ _ rfl (hrow2.alloc _) ⟨W.heap.size, 0, none⟩ 1 1 [.int .u64 (d : Int)] rfl rfl hnew (by simp [Value.oneCell']) (by omega) (by omega) (by simp; omega) ?_; intro v' w1 hown' hgrow _; obtain ⟨g', cap', rfl⟩ := ownsRow_succ hown'; have hv3 := (hv2.alloc _).kept hgrow hm0; have hv3c := hv3.cell; have hv3f := hv3.frozen)
    obtain ⟨hk, hkp⟩ := step_world hrow2 hgrow (by omega) (by omega) (.slice (some ⟨g', 0, none⟩) (o.length + 1) cap')
    have hn3 := (hn2.alloc _).kept hgrow hm1
    have hc3 := (hc2.alloc _).kept hgrow hm2
    rw [← hlen]
    refine ⟨hk.from _, hkp, ⟨⟨_, hv3.set _, ?_, trivial⟩, ⟨d, hn3.kept (grownBy_setCell' _ _ _) (by simp)⟩, ?_⟩, hBW.trans hkp.1⟩
    · have h4 := hown'.kept (grownBy_setCell' w1 w.heap.size (.slice (some ⟨g', 0, none⟩) (o.length + 1) cap')) (.inr (own_ne hown' (by omega)).symm)
      rw [hsn]
      simpa using h4
    · rw [hsn]
      exact hc3.kept (grownBy_setCell' _ _ _) (by simp; omega)
  case done =>
    rintro D ys W hD rfl ⟨⟨⟨v, hv, hrow, _⟩, ⟨y, hn⟩, hc⟩, hBW⟩ hK
    have hsu := addS_upto ha hb (max a.length b.length)
    rw [hsu] at hrow hc
    have hvc := hv.cell
    have hcc := hc.cell
    have hW := hBW.size
    have hml : 1000001 ≤ maxLen := by decide +kernel
    have hdl := digs_len (max a.length b.length) (val a + val b)
    have hnew := cell_one_new W (.int .u64 (cry (val a) (val b) (max a.length b.length) : Int)) 66
    have hcl := cry_le (val a) (val b) (max a.length b.length)
    obtain ⟨c0, hc0⟩ : ∃ c0, cry (val a) (val b) (max a.length b.length) = c0 := ⟨_, rfl⟩
    have hfin := fin_list ha hb
    rw [hc0] at hc hcc hnew hcl hfin
    obtain ⟨o, ho⟩ : ∃ o, digs (max a.length b.length) (val a + val b) = o := ⟨_, rfl⟩
    rw [ho] at hrow hdl hfin
    simp only at hrow hc hcc
    gi_wp2_with first
      | (gi_at_builtin; refine wpListIn_append_own _ rfl _ _ 64 rfl W0.heap.size 66 i0 (.int .u64 0) 1 8 Try.underlying64 hi hz0 hz1 hz2 rfl (by decide) _ _ _ rfl (hrow.alloc _) ⟨W.heap.size, 0, none⟩ 1 1 [.int .u64 (c0 : Int)] rfl rfl hnew (by simp [Value.oneCell']) (by omega) (by omega) (by simp; omega) ?_; intro v' w1 hown' hgrow _; obtain ⟨g', cap', rfl⟩ := ownsRow_succ hown')
      | (refine ⟨trivial, ?_⟩; gi_at_call 68; refine (callsIn_wide.2 (trim68 (l := o ++ [c0]) hfin.1 (by simp; omega) (base := W0.heap.size) (by have := hgrow.size; simp at this; omega) (by simpa [hdl] using hown'))).mono ?_; rintro e w' ⟨v2, rfl, hb', hr⟩)
    have hDW : D < W.heap.size := (Array.getElem?_eq_some_iff.1 hK).1
    have hne : some D ≠ v.ownBlock := by
      rcases hrow.2 with ⟨rfl, _⟩ | ⟨g, cap, cur, rfl, _, hgb, _⟩
      · simp [Value.ownBlock]
      · intro e'
        obtain rfl : D = g := by simpa [Value.ownBlock] using e'
        rw [hgb] at hK; cases hK
    have hK1 : w1.heap[D]? = some (.deferred (some [])) := by rw [hgrow.block D (by simp; omega) hne, Below.heap_alloc _ _ _ hDW]; exact hK
    have hK2 : w'.heap[D]? = some (.deferred (some [])) := (hb'.block D (by have := (Array.getElem?_eq_some_iff.1 hK1).1; omega)).trans hK1
    have hg1 := hgrow.size
    simp at hg1
    have hBw1 : Below w.heap.size W w1 := ((Below.refl _ W).alloc (by omega) _).grown hgrow (by simp; omega) (fun j ej => by
      rcases Nat.lt_or_ge j w.heap.size with h | h
      · exact absurd ej.symm (own_ne hrow (by omega))
      · exact h)
    have hb'' := hb'.size
    have hDw : D < w'.heap.size := (Array.getElem?_eq_some_iff.1 hK2).1
    refine ⟨by simp, .inl ⟨_, _, rfl, run_takeDeferred hK2, ?_⟩⟩
    refine ⟨_, results_tmp rfl _ _ _, v2, rfl, ((hB0.trans hBW).trans (hBw1.trans (hb'.mono (by omega)))).trans (belowK_b (w := W0) (by omega) w' D _ _ (by omega) hK2 rfl rfl), ?_⟩
    rw [hfin.2] at hr
    refine PRs.move (fun b o u hs hu => ?_) hr
    have hbD : b ≠ D := by
      intro e
      subst e
      simp [World.cell?, hK2] at hu
    exact ⟨⟨by omega, by simp; omega⟩, (World.cell?_of_block (a := ⟨b, o, none⟩) (World.putObj_heap_other hbD)).trans hu⟩
  case stop =>
    rintro D c pre W _ _ h _
    exact h.elim
/-- nat.Add -/
theorem ok66 (args rs : List PV) (h : x66 args = some rs) : FnOk Try.prog 66 args rs := by
  obtain ⟨a, b, rfl, ha, hb, la, lb, hf⟩ := two64_inv h
  cases hf
  intro w S vs hS hargs
  obtain ⟨pa, ca, pb, cb, rfl, hA, hB⟩ := two_args hS hargs
  refine .inl ⟨enters_of Try.func66 (by kernel_rfl) rfl _ _, (callsIn_wide.1 (Add_in pa pb ca cb a b ha hb la lb w hA hB)).mono ?_⟩
  rintro e W' ⟨v, rfl, hb', hr⟩
  exact ⟨hb', PRs.move (fun b o u hs hu => ⟨.inr hs, hu⟩) hr⟩
end Go.Proofs.Ytpanbfainilmpaa.Ev.N
end
section
/- nat.Sub: its contract. -/
set_option linter.unusedVariables false
set_option linter.unusedSimpArgs false
namespace Go.Proofs.Ytpanbfainilmpaa.Ev.N
open Go Go.Proofs Go.RowKit Go.Shelf Go.Proofs.Ytpanbfainilmpaa.Ev
attribute [local go_sem] Oper.semAt_some

theorem dr_nil {w : World} {S : Nat → Nat → Prop} : PR w S (nl []) (.slice none 0 0) :=
  show DR w S (.sl []) _ from .sl (sz := 1) (b := 0) (o := 0) (fun _ _ => .bool false) rfl (Nat.le_refl _) (fun _ _ h => by cases h) (fun _ _ _ _ h => by cases h) (fun _ _ _ _ h => by cases h)
def bst (x y c : Nat) : Nat := if x < y + c then 1 else 0
def subS (pre : List UU) : List Nat × Nat := pre.foldl (fun s p => (s.1 ++ [(p.1.1 + B64 - p.1.2 - s.2) % B64], bst p.1.1 p.1.2 s.2)) ([], 0)
theorem subS_snoc (pre : List UU) (x : UU) : subS (pre ++ [x]) = ((subS pre).1 ++ [(x.1.1 + B64 - x.1.2 - (subS pre).2) % B64], bst x.1.1 x.1.2 (subS pre).2) := by unfold subS; rw [List.foldl_append]; rfl
theorem subS_len (pre : List UU) : (subS pre).1.length = pre.length := by
  have : ∀ (pre : List UU) (s : List Nat × Nat), (pre.foldl (fun s p => (s.1 ++ [(p.1.1 + B64 - p.1.2 - s.2) % B64], bst p.1.1 p.1.2 s.2)) s).1.length = s.1.length + pre.length := by
    intro pre
    induction pre with
    | nil => intro s; rfl
    | cons x pre ih =>
      intro s
      rw [List.foldl_cons, ih]
      simp; omega
  have h := this pre ([], 0)
  simpa [subS] using h
theorem subS_cry (pre : List UU) : (subS pre).2 ≤ 1 := by
  have : ∀ (pre : List UU) (s : List Nat × Nat), s.2 ≤ 1 → (pre.foldl (fun s p => (s.1 ++ [(p.1.1 + B64 - p.1.2 - s.2) % B64], bst p.1.1 p.1.2 s.2)) s).2 ≤ 1 := by
    intro pre
    induction pre with
    | nil => intro s h; exact h
    | cons x pre ih =>
      intro s h
      rw [List.foldl_cons]
      apply ih
      show bst _ _ _ ≤ 1
      unfold bst
      split <;> omega
  exact this pre ([], 0) (Nat.zero_le _)
theorem subS_upto {a b : List Nat} (ha : Limbs a) (hb : Limbs b) {n : Nat} (hn : b.length ≤ n) (k : Nat) (hk : k ≤ n) : subS (upto (prs ha hb) k) = (digs k (val a + B64 ^ n - val b), bor (val a) (val b) k) := by
  have hB : val b < B64 ^ n := Nat.lt_of_lt_of_le (val_lt hb) (Nat.pow_le_pow_right B_pos hn)
  induction k with
  | zero => simp [upto, subS, digs, bor_zero]
  | succ k ih =>
    rw [upto_succ, subS_snoc, ih (by omega)]
    simp only [prs]
    unfold bst
    rw [limb_eq ha, limb_eq hb, ← dif_digit _ _ _ n (by omega) hB, ← bor_succ, digs_succ]
theorem fin_sub {a b : List Nat} (ha : Limbs a) (hb : Limbs b) : (bor (val a) (val b) (max a.length b.length) = if val a < val b then 1 else 0) ∧ (¬ val a < val b → val (digs (max a.length b.length) (val a + B64 ^ (max a.length b.length) - val b)) = val a - val b) := by
  have e1 : B64 ^ a.length ≤ B64 ^ max a.length b.length := Nat.pow_le_pow_right B_pos (by omega)
  have e2 : B64 ^ b.length ≤ B64 ^ max a.length b.length := Nat.pow_le_pow_right B_pos (by omega)
  have hA := Nat.lt_of_lt_of_le (val_lt ha) e1
  have hB := Nat.lt_of_lt_of_le (val_lt hb) e2
  refine ⟨?_, fun h => ?_⟩
  · unfold bor
    rw [Nat.mod_eq_of_lt hA, Nat.mod_eq_of_lt hB]
  · rw [val_digs, show val a + B64 ^ max a.length b.length - val b = val a - val b + B64 ^ max a.length b.length by omega, Nat.add_mod_right, Nat.mod_eq_of_lt (by omega)]
set_option maxRecDepth 100000 in
set_option maxHeartbeats 4000000 in
theorem Sub_in (pa pb : Option Addr) (ca cb : Nat) (a b : List Nat) (ha : Limbs a) (hb : Limbs b) (la : a.length ≤ 1000000) (lb : b.length ≤ 1000000) (w : World) (hA : HL w.heap.size w pa a) (hB : HL w.heap.size w pb b) :
    CallsIn Fence.wide 5 Try.prog 63 #[.slice pa a.length ca, .slice pb b.length cb] w fun e W' => ∃ v, e = .returned v ∧ Below w.heap.size w W' ∧ PRs W' (fun b _ => w.heap.size ≤ b ∧ b < W'.heap.size) (subV (val a) (val b)) v := by
  refine callsIn_of_wp_marks Try.func63 rfl trivial ?_ rfl
  obtain ⟨i0, hi, hz0, hz1, hz2⟩ := info_parts info66
  simp only [Try.ntmps63, List.size_toArray, List.length_cons, List.length_nil, Nat.reduceAdd, Nat.reduceSub, Array.replicate_succ, Array.replicate_zero, List.push_toArray, List.append_toArray, List.nil_append, List.cons_append]
  gi_wp2_with (refine ⟨trivial, ?_⟩; gi_at_call 102; refine (limbs_in Fence.wide 4 trivial rfl _ _ _ _ _ _ _).mono ?_; rintro e w' ⟨rfl, rfl⟩)
  obtain ⟨W0, hW0⟩ : ∃ W0, ((((w.alloc (.cells #[.slice none 0 0] 64)).alloc (.cells #[.int .u64 0] 66)).alloc (.cells #[.int .u64 0] 66)).alloc (.cells #[.slice pa a.length ca] 64)).alloc (.cells #[.slice pb b.length cb] 64) = W0 := ⟨_, rfl⟩
  have hsz : W0.heap.size = w.heap.size + 5 := by rw [← hW0]; simp
  have hB0 : Below w.heap.size w W0 := by
    rw [← hW0]
    exact (((((Below.refl _ w).alloc (Nat.le_refl _) _).alloc (by simp) _).alloc (by simp; omega) _).alloc (by simp; omega) _).alloc (by simp; omega) _
  have bO0 : Boxed W0 w.heap.size 64 (.slice none 0 0) := by rw [← hW0]; exact ((((Boxed.new w _ _).alloc _).alloc _).alloc _).alloc _
  have bN0 : Boxed W0 (w.heap.size + 1) 66 (.int .u64 0) := by
    rw [← hW0]
    have := Boxed.new (w.alloc (.cells #[.slice none 0 0] 64)) 66 (.int .u64 0)
    rw [World.size_alloc] at this
    exact ((this.alloc _).alloc _).alloc _
  have bC0 : Boxed W0 (w.heap.size + 1 + 1) 66 (.int .u64 0) := by
    rw [← hW0]
    have := Boxed.new ((w.alloc (.cells #[.slice none 0 0] 64)).alloc (.cells #[.int .u64 0] 66)) 66 (.int .u64 0)
    rw [World.size_alloc, World.size_alloc] at this
    exact (this.alloc _).alloc _
  have bA0 : Boxed W0 (w.heap.size + 1 + 1 + 1) 64 (.slice pa a.length ca) := by
    rw [← hW0]
    have := Boxed.new (((w.alloc (.cells #[.slice none 0 0] 64)).alloc (.cells #[.int .u64 0] 66)).alloc (.cells #[.int .u64 0] 66)) 64 (.slice pa a.length ca)
    rw [World.size_alloc, World.size_alloc, World.size_alloc] at this
    exact this.alloc _
  have bB0 : Boxed W0 (w.heap.size + 1 + 1 + 1 + 1) 64 (.slice pb b.length cb) := by
    rw [← hW0]
    have := Boxed.new ((((w.alloc (.cells #[.slice none 0 0] 64)).alloc (.cells #[.int .u64 0] 66)).alloc (.cells #[.int .u64 0] 66)).alloc (.cells #[.slice pa a.length ca] 64)) 64 (.slice pb b.length cb)
    rw [World.size_alloc, World.size_alloc, World.size_alloc, World.size_alloc] at this
    exact this
  rw [hW0]
  clear hW0
  refine wpIn_rangeFunc_ownG rfl (by omega) (gf := 122) (lb := #[.pointer (some ⟨w.heap.size + 1 + 1 + 1, 0, none⟩), .pointer (some ⟨w.heap.size + 1 + 1 + 1 + 1, 0, none⟩)]) rfl trivial (enters_of Try.func122 (by kernel_rfl) rfl)
    (limbs_stops Fence.wide 4 trivial rfl (by omega) (w.heap.size + 1 + 1 + 1) (w.heap.size + 1 + 1 + 1 + 1) w.heap.size pa pb ca cb a b ha hb la lb W0 (by omega) (by omega) (by omega) bA0.cell bB0.cell (hA.below hB0) (hB.below hB0)) KpB.trans (KpB.book (by omega) (by omega) (by omega)) (Below.refl _ _) (fun _ => rfl)
    (fun pre W => ((∃ v, Boxed W w.heap.size 64 v ∧ W.ownsRow W0.heap.size 66 1 v (subS pre).1.length ((subS pre).1.map fun x : Nat => Value.int .u64 (x : Int)) ∧ True) ∧ (∃ y : Nat, Boxed W (w.heap.size + 1) 66 (.int .u64 (y : Int))) ∧ Boxed W (w.heap.size + 1 + 1) 66 (.int .u64 ((subS pre).2 : Int))) ∧ Below w.heap.size W0 W)
    (fun _ _ _ => False)
    (OwnFrom.and (Own.from (fun s A B row hs hg hr => ⟨holdsRow_own W0.heap.size w.heap.size 64 66 1 (fun pre : List UU => (subS pre).1.length) (fun pre => (subS pre).1.map fun x : Nat => Value.int .u64 (x : Int)) (fun _ _ => True) s A B row hs.1 hg hr, hs.2.1.imp fun y hy => hy.kept hg (fun e => by obtain ⟨o, ho, hc⟩ := hr _ e.symm; rw [show A.heap[_]? = _ from hy] at ho; cases ho; cases hc), hs.2.2.kept hg (fun e => by obtain ⟨o, ho, hc⟩ := hr _ e.symm; rw [show A.heap[_]? = _ from hs.2.2] at ho; cases ho; cases hc)⟩) _) (ownFrom_below (by omega) (by omega)))
    (fun _ _ _ _ _ hs _ _ => hs)
    ⟨⟨⟨_, bO0, World.ownsRow_nil _ _ _ _, trivial⟩, ⟨0, bN0⟩, bC0⟩, Below.refl _ _⟩
    (fun x => { tmps := #[.slice pa a.length ca, .slice pb b.length cb, undef, undef, .slice none 0 0, .bool false, .pointer (some ⟨w.heap.size, 0, none⟩), .pointer (some ⟨w.heap.size + 1, 0, none⟩), .pointer (some ⟨w.heap.size + 1 + 1, 0, none⟩), .int .u64 (x.1.1 : Int), .int .u64 (x.1.2 : Int), .slice pa a.length ca, .slice pb b.length cb, .func (.func 122) #[] #[.pointer (some ⟨w.heap.size + 1 + 1 + 1, 0, none⟩), .pointer (some ⟨w.heap.size + 1 + 1 + 1 + 1, 0, none⟩)], .int .u64 (x.1.1 : Int), .int .u64 (x.1.2 : Int), undef, undef, undef, undef, undef, undef, undef, undef, undef, undef, undef, undef, undef, undef, undef], defers := [] }) ?assign ?body ?done ?stop
  case assign =>
    intro l x W K hK
    gi_wp2
    exact hK
  case body =>
    rintro l pre x W ⟨⟨⟨v, hv, hrow, _⟩, ⟨y, hn⟩, hc⟩, hBW⟩ hlt
    have hadd := run103 x.1.1 x.1.2 (subS pre).2 (subS_cry pre)
    rw [show (if x.1.1 < x.1.2 + (subS pre).2 then 1 else 0) = bst x.1.1 x.1.2 (subS pre).2 from rfl] at hadd
    obtain ⟨d, hd⟩ : ∃ d, (x.1.1 + B64 - x.1.2 - (subS pre).2) % B64 = d := ⟨_, rfl⟩
    obtain ⟨e, he⟩ : ∃ e, (bst x.1.1 x.1.2 (subS pre).2) = e := ⟨_, rfl⟩
    have hsn := subS_snoc pre x
    have hlen := subS_len pre
    rw [hd, he] at hadd hsn
    obtain ⟨c0, hc0⟩ : ∃ c0, (subS pre).2 = c0 := ⟨_, rfl⟩
    rw [hc0] at hadd hc
    obtain ⟨o, ho⟩ : ∃ o, (subS pre).1 = o := ⟨_, rfl⟩
    rw [ho] at hrow hsn hlen
    clear hd he
    have hvc := hv.cell
    have hnc := hn.cell
    have hnf := hn.frozen
    have hcc := hc.cell
    have hcf := hc.frozen
    have hm1 : some (w.heap.size + 1) ≠ v.ownBlock := own_ne hrow (by omega)
    have hm2 : some (w.heap.size + 1 + 1) ≠ v.ownBlock := own_ne hrow (by omega)
    have hm0 : some w.heap.size ≠ v.ownBlock := own_ne hrow (by omega)
    have hv1 : Boxed (W.setCell ⟨w.heap.size + 1, 0, none⟩ (.int .u64 (d : Int))) w.heap.size 64 v := hv.kept (grownBy_setCell' W _ _) (by simp)
    have hv2 : Boxed ((W.setCell ⟨w.heap.size + 1, 0, none⟩ (.int .u64 (d : Int))).setCell ⟨w.heap.size + 1 + 1, 0, none⟩ (.int .u64 (e : Int))) w.heap.size 64 v := hv1.kept (grownBy_setCell' _ _ _) (by simp; omega)
    have hc1 : Boxed (W.setCell ⟨w.heap.size + 1, 0, none⟩ (.int .u64 (d : Int))) (w.heap.size + 1 + 1) 66 (.int .u64 (c0 : Int)) := hc.kept (grownBy_setCell' W _ _) (by simp)
    have hc2 : Boxed ((W.setCell ⟨w.heap.size + 1, 0, none⟩ (.int .u64 (d : Int))).setCell ⟨w.heap.size + 1 + 1, 0, none⟩ (.int .u64 (e : Int))) (w.heap.size + 1 + 1) 66 (.int .u64 (e : Int)) := hc1.set _
    have hn1 : Boxed (W.setCell ⟨w.heap.size + 1, 0, none⟩ (.int .u64 (d : Int))) (w.heap.size + 1) 66 (.int .u64 (d : Int)) := hn.set _
    have hn2 : Boxed ((W.setCell ⟨w.heap.size + 1, 0, none⟩ (.int .u64 (d : Int))).setCell ⟨w.heap.size + 1 + 1, 0, none⟩ (.int .u64 (e : Int))) (w.heap.size + 1) 66 (.int .u64 (d : Int)) := hn1.kept (grownBy_setCell' _ _ _) (by simp)
    have hrow1 := hrow.kept (grownBy_setCell' W (w.heap.size + 1) (.int .u64 (d : Int))) (.inr hm1.symm)
    have hrow2 := hrow1.kept (grownBy_setCell' _ (w.heap.size + 1 + 1) (.int .u64 (e : Int))) (.inr hm2.symm)
    have hc1c := hc1.cell
    have hc1f := hc1.frozen
    have hv2c := hv2.cell
    have hn2c := hn2.cell
    have hW := hBW.size
    have hml : 1000001 ≤ maxLen := by decide +kernel
    have hpl : o.length ≤ 999999 := by omega
    have hnew := cell_one_new ((W.setCell ⟨w.heap.size + 1, 0, none⟩ (.int .u64 (d : Int))).setCell ⟨w.heap.size + 1 + 1, 0, none⟩ (.int .u64 (e : Int))) (.int .u64 (d : Int)) 66
    simp only [World.size_setCell] at hnew
    gi_wp2_with first
      | (refine ⟨trivial, ?_⟩)
      | (gi_at_builtin; refine wpListIn_append_own _ rfl _ _ 64 rfl W0.heap.size 66 i0 (.int .u64 0) 1 8 Try.underlying64 hi hz0 hz1 hz2 rfl (by decide) _ _ _ rfl (hrow2.alloc _) ⟨W.heap.size, 0, none⟩ 1 1 [.int .u64 (d : Int)] rfl rfl hnew (by simp [Value.oneCell']) (by omega) (by omega) (by simp; omega) ?_; intro v' w1 hown' hgrow _; obtain ⟨g', cap', rfl⟩ := ownsRow_succ hown'; have hv3 := (hv2.alloc _).kept hgrow hm0; have hv3c := hv3.cell; have hv3f := hv3.frozen)
    obtain ⟨hk, hkp⟩ := step_world hrow2 hgrow (by omega) (by omega) (.slice (some ⟨g', 0, none⟩) (o.length + 1) cap')
    have hn3 := (hn2.alloc _).kept hgrow hm1
    have hc3 := (hc2.alloc _).kept hgrow hm2
    rw [← hlen]
    refine ⟨hk.from _, hkp, ⟨⟨_, hv3.set _, ?_, trivial⟩, ⟨d, hn3.kept (grownBy_setCell' _ _ _) (by simp)⟩, ?_⟩, hBW.trans hkp.1⟩
    · have h4 := hown'.kept (grownBy_setCell' w1 w.heap.size (.slice (some ⟨g', 0, none⟩) (o.length + 1) cap')) (.inr (own_ne hown' (by omega)).symm)
      rw [hsn]
      simpa using h4
    · rw [hsn]
      exact hc3.kept (grownBy_setCell' _ _ _) (by simp; omega)
  case done =>
    rintro D ys W hD rfl ⟨⟨⟨v, hv, hrow, _⟩, ⟨y, hn⟩, hc⟩, hBW⟩ hK
    have hsu := subS_upto ha hb (n := max a.length b.length) (by omega) (max a.length b.length) (Nat.le_refl _)
    rw [hsu] at hrow hc
    obtain ⟨hf1, hf2⟩ := fin_sub ha hb
    have hvc := hv.cell
    have hcc := hc.cell
    have hW := hBW.size
    have hdl := digs_len (max a.length b.length) (val a + B64 ^ (max a.length b.length) - val b)
    have hlm := digs_limbs (max a.length b.length) (val a + B64 ^ (max a.length b.length) - val b)
    obtain ⟨o, ho⟩ : ∃ o, digs (max a.length b.length) (val a + B64 ^ (max a.length b.length) - val b) = o := ⟨_, rfl⟩
    rw [ho] at hrow hdl hf2 hlm
    simp only at hrow hc hcc
    rw [hf1] at hcc
    by_cases hlt : val a < val b
    · rw [if_pos hlt] at hcc
      have hs : subV (val a) (val b) = [nl [], .one (.sc (.bool false))] := if_neg (by omega)
      simp only [Int.natCast_one, show ((1 : Nat) : Int) = 1 from rfl] at hcc
      gi_wp2
      refine ⟨by simp, .inl ⟨_, _, rfl, run_takeDeferred hK, ?_⟩⟩
      refine ⟨_, results_tmp2 rfl _ _ _, _, rfl, (hB0.trans hBW).trans (belowK_b (w := W0) (by omega) W D _ _ (by omega) hK rfl rfl), ?_⟩
      rw [hs]
      exact ⟨[.slice none 0 0, .bool false], rfl, RelL.cons dr_nil (RelL.cons (DR.sc rfl) RelL.nil)⟩
    · rw [if_neg hlt] at hcc
      have hs : subV (val a) (val b) = [nl (dig (val a - val b)), .one (.sc (.bool true))] := if_pos (by omega)
      simp only [show ((0 : Nat) : Int) = 0 from rfl] at hcc
      gi_wp2_with (refine ⟨trivial, ?_⟩; gi_at_call 68; refine (callsIn_wide.2 (trim68 (l := o) hlm (by omega) (base := W0.heap.size) (by omega) hrow)).mono ?_; rintro e w' ⟨v2, rfl, hb', hr⟩)
      have hK2 : w'.heap[D]? = some (.deferred (some [])) := (hb'.block D (Array.getElem?_eq_some_iff.1 hK).1).trans hK
      have hb'' := hb'.size
      have hDw : D < w'.heap.size := (Array.getElem?_eq_some_iff.1 hK2).1
      refine ⟨by simp, .inl ⟨_, _, rfl, run_takeDeferred hK2, ?_⟩⟩
      refine ⟨_, results_tmp2 rfl _ _ _, _, rfl, ((hB0.trans hBW).trans (hb'.mono (by omega))).trans (belowK_b (w := W0) (by omega) w' D _ _ (by omega) hK2 rfl rfl), ?_⟩
      rw [hs]
      rw [hf2 hlt] at hr
      have h2 : PRs (w'.putObj D (.deferred none)) (fun b _ => w.heap.size ≤ b ∧ b < (w'.putObj D (.deferred none)).heap.size) [nl (dig (val a - val b))] v2 := by
        refine PRs.move (fun b o u hs hu => ?_) hr
        have hbD : b ≠ D := by
          intro e
          subst e
          simp [World.cell?, hK2] at hu
        exact ⟨⟨by omega, by simp; omega⟩, (World.cell?_of_block (a := ⟨b, o, none⟩) (World.putObj_heap_other hbD)).trans hu⟩
      exact ⟨[v2, .bool true], rfl, RelL.cons h2 (RelL.cons (DR.sc rfl) RelL.nil)⟩
  case stop =>
    rintro D c pre W _ _ h _
    exact h.elim
/-- nat.Sub -/
theorem ok63 (args rs : List PV) (h : x63 args = some rs) : FnOk Try.prog 63 args rs := by
  obtain ⟨a, b, rfl, ha, hb, la, lb, hf⟩ := two64_inv h
  cases hf
  intro w S vs hS hargs
  obtain ⟨pa, ca, pb, cb, rfl, hA, hB⟩ := two_args hS hargs
  refine .inl ⟨enters_of Try.func63 (by kernel_rfl) rfl _ _, (callsIn_wide.1 (Sub_in pa pb ca cb a b ha hb la lb w hA hB)).mono ?_⟩
  rintro e W' ⟨v, rfl, hb', hr⟩
  exact ⟨hb', PRs.move (fun b o u hs hu => ⟨.inr hs, hu⟩) hr⟩
end Go.Proofs.Ytpanbfainilmpaa.Ev.N
end
section
/- What the numbers' laws stand on: the functions that are not walked, how arguments read. -/
set_option linter.unusedSimpArgs false
set_option linter.unusedVariables false
set_option maxRecDepth 100000
namespace Go.Proofs.Ytpanbfainilmpaa.Ev.N
open Go.Proofs Go.Proofs.Ytpanbfainilmpaa.Ev Go.ChangeShapes Go.WideShapes Go.RowKit

theorem env : Env Try.prog NI AA XX := by
  refine ⟨by kernel_rfl, ents, fun f e h args rs he => ?_⟩
  unfold XX at h
  split at h
  · cases h; exact ok63 args rs he
  · cases h; exact ok66 args rs he
  · cases h; exact ok67 args rs he
  · cases h; exact ok100 args rs he
  · cases h; exact ok103 args rs he
  · cases h
noncomputable abbrev P := Try.prog
theorem r3 : RD P 3 (fun n : Int => [.sc (.int .i64 n)]) (fun n => (Lit.int .i64 n).wf = true) := RD.int Try.underlying3
theorem r5 : RD P 5 (fun n : Int => [.sc (.int .u8 n)]) (fun n => (Lit.int .u8 n).wf = true) := RD.int Try.underlying5
theorem r66 : RD P 66 (fun n : Int => [.sc (.int .u64 n)]) (fun n => (Lit.int .u64 n).wf = true) := RD.int Try.underlying66
theorem cel66 : P.cellsOf 66 = 1 := by kernel_rfl
theorem r64 : RD P 64 (fun l : List Int => [.sl (l.map fun n => [.sc (.int .u64 n)])]) (fun l => l.length * 8 ≤ reachBytes ∧ ∀ n ∈ l, (Lit.int .u64 n).wf = true) :=
  RD.slice Try.underlying64 (by kernel_rfl) cel66 (by omega) (fun _ => rfl) r66
/-- An argument's words are naturals. -/
theorem words (l : List Int) (h : l.length * 8 ≤ reachBytes ∧ ∀ n ∈ l, (Lit.int .u64 n).wf = true) : ∃ m : List Nat, (l.map fun n => [D.sc (.int .u64 n)]) = m.map n64 ∧ Limbs m ∧ m.length ≤ 140737488351232 / 8 := by
  refine ⟨l.map Int.toNat, ?_, ?_, ?_⟩
  · rw [List.map_map]
    refine List.map_congr_left fun n hn => ?_
    have := h.2 n hn
    simp only [Lit.wf, Bool.and_eq_true, decide_eq_true_eq] at this
    have h0 : (0 : Int) ≤ n := this.1
    show [D.sc (.int .u64 n)] = [D.sc (.int .u64 ((n.toNat : Nat) : Int))]
    rw [Int.toNat_of_nonneg h0]
  · intro x hx
    obtain ⟨n, hn, rfl⟩ := List.mem_map.1 hx
    have := h.2 n hn
    simp only [Lit.wf, Bool.and_eq_true, decide_eq_true_eq] at this
    have h0 : (0 : Int) ≤ n := this.1
    have h1 : n ≤ 18446744073709551615 := this.2
    have hB : B64 = 18446744073709551616 := rfl
    omega
  · have h1 : l.length * 8 ≤ 140737488351232 := h.1
    rw [List.length_map]; omega
theorem laid : laidOutB P = true := fLaid
theorem own : ownKnob P.godebug = none := fOwn
theorem size : ∀ t ∈ [3, 5, 64, 66], P.readableRec t = true ∧ t < P.types.size := by
  intro t ht
  have : ∀ t ∈ [3, 5, 64, 66], (P.readableRec t && decide (t < P.types.size)) = true := by
    rw [← List.all_eq_true]
    kernel_rfl
  simpa using this t ht
end Go.Proofs.Ytpanbfainilmpaa.Ev.N
end
section
/- The laws of chapter 04 as they are claimed. -/
set_option linter.unusedVariables false
set_option linter.unusedSimpArgs false
namespace Go.Proofs.Ytpanbfainilmpaa.Ev.N
open Go Go.Proofs.Ytpanbfainilmpaa.Ev Go.RowKit
abbrev V64 (l : List Int) : Prop := l.length * 8 ≤ reachBytes ∧ ∀ n ∈ l, (Lit.int .u64 n).wf = true
abbrev ql (l : List Int) : PV := .one (.sl (l.map fun n => [.sc (.int .u64 n)]))
theorem law10 (a : List Int) (i : Int) (ka : V64 a) (ki : (Lit.int .u8 i).wf = true) : (KL AA XX).call 10 [ql a, (PV.one (D.sc (Value.int IntKind.u8 (i))))] = some [(PV.one (D.sc (Value.bool (true))))] := by
  obtain ⟨x, ex, hx, _⟩ := words a ka
  simp only [Lit.wf, Bool.and_eq_true, decide_eq_true_eq] at ki
  have h0 : (0 : Int) ≤ i := ki.1
  have h1 : i ≤ 255 := ki.2
  obtain ⟨w, rfl⟩ := Int.eq_ofNat_of_zero_le h0
  show (KL AA XX).call 10 [.one (.sl _), _] = _
  rw [ex]; exact mod10 hx w (by omega)
theorem law13 (a b c : List Int) (ka : V64 a) (kb : V64 b) (kc : V64 c) : (KL AA XX).call 13 [ql a, ql b, ql c] = some [(PV.one (D.sc (Value.bool (true))))] := by
  obtain ⟨x, ex, hx, _⟩ := words a ka
  obtain ⟨y, ey, hy, _⟩ := words b kb
  obtain ⟨z, ez, hz, _⟩ := words c kc
  show (KL AA XX).call 13 [.one (.sl _), .one (.sl _), .one (.sl _)] = _
  rw [ex, ey, ez]; exact mod13 hx hy hz
theorem law27 (a b c : List Int) (ka : V64 a) (kb : V64 b) (kc : V64 c) : (KL AA XX).call 27 [ql a, ql b, ql c] = some [(PV.one (D.sc (Value.bool (true))))] := by
  obtain ⟨x, ex, hx, _⟩ := words a ka
  obtain ⟨y, ey, hy, _⟩ := words b kb
  obtain ⟨z, ez, hz, _⟩ := words c kc
  show (KL AA XX).call 27 [.one (.sl _), .one (.sl _), .one (.sl _)] = _
  rw [ex, ey, ez]; exact mod27 hx hy hz
theorem law28 (a b c : List Int) (ka : V64 a) (kb : V64 b) (kc : V64 c) : (KL AA XX).call 28 [ql a, ql b, ql c] = some [(PV.one (D.sc (Value.bool (true))))] := by
  obtain ⟨x, ex, hx, _⟩ := words a ka
  obtain ⟨y, ey, hy, _⟩ := words b kb
  obtain ⟨z, ez, hz, _⟩ := words c kc
  show (KL AA XX).call 28 [.one (.sl _), .one (.sl _), .one (.sl _)] = _
  rw [ex, ey, ez]; exact mod28 hx hy hz
theorem law29 (a b c : List Int) (ka : V64 a) (kb : V64 b) (kc : V64 c) : (KL AA XX).call 29 [ql a, ql b, ql c] = some [(PV.one (D.sc (Value.bool (true))))] := by
  obtain ⟨x, ex, hx, _⟩ := words a ka
  obtain ⟨y, ey, hy, _⟩ := words b kb
  obtain ⟨z, ez, hz, _⟩ := words c kc
  show (KL AA XX).call 29 [.one (.sl _), .one (.sl _), .one (.sl _)] = _
  rw [ex, ey, ez]; exact mod29 hx hy hz
end Go.Proofs.Ytpanbfainilmpaa.Ev.N
end
