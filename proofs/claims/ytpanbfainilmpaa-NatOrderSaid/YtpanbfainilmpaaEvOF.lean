/- Trimming, and comparing words, by themselves. -/
import Derived.Test.YtpanbfainilmpaaEvNF1
import Derived.Test.YtpanbfainilmpaaEvO1
set_option linter.unusedVariables false
set_option linter.unusedSimpArgs false
set_option maxRecDepth 100000
set_option maxHeartbeats 2000000
namespace Go.Proofs.Ytpanbfainilmpaa.Ev.O
open Go Go.Proofs.Ytpanbfainilmpaa.Ev Go.Proofs.Ytpanbfainilmpaa.Ev.N

theorem Nan123 (x : Nat) : (KL AA XX).call 123 [(PV.one (D.sc (Value.int IntKind.u64 ((x : Nat)))))] = some [(PV.one (D.sc (Value.bool (false))))] := by
  rw [c123]
  have d : decide (((x : Nat) : Int) = ((x : Nat) : Int)) = true := decide_eq_true rfl
  simp only [go_sem, ↓reduceIte, Nat.reduceAdd, Nat.reduceSub, Nat.reduceMul, Nat.reduceEqDiff, Nat.reduceLT, Nat.reduceShiftRight, Nat.reduceAnd, Nat.reduceBNe, Nat.reduceLeDiff, Nat.reduceBEq, Nat.testBit, Nat.zero_lt_one, Int.reduceToNat, Int.reduceNeg, Int.reduceLE, Int.reduceLT, Int.reduceEq, decide_true, decide_false, Bool.and_true, Bool.true_and, Bool.and_false, Bool.false_and, Bool.or_true, Bool.true_or, Bool.or_false, Bool.false_or, Bool.not_true, Bool.not_false, beq_self_eq_true, reduceCtorEq, Int.le_refl, Nat.add_zero, and_self, and_true, true_and, or_true, true_or, if_true, if_false, Nat.le_refl, Bool.and_self, eq_self, Bool.not_false, Bool.not_true, d]
theorem Cmp104 (x y : Nat) : (KL AA XX).call 104 [(PV.one (D.sc (Value.int IntKind.u64 ((x : Nat))))), (PV.one (D.sc (Value.int IntKind.u64 ((y : Nat)))))] = some [(PV.one (D.sc (Value.int IntKind.i64 (cmpI x y))))] := by
  have n1 := Nan123 x
  have n2 := Nan123 y
  rw [c104]
  by_cases h1 : x < y
  · have d1 : decide ((x : Int) < (y : Int)) = true := decide_eq_true (by omega)
    have hc : cmpI x y = -1 := if_pos h1
    simp only [go_sem, ↓reduceIte, Nat.reduceAdd, Nat.reduceSub, Nat.reduceMul, Nat.reduceEqDiff, Nat.reduceLT, Nat.reduceShiftRight, Nat.reduceAnd, Nat.reduceBNe, Nat.reduceLeDiff, Nat.reduceBEq, Nat.testBit, Nat.zero_lt_one, Int.reduceToNat, Int.reduceNeg, Int.reduceLE, Int.reduceLT, Int.reduceEq, decide_true, decide_false, Bool.and_true, Bool.true_and, Bool.and_false, Bool.false_and, Bool.or_true, Bool.true_or, Bool.or_false, Bool.false_or, Bool.not_true, Bool.not_false, beq_self_eq_true, reduceCtorEq, Int.le_refl, Nat.add_zero, and_self, and_true, true_and, or_true, true_or, if_true, if_false, Nat.le_refl, Bool.and_self, eq_self, Bool.not_false, Bool.not_true, n1, n2, d1, hc]
  · have d1 : decide ((x : Int) < (y : Int)) = false := decide_eq_false (by omega)
    by_cases h2 : y < x
    · have d2 : decide ((y : Int) < (x : Int)) = true := decide_eq_true (by omega)
      have hc : cmpI x y = 1 := by unfold cmpI; rw [if_neg h1, if_pos h2]
      simp only [go_sem, ↓reduceIte, Nat.reduceAdd, Nat.reduceSub, Nat.reduceMul, Nat.reduceEqDiff, Nat.reduceLT, Nat.reduceShiftRight, Nat.reduceAnd, Nat.reduceBNe, Nat.reduceLeDiff, Nat.reduceBEq, Nat.testBit, Nat.zero_lt_one, Int.reduceToNat, Int.reduceNeg, Int.reduceLE, Int.reduceLT, Int.reduceEq, decide_true, decide_false, Bool.and_true, Bool.true_and, Bool.and_false, Bool.false_and, Bool.or_true, Bool.true_or, Bool.or_false, Bool.false_or, Bool.not_true, Bool.not_false, beq_self_eq_true, reduceCtorEq, Int.le_refl, Nat.add_zero, and_self, and_true, true_and, or_true, true_or, if_true, if_false, Nat.le_refl, Bool.and_self, eq_self, Bool.not_false, Bool.not_true, n1, n2, d1, d2, hc]
    · have d2 : decide ((y : Int) < (x : Int)) = false := decide_eq_false (by omega)
      have hc : cmpI x y = 0 := by unfold cmpI; rw [if_neg h1, if_neg h2]
      simp only [go_sem, ↓reduceIte, Nat.reduceAdd, Nat.reduceSub, Nat.reduceMul, Nat.reduceEqDiff, Nat.reduceLT, Nat.reduceShiftRight, Nat.reduceAnd, Nat.reduceBNe, Nat.reduceLeDiff, Nat.reduceBEq, Nat.testBit, Nat.zero_lt_one, Int.reduceToNat, Int.reduceNeg, Int.reduceLE, Int.reduceLT, Int.reduceEq, decide_true, decide_false, Bool.and_true, Bool.true_and, Bool.and_false, Bool.false_and, Bool.or_true, Bool.true_or, Bool.or_false, Bool.false_or, Bool.not_true, Bool.not_false, beq_self_eq_true, reduceCtorEq, Int.le_refl, Nat.add_zero, and_self, and_true, true_and, or_true, true_or, if_true, if_false, Nat.le_refl, Bool.and_self, eq_self, Bool.not_false, Bool.not_true, n1, n2, d1, d2, hc]

theorem Trim68 {l : List Nat} (h : Limbs l) (hl : l.length ≤ 2000000) : (KL AA XX).call 68 [(PV.one (D.sl (List.map n64 (l))))] = some [(PV.one (D.sl (List.map n64 (dig (val l)))))] := by
  have hm := top_le h
  have go := iter (F := fun (i : Nat) => loopR AA XX [0, 3] 1 b68_0 (RUN AA XX b68_0 ⟨[(0, (AV.c (C.d (D.sl (List.map n64 (l)))))), (3, (AV.c (C.d (D.sc (Value.int IntKind.i64 (i))))))], [(0, .tok 0 0)], 1⟩)) hm fun i hi1 hi2 => by
    have hz := top_zero h hi2 hi1
    have hg := getn hi2
    rw [hz] at hg
    have hw : IntKind.i64.wrap (((i + 1 : Nat) : Int) - 1) = (i : Int) := by rw [wrap_i64 _ (by omega) (by omega)]; omega
    have h0 : decide ((0 : Int) < ((i + 1 : Nat) : Int)) = true := decide_eq_true (by omega)
    refine Eq.symm ?_
    show loopR _ _ _ _ _ (RUN _ _ _ _) = _
    rw [b68_0_run]
    simp only [go_sem, ↓reduceIte, Nat.reduceAdd, Nat.reduceSub, Nat.reduceMul, Nat.reduceEqDiff, Nat.reduceLT, Nat.reduceShiftRight, Nat.reduceAnd, Nat.reduceBNe, Nat.reduceLeDiff, Nat.reduceBEq, Nat.testBit, Nat.zero_lt_one, Int.reduceToNat, Int.reduceNeg, Int.reduceLE, Int.reduceLT, Int.reduceEq, decide_true, decide_false, Bool.and_true, Bool.true_and, Bool.and_false, Bool.false_and, Bool.or_true, Bool.true_or, Bool.or_false, Bool.false_or, Bool.not_true, Bool.not_false, beq_self_eq_true, reduceCtorEq, Int.le_refl, Nat.add_zero, and_self, and_true, true_and, or_true, true_or, if_true, if_false, Nat.le_refl, Bool.and_self, eq_self, Bool.not_false, Bool.not_true, hw, h0, hg, Int.natCast_zero]
  have ht := top_take h
  have q1 : ((nlen (val l) : Int) ≤ (l.length : Int)) = True := eq_true (by omega)
  have mb := mbk (show (dig (val l)).length ≤ 10000000 by rw [dig_len]; omega) (Nat.le_refl _) (show 8 ≤ 1000 by omega)
  have hd := dig_len (val l)
  rw [c68]
  simp only [go_sem, ↓reduceIte, Nat.reduceAdd, Nat.reduceSub, Nat.reduceMul, Nat.reduceEqDiff, Nat.reduceLT, Nat.reduceShiftRight, Nat.reduceAnd, Nat.reduceBNe, Nat.reduceLeDiff, Nat.reduceBEq, Nat.testBit, Nat.zero_lt_one, Int.reduceToNat, Int.reduceNeg, Int.reduceLE, Int.reduceLT, Int.reduceEq, decide_true, decide_false, Bool.and_true, Bool.true_and, Bool.and_false, Bool.false_and, Bool.or_true, Bool.true_or, Bool.or_false, Bool.false_or, Bool.not_true, Bool.not_false, beq_self_eq_true, reduceCtorEq, Int.le_refl, Nat.add_zero, and_self, and_true, true_and, or_true, true_or, if_true, if_false, Nat.le_refl, Bool.and_self, eq_self, Bool.not_false, Bool.not_true]
  rw [← go, b68_0_run]
  rcases hn : nlen (val l) with _ | m
  · rw [hn] at ht q1
    have e0 : dig (val l) = [] := by rw [← ht, List.take_zero]
    rw [e0] at mb ⊢
    have q1' : ((0 : Int) ≤ (l.length : Int)) = True := eq_true (by omega)
    simp only [go_sem, ↓reduceIte, Nat.reduceAdd, Nat.reduceSub, Nat.reduceMul, Nat.reduceEqDiff, Nat.reduceLT, Nat.reduceShiftRight, Nat.reduceAnd, Nat.reduceBNe, Nat.reduceLeDiff, Nat.reduceBEq, Nat.testBit, Nat.zero_lt_one, Int.reduceToNat, Int.reduceNeg, Int.reduceLE, Int.reduceLT, Int.reduceEq, decide_true, decide_false, Bool.and_true, Bool.true_and, Bool.and_false, Bool.false_and, Bool.or_true, Bool.true_or, Bool.or_false, Bool.false_or, Bool.not_true, Bool.not_false, beq_self_eq_true, reduceCtorEq, Int.le_refl, Nat.add_zero, and_self, and_true, true_and, or_true, true_or, if_true, if_false, Nat.le_refl, Bool.and_self, eq_self, Bool.not_false, Bool.not_true, Int.natCast_zero, Int.lt_irrefl, tk64, q1', mb, all64, Nat.zero_le, show ((0 : Nat) : Int) = 0 from rfl]
  · rw [hn] at ht q1
    have hml : m < l.length := by omega
    have hg := getn hml
    have hnz := top_not h hml hn
    have hw : IntKind.i64.wrap (((m + 1 : Nat) : Int) - 1) = (m : Int) := by rw [wrap_i64 _ (by omega) (by omega)]; omega
    have h0 : decide ((0 : Int) < ((m + 1 : Nat) : Int)) = true := decide_eq_true (by omega)
    have h1 : decide (((l[m] : Nat) : Int) = 0) = false := decide_eq_false (by omega)
    simp only [go_sem, ↓reduceIte, Nat.reduceAdd, Nat.reduceSub, Nat.reduceMul, Nat.reduceEqDiff, Nat.reduceLT, Nat.reduceShiftRight, Nat.reduceAnd, Nat.reduceBNe, Nat.reduceLeDiff, Nat.reduceBEq, Nat.testBit, Nat.zero_lt_one, Int.reduceToNat, Int.reduceNeg, Int.reduceLE, Int.reduceLT, Int.reduceEq, decide_true, decide_false, Bool.and_true, Bool.true_and, Bool.and_false, Bool.false_and, Bool.or_true, Bool.true_or, Bool.or_false, Bool.false_or, Bool.not_true, Bool.not_false, beq_self_eq_true, reduceCtorEq, Int.le_refl, Nat.add_zero, and_self, and_true, true_and, or_true, true_or, if_true, if_false, Nat.le_refl, Bool.and_self, eq_self, Bool.not_false, Bool.not_true, hw, h0, h1, hg, tk64, q1, ht, mb, all64]
end Go.Proofs.Ytpanbfainilmpaa.Ev.O
