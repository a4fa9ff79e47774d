/- What the document's functions of chapter 01 compute. -/
import Derived.Test.YtpanbfainilmpaaEvNF1
import Derived.Test.YtpanbfainilmpaaEvM1
set_option linter.unusedVariables false
set_option linter.unusedSimpArgs false
set_option maxRecDepth 100000
set_option maxHeartbeats 2000000
namespace Go.Proofs.Ytpanbfainilmpaa.Ev.N
open Go Go.Proofs.Ytpanbfainilmpaa.Ev

theorem Limb101 (l : List Nat) (i : Nat) : (KL AA XX).call 101 [(PV.one (D.sl (List.map n64 (l)))), (PV.one (D.sc (Value.int IntKind.i64 ((i : Nat)))))] = some [(PV.one (D.sc (Value.int IntKind.u64 ((limb l i : Nat)))))] := by
  rw [c101]
  have d0 : decide ((i : Int) < 0) = false := decide_eq_false (by omega)
  by_cases hi : i < l.length
  · have d1 : decide ((l.length : Int) ≤ (i : Int)) = false := decide_eq_false (by omega)
    have hg := getn hi
    rw [← limb_get hi] at hg
    simp only [go_sem, ↓reduceIte, Nat.reduceAdd, Nat.reduceSub, Nat.reduceMul, Nat.reduceEqDiff, Nat.reduceLT, Nat.reduceShiftRight, Nat.reduceAnd, Nat.reduceBNe, Nat.reduceLeDiff, Nat.reduceBEq, Nat.testBit, Nat.zero_lt_one, Int.reduceToNat, Int.reduceNeg, Int.reduceLE, Int.reduceLT, Int.reduceEq, decide_true, decide_false, Bool.and_true, Bool.true_and, Bool.and_false, Bool.false_and, Bool.or_true, Bool.true_or, Bool.or_false, Bool.false_or, Bool.not_true, Bool.not_false, beq_self_eq_true, reduceCtorEq, Int.le_refl, Nat.add_zero, and_self, and_true, true_and, or_true, true_or, if_true, if_false, Nat.le_refl, Bool.and_self, eq_self, Bool.not_false, Bool.not_true, d0, d1, hg]
  · have d1 : decide ((l.length : Int) ≤ (i : Int)) = true := decide_eq_true (by omega)
    have hz := limb_none (l := l) (i := i) (by omega)
    simp only [go_sem, ↓reduceIte, Nat.reduceAdd, Nat.reduceSub, Nat.reduceMul, Nat.reduceEqDiff, Nat.reduceLT, Nat.reduceShiftRight, Nat.reduceAnd, Nat.reduceBNe, Nat.reduceLeDiff, Nat.reduceBEq, Nat.testBit, Nat.zero_lt_one, Int.reduceToNat, Int.reduceNeg, Int.reduceLE, Int.reduceLT, Int.reduceEq, decide_true, decide_false, Bool.and_true, Bool.true_and, Bool.and_false, Bool.false_and, Bool.or_true, Bool.true_or, Bool.or_false, Bool.false_or, Bool.not_true, Bool.not_false, beq_self_eq_true, reduceCtorEq, Int.le_refl, Nat.add_zero, and_self, and_true, true_and, or_true, true_or, if_true, if_false, Nat.le_refl, Bool.and_self, eq_self, Bool.not_false, Bool.not_true, d0, d1, hz, show ((0 : Nat) : Int) = 0 from rfl]
theorem max_int (a b : Nat) : (if (a : Int) < (b : Int) then (b : Int) else (a : Int)) = ((max a b : Nat) : Int) := by
  split <;> omega
theorem lt_max {l : List Nat} (h : Limbs l) {n : Nat} (hn : l.length ≤ n) : val l < B64 ^ n := Nat.lt_of_lt_of_le (val_lt h) (Nat.pow_le_pow_right B_pos hn)

theorem Add59 {a b : List Nat} (ha : Limbs a) (hb : Limbs b) (la : a.length ≤ 900000) (lb : b.length ≤ 900000) : (KL AA XX).call 59 [(PV.one (D.sl (List.map n64 (a)))), (PV.one (D.sl (List.map n64 (b))))] = some [(PV.one (D.sl (List.map n64 (dig (val a + val b)))))] := by
  have hm := max_int a.length b.length
  have hmx : max a.length b.length ≤ 900000 := Nat.max_le.2 ⟨la, lb⟩
  obtain ⟨n, hn⟩ : ∃ n, max a.length b.length = n := ⟨_, rfl⟩
  rw [hn] at hm hmx
  have hA := lt_max ha (show a.length ≤ n by omega)
  have hB := lt_max hb (show b.length ≤ n by omega)
  have go := iter (F := fun (i : Nat) => loopR AA XX [0, 1, 5, 6, 7] 2 b59_0 (RUN AA XX b59_0 ⟨[(0, (AV.c (C.d (D.sl (List.map n64 (a)))))), (1, (AV.c (C.d (D.sl (List.map n64 (b)))))), (5, (AV.c (C.gr 1 ((digs i (val a + val b)).map n64)))), (6, (AV.c (C.d (D.sc (Value.int IntKind.u64 ((cry (val a) (val b) i : Nat))))))), (7, (AV.c (C.d (D.sc (Value.int IntKind.i64 (i))))))], [(0, .tok 0 0), (1, .tok (digs i (val a + val b)).length (tS (digs i (val a + val b)).length 1))], 2⟩)) (Nat.zero_le n) fun i _ hi => by
    have hlt := ltT hi
    have hw := wrap_succ i (by omega)
    have l1 := Limb101 a i
    have l2 := Limb101 b i
    have c100 := Add100 (limb a i) (limb b i) (cry_le (val a) (val b) i)
    have hs := sum_digit (val a) (val b) i
    have hc := cry_succ (val a) (val b) i
    rw [← limb_eq ha, ← limb_eq hb] at hs hc
    rw [← hs, ← hc] at c100
    have hds : digs (i + 1) (val a + val b) = digs i (val a + val b) ++ [(val a + val b) / B64 ^ i % B64] := digs_succ _ _
    have hdl := digs_len i (val a + val b)
    have mb := mbk (show (digs i (val a + val b)).length + 1 ≤ 10000000 by omega) (Nat.le_refl _) (show 8 ≤ 1000 by omega)
    show loopR _ _ _ _ _ (RUN _ _ _ _) = _
    rw [b59_0_run]
    simp only [go_sem, ↓reduceIte, Nat.reduceAdd, Nat.reduceSub, Nat.reduceMul, Nat.reduceEqDiff, Nat.reduceLT, Nat.reduceShiftRight, Nat.reduceAnd, Nat.reduceBNe, Nat.reduceLeDiff, Nat.reduceBEq, Nat.testBit, Nat.zero_lt_one, Int.reduceToNat, Int.reduceNeg, Int.reduceLE, Int.reduceLT, Int.reduceEq, decide_true, decide_false, Bool.and_true, Bool.true_and, Bool.and_false, Bool.false_and, Bool.or_true, Bool.true_or, Bool.or_false, Bool.false_or, Bool.not_true, Bool.not_false, beq_self_eq_true, reduceCtorEq, Int.le_refl, Nat.add_zero, and_self, and_true, true_and, or_true, true_or, if_true, if_false, Nat.le_refl, Bool.and_self, eq_self, Bool.not_false, Bool.not_true, hm, hlt, hw, l1, l2, c100, hds, mb, tSok, tS1, List.length_append, List.map_append, n64]
  have e0 : digs 0 (val a + val b) = [] := rfl
  simp only [e0, List.map_nil, List.length_nil, tS0, cry_zero, show ((0 : Nat) : Int) = 0 from rfl] at go
  have hds := sum_digs hA hB
  have hdv := sum_val hA hB
  have t69 := Trim69 (digs_limbs (n + 1) (val a + val b)) (by rw [digs_len]; omega)
  rw [hdv, ← hds, List.map_append] at t69
  simp only [List.map_cons, List.map_nil, n64] at t69
  have hdl := digs_len n (val a + val b)
  have mb := mbk (show (digs n (val a + val b)).length + 1 ≤ 10000000 by omega) (Nat.le_refl _) (show 8 ≤ 1000 by omega)
  rw [c59]
  simp only [go_sem, ↓reduceIte, Nat.reduceAdd, Nat.reduceSub, Nat.reduceMul, Nat.reduceEqDiff, Nat.reduceLT, Nat.reduceShiftRight, Nat.reduceAnd, Nat.reduceBNe, Nat.reduceLeDiff, Nat.reduceBEq, Nat.testBit, Nat.zero_lt_one, Int.reduceToNat, Int.reduceNeg, Int.reduceLE, Int.reduceLT, Int.reduceEq, decide_true, decide_false, Bool.and_true, Bool.true_and, Bool.and_false, Bool.false_and, Bool.or_true, Bool.true_or, Bool.or_false, Bool.false_or, Bool.not_true, Bool.not_false, beq_self_eq_true, reduceCtorEq, Int.le_refl, Nat.add_zero, and_self, and_true, true_and, or_true, true_or, if_true, if_false, Nat.le_refl, Bool.and_self, eq_self, Bool.not_false, Bool.not_true]
  rw [go, b59_0_run]
  simp only [go_sem, ↓reduceIte, Nat.reduceAdd, Nat.reduceSub, Nat.reduceMul, Nat.reduceEqDiff, Nat.reduceLT, Nat.reduceShiftRight, Nat.reduceAnd, Nat.reduceBNe, Nat.reduceLeDiff, Nat.reduceBEq, Nat.testBit, Nat.zero_lt_one, Int.reduceToNat, Int.reduceNeg, Int.reduceLE, Int.reduceLT, Int.reduceEq, decide_true, decide_false, Bool.and_true, Bool.true_and, Bool.and_false, Bool.false_and, Bool.or_true, Bool.true_or, Bool.or_false, Bool.false_or, Bool.not_true, Bool.not_false, beq_self_eq_true, reduceCtorEq, Int.le_refl, Nat.add_zero, and_self, and_true, true_and, or_true, true_or, if_true, if_false, Nat.le_refl, Bool.and_self, eq_self, Bool.not_false, Bool.not_true, hm, Int.lt_irrefl, mb, tSok, t69]
theorem Compare60 {a b : List Nat} (ha : Limbs a) (hb : Limbs b) (la : a.length ≤ 900000) (lb : b.length ≤ 900000) : (KL AA XX).call 60 [(PV.one (D.sl (List.map n64 (a)))), (PV.one (D.sl (List.map n64 (b))))] = some [(PV.one (D.sc (Value.int IntKind.i64 (cmpI (val a) (val b)))))] := by
  have hm := max_int a.length b.length
  have hmx : max a.length b.length ≤ 900000 := Nat.max_le.2 ⟨la, lb⟩
  obtain ⟨n, hn⟩ : ∃ n, max a.length b.length = n := ⟨_, rfl⟩
  rw [hn] at hm hmx
  have hA := lt_max ha (show a.length ≤ n by omega)
  have hB := lt_max hb (show b.length ≤ n by omega)
  have go : ∀ i, i ≤ n → val a / B64 ^ i = val b / B64 ^ i → ∃ r, thenR AA XX (.seq (.reg false [⟨some 4, .asg (.k (.d (.sc (.int .i64 (0))))), none, 0⟩]) .ret) (blockR 0 (loopR AA XX [0, 1, 5] 0 b60_0 (RUN AA XX b60_0 ⟨[(0, (AV.c (C.d (D.sl (List.map n64 (a)))))), (1, (AV.c (C.d (D.sl (List.map n64 (b)))))), (5, (AV.c (C.d (D.sc (Value.int IntKind.i64 ((i : Int) - 1))))))], [], 0⟩))) = r ∧ callR [.t 4 1] r = some [(PV.one (D.sc (Value.int IntKind.i64 (cmpI (val a) (val b)))))] := by
    intro i
    induction i with
    | zero =>
      intro _ he
      simp only [Nat.pow_zero, Nat.div_one] at he
      rw [he, cmpI_self, b60_0_run]
      have d0 : decide ((0 : Int) ≤ ((0 : Nat) : Int) - 1) = false := rfl
      refine ⟨_, rfl, ?_⟩
      simp only [go_sem, ↓reduceIte, Nat.reduceAdd, Nat.reduceSub, Nat.reduceMul, Nat.reduceEqDiff, Nat.reduceLT, Nat.reduceShiftRight, Nat.reduceAnd, Nat.reduceBNe, Nat.reduceLeDiff, Nat.reduceBEq, Nat.testBit, Nat.zero_lt_one, Int.reduceToNat, Int.reduceNeg, Int.reduceLE, Int.reduceLT, Int.reduceEq, decide_true, decide_false, Bool.and_true, Bool.true_and, Bool.and_false, Bool.false_and, Bool.or_true, Bool.true_or, Bool.or_false, Bool.false_or, Bool.not_true, Bool.not_false, beq_self_eq_true, reduceCtorEq, Int.le_refl, Nat.add_zero, and_self, and_true, true_and, or_true, true_or, if_true, if_false, Nat.le_refl, Bool.and_self, eq_self, Bool.not_false, Bool.not_true, d0]
    | succ i ih =>
      intro hi he
      have d0 : decide ((0 : Int) ≤ ((i + 1 : Nat) : Int) - 1) = true := decide_eq_true (by omega)
      have e1 : ((i + 1 : Nat) : Int) - 1 = (i : Int) := by omega
      rw [e1] at d0 ⊢
      have l1 := Limb101 a i
      have l2 := Limb101 b i
      have hw := wrap_i64_pred i (by omega)
      rw [b60_0_run]
      by_cases hne : limb a i = limb b i
      · have d1 : decide (((limb b i : Nat) : Int) = ((limb b i : Nat) : Int)) = true := decide_eq_true rfl
        rw [hne] at l1
        rw [limb_eq ha, limb_eq hb] at hne
        obtain ⟨r, h1, h2⟩ := ih (by omega) (div_same he hne)
        refine ⟨r, ?_, h2⟩
        rw [← h1]
        simp only [go_sem, ↓reduceIte, Nat.reduceAdd, Nat.reduceSub, Nat.reduceMul, Nat.reduceEqDiff, Nat.reduceLT, Nat.reduceShiftRight, Nat.reduceAnd, Nat.reduceBNe, Nat.reduceLeDiff, Nat.reduceBEq, Nat.testBit, Nat.zero_lt_one, Int.reduceToNat, Int.reduceNeg, Int.reduceLE, Int.reduceLT, Int.reduceEq, decide_true, decide_false, Bool.and_true, Bool.true_and, Bool.and_false, Bool.false_and, Bool.or_true, Bool.true_or, Bool.or_false, Bool.false_or, Bool.not_true, Bool.not_false, beq_self_eq_true, reduceCtorEq, Int.le_refl, Nat.add_zero, and_self, and_true, true_and, or_true, true_or, if_true, if_false, Nat.le_refl, Bool.and_self, eq_self, Bool.not_false, Bool.not_true, d0, l1, l2, d1, hw]
      · have d1 : decide (((limb a i : Nat) : Int) = ((limb b i : Nat) : Int)) = false := decide_eq_false (by omega)
        have hc := cmp_top he (by rw [← limb_eq ha, ← limb_eq hb]; exact hne)
        rw [← limb_eq ha, ← limb_eq hb] at hc
        by_cases hlt : limb a i < limb b i
        · have d2 : decide (((limb a i : Nat) : Int) < ((limb b i : Nat) : Int)) = true := decide_eq_true (by omega)
          rw [if_pos hlt] at hc
          refine ⟨_, rfl, ?_⟩
          simp only [go_sem, ↓reduceIte, Nat.reduceAdd, Nat.reduceSub, Nat.reduceMul, Nat.reduceEqDiff, Nat.reduceLT, Nat.reduceShiftRight, Nat.reduceAnd, Nat.reduceBNe, Nat.reduceLeDiff, Nat.reduceBEq, Nat.testBit, Nat.zero_lt_one, Int.reduceToNat, Int.reduceNeg, Int.reduceLE, Int.reduceLT, Int.reduceEq, decide_true, decide_false, Bool.and_true, Bool.true_and, Bool.and_false, Bool.false_and, Bool.or_true, Bool.true_or, Bool.or_false, Bool.false_or, Bool.not_true, Bool.not_false, beq_self_eq_true, reduceCtorEq, Int.le_refl, Nat.add_zero, and_self, and_true, true_and, or_true, true_or, if_true, if_false, Nat.le_refl, Bool.and_self, eq_self, Bool.not_false, Bool.not_true, d0, l1, l2, d1, d2, hc]
        · have d2 : decide (((limb a i : Nat) : Int) < ((limb b i : Nat) : Int)) = false := decide_eq_false (by omega)
          rw [if_neg hlt] at hc
          refine ⟨_, rfl, ?_⟩
          simp only [go_sem, ↓reduceIte, Nat.reduceAdd, Nat.reduceSub, Nat.reduceMul, Nat.reduceEqDiff, Nat.reduceLT, Nat.reduceShiftRight, Nat.reduceAnd, Nat.reduceBNe, Nat.reduceLeDiff, Nat.reduceBEq, Nat.testBit, Nat.zero_lt_one, Int.reduceToNat, Int.reduceNeg, Int.reduceLE, Int.reduceLT, Int.reduceEq, decide_true, decide_false, Bool.and_true, Bool.true_and, Bool.and_false, Bool.false_and, Bool.or_true, Bool.true_or, Bool.or_false, Bool.false_or, Bool.not_true, Bool.not_false, beq_self_eq_true, reduceCtorEq, Int.le_refl, Nat.add_zero, and_self, and_true, true_and, or_true, true_or, if_true, if_false, Nat.le_refl, Bool.and_self, eq_self, Bool.not_false, Bool.not_true, d0, l1, l2, d1, d2, hc]
  obtain ⟨r, h1, h2⟩ := go n (Nat.le_refl _) (by rw [Nat.div_eq_of_lt hA, Nat.div_eq_of_lt hB])
  have hw := wrap_i64_pred n (by omega)
  rw [c60]
  simp only [go_sem, ↓reduceIte, Nat.reduceAdd, Nat.reduceSub, Nat.reduceMul, Nat.reduceEqDiff, Nat.reduceLT, Nat.reduceShiftRight, Nat.reduceAnd, Nat.reduceBNe, Nat.reduceLeDiff, Nat.reduceBEq, Nat.testBit, Nat.zero_lt_one, Int.reduceToNat, Int.reduceNeg, Int.reduceLE, Int.reduceLT, Int.reduceEq, decide_true, decide_false, Bool.and_true, Bool.true_and, Bool.and_false, Bool.false_and, Bool.or_true, Bool.true_or, Bool.or_false, Bool.false_or, Bool.not_true, Bool.not_false, beq_self_eq_true, reduceCtorEq, Int.le_refl, Nat.add_zero, and_self, and_true, true_and, or_true, true_or, if_true, if_false, Nat.le_refl, Bool.and_self, eq_self, Bool.not_false, Bool.not_true, hm, hw]
  rw [h1, h2]
theorem Sub64 {a b : List Nat} (ha : Limbs a) (hb : Limbs b) (la : a.length ≤ 900000) (lb : b.length ≤ 900000) : (KL AA XX).call 64 [(PV.one (D.sl (List.map n64 (a)))), (PV.one (D.sl (List.map n64 (b))))] = some (subV (val a) (val b)) := by
  have c60' := Compare60 ha hb la lb
  have hm := max_int a.length b.length
  have hmx : max a.length b.length ≤ 900000 := Nat.max_le.2 ⟨la, lb⟩
  obtain ⟨n, hn⟩ : ∃ n, max a.length b.length = n := ⟨_, rfl⟩
  rw [hn] at hm hmx
  have hA := lt_max ha (show a.length ≤ n by omega)
  have hB := lt_max hb (show b.length ≤ n by omega)
  rw [c64]
  by_cases hlt : val a < val b
  · have hc : cmpI (val a) (val b) = -1 := if_pos hlt
    rw [hc] at c60'
    have hs : subV (val a) (val b) = [(PV.one (D.sl (List.map n64 ([])))), (PV.one (D.sc (Value.bool (false))))] := if_neg (by omega)
    rw [hs]
    simp only [go_sem, ↓reduceIte, Nat.reduceAdd, Nat.reduceSub, Nat.reduceMul, Nat.reduceEqDiff, Nat.reduceLT, Nat.reduceShiftRight, Nat.reduceAnd, Nat.reduceBNe, Nat.reduceLeDiff, Nat.reduceBEq, Nat.testBit, Nat.zero_lt_one, Int.reduceToNat, Int.reduceNeg, Int.reduceLE, Int.reduceLT, Int.reduceEq, decide_true, decide_false, Bool.and_true, Bool.true_and, Bool.and_false, Bool.false_and, Bool.or_true, Bool.true_or, Bool.or_false, Bool.false_or, Bool.not_true, Bool.not_false, beq_self_eq_true, reduceCtorEq, Int.le_refl, Nat.add_zero, and_self, and_true, true_and, or_true, true_or, if_true, if_false, Nat.le_refl, Bool.and_self, eq_self, Bool.not_false, Bool.not_true, c60']
  · have hc : decide (cmpI (val a) (val b) < 0) = false := by
      unfold cmpI
      rw [if_neg hlt]
      split <;> rfl
    have hs : subV (val a) (val b) = [(PV.one (D.sl (List.map n64 (dig (val a - val b))))), (PV.one (D.sc (Value.bool (true))))] := if_pos (by omega)
    rw [hs]
    have go := iter (F := fun (i : Nat) => loopR AA XX [0, 1, 6, 7, 8] 2 b64_0 (RUN AA XX b64_0 ⟨[(0, (AV.c (C.d (D.sl (List.map n64 (a)))))), (1, (AV.c (C.d (D.sl (List.map n64 (b)))))), (6, (AV.c (C.gr 1 ((digs i (val a + B64 ^ n - val b)).map n64)))), (7, (AV.c (C.d (D.sc (Value.int IntKind.u64 ((bor (val a) (val b) i : Nat))))))), (8, (AV.c (C.d (D.sc (Value.int IntKind.i64 (i))))))], [(0, .tok 0 0), (1, .tok (digs i (val a + B64 ^ n - val b)).length (tS (digs i (val a + B64 ^ n - val b)).length 1))], 2⟩)) (Nat.zero_le n) fun i _ hi => by
      have hlt := ltT hi
      have hw := wrap_succ i (by omega)
      have l1 := Limb101 a i
      have l2 := Limb101 b i
      have c103 := Sub103 (limb a i) (limb b i) (bor_le (val a) (val b) i)
      have hs := dif_digit (val a) (val b) i n hi hB
      have hc := bor_succ (val a) (val b) i
      rw [← limb_eq ha, ← limb_eq hb] at hs hc
      rw [← hs, ← hc] at c103
      have hds : digs (i + 1) (val a + B64 ^ n - val b) = digs i (val a + B64 ^ n - val b) ++ [(val a + B64 ^ n - val b) / B64 ^ i % B64] := digs_succ _ _
      have hdl := digs_len i (val a + B64 ^ n - val b)
      have mb := mbk (show (digs i (val a + B64 ^ n - val b)).length + 1 ≤ 10000000 by omega) (Nat.le_refl _) (show 8 ≤ 1000 by omega)
      show loopR _ _ _ _ _ (RUN _ _ _ _) = _
      rw [b64_0_run]
      simp only [go_sem, ↓reduceIte, Nat.reduceAdd, Nat.reduceSub, Nat.reduceMul, Nat.reduceEqDiff, Nat.reduceLT, Nat.reduceShiftRight, Nat.reduceAnd, Nat.reduceBNe, Nat.reduceLeDiff, Nat.reduceBEq, Nat.testBit, Nat.zero_lt_one, Int.reduceToNat, Int.reduceNeg, Int.reduceLE, Int.reduceLT, Int.reduceEq, decide_true, decide_false, Bool.and_true, Bool.true_and, Bool.and_false, Bool.false_and, Bool.or_true, Bool.true_or, Bool.or_false, Bool.false_or, Bool.not_true, Bool.not_false, beq_self_eq_true, reduceCtorEq, Int.le_refl, Nat.add_zero, and_self, and_true, true_and, or_true, true_or, if_true, if_false, Nat.le_refl, Bool.and_self, eq_self, Bool.not_false, Bool.not_true, hm, hlt, hw, l1, l2, c103, hds, mb, tSok, tS1, List.length_append, List.map_append, n64]
    have e0 : digs 0 (val a + B64 ^ n - val b) = [] := rfl
    simp only [e0, List.map_nil, List.length_nil, tS0, bor_zero, show ((0 : Nat) : Int) = 0 from rfl] at go
    have t69 := Trim69 (digs_limbs n (val a + B64 ^ n - val b)) (by rw [digs_len]; omega)
    have hv : val (digs n (val a + B64 ^ n - val b)) = val a - val b := by
      rw [val_digs, show val a + B64 ^ n - val b = val a - val b + B64 ^ n by omega, Nat.add_mod_right, Nat.mod_eq_of_lt (by omega)]
    rw [hv] at t69
    simp only [go_sem, ↓reduceIte, Nat.reduceAdd, Nat.reduceSub, Nat.reduceMul, Nat.reduceEqDiff, Nat.reduceLT, Nat.reduceShiftRight, Nat.reduceAnd, Nat.reduceBNe, Nat.reduceLeDiff, Nat.reduceBEq, Nat.testBit, Nat.zero_lt_one, Int.reduceToNat, Int.reduceNeg, Int.reduceLE, Int.reduceLT, Int.reduceEq, decide_true, decide_false, Bool.and_true, Bool.true_and, Bool.and_false, Bool.false_and, Bool.or_true, Bool.true_or, Bool.or_false, Bool.false_or, Bool.not_true, Bool.not_false, beq_self_eq_true, reduceCtorEq, Int.le_refl, Nat.add_zero, and_self, and_true, true_and, or_true, true_or, if_true, if_false, Nat.le_refl, Bool.and_self, eq_self, Bool.not_false, Bool.not_true, c60', hc]
    rw [go, b64_0_run]
    simp only [go_sem, ↓reduceIte, Nat.reduceAdd, Nat.reduceSub, Nat.reduceMul, Nat.reduceEqDiff, Nat.reduceLT, Nat.reduceShiftRight, Nat.reduceAnd, Nat.reduceBNe, Nat.reduceLeDiff, Nat.reduceBEq, Nat.testBit, Nat.zero_lt_one, Int.reduceToNat, Int.reduceNeg, Int.reduceLE, Int.reduceLT, Int.reduceEq, decide_true, decide_false, Bool.and_true, Bool.true_and, Bool.and_false, Bool.false_and, Bool.or_true, Bool.true_or, Bool.or_false, Bool.false_or, Bool.not_true, Bool.not_false, beq_self_eq_true, reduceCtorEq, Int.le_refl, Nat.add_zero, and_self, and_true, true_and, or_true, true_or, if_true, if_false, Nat.le_refl, Bool.and_self, eq_self, Bool.not_false, Bool.not_true, hm, Int.lt_irrefl, t69]
theorem Same57 {a b : List Nat} (ha : Limbs a) (hb : Limbs b) (la : a.length ≤ 900000) (lb : b.length ≤ 900000) : (KL AA XX).call 57 [(PV.one (D.sl (List.map n64 (a)))), (PV.one (D.sl (List.map n64 (b))))] = some [(PV.one (D.sc (Value.bool (decide (val a = val b)))))] := by
  have c := Compare60 ha hb la lb
  have h : decide (cmpI (val a) (val b) = 0) = decide (val a = val b) := by
    unfold cmpI
    rcases Nat.lt_trichotomy (val a) (val b) with h | h | h
    · rw [if_pos h, decide_eq_false (show ¬ val a = val b by omega)]; rfl
    · rw [if_neg (by omega), if_neg (by omega), decide_eq_true h]; rfl
    · rw [if_neg (by omega), if_pos h, decide_eq_false (show ¬ val a = val b by omega)]; rfl
  rw [c57]
  simp only [go_sem, ↓reduceIte, Nat.reduceAdd, Nat.reduceSub, Nat.reduceMul, Nat.reduceEqDiff, Nat.reduceLT, Nat.reduceShiftRight, Nat.reduceAnd, Nat.reduceBNe, Nat.reduceLeDiff, Nat.reduceBEq, Nat.testBit, Nat.zero_lt_one, Int.reduceToNat, Int.reduceNeg, Int.reduceLE, Int.reduceLT, Int.reduceEq, decide_true, decide_false, Bool.and_true, Bool.true_and, Bool.and_false, Bool.false_and, Bool.or_true, Bool.true_or, Bool.or_false, Bool.false_or, Bool.not_true, Bool.not_false, beq_self_eq_true, reduceCtorEq, Int.le_refl, Nat.add_zero, and_self, and_true, true_and, or_true, true_or, if_true, if_false, Nat.le_refl, Bool.and_self, eq_self, Bool.not_false, Bool.not_true, c, h]
end Go.Proofs.Ytpanbfainilmpaa.Ev.N
