/- The law NatOrder in the evaluator, and the laws of chapter 01 as they are claimed. -/
import Derived.Test.YtpanbfainilmpaaEvNL1
import Derived.Test.YtpanbfainilmpaaEvN3
set_option linter.unusedVariables false
set_option linter.unusedSimpArgs false
set_option maxRecDepth 100000
set_option maxHeartbeats 4000000
namespace Go.Proofs.Ytpanbfainilmpaa.Ev.N
open Go Go.Proofs.Ytpanbfainilmpaa.Ev Go.RowKit

theorem bit_top {a b j : Nat} (h : a / 2 ^ (j + 1) = b / 2 ^ (j + 1)) (hne : a / 2 ^ j % 2 ≠ b / 2 ^ j % 2) : cmpI a b = ((a / 2 ^ j % 2 : Nat) : Int) - ((b / 2 ^ j % 2 : Nat) : Int) := by
  have e1 := Nat.div_add_mod a (2 ^ j)
  have e2 := Nat.div_add_mod b (2 ^ j)
  have f1 := Nat.div_add_mod (a / 2 ^ j) 2
  have f2 := Nat.div_add_mod (b / 2 ^ j) 2
  rw [Nat.div_div_eq_div_mul, ← Nat.pow_succ] at f1 f2
  rw [h] at f1
  have hp : 0 < 2 ^ j := Nat.pow_pos (by decide)
  have h1 := Nat.mod_lt a hp
  have h2 := Nat.mod_lt b hp
  have hx : a / 2 ^ j % 2 < 2 := Nat.mod_lt _ (by decide)
  have hy : b / 2 ^ j % 2 < 2 := Nat.mod_lt _ (by decide)
  generalize a / 2 ^ j % 2 = x at *
  generalize b / 2 ^ j % 2 = y at *
  generalize b / 2 ^ (j + 1) = z at *
  rw [← f1] at e1
  rw [← f2] at e2
  generalize a % 2 ^ j = p at *
  generalize b % 2 ^ j = q at *
  generalize 2 ^ j = C at *
  rw [Nat.mul_add] at e1 e2
  unfold cmpI
  rcases Nat.lt_or_ge x y with hxy | hxy
  · obtain rfl : x = 0 := by omega
    obtain rfl : y = 1 := by omega
    rw [if_pos (show a < b by omega)]; rfl
  · obtain rfl : x = 1 := by omega
    obtain rfl : y = 0 := by omega
    rw [if_neg (show ¬ a < b by omega), if_pos (show b < a by omega)]; rfl
theorem bit_same {a b j : Nat} (h : a / 2 ^ (j + 1) = b / 2 ^ (j + 1)) (he : a / 2 ^ j % 2 = b / 2 ^ j % 2) : a / 2 ^ j = b / 2 ^ j := by
  have f1 := Nat.div_add_mod (a / 2 ^ j) 2
  have f2 := Nat.div_add_mod (b / 2 ^ j) 2
  rw [Nat.div_div_eq_div_mul, ← Nat.pow_succ] at f1 f2
  rw [← f1, ← f2, h, he]
theorem bitN_nat (n j : Nat) : bitN n (j : Int) = n / 2 ^ j % 2 := by
  unfold bitN
  rw [if_neg (by omega), Int.toNat_natCast]
theorem cmpI_neg (a b : Nat) : IntKind.i64.wrap (0 - cmpI a b) = cmpI b a := by
  unfold cmpI
  rcases Nat.lt_trichotomy a b with h | h | h
  · rw [if_pos h, if_neg (by omega), if_pos h]; rfl
  · subst h; simp; rfl
  · rw [if_neg (by omega), if_pos h, if_pos h]; rfl

theorem nat18 {a b : List Nat} (ha : Limbs a) (hb : Limbs b) : (KL AA XX).call 18 [(PV.one (D.sl (List.map n64 (a)))), (PV.one (D.sl (List.map n64 (b))))] = some [(PV.one (D.sc (Value.bool (true))))] := by
  have s61 := Small61 a b
  rw [c18]
  by_cases h : a.length ≤ 50 ∧ b.length ≤ 50
  · have d0 : decide (a.length ≤ 50 ∧ b.length ≤ 50) = true := decide_eq_true h
    obtain ⟨la, lb⟩ := h
    have hm : (if (a.length : Int) < (b.length : Int) then (b.length : Int) else (a.length : Int)) = ((max a.length b.length : Nat) : Int) := max_int _ _
    have hmx : max a.length b.length ≤ 50 := Nat.max_le.2 ⟨la, lb⟩
    obtain ⟨n, hn⟩ : ∃ n, max a.length b.length = n := ⟨_, rfl⟩
    rw [hn] at hm hmx
    have hA := vlt ha (show a.length ≤ n by omega)
    have hB := vlt hb (show b.length ≤ n by omega)
    rw [Bp_eq] at hA hB
    have go : ∀ j, j ≤ 64 * n → val a / 2 ^ j = val b / 2 ^ j → ∃ F', blockR 0 (loopR AA XX [0, 1, 5, 6] 0 b18_0 (RUN AA XX b18_0 ⟨[(0, (AV.c (C.d (D.sl (List.map n64 (a)))))), (1, (AV.c (C.d (D.sl (List.map n64 (b)))))), (5, (AV.c (C.d (D.sc (Value.int IntKind.i64 (0)))))), (6, (AV.c (C.d (D.sc (Value.int IntKind.i64 ((j : Int) - 1))))))], [], 0⟩)) = some (.norm, ⟨F', [], 0⟩) ∧ F'.get 0 = (AV.c (C.d (D.sl (List.map n64 (a))))) ∧ F'.get 1 = (AV.c (C.d (D.sl (List.map n64 (b))))) ∧ F'.get 5 = (AV.c (C.d (D.sc (Value.int IntKind.i64 (cmpI (val a) (val b)))))) := by
      intro j
      induction j with
      | zero =>
        intro _ he
        simp only [Nat.pow_zero, Nat.div_one] at he
        rw [he, cmpI_self, b18_0_run]
        have d0 : decide ((0 : Int) ≤ 0 - 1) = false := rfl
        simp only [go_sem, ↓reduceIte, Nat.reduceAdd, Nat.reduceSub, Nat.reduceMul, Nat.reduceEqDiff, Nat.reduceLT, Nat.reduceShiftRight, Nat.reduceAnd, Nat.reduceBNe, Nat.reduceLeDiff, Nat.reduceBEq, Nat.testBit, Nat.zero_lt_one, Int.reduceToNat, Int.reduceNeg, Int.reduceLE, Int.reduceLT, Int.reduceEq, decide_true, decide_false, Bool.and_true, Bool.true_and, Bool.and_false, Bool.false_and, Bool.or_true, Bool.true_or, Bool.or_false, Bool.false_or, Bool.not_true, Bool.not_false, beq_self_eq_true, reduceCtorEq, Int.le_refl, Nat.add_zero, and_self, and_true, true_and, or_true, true_or, if_true, if_false, Nat.le_refl, Bool.and_self, eq_self, Bool.not_false, Bool.not_true, d0, show ((0 : Nat) : Int) = 0 from rfl]
        exact ⟨_, rfl, rfl, rfl, rfl⟩
      | succ j ih =>
        intro hj he
        have d0 : decide ((0 : Int) ≤ (j : Int)) = true := decide_eq_true (by omega)
        have e1 : ((j + 1 : Nat) : Int) - 1 = (j : Int) := by omega
        have hwf : (Lit.int .i64 (j : Int)).wf = true := by
          simp only [Lit.wf, Bool.and_eq_true, decide_eq_true_eq]
          show (-9223372036854775808 : Int) ≤ (j : Int) ∧ (j : Int) ≤ 9223372036854775807
          omega
        have f1 := Bit71 ha (by omega) (j : Int) hwf
        have f2 := Bit71 hb (by omega) (j : Int) hwf
        rw [bitN_nat] at f1 f2
        have hw := wrap_i64_pred j (by omega)
        have h1 : val a / 2 ^ j % 2 < 2 := Nat.mod_lt _ (by decide)
        have h2 : val b / 2 ^ j % 2 < 2 := Nat.mod_lt _ (by decide)
        have hw2 : IntKind.i64.wrap (((val a / 2 ^ j % 2 : Nat) : Int) - ((val b / 2 ^ j % 2 : Nat) : Int)) = ((val a / 2 ^ j % 2 : Nat) : Int) - ((val b / 2 ^ j % 2 : Nat) : Int) := wrap_i64 _ (by omega) (by omega)
        rw [e1, b18_0_run]
        by_cases hne : val a / 2 ^ j % 2 = val b / 2 ^ j % 2
        · obtain ⟨F', g1, g2⟩ := ih (by omega) (bit_same he hne)
          refine ⟨F', ?_, g2⟩
          rw [hne] at f1 hw2
          rw [Int.sub_self] at hw2
          rw [← g1]
          simp only [go_sem, ↓reduceIte, Nat.reduceAdd, Nat.reduceSub, Nat.reduceMul, Nat.reduceEqDiff, Nat.reduceLT, Nat.reduceShiftRight, Nat.reduceAnd, Nat.reduceBNe, Nat.reduceLeDiff, Nat.reduceBEq, Nat.testBit, Nat.zero_lt_one, Int.reduceToNat, Int.reduceNeg, Int.reduceLE, Int.reduceLT, Int.reduceEq, decide_true, decide_false, Bool.and_true, Bool.true_and, Bool.and_false, Bool.false_and, Bool.or_true, Bool.true_or, Bool.or_false, Bool.false_or, Bool.not_true, Bool.not_false, beq_self_eq_true, reduceCtorEq, Int.le_refl, Nat.add_zero, and_self, and_true, true_and, or_true, true_or, if_true, if_false, Nat.le_refl, Bool.and_self, eq_self, Bool.not_false, Bool.not_true, d0, f1, f2, hw, Int.sub_self, hw2]
        · have hc := bit_top he hne
          have dne : decide (cmpI (val a) (val b) = 0) = false := decide_eq_false (by rw [hc]; omega)
          rw [← hc] at hw2
          simp only [go_sem, ↓reduceIte, Nat.reduceAdd, Nat.reduceSub, Nat.reduceMul, Nat.reduceEqDiff, Nat.reduceLT, Nat.reduceShiftRight, Nat.reduceAnd, Nat.reduceBNe, Nat.reduceLeDiff, Nat.reduceBEq, Nat.testBit, Nat.zero_lt_one, Int.reduceToNat, Int.reduceNeg, Int.reduceLE, Int.reduceLT, Int.reduceEq, decide_true, decide_false, Bool.and_true, Bool.true_and, Bool.and_false, Bool.false_and, Bool.or_true, Bool.true_or, Bool.or_false, Bool.false_or, Bool.not_true, Bool.not_false, beq_self_eq_true, reduceCtorEq, Int.le_refl, Nat.add_zero, and_self, and_true, true_and, or_true, true_or, if_true, if_false, Nat.le_refl, Bool.and_self, eq_self, Bool.not_false, Bool.not_true, d0, f1, f2, hw, ← hc, hw2]
          rw [b18_0_run]
          have d3 : decide ((0 : Int) ≤ (j : Int) - 1) = true ∨ decide ((0 : Int) ≤ (j : Int) - 1) = false := by cases decide ((0 : Int) ≤ (j : Int) - 1) <;> simp
          rcases d3 with d3 | d3
          · simp only [go_sem, ↓reduceIte, Nat.reduceAdd, Nat.reduceSub, Nat.reduceMul, Nat.reduceEqDiff, Nat.reduceLT, Nat.reduceShiftRight, Nat.reduceAnd, Nat.reduceBNe, Nat.reduceLeDiff, Nat.reduceBEq, Nat.testBit, Nat.zero_lt_one, Int.reduceToNat, Int.reduceNeg, Int.reduceLE, Int.reduceLT, Int.reduceEq, decide_true, decide_false, Bool.and_true, Bool.true_and, Bool.and_false, Bool.false_and, Bool.or_true, Bool.true_or, Bool.or_false, Bool.false_or, Bool.not_true, Bool.not_false, beq_self_eq_true, reduceCtorEq, Int.le_refl, Nat.add_zero, and_self, and_true, true_and, or_true, true_or, if_true, if_false, Nat.le_refl, Bool.and_self, eq_self, Bool.not_false, Bool.not_true, d3, dne]
            exact ⟨_, rfl, rfl, rfl, rfl⟩
          · simp only [go_sem, ↓reduceIte, Nat.reduceAdd, Nat.reduceSub, Nat.reduceMul, Nat.reduceEqDiff, Nat.reduceLT, Nat.reduceShiftRight, Nat.reduceAnd, Nat.reduceBNe, Nat.reduceLeDiff, Nat.reduceBEq, Nat.testBit, Nat.zero_lt_one, Int.reduceToNat, Int.reduceNeg, Int.reduceLE, Int.reduceLT, Int.reduceEq, decide_true, decide_false, Bool.and_true, Bool.true_and, Bool.and_false, Bool.false_and, Bool.or_true, Bool.true_or, Bool.or_false, Bool.false_or, Bool.not_true, Bool.not_false, beq_self_eq_true, reduceCtorEq, Int.le_refl, Nat.add_zero, and_self, and_true, true_and, or_true, true_or, if_true, if_false, Nat.le_refl, Bool.and_self, eq_self, Bool.not_false, Bool.not_true, d3, dne]
            exact ⟨_, rfl, rfl, rfl, rfl⟩
    obtain ⟨F', g1, g2, g3, g4⟩ := go (64 * n) (Nat.le_refl _) (by rw [Nat.div_eq_of_lt hA, Nat.div_eq_of_lt hB])
    have w1 : IntKind.i64.wrap (64 * (n : Int)) = ((64 * n : Nat) : Int) := by rw [wrap_i64 _ (by omega) (by omega)]; omega
    have w2 := wrap_i64_pred (64 * n) (by omega)
    have f1 := Cmp67 ha hb (by omega) (by omega)
    have f2 := Cmp67 hb ha (by omega) (by omega)
    have l0 : Limbs [0] := Limbs.cons (by decide) Limbs.nil
    have f3 := Cmp67 (ha.append l0) ha (by simp; omega) (by omega)
    rw [show val (a ++ [0]) = val a by rw [val_append]; simp [val], cmpI_self, List.map_append] at f3
    rw [show List.map n64 [0] = [[D.sc (Value.int .u64 0)]] from rfl] at f3
    have hng := cmpI_neg (val a) (val b)
    have d1 : decide (cmpI (val a) (val b) = cmpI (val a) (val b)) = true := decide_eq_true rfl
    have d2 : decide (cmpI (val b) (val a) = cmpI (val b) (val a)) = true := decide_eq_true rfl
    have mb := mbk (show a.length ≤ 10000000 by omega) (Nat.le_refl _) (show 8 ≤ 1000 by omega)
    have mb1 := mbk (show a.length + 1 ≤ 10000000 by omega) (Nat.le_refl _) (show 8 ≤ 1000 by omega)
    simp only [go_sem, ↓reduceIte, Nat.reduceAdd, Nat.reduceSub, Nat.reduceMul, Nat.reduceEqDiff, Nat.reduceLT, Nat.reduceShiftRight, Nat.reduceAnd, Nat.reduceBNe, Nat.reduceLeDiff, Nat.reduceBEq, Nat.testBit, Nat.zero_lt_one, Int.reduceToNat, Int.reduceNeg, Int.reduceLE, Int.reduceLT, Int.reduceEq, decide_true, decide_false, Bool.and_true, Bool.true_and, Bool.and_false, Bool.false_and, Bool.or_true, Bool.true_or, Bool.or_false, Bool.false_or, Bool.not_true, Bool.not_false, beq_self_eq_true, reduceCtorEq, Int.le_refl, Nat.add_zero, and_self, and_true, true_and, or_true, true_or, if_true, if_false, Nat.le_refl, Bool.and_self, eq_self, Bool.not_false, Bool.not_true, s61, d0, hm, w1, w2]
    rw [g1]
    simp only [go_sem, ↓reduceIte, Nat.reduceAdd, Nat.reduceSub, Nat.reduceMul, Nat.reduceEqDiff, Nat.reduceLT, Nat.reduceShiftRight, Nat.reduceAnd, Nat.reduceBNe, Nat.reduceLeDiff, Nat.reduceBEq, Nat.testBit, Nat.zero_lt_one, Int.reduceToNat, Int.reduceNeg, Int.reduceLE, Int.reduceLT, Int.reduceEq, decide_true, decide_false, Bool.and_true, Bool.true_and, Bool.and_false, Bool.false_and, Bool.or_true, Bool.true_or, Bool.or_false, Bool.false_or, Bool.not_true, Bool.not_false, beq_self_eq_true, reduceCtorEq, Int.le_refl, Nat.add_zero, and_self, and_true, true_and, or_true, true_or, if_true, if_false, Nat.le_refl, Bool.and_self, eq_self, Bool.not_false, Bool.not_true, awake62, g2, g3, g4, f1, f2, f3, d1, d2, hng, mb, mb1, all64, tSok, Nat.zero_add]
  · have d0 : decide (a.length ≤ 50 ∧ b.length ≤ 50) = false := decide_eq_false h
    simp only [go_sem, ↓reduceIte, Nat.reduceAdd, Nat.reduceSub, Nat.reduceMul, Nat.reduceEqDiff, Nat.reduceLT, Nat.reduceShiftRight, Nat.reduceAnd, Nat.reduceBNe, Nat.reduceLeDiff, Nat.reduceBEq, Nat.testBit, Nat.zero_lt_one, Int.reduceToNat, Int.reduceNeg, Int.reduceLE, Int.reduceLT, Int.reduceEq, decide_true, decide_false, Bool.and_true, Bool.true_and, Bool.and_false, Bool.false_and, Bool.or_true, Bool.true_or, Bool.or_false, Bool.false_or, Bool.not_true, Bool.not_false, beq_self_eq_true, reduceCtorEq, Int.le_refl, Nat.add_zero, and_self, and_true, true_and, or_true, true_or, if_true, if_false, Nat.le_refl, Bool.and_self, eq_self, Bool.not_false, Bool.not_true, s61, d0, awake62]
abbrev W64 (l : List Int) : Prop := l.length * 8 ≤ reachBytes ∧ ∀ n ∈ l, (Lit.int .u64 n).wf = true
abbrev pl (l : List Int) : PV := .one (.sl (l.map fun n => [.sc (.int .u64 n)]))
theorem law15 (a b : List Int) (ka : W64 a) (kb : W64 b) : (KL AA XX).call 15 [pl a, pl b] = some [(PV.one (D.sc (Value.bool (true))))] := by
  obtain ⟨x, ex, hx, _⟩ := words a ka
  obtain ⟨y, ey, hy, _⟩ := words b kb
  show (KL AA XX).call 15 [.one (.sl _), .one (.sl _)] = _
  rw [ex, ey]; exact nat15 hx hy
theorem law16 (a : List Int) (i : Int) (ka : W64 a) (ki : (Lit.int .i64 i).wf = true) : (KL AA XX).call 16 [pl a, (PV.one (D.sc (Value.int IntKind.i64 (i))))] = some [(PV.one (D.sc (Value.bool (true))))] := by
  obtain ⟨x, ex, hx, _⟩ := words a ka
  show (KL AA XX).call 16 [.one (.sl _), _] = _
  rw [ex]; exact nat16 hx i ki
theorem law17 (a b c : List Int) (ka : W64 a) (kb : W64 b) (kc : W64 c) : (KL AA XX).call 17 [pl a, pl b, pl c] = some [(PV.one (D.sc (Value.bool (true))))] := by
  obtain ⟨x, ex, hx, _⟩ := words a ka
  obtain ⟨y, ey, hy, _⟩ := words b kb
  obtain ⟨z, ez, hz, lz⟩ := words c kc
  show (KL AA XX).call 17 [.one (.sl _), .one (.sl _), .one (.sl _)] = _
  rw [ex, ey, ez]; exact nat17 hx hy hz (by omega)
theorem law18 (a b : List Int) (ka : W64 a) (kb : W64 b) : (KL AA XX).call 18 [pl a, pl b] = some [(PV.one (D.sc (Value.bool (true))))] := by
  obtain ⟨x, ex, hx, _⟩ := words a ka
  obtain ⟨y, ey, hy, _⟩ := words b kb
  show (KL AA XX).call 18 [.one (.sl _), .one (.sl _)] = _
  rw [ex, ey]; exact nat18 hx hy
theorem law19 (a : List Int) (ka : W64 a) : (KL AA XX).call 19 [pl a] = some [(PV.one (D.sc (Value.bool (true))))] := by
  obtain ⟨x, ex, hx, _⟩ := words a ka
  show (KL AA XX).call 19 [.one (.sl _)] = _
  rw [ex]; exact nat19 hx
end Go.Proofs.Ytpanbfainilmpaa.Ev.N
