/- Texts that were joined: EvNF6, EvNF7, EvNF8, EvNF9, EvNF10, EvNFA, EvNFB, EvNFC, EvNFD, EvNFE, EvNFF, EvNFG, EvNFH, EvNFI, EvNFJ, EvNFK, EvNFL, EvNFM, EvNFN, EvNFO, EvNFQ. -/
import Derived.Test.YtpanbfainilmpaaEvH3
section
/- Products of numbers. -/
set_option linter.unusedVariables false
set_option linter.unusedSimpArgs false
set_option maxRecDepth 100000
set_option maxHeartbeats 4000000
namespace Go.Proofs.Ytpanbfainilmpaa.Ev.N
open Go Go.Proofs.Ytpanbfainilmpaa.Ev

theorem chunk_w (L : List Nat) : chunk 1 L.length ((L.map w64).map C.toD) = L.map n64 := by
  induction L with
  | nil => rfl
  | cons x L ih =>
    show chunk 1 (L.length + 1) _ = _
    simp only [List.map_cons, chunk, List.take_succ_cons, List.take_zero, List.drop_succ_cons, List.drop_zero]
    rw [ih]
    rfl
/-- One limb's step of a product. -/
theorem mul_step {x y l c : Nat} (hx : x < B64) (hy : y < B64) (hl : l < B64) (hc : c < B64) :
    x * y / B64 + (x * y % B64 + l) / B64 < B64 ∧ x * y / B64 + (x * y % B64 + l) / B64 + ((x * y % B64 + l) % B64 + c) / B64 < B64 ∧
    x * y / B64 + (x * y % B64 + l) / B64 + ((x * y % B64 + l) % B64 + c) / B64 = (x * y + l + c) / B64 ∧ ((x * y % B64 + l) % B64 + c) % B64 = (x * y + l + c) % B64 ∧ (x * y + l + c) / B64 < B64 := by
  have hB : B64 = 18446744073709551616 := rfl
  rw [hB] at hx hy hl hc ⊢
  have : x * y ≤ 18446744073709551615 * 18446744073709551615 := Nat.mul_le_mul (by omega) (by omega)
  generalize x * y = p at *
  omega
theorem set_get? {L : List Nat} {i n j : Nat} (h : j ≠ i) : (L.set i n)[j]? = L[j]? := List.getElem?_set_ne (fun e => h e.symm)

theorem mul86_in {a b : List Nat} (ha : Limbs a) (hb : Limbs b) (la : a.length ≤ 900000) (lb : b.length ≤ 900000) (i : Nat) (hi : i < a.length) (L : List Nat) (hL : Limbs L) (hN : L.length = a.length + b.length) :
    ∀ k, k ≤ b.length → ∃ L' c, loopR AA XX [1, 5, 6, 7, 8, 20, 21, 22, 27, 28, 29] 2 b86_1 (RUN AA XX b86_1 ⟨[(1, (AV.c (C.d (D.sl (List.map n64 (b)))))), (5, .ref 1 0 (a.length + b.length)), (6, (AV.c (C.d (D.sc (Value.int IntKind.i64 (i)))))), (7, (AV.c (C.d (D.sc (Value.int IntKind.u64 (a[i])))))), (8, (AV.c (C.d (D.sc (Value.int IntKind.u64 (0)))))), (20, (AV.c (C.d (D.sl (List.map n64 (a)))))), (21, (AV.c (C.d (D.sc (Value.int IntKind.i64 (a.length)))))), (22, (AV.c (C.d (D.sc (Value.int IntKind.i64 (i)))))), (27, (AV.c (C.d (D.sl (List.map n64 (b)))))), (28, (AV.c (C.d (D.sc (Value.int IntKind.i64 (b.length)))))), (29, (AV.c (C.d (D.sc (Value.int IntKind.i64 (0))))))], [(0, .tok 0 0), (1, .arr (L.map w64))], 2⟩) =
      loopR AA XX [1, 5, 6, 7, 8, 20, 21, 22, 27, 28, 29] 2 b86_1 (RUN AA XX b86_1 ⟨[(1, (AV.c (C.d (D.sl (List.map n64 (b)))))), (5, .ref 1 0 (a.length + b.length)), (6, (AV.c (C.d (D.sc (Value.int IntKind.i64 (i)))))), (7, (AV.c (C.d (D.sc (Value.int IntKind.u64 (a[i])))))), (8, (AV.c (C.d (D.sc (Value.int IntKind.u64 ((c : Nat))))))), (20, (AV.c (C.d (D.sl (List.map n64 (a)))))), (21, (AV.c (C.d (D.sc (Value.int IntKind.i64 (a.length)))))), (22, (AV.c (C.d (D.sc (Value.int IntKind.i64 (i)))))), (27, (AV.c (C.d (D.sl (List.map n64 (b)))))), (28, (AV.c (C.d (D.sc (Value.int IntKind.i64 (b.length)))))), (29, (AV.c (C.d (D.sc (Value.int IntKind.i64 (k))))))], [(0, .tok 0 0), (1, .arr (L'.map w64))], 2⟩) ∧
      Limbs L' ∧ L'.length = a.length + b.length ∧ c < B64 ∧ val L' + B64 ^ (i + k) * c = val L + a[i] * B64 ^ i * (val b % B64 ^ k) ∧ ∀ j, i + k ≤ j → L'[j]? = L[j]? := by
  intro k
  induction k with
  | zero =>
    intro _
    exact ⟨L, 0, rfl, hL, hN, B_pos, by simp [Nat.mod_one], fun _ _ => rfl⟩
  | succ k ih =>
    intro hk
    obtain ⟨L', c, e, h1, h2, h3, h4, h5⟩ := ih (by omega)
    have hik : i + k < L'.length := by omega
    have hx := ha.get hi
    have hy := hb.get (show k < b.length by omega)
    have hl := h1.get hik
    obtain ⟨s1, s2, s3, s4, s5⟩ := mul_step hx hy hl h3
    refine ⟨L'.set (i + k) ((a[i] * b[k] + L'[i + k] + c) % B64), (a[i] * b[k] + L'[i + k] + c) / B64, ?_, h1.set (Nat.mod_lt _ B_pos) _, by rw [List.length_set]; exact h2, s5, ?_, ?_⟩
    · rw [e, b86_1_run]
      have hlt := ltT (show k < b.length by omega)
      have hg := getn (show k < b.length by omega)
      have hgc := getc hik
      have m := Mul120 hx hy
      have a1 := Add100 (a[i] * b[k] % B64) L'[i + k] (c := 0) (Nat.zero_le _)
      have a2 := Add100 ((a[i] * b[k] % B64 + L'[i + k]) % B64) c (c := 0) (Nat.zero_le _)
      rw [Nat.add_zero] at a1 a2
      rw [s4] at a2
      have w1 := wrap_iadd (a := i) (b := k) (by omega)
      have w2 := wrap_add s1
      have w3 := wrap_add s2
      rw [s3] at w3
      have hw := wrap_succ k (by omega)
      have q1 : (((i + k : Nat) : Int) < ((a.length + b.length : Nat) : Int)) = True := eq_true (by omega)
      have q2 : (i + k < a.length + b.length) = True := eq_true (by omega)
      have q3 : (i + k < L'.length) = True := eq_true hik
      simp only [show ((0 : Nat) : Int) = 0 from rfl] at a1 a2
      simp only [go_sem, ↓reduceIte, Nat.reduceAdd, Nat.reduceSub, Nat.reduceMul, Nat.reduceEqDiff, Nat.reduceLT, Nat.reduceShiftRight, Nat.reduceAnd, Nat.reduceBNe, Nat.reduceLeDiff, Nat.reduceBEq, Nat.testBit, Nat.zero_lt_one, Int.reduceToNat, Int.reduceNeg, Int.reduceLE, Int.reduceLT, Int.reduceEq, decide_true, decide_false, Bool.and_true, Bool.true_and, Bool.and_false, Bool.false_and, Bool.or_true, Bool.true_or, Bool.or_false, Bool.false_or, Bool.not_true, Bool.not_false, beq_self_eq_true, reduceCtorEq, Int.le_refl, Nat.add_zero, and_self, and_true, true_and, or_true, true_or, if_true, if_false, Nat.le_refl, Bool.and_self, eq_self, Bool.not_false, Bool.not_true, hlt, hg, hgc, m, a1, a2, w1, w2, w3, hw, q1, q2, q3, lenc, oldc, setc, h2, Nat.mul_one]
    · have hs := val_set hik ((a[i] * b[k] + L'[i + k] + c) % B64)
      have hdm := Nat.div_add_mod (a[i] * b[k] + L'[i + k] + c) B64
      have hv : val b % B64 ^ (k + 1) = val b % B64 ^ k + B64 ^ k * b[k] := by
        rw [Nat.mod_pow_succ, ← limb_eq hb, limb_get (by omega)]
      rw [hv, ← Nat.add_assoc, Nat.pow_succ]
      generalize (a[i] * b[k] + L'[i + k] + c) % B64 = n at *
      generalize (a[i] * b[k] + L'[i + k] + c) / B64 = c' at *
      have e1 : a[i] * B64 ^ i * (val b % B64 ^ k + B64 ^ k * b[k]) = a[i] * B64 ^ i * (val b % B64 ^ k) + B64 ^ (i + k) * (a[i] * b[k]) := by
        rw [Nat.mul_add, Nat.pow_add]
        congr 1
        simp only [Nat.mul_comm, Nat.mul_left_comm, Nat.mul_assoc]
      rw [e1]
      have e2 : B64 ^ (i + k) * B64 * c' = B64 ^ (i + k) * (a[i] * b[k]) + B64 ^ (i + k) * L'[i + k] + B64 ^ (i + k) * c - B64 ^ (i + k) * n := by
        rw [← Nat.mul_add, ← Nat.mul_add, ← hdm, Nat.mul_add, Nat.mul_assoc]
        omega
      have e3 : B64 ^ (i + k) * n ≤ B64 ^ (i + k) * (a[i] * b[k]) + B64 ^ (i + k) * L'[i + k] + B64 ^ (i + k) * c := by
        rw [← Nat.mul_add, ← Nat.mul_add]
        exact Nat.mul_le_mul_left _ (by omega)
      omega
    · intro j hj
      rw [set_get? (by omega)]
      exact h5 j (by omega)

theorem mul86_out {a b : List Nat} (ha : Limbs a) (hb : Limbs b) (la : a.length ≤ 900000) (lb : b.length ≤ 900000) :
    ∀ i, i ≤ a.length → ∃ L, loopR AA XX [1, 5, 20, 21, 22] 2 b86_0 (RUN AA XX b86_0 ⟨[(1, (AV.c (C.d (D.sl (List.map n64 (b)))))), (5, .ref 1 0 (a.length + b.length)), (20, (AV.c (C.d (D.sl (List.map n64 (a)))))), (21, (AV.c (C.d (D.sc (Value.int IntKind.i64 (a.length)))))), (22, (AV.c (C.d (D.sc (Value.int IntKind.i64 (0))))))], [(0, .tok 0 0), (1, .arr ((List.replicate (a.length + b.length) 0).map w64))], 2⟩) =
      loopR AA XX [1, 5, 20, 21, 22] 2 b86_0 (RUN AA XX b86_0 ⟨[(1, (AV.c (C.d (D.sl (List.map n64 (b)))))), (5, .ref 1 0 (a.length + b.length)), (20, (AV.c (C.d (D.sl (List.map n64 (a)))))), (21, (AV.c (C.d (D.sc (Value.int IntKind.i64 (a.length)))))), (22, (AV.c (C.d (D.sc (Value.int IntKind.i64 (i))))))], [(0, .tok 0 0), (1, .arr (L.map w64))], 2⟩) ∧
      Limbs L ∧ L.length = a.length + b.length ∧ val L = (val a % B64 ^ i) * val b ∧ ∀ j, i + b.length ≤ j → j < a.length + b.length → L[j]? = some 0 := by
  intro i
  induction i with
  | zero =>
    intro _
    refine ⟨_, rfl, Limbs.rep _, List.length_replicate, by rw [val_rep]; simp [Nat.mod_one], fun j _ hj => by simp [hj]⟩
  | succ i ih =>
    intro hi
    obtain ⟨L, e, h1, h2, h3, h4⟩ := ih (by omega)
    have hia : i < a.length := by omega
    obtain ⟨L', c, e', g1, g2, g3, g4, g5⟩ := mul86_in ha hb la lb i hia L h1 h2 b.length (Nat.le_refl _)
    have hib : i + b.length < L'.length := by omega
    have hz : L'[i + b.length] = 0 := by
      have := g5 (i + b.length) (Nat.le_refl _)
      rw [h4 _ (Nat.le_refl _) (by omega), List.getElem?_eq_getElem hib] at this
      exact Option.some.inj this
    refine ⟨L'.set (i + b.length) c, ?_, g1.set g3 _, by rw [List.length_set]; exact g2, ?_, ?_⟩
    · rw [e, b86_0_run]
      have hlt := ltT hia
      have hg := getn hia
      have hw := wrap_succ i (by omega)
      have w1 := wrap_iadd (a := i) (b := b.length) (by omega)
      have q1 : (((i + b.length : Nat) : Int) < ((a.length + b.length : Nat) : Int)) = True := eq_true (by omega)
      have q2 : (i + b.length < a.length + b.length) = True := eq_true (by omega)
      simp only [go_sem, ↓reduceIte, Nat.reduceAdd, Nat.reduceSub, Nat.reduceMul, Nat.reduceEqDiff, Nat.reduceLT, Nat.reduceShiftRight, Nat.reduceAnd, Nat.reduceBNe, Nat.reduceLeDiff, Nat.reduceBEq, Nat.testBit, Nat.zero_lt_one, Int.reduceToNat, Int.reduceNeg, Int.reduceLE, Int.reduceLT, Int.reduceEq, decide_true, decide_false, Bool.and_true, Bool.true_and, Bool.and_false, Bool.false_and, Bool.or_true, Bool.true_or, Bool.or_false, Bool.false_or, Bool.not_true, Bool.not_false, beq_self_eq_true, reduceCtorEq, Int.le_refl, Nat.add_zero, and_self, and_true, true_and, or_true, true_or, if_true, if_false, Nat.le_refl, Bool.and_self, eq_self, Bool.not_false, Bool.not_true, hlt, hg, oldc]
      rw [e', b86_1_run]
      simp only [go_sem, ↓reduceIte, Nat.reduceAdd, Nat.reduceSub, Nat.reduceMul, Nat.reduceEqDiff, Nat.reduceLT, Nat.reduceShiftRight, Nat.reduceAnd, Nat.reduceBNe, Nat.reduceLeDiff, Nat.reduceBEq, Nat.testBit, Nat.zero_lt_one, Int.reduceToNat, Int.reduceNeg, Int.reduceLE, Int.reduceLT, Int.reduceEq, decide_true, decide_false, Bool.and_true, Bool.true_and, Bool.and_false, Bool.false_and, Bool.or_true, Bool.true_or, Bool.or_false, Bool.false_or, Bool.not_true, Bool.not_false, beq_self_eq_true, reduceCtorEq, Int.le_refl, Nat.add_zero, and_self, and_true, true_and, or_true, true_or, if_true, if_false, Nat.le_refl, Bool.and_self, eq_self, Bool.not_false, Bool.not_true, Int.lt_irrefl, w1, q1, q2, lenc, oldc, setc, hw, g2, Nat.mul_one]
    · have hs := val_set hib c
      rw [hz, Nat.mul_zero, Nat.add_zero] at hs
      rw [hs, g4, h3]
      have hv : val a % B64 ^ (i + 1) = val a % B64 ^ i + B64 ^ i * a[i] := by
        rw [Nat.mod_pow_succ, ← limb_eq ha, limb_get hia]
      rw [hv, Nat.mod_eq_of_lt (val_lt hb), Nat.add_mul, Nat.mul_comm a[i]]
    · intro j hj hjn
      rw [set_get? (by omega), g5 j (by omega)]
      exact h4 j (by omega) hjn
theorem Mul86 {a b : List Nat} (ha : Limbs a) (hb : Limbs b) (la : a.length ≤ 400000) (lb : b.length ≤ 400000) : (KL AA XX).call 86 [(PV.one (D.sl (List.map n64 (a)))), (PV.one (D.sl (List.map n64 (b))))] = some [(PV.one (D.sl (List.map n64 (dig (val a * val b)))))] := by
  obtain ⟨L, e, h1, h2, h3, _⟩ := mul86_out ha hb (by omega) (by omega) a.length (Nat.le_refl _)
  rw [Nat.mod_eq_of_lt (val_lt ha)] at h3
  have t := Trim68 h1 (by omega)
  rw [h3] at t
  have w1 := wrap_iadd (a := a.length) (b := b.length) (by omega)
  have q0 : ((0 : Int) ≤ ((a.length + b.length : Nat) : Int)) = True := eq_true (by omega)
  have q1 : (((a.length + b.length : Nat) : Int) * ((8 : Nat) : Int) ≤ (maxBytes : Int)) = True := by
    have h1 : maxBytes = 140737488355328 := rfl
    rw [h1]; exact eq_true (by omega)
  have hz := zeroc (a.length + b.length)
  have ch := chunk_w L
  rw [h2] at ch
  have q2 : (0 + (a.length + b.length) * 1 ≤ a.length + b.length) = True := eq_true (by omega)
  rw [c86]
  simp only [go_sem, ↓reduceIte, Nat.reduceAdd, Nat.reduceSub, Nat.reduceMul, Nat.reduceEqDiff, Nat.reduceLT, Nat.reduceShiftRight, Nat.reduceAnd, Nat.reduceBNe, Nat.reduceLeDiff, Nat.reduceBEq, Nat.testBit, Nat.zero_lt_one, Int.reduceToNat, Int.reduceNeg, Int.reduceLE, Int.reduceLT, Int.reduceEq, decide_true, decide_false, Bool.and_true, Bool.true_and, Bool.and_false, Bool.false_and, Bool.or_true, Bool.true_or, Bool.or_false, Bool.false_or, Bool.not_true, Bool.not_false, beq_self_eq_true, reduceCtorEq, Int.le_refl, Nat.add_zero, and_self, and_true, true_and, or_true, true_or, if_true, if_false, Nat.le_refl, Bool.and_self, eq_self, Bool.not_false, Bool.not_true, w1, q0, q1, hz, oldc, Int.toNat_natCast, List.length_cons, List.length_nil]
  rw [e, b86_0_run]
  cases hf : PV.flat (.one (.sl (List.map n64 (dig (val a * val b))))) <;>
    simp only [go_sem, ↓reduceIte, Nat.reduceAdd, Nat.reduceSub, Nat.reduceMul, Nat.reduceEqDiff, Nat.reduceLT, Nat.reduceShiftRight, Nat.reduceAnd, Nat.reduceBNe, Nat.reduceLeDiff, Nat.reduceBEq, Nat.testBit, Nat.zero_lt_one, Int.reduceToNat, Int.reduceNeg, Int.reduceLE, Int.reduceLT, Int.reduceEq, decide_true, decide_false, Bool.and_true, Bool.true_and, Bool.and_false, Bool.false_and, Bool.or_true, Bool.true_or, Bool.or_false, Bool.false_or, Bool.not_true, Bool.not_false, beq_self_eq_true, reduceCtorEq, Int.le_refl, Nat.add_zero, and_self, and_true, true_and, or_true, true_or, if_true, if_false, Nat.le_refl, Bool.and_self, eq_self, Bool.not_false, Bool.not_true, Int.lt_irrefl, oldc, lenc, h2, q2, List.drop_zero, ch, t, Nat.mul_one, hf, Bool.false_eq_true]
end Go.Proofs.Ytpanbfainilmpaa.Ev.N
end
section
/- The document's products. -/
set_option linter.unusedVariables false
set_option linter.unusedSimpArgs false
set_option maxRecDepth 100000
set_option maxHeartbeats 4000000
namespace Go.Proofs.Ytpanbfainilmpaa.Ev.N
open Go Go.Proofs.Ytpanbfainilmpaa.Ev

theorem mul87_in {a b : List Nat} (ha : Limbs a) (hb : Limbs b) (la : a.length ≤ 900000) (lb : b.length ≤ 900000) (i : Nat) (hi : i < a.length) (L : List Nat) (hL : Limbs L) (hN : L.length = a.length + b.length + 1) :
    ∀ k, k ≤ b.length → ∃ L' c, loopR AA XX [0, 1, 5, 6, 7, 8] 2 b87_1 (RUN AA XX b87_1 ⟨[(0, (AV.c (C.d (D.sl (List.map n64 (a)))))), (1, (AV.c (C.d (D.sl (List.map n64 (b)))))), (5, .ref 1 0 (a.length + b.length + 1)), (6, (AV.c (C.d (D.sc (Value.int IntKind.i64 (i)))))), (7, (AV.c (C.d (D.sc (Value.int IntKind.u64 (0)))))), (8, (AV.c (C.d (D.sc (Value.int IntKind.i64 (0))))))], [(0, .tok 0 0), (1, .arr (L.map w64))], 2⟩) =
      loopR AA XX [0, 1, 5, 6, 7, 8] 2 b87_1 (RUN AA XX b87_1 ⟨[(0, (AV.c (C.d (D.sl (List.map n64 (a)))))), (1, (AV.c (C.d (D.sl (List.map n64 (b)))))), (5, .ref 1 0 (a.length + b.length + 1)), (6, (AV.c (C.d (D.sc (Value.int IntKind.i64 (i)))))), (7, (AV.c (C.d (D.sc (Value.int IntKind.u64 ((c : Nat))))))), (8, (AV.c (C.d (D.sc (Value.int IntKind.i64 (k))))))], [(0, .tok 0 0), (1, .arr (L'.map w64))], 2⟩) ∧
      Limbs L' ∧ L'.length = a.length + b.length + 1 ∧ c < B64 ∧ val L' + B64 ^ (i + k) * c = val L + a[i] * B64 ^ i * (val b % B64 ^ k) ∧ ∀ j, i + k ≤ j → L'[j]? = L[j]? := by
  intro k
  induction k with
  | zero =>
    intro _
    exact ⟨L, 0, rfl, hL, hN, B_pos, by simp [Nat.mod_one], fun _ _ => rfl⟩
  | succ k ih =>
    intro hk
    obtain ⟨L', c, e, h1, h2, h3, h4, h5⟩ := ih (by omega)
    have hik : i + k < L'.length := by omega
    have hx := ha.get hi
    have hy := hb.get (show k < b.length by omega)
    have hl := h1.get hik
    obtain ⟨s1, s2, s3, s4, s5⟩ := mul_step hx hy hl h3
    refine ⟨L'.set (i + k) ((a[i] * b[k] + L'[i + k] + c) % B64), (a[i] * b[k] + L'[i + k] + c) / B64, ?_, h1.set (Nat.mod_lt _ B_pos) _, by rw [List.length_set]; exact h2, s5, ?_, ?_⟩
    · rw [e, b87_1_run]
      have hlt := ltT (show k < b.length by omega)
      have hga := getn hi
      have hg := getn (show k < b.length by omega)
      have hgc := getc hik
      have m := Mul120 hx hy
      have a1 := Add100 L'[i + k] (a[i] * b[k] % B64) (c := 0) (Nat.zero_le _)
      have a2 := Add100 ((a[i] * b[k] % B64 + L'[i + k]) % B64) c (c := 0) (Nat.zero_le _)
      rw [Nat.add_zero, Nat.add_comm L'[i + k]] at a1
      rw [Nat.add_zero] at a2
      rw [s4] at a2
      have w1 := wrap_iadd (a := i) (b := k) (by omega)
      have w2 := wrap_add s1
      have w3 := wrap_add s2
      rw [s3] at w3
      have hw := wrap_succ k (by omega)
      have q1 : (((i + k : Nat) : Int) < ((a.length + b.length + 1 : Nat) : Int)) = True := eq_true (by omega)
      have q2 : (i + k < a.length + b.length + 1) = True := eq_true (by omega)
      have q3 : (i + k < L'.length) = True := eq_true hik
      simp only [show ((0 : Nat) : Int) = 0 from rfl] at a1 a2
      simp only [go_sem, ↓reduceIte, Nat.reduceAdd, Nat.reduceSub, Nat.reduceMul, Nat.reduceEqDiff, Nat.reduceLT, Nat.reduceShiftRight, Nat.reduceAnd, Nat.reduceBNe, Nat.reduceLeDiff, Nat.reduceBEq, Nat.testBit, Nat.zero_lt_one, Int.reduceToNat, Int.reduceNeg, Int.reduceLE, Int.reduceLT, Int.reduceEq, decide_true, decide_false, Bool.and_true, Bool.true_and, Bool.and_false, Bool.false_and, Bool.or_true, Bool.true_or, Bool.or_false, Bool.false_or, Bool.not_true, Bool.not_false, beq_self_eq_true, reduceCtorEq, Int.le_refl, Nat.add_zero, and_self, and_true, true_and, or_true, true_or, if_true, if_false, Nat.le_refl, Bool.and_self, eq_self, Bool.not_false, Bool.not_true, hlt, hg, hga, hgc, m, a1, a2, w1, w2, w3, hw, q1, q2, q3, lenc, oldc, setc, h2, Nat.mul_one]
    · have hs := val_set hik ((a[i] * b[k] + L'[i + k] + c) % B64)
      have hdm := Nat.div_add_mod (a[i] * b[k] + L'[i + k] + c) B64
      have hv : val b % B64 ^ (k + 1) = val b % B64 ^ k + B64 ^ k * b[k] := by
        rw [Nat.mod_pow_succ, ← limb_eq hb, limb_get (by omega)]
      rw [hv, ← Nat.add_assoc, Nat.pow_succ]
      generalize (a[i] * b[k] + L'[i + k] + c) % B64 = n at *
      generalize (a[i] * b[k] + L'[i + k] + c) / B64 = c' at *
      have e1 : a[i] * B64 ^ i * (val b % B64 ^ k + B64 ^ k * b[k]) = a[i] * B64 ^ i * (val b % B64 ^ k) + B64 ^ (i + k) * (a[i] * b[k]) := by
        rw [Nat.mul_add, Nat.pow_add]
        congr 1
        simp only [Nat.mul_comm, Nat.mul_left_comm, Nat.mul_assoc]
      rw [e1]
      have e2 : B64 ^ (i + k) * B64 * c' = B64 ^ (i + k) * (a[i] * b[k]) + B64 ^ (i + k) * L'[i + k] + B64 ^ (i + k) * c - B64 ^ (i + k) * n := by
        rw [← Nat.mul_add, ← Nat.mul_add, ← hdm, Nat.mul_add, Nat.mul_assoc]
        omega
      have e3 : B64 ^ (i + k) * n ≤ B64 ^ (i + k) * (a[i] * b[k]) + B64 ^ (i + k) * L'[i + k] + B64 ^ (i + k) * c := by
        rw [← Nat.mul_add, ← Nat.mul_add]
        exact Nat.mul_le_mul_left _ (by omega)
      omega
    · intro j hj
      rw [set_get? (by omega)]
      exact h5 j (by omega)
theorem mul87_out {a b : List Nat} (ha : Limbs a) (hb : Limbs b) (la : a.length ≤ 900000) (lb : b.length ≤ 900000) :
    ∀ i, i ≤ a.length → ∃ L, loopR AA XX [0, 1, 5, 6] 2 b87_0 (RUN AA XX b87_0 ⟨[(0, (AV.c (C.d (D.sl (List.map n64 (a)))))), (1, (AV.c (C.d (D.sl (List.map n64 (b)))))), (5, .ref 1 0 (a.length + b.length + 1)), (6, (AV.c (C.d (D.sc (Value.int IntKind.i64 (0))))))], [(0, .tok 0 0), (1, .arr ((List.replicate (a.length + b.length + 1) 0).map w64))], 2⟩) =
      loopR AA XX [0, 1, 5, 6] 2 b87_0 (RUN AA XX b87_0 ⟨[(0, (AV.c (C.d (D.sl (List.map n64 (a)))))), (1, (AV.c (C.d (D.sl (List.map n64 (b)))))), (5, .ref 1 0 (a.length + b.length + 1)), (6, (AV.c (C.d (D.sc (Value.int IntKind.i64 (i))))))], [(0, .tok 0 0), (1, .arr (L.map w64))], 2⟩) ∧
      Limbs L ∧ L.length = a.length + b.length + 1 ∧ val L = (val a % B64 ^ i) * val b ∧ ∀ j, i + b.length ≤ j → j < a.length + b.length + 1 → L[j]? = some 0 := by
  intro i
  induction i with
  | zero =>
    intro _
    refine ⟨_, rfl, Limbs.rep _, List.length_replicate, by rw [val_rep]; simp [Nat.mod_one], fun j _ hj => by simp [hj]⟩
  | succ i ih =>
    intro hi
    obtain ⟨L, e, h1, h2, h3, h4⟩ := ih (by omega)
    have hia : i < a.length := by omega
    obtain ⟨L', c, e', g1, g2, g3, g4, g5⟩ := mul87_in ha hb la lb i hia L h1 h2 b.length (Nat.le_refl _)
    have hib : i + b.length < L'.length := by omega
    have hz : L'[i + b.length] = 0 := by
      have := g5 (i + b.length) (Nat.le_refl _)
      rw [h4 _ (Nat.le_refl _) (by omega), List.getElem?_eq_getElem hib] at this
      exact Option.some.inj this
    refine ⟨L'.set (i + b.length) c, ?_, g1.set g3 _, by rw [List.length_set]; exact g2, ?_, ?_⟩
    · rw [e, b87_0_run]
      have hlt := ltT hia
      have hw := wrap_succ i (by omega)
      have hw2 := wrap_succ (i + b.length) (by omega)
      have w1 := wrap_iadd (a := i) (b := b.length) (by omega)
      have q1 : (((i + b.length : Nat) : Int) < ((a.length + b.length + 1 : Nat) : Int)) = True := eq_true (by omega)
      have q2 : (i + b.length < a.length + b.length + 1) = True := eq_true (by omega)
      have hgc := getc hib
      rw [hz] at hgc
      have a1 := Add100 0 c (c := 0) (Nat.zero_le _)
      rw [Nat.add_zero, Nat.zero_add, Nat.mod_eq_of_lt g3, Nat.div_eq_of_lt g3] at a1
      simp only [show ((0 : Nat) : Int) = 0 from rfl] at a1 hgc
      simp only [go_sem, ↓reduceIte, Nat.reduceAdd, Nat.reduceSub, Nat.reduceMul, Nat.reduceEqDiff, Nat.reduceLT, Nat.reduceShiftRight, Nat.reduceAnd, Nat.reduceBNe, Nat.reduceLeDiff, Nat.reduceBEq, Nat.testBit, Nat.zero_lt_one, Int.reduceToNat, Int.reduceNeg, Int.reduceLE, Int.reduceLT, Int.reduceEq, decide_true, decide_false, Bool.and_true, Bool.true_and, Bool.and_false, Bool.false_and, Bool.or_true, Bool.true_or, Bool.or_false, Bool.false_or, Bool.not_true, Bool.not_false, beq_self_eq_true, reduceCtorEq, Int.le_refl, Nat.add_zero, and_self, and_true, true_and, or_true, true_or, if_true, if_false, Nat.le_refl, Bool.and_self, eq_self, Bool.not_false, Bool.not_true, hlt, oldc]
      rw [e', b87_1_run]
      simp only [go_sem, ↓reduceIte, Nat.reduceAdd, Nat.reduceSub, Nat.reduceMul, Nat.reduceEqDiff, Nat.reduceLT, Nat.reduceShiftRight, Nat.reduceAnd, Nat.reduceBNe, Nat.reduceLeDiff, Nat.reduceBEq, Nat.testBit, Nat.zero_lt_one, Int.reduceToNat, Int.reduceNeg, Int.reduceLE, Int.reduceLT, Int.reduceEq, decide_true, decide_false, Bool.and_true, Bool.true_and, Bool.and_false, Bool.false_and, Bool.or_true, Bool.true_or, Bool.or_false, Bool.false_or, Bool.not_true, Bool.not_false, beq_self_eq_true, reduceCtorEq, Int.le_refl, Nat.add_zero, and_self, and_true, true_and, or_true, true_or, if_true, if_false, Nat.le_refl, Bool.and_self, eq_self, Bool.not_false, Bool.not_true, Int.lt_irrefl, oldc, w1]
      rw [b87_2_run]
      rcases Nat.eq_zero_or_pos c with hc0 | hc0
      · subst hc0
        have hse : L'.set (i + b.length) 0 = L' := by
          apply List.ext_getElem
          · simp
          · intro j h6 h7
            rw [List.getElem_set]
            split
            · rename_i hj; subst hj; exact hz.symm
            · rfl
        rw [hse]
        simp only [go_sem, ↓reduceIte, Nat.reduceAdd, Nat.reduceSub, Nat.reduceMul, Nat.reduceEqDiff, Nat.reduceLT, Nat.reduceShiftRight, Nat.reduceAnd, Nat.reduceBNe, Nat.reduceLeDiff, Nat.reduceBEq, Nat.testBit, Nat.zero_lt_one, Int.reduceToNat, Int.reduceNeg, Int.reduceLE, Int.reduceLT, Int.reduceEq, decide_true, decide_false, Bool.and_true, Bool.true_and, Bool.and_false, Bool.false_and, Bool.or_true, Bool.true_or, Bool.or_false, Bool.false_or, Bool.not_true, Bool.not_false, beq_self_eq_true, reduceCtorEq, Int.le_refl, Nat.add_zero, and_self, and_true, true_and, or_true, true_or, if_true, if_false, Nat.le_refl, Bool.and_self, eq_self, Bool.not_false, Bool.not_true, Int.lt_irrefl, oldc, hw, show ((0 : Nat) : Int) = 0 from rfl]
      · have d0 : decide ((0 : Int) < (c : Int)) = true := decide_eq_true (by omega)
        simp only [go_sem, ↓reduceIte, Nat.reduceAdd, Nat.reduceSub, Nat.reduceMul, Nat.reduceEqDiff, Nat.reduceLT, Nat.reduceShiftRight, Nat.reduceAnd, Nat.reduceBNe, Nat.reduceLeDiff, Nat.reduceBEq, Nat.testBit, Nat.zero_lt_one, Int.reduceToNat, Int.reduceNeg, Int.reduceLE, Int.reduceLT, Int.reduceEq, decide_true, decide_false, Bool.and_true, Bool.true_and, Bool.and_false, Bool.false_and, Bool.or_true, Bool.true_or, Bool.or_false, Bool.false_or, Bool.not_true, Bool.not_false, beq_self_eq_true, reduceCtorEq, Int.le_refl, Nat.add_zero, and_self, and_true, true_and, or_true, true_or, if_true, if_false, Nat.le_refl, Bool.and_self, eq_self, Bool.not_false, Bool.not_true, d0, hgc, a1, q1, q2, lenc, oldc, setc, g2, hw2, Nat.mul_one]
        rw [b87_2_run]
        simp only [go_sem, ↓reduceIte, Nat.reduceAdd, Nat.reduceSub, Nat.reduceMul, Nat.reduceEqDiff, Nat.reduceLT, Nat.reduceShiftRight, Nat.reduceAnd, Nat.reduceBNe, Nat.reduceLeDiff, Nat.reduceBEq, Nat.testBit, Nat.zero_lt_one, Int.reduceToNat, Int.reduceNeg, Int.reduceLE, Int.reduceLT, Int.reduceEq, decide_true, decide_false, Bool.and_true, Bool.true_and, Bool.and_false, Bool.false_and, Bool.or_true, Bool.true_or, Bool.or_false, Bool.false_or, Bool.not_true, Bool.not_false, beq_self_eq_true, reduceCtorEq, Int.le_refl, Nat.add_zero, and_self, and_true, true_and, or_true, true_or, if_true, if_false, Nat.le_refl, Bool.and_self, eq_self, Bool.not_false, Bool.not_true, Int.lt_irrefl, oldc, hw]
    · have hs := val_set hib c
      rw [hz, Nat.mul_zero, Nat.add_zero] at hs
      rw [hs, g4, h3]
      have hv : val a % B64 ^ (i + 1) = val a % B64 ^ i + B64 ^ i * a[i] := by
        rw [Nat.mod_pow_succ, ← limb_eq ha, limb_get hia]
      rw [hv, Nat.mod_eq_of_lt (val_lt hb), Nat.add_mul, Nat.mul_comm a[i]]
    · intro j hj hjn
      rw [set_get? (by omega), g5 j (by omega)]
      exact h4 j (by omega) hjn
theorem Mul87 {a b : List Nat} (ha : Limbs a) (hb : Limbs b) (la : a.length ≤ 400000) (lb : b.length ≤ 400000) : (KL AA XX).call 87 [(PV.one (D.sl (List.map n64 (a)))), (PV.one (D.sl (List.map n64 (b))))] = some [(PV.one (D.sl (List.map n64 (dig (val a * val b)))))] := by
  obtain ⟨L, e, h1, h2, h3, _⟩ := mul87_out ha hb (by omega) (by omega) a.length (Nat.le_refl _)
  have w2 := wrap_succ (a.length + b.length) (by omega)
  obtain ⟨N, hN⟩ : ∃ N, a.length + b.length + 1 = N := ⟨_, rfl⟩
  rw [hN] at e h2 w2
  rw [Nat.mod_eq_of_lt (val_lt ha)] at h3
  have t := Trim69 h1 (by omega)
  rw [h3] at t
  have w1 := wrap_iadd (a := a.length) (b := b.length) (by omega)
  have q0 : ((0 : Int) ≤ ((N : Nat) : Int)) = True := eq_true (by omega)
  have q1 : (((N : Nat) : Int) * ((8 : Nat) : Int) ≤ (maxBytes : Int)) = True := by
    have h1 : maxBytes = 140737488355328 := rfl
    rw [h1]; exact eq_true (by omega)
  have hz := zeroc N
  have ch := chunk_w L
  rw [h2] at ch
  have q2 : (0 + N * 1 ≤ N) = True := eq_true (by omega)
  rw [c87]
  simp only [go_sem, ↓reduceIte, Nat.reduceAdd, Nat.reduceSub, Nat.reduceMul, Nat.reduceEqDiff, Nat.reduceLT, Nat.reduceShiftRight, Nat.reduceAnd, Nat.reduceBNe, Nat.reduceLeDiff, Nat.reduceBEq, Nat.testBit, Nat.zero_lt_one, Int.reduceToNat, Int.reduceNeg, Int.reduceLE, Int.reduceLT, Int.reduceEq, decide_true, decide_false, Bool.and_true, Bool.true_and, Bool.and_false, Bool.false_and, Bool.or_true, Bool.true_or, Bool.or_false, Bool.false_or, Bool.not_true, Bool.not_false, beq_self_eq_true, reduceCtorEq, Int.le_refl, Nat.add_zero, and_self, and_true, true_and, or_true, true_or, if_true, if_false, Nat.le_refl, Bool.and_self, eq_self, Bool.not_false, Bool.not_true, w1, w2, q0, q1, hz, oldc, Int.toNat_natCast, List.length_cons, List.length_nil]
  rw [e, b87_0_run]
  cases hf : PV.flat (.one (.sl (List.map n64 (dig (val a * val b))))) <;>
    simp only [go_sem, ↓reduceIte, Nat.reduceAdd, Nat.reduceSub, Nat.reduceMul, Nat.reduceEqDiff, Nat.reduceLT, Nat.reduceShiftRight, Nat.reduceAnd, Nat.reduceBNe, Nat.reduceLeDiff, Nat.reduceBEq, Nat.testBit, Nat.zero_lt_one, Int.reduceToNat, Int.reduceNeg, Int.reduceLE, Int.reduceLT, Int.reduceEq, decide_true, decide_false, Bool.and_true, Bool.true_and, Bool.and_false, Bool.false_and, Bool.or_true, Bool.true_or, Bool.or_false, Bool.false_or, Bool.not_true, Bool.not_false, beq_self_eq_true, reduceCtorEq, Int.le_refl, Nat.add_zero, and_self, and_true, true_and, or_true, true_or, if_true, if_false, Nat.le_refl, Bool.and_self, eq_self, Bool.not_false, Bool.not_true, Int.lt_irrefl, oldc, lenc, h2, q2, List.drop_zero, ch, t, Nat.mul_one, hf, Bool.false_eq_true]
end Go.Proofs.Ytpanbfainilmpaa.Ev.N
end
section
/- The document's quotient, bit by bit. -/
set_option linter.unusedVariables false
set_option linter.unusedSimpArgs false
set_option maxRecDepth 100000
set_option maxHeartbeats 4000000
namespace Go.Proofs.Ytpanbfainilmpaa.Ev.N
open Go Go.Proofs.Ytpanbfainilmpaa.Ev

/-- A bit more of what is divided. -/
theorem div_step (A D j : Nat) (hD : 0 < D) :
    A / 2 ^ j = 2 * (A / 2 ^ (j + 1)) + A / 2 ^ j % 2 ∧
    (if D ≤ 2 * (A / 2 ^ (j + 1) % D) + A / 2 ^ j % 2 then A / 2 ^ j % D = 2 * (A / 2 ^ (j + 1) % D) + A / 2 ^ j % 2 - D ∧ A / 2 ^ j / D = 2 * (A / 2 ^ (j + 1) / D) + 1
     else A / 2 ^ j % D = 2 * (A / 2 ^ (j + 1) % D) + A / 2 ^ j % 2 ∧ A / 2 ^ j / D = 2 * (A / 2 ^ (j + 1) / D)) := by
  have h1 : A / 2 ^ j = 2 * (A / 2 ^ (j + 1)) + A / 2 ^ j % 2 := by
    have f1 := Nat.div_add_mod (A / 2 ^ j) 2
    rw [Nat.div_div_eq_div_mul, ← Nat.pow_succ] at f1
    exact f1.symm
  refine ⟨h1, ?_⟩
  have hb : A / 2 ^ j % 2 < 2 := Nat.mod_lt _ (by decide)
  generalize A / 2 ^ j % 2 = b at *
  rw [h1]
  have f2 := Nat.div_add_mod (A / 2 ^ (j + 1)) D
  have hr := Nat.mod_lt (A / 2 ^ (j + 1)) hD
  generalize A / 2 ^ (j + 1) / D = q at *
  generalize A / 2 ^ (j + 1) % D = r at *
  generalize A / 2 ^ (j + 1) = P at *
  have e : 2 * P + b = D * (2 * q) + (2 * r + b) := by
    rw [← f2, Nat.mul_add, Nat.mul_left_comm]; omega
  split
  · rename_i hge
    have e2 : 2 * P + b = D * (2 * q + 1) + (2 * r + b - D) := by rw [e, Nat.mul_add D (2 * q) 1]; omega
    rw [e2]
    exact ⟨by rw [Nat.mul_add_mod, Nat.mod_eq_of_lt (by omega)], by rw [Nat.mul_add_div hD, Nat.div_eq_of_lt (by omega), Nat.add_zero]⟩
  · rename_i hlt
    rw [e]
    exact ⟨by rw [Nat.mul_add_mod, Nat.mod_eq_of_lt (by omega)], by rw [Nat.mul_add_div hD, Nat.div_eq_of_lt (by omega), Nat.add_zero]⟩
/-- A bit set. -/
theorem set_bit {L : List Nat} (hL : Limbs L) {t j : Nat} (hv : val L = t * 2 ^ (j + 1)) (hj : j / 64 < L.length) :
    (L[j / 64] ||| 2 ^ (j % 64)) = L[j / 64] + 2 ^ (j % 64) ∧ L[j / 64] + 2 ^ (j % 64) < B64 ∧ val (L.set (j / 64) (L[j / 64] + 2 ^ (j % 64))) = val L + 2 ^ j := by
  have hs : j % 64 < 64 := Nat.mod_lt _ (by decide)
  have hl : L[j / 64] = 2 ^ (j % 64 + 1) * (t % 2 ^ (63 - j % 64)) := by
    have := limb_eq hL (j / 64)
    rw [limb_get hj, hv] at this
    rw [this]
    have e1 : j + 1 = 64 * (j / 64) + (j % 64 + 1) := by omega
    rw [e1, Nat.pow_add, Bp_eq, ← Nat.mul_assoc, Nat.mul_comm t, Nat.mul_assoc, Nat.mul_div_cancel_left _ (Nat.pow_pos (by decide)), Nat.mul_comm t]
    rw [B_eq, show (2 : Nat) ^ 64 = 2 ^ (j % 64 + 1) * 2 ^ (63 - j % 64) by rw [← Nat.pow_add]; congr 1; omega, Nat.mul_mod_mul_left]
  have h1 : (L[j / 64] ||| 2 ^ (j % 64)) = L[j / 64] + 2 ^ (j % 64) := by
    rw [hl]
    exact or_low _ (Nat.pow_lt_pow_right (by decide) (by omega))
  have h2 : L[j / 64] + 2 ^ (j % 64) < B64 := by
    rw [← h1, B_eq]
    exact Nat.or_lt_two_pow (hL.get hj) (Nat.pow_lt_pow_right (by decide) hs)
  refine ⟨h1, h2, ?_⟩
  have h3 := val_set hj (L[j / 64] + 2 ^ (j % 64))
  have h4 : B64 ^ (j / 64) * 2 ^ (j % 64) = 2 ^ j := by
    rw [Bp_eq, ← Nat.pow_add]; congr 1; omega
  rw [Nat.mul_add, h4] at h3
  omega
theorem digs_set {N v : Nat} {i n v' : Nat} (hi : i < N) (hn : n < B64) (hv : val ((digs N v).set i n) = v') : (digs N v).set i n = digs N v' := by
  have h := digs_val ((digs_limbs N v).set hn i)
  rw [List.length_set, digs_len, hv] at h
  exact h.symm
theorem pow_shift (q j : Nat) : q * 2 ^ (j + 1) = 2 * q * 2 ^ j := by rw [Nat.pow_succ, Nat.mul_comm 2 q, Nat.mul_assoc, Nat.mul_comm 2 (2 ^ j)]
theorem lt_dbl {x c k : Nat} (hx : x < B64 ^ k) (hc : c < 2) : 2 * x + c < B64 ^ (k + 1) := by
  have : 2 * B64 ^ k ≤ B64 * B64 ^ k := Nat.mul_le_mul_right _ (by decide)
  rw [Nat.pow_succ, Nat.mul_comm (B64 ^ k)]; omega
theorem bitN_cast (n j : Nat) : bitN n (j : Int) = n / 2 ^ j % 2 := by
  unfold bitN
  rw [if_neg (by omega), Int.toNat_natCast]
theorem dlen' {n k : Nat} (h : n < B64 ^ k) : (dig n).length ≤ k := by rw [dig_len]; exact nlen_le.2 h
theorem b2_bit {x : Nat} (h : x < 2) : b2 ((x : Nat) : Int) = x := by unfold b2; omega

def divV (A D : Nat) : List PV := if D = 0 then [nl [], nl [], .one (.sc (.bool false))] else [nl (dig (A / D)), nl (dig (A % D)), .one (.sc (.bool true))]
theorem digs_zero (N : Nat) : digs N 0 = List.replicate N 0 := by
  have h := digs_val (Limbs.rep N)
  rw [List.length_replicate, val_rep] at h
  exact h
theorem nbits_lt (n : Nat) : n < 2 ^ nbits n := nbits_le.1 (Nat.le_refl _)
section
variable {a b : List Nat} (ha : Limbs a) (hb : Limbs b) (la : a.length ≤ 10000) (lb : b.length ≤ 10000)
include ha hb la lb
theorem div84_step (hD : 0 < val b) (j : Nat) (hj : j < 64 * a.length) (V : AV) (hV : V = (AV.c (C.d (D.sl (List.map n64 (dig (val a / 2 ^ (j + 1) % val b)))))) ∨ (V = (AV.c (C.gr 3 [])) ∧ val a / 2 ^ (j + 1) % val b = 0)) :
    loopR AA XX [0, 1, 7, 8, 9] 4 b84_0 (RUN AA XX b84_0 ⟨[(0, (AV.c (C.d (D.sl (List.map n64 (a)))))), (1, (AV.c (C.d (D.sl (List.map n64 (b)))))), (7, .ref 2 0 a.length), (8, V), (9, (AV.c (C.d (D.sc (Value.int IntKind.i64 (j))))))], [(0, .tok 0 0), (1, .tok 0 0), (2, .arr ((digs a.length (val a / 2 ^ (j + 1) / val b * 2 ^ (j + 1))).map w64)), (3, .tok 0 0)], 4⟩) =
    loopR AA XX [0, 1, 7, 8, 9] 4 b84_0 (RUN AA XX b84_0 ⟨[(0, (AV.c (C.d (D.sl (List.map n64 (a)))))), (1, (AV.c (C.d (D.sl (List.map n64 (b)))))), (7, .ref 2 0 a.length), (8, (AV.c (C.d (D.sl (List.map n64 (dig (val a / 2 ^ j % val b))))))), (9, (AV.c (C.d (D.sc (Value.int IntKind.i64 ((j : Int) - 1))))))], [(0, .tok 0 0), (1, .tok 0 0), (2, .arr ((digs a.length (val a / 2 ^ j / val b * 2 ^ j)).map w64)), (3, .tok 0 0)], 4⟩) := by
  obtain ⟨_, hst⟩ := div_step (val a) (val b) j hD
  have hwf : (Lit.int .i64 (j : Int)).wf = true := by
    simp only [Lit.wf, Bool.and_eq_true, decide_eq_true_eq]
    show (-9223372036854775808 : Int) ≤ (j : Int) ∧ (j : Int) ≤ 9223372036854775807
    omega
  have f1 := Bit72 ha (by omega) (j : Int) hwf
  rw [bitN_cast] at f1
  have hbit : val a / 2 ^ j % 2 < 2 := Nat.mod_lt _ (by decide)
  have hr := Nat.mod_lt (val a / 2 ^ (j + 1)) hD
  have hDl := val_lt hb
  have f2 := Double74 (dig_limbs (val a / 2 ^ (j + 1) % val b)) (Nat.le_trans (dlen' (Nat.lt_trans hr hDl)) (by omega)) ((val a / 2 ^ j % 2 : Nat) : Int)
  rw [val_dig, b2_bit hbit] at f2
  have h2 : 2 * (val a / 2 ^ (j + 1) % val b) + val a / 2 ^ j % 2 < B64 ^ (b.length + 1) := lt_dbl (Nat.lt_trans hr hDl) hbit
  have f3 := Sub64 (dig_limbs (2 * (val a / 2 ^ (j + 1) % val b) + val a / 2 ^ j % 2)) hb (Nat.le_trans (dlen' h2) (by omega)) (by omega)
  rw [val_dig] at f3
  have hw := wrap_i64_pred j (by omega)
  have d0 : decide ((0 : Int) ≤ (j : Int)) = true := decide_eq_true (by omega)
  have hqs : val a / 2 ^ (j + 1) / val b * 2 ^ (j + 1) < B64 ^ a.length := by
    refine Nat.lt_of_le_of_lt (Nat.le_trans (Nat.mul_le_mul_right _ (Nat.div_le_self _ _)) (Nat.div_mul_le_self _ _)) (val_lt ha)
  unfold subV at f3
  by_cases hge : val b ≤ 2 * (val a / 2 ^ (j + 1) % val b) + val a / 2 ^ j % 2
  · rw [if_pos hge] at f3 hst
    rw [← hst.1] at f3
    have hjl : j / 64 < (digs a.length (val a / 2 ^ (j + 1) / val b * 2 ^ (j + 1))).length := by rw [digs_len]; omega
    have hv := val_digs a.length (val a / 2 ^ (j + 1) / val b * 2 ^ (j + 1))
    rw [Nat.mod_eq_of_lt hqs] at hv
    obtain ⟨o1, o2, o3⟩ := set_bit (digs_limbs a.length (val a / 2 ^ (j + 1) / val b * 2 ^ (j + 1))) hv hjl
    rw [hv] at o3
    have o4 := digs_set (by omega) o2 o3
    have e : val a / 2 ^ (j + 1) / val b * 2 ^ (j + 1) + 2 ^ j = val a / 2 ^ j / val b * 2 ^ j := by
      rw [hst.2, Nat.add_mul, Nat.one_mul, pow_shift]
    rw [e] at o4
    have hgc := getc hjl
    have e1 : ((j : Int)).tdiv 64 = ((j / 64 : Nat) : Int) := by rw [Int.tdiv_eq_ediv_of_nonneg (by omega)]; omega
    have w1 : IntKind.i64.wrap (((j / 64 : Nat) : Int)) = ((j / 64 : Nat) : Int) := wrap_i64 _ (by omega) (by omega)
    have e2 : ((j : Int)).tmod 64 = ((j % 64 : Nat) : Int) := by rw [Int.tmod_eq_emod_of_nonneg (by omega)]; omega
    have hs : j % 64 < 64 := Nat.mod_lt _ (by decide)
    have w2 : IntKind.u64.wrap (((j % 64 : Nat) : Int)) = ((j % 64 : Nat) : Int) := wrap_u64_lt (Nat.lt_trans hs (by decide))
    have q0 : ((0 : Int) ≤ ((j % 64 : Nat) : Int)) = True := eq_true (by omega)
    have m64 := min64 hs
    have hp2 : 2 ^ (j % 64) < B64 := by rw [B_eq]; exact Nat.pow_lt_pow_right (by decide) hs
    have w3 : IntKind.u64.wrap (1 * 2 ^ (j % 64)) = ((2 ^ (j % 64) : Nat) : Int) := by
      rw [Int.one_mul, show ((2 : Int) ^ (j % 64)) = ((2 ^ (j % 64) : Nat) : Int) by norm_cast]
      exact wrap_u64_lt hp2
    have w4 : borI .u64 (((digs a.length (val a / 2 ^ (j + 1) / val b * 2 ^ (j + 1)))[j / 64] : Nat) : Int) ((2 ^ (j % 64) : Nat) : Int) = (((digs a.length (val a / 2 ^ (j + 1) / val b * 2 ^ (j + 1)))[j / 64] + 2 ^ (j % 64) : Nat) : Int) := by
      rw [borI_u ((digs_limbs _ _).get hjl) hp2, o1]
    have q1 : (((j / 64 : Nat) : Int) < (a.length : Int)) = True := eq_true (by omega)
    have q2 : (j / 64 < a.length) = True := eq_true (by omega)
    have hdl := digs_len a.length (val a / 2 ^ (j + 1) / val b * 2 ^ (j + 1))
    rcases hV with rfl | ⟨rfl, hz⟩
    · rw [b84_0_run]
      simp only [go_sem, ↓reduceIte, Nat.reduceAdd, Nat.reduceSub, Nat.reduceMul, Nat.reduceEqDiff, Nat.reduceLT, Nat.reduceShiftRight, Nat.reduceAnd, Nat.reduceBNe, Nat.reduceLeDiff, Nat.reduceBEq, Nat.testBit, Nat.zero_lt_one, Int.reduceToNat, Int.reduceNeg, Int.reduceLE, Int.reduceLT, Int.reduceEq, decide_true, decide_false, Bool.and_true, Bool.true_and, Bool.and_false, Bool.false_and, Bool.or_true, Bool.true_or, Bool.or_false, Bool.false_or, Bool.not_true, Bool.not_false, beq_self_eq_true, reduceCtorEq, Int.le_refl, Nat.add_zero, and_self, and_true, true_and, or_true, true_or, if_true, if_false, Nat.le_refl, Bool.and_self, eq_self, Bool.not_false, Bool.not_true, d0, f1, f2, f3, nl, hw, e1, w1, e2, w2, q0, Int.toNat_natCast, m64, w3, bin_orI, w4, q1, q2, hgc, lenc, hdl, setc, o4, oldc, Nat.mul_one]
    · rw [hz, dig_zero, List.map_nil, Nat.mul_zero, Nat.zero_add] at f2
      rw [hz, Nat.mul_zero, Nat.zero_add] at f3
      rw [b84_0_run]
      simp only [go_sem, ↓reduceIte, Nat.reduceAdd, Nat.reduceSub, Nat.reduceMul, Nat.reduceEqDiff, Nat.reduceLT, Nat.reduceShiftRight, Nat.reduceAnd, Nat.reduceBNe, Nat.reduceLeDiff, Nat.reduceBEq, Nat.testBit, Nat.zero_lt_one, Int.reduceToNat, Int.reduceNeg, Int.reduceLE, Int.reduceLT, Int.reduceEq, decide_true, decide_false, Bool.and_true, Bool.true_and, Bool.and_false, Bool.false_and, Bool.or_true, Bool.true_or, Bool.or_false, Bool.false_or, Bool.not_true, Bool.not_false, beq_self_eq_true, reduceCtorEq, Int.le_refl, Nat.add_zero, and_self, and_true, true_and, or_true, true_or, if_true, if_false, Nat.le_refl, Bool.and_self, eq_self, Bool.not_false, Bool.not_true, d0, f1, f2, f3, nl, hw, e1, w1, e2, w2, q0, Int.toNat_natCast, m64, w3, bin_orI, w4, q1, q2, hgc, lenc, hdl, setc, o4, oldc, Nat.mul_one]
  · rw [if_neg hge] at f3 hst
    have e : val a / 2 ^ (j + 1) / val b * 2 ^ (j + 1) = val a / 2 ^ j / val b * 2 ^ j := by
      rw [hst.2, pow_shift]
    rw [← hst.1] at f2 f3
    rcases hV with rfl | ⟨rfl, hz⟩
    · rw [b84_0_run]
      simp only [go_sem, ↓reduceIte, Nat.reduceAdd, Nat.reduceSub, Nat.reduceMul, Nat.reduceEqDiff, Nat.reduceLT, Nat.reduceShiftRight, Nat.reduceAnd, Nat.reduceBNe, Nat.reduceLeDiff, Nat.reduceBEq, Nat.testBit, Nat.zero_lt_one, Int.reduceToNat, Int.reduceNeg, Int.reduceLE, Int.reduceLT, Int.reduceEq, decide_true, decide_false, Bool.and_true, Bool.true_and, Bool.and_false, Bool.false_and, Bool.or_true, Bool.true_or, Bool.or_false, Bool.false_or, Bool.not_true, Bool.not_false, beq_self_eq_true, reduceCtorEq, Int.le_refl, Nat.add_zero, and_self, and_true, true_and, or_true, true_or, if_true, if_false, Nat.le_refl, Bool.and_self, eq_self, Bool.not_false, Bool.not_true, d0, f1, f2, f3, nl, hw, e, oldc]
    · rw [hz, dig_zero, List.map_nil] at f2
      rw [b84_0_run]
      simp only [go_sem, ↓reduceIte, Nat.reduceAdd, Nat.reduceSub, Nat.reduceMul, Nat.reduceEqDiff, Nat.reduceLT, Nat.reduceShiftRight, Nat.reduceAnd, Nat.reduceBNe, Nat.reduceLeDiff, Nat.reduceBEq, Nat.testBit, Nat.zero_lt_one, Int.reduceToNat, Int.reduceNeg, Int.reduceLE, Int.reduceLT, Int.reduceEq, decide_true, decide_false, Bool.and_true, Bool.true_and, Bool.and_false, Bool.false_and, Bool.or_true, Bool.true_or, Bool.or_false, Bool.false_or, Bool.not_true, Bool.not_false, beq_self_eq_true, reduceCtorEq, Int.le_refl, Nat.add_zero, and_self, and_true, true_and, or_true, true_or, if_true, if_false, Nat.le_refl, Bool.and_self, eq_self, Bool.not_false, Bool.not_true, d0, f1, f2, f3, nl, hw, e, oldc]

theorem Divide84 : (KL AA XX).call 84 [(PV.one (D.sl (List.map n64 (a)))), (PV.one (D.sl (List.map n64 (b))))] = some (divV (val a) (val b)) := by
  have b1 := Bits56 hb (by omega)
  have b2 := Bits56 ha (by omega)
  have hAl := val_lt ha
  have hn64 : nbits (val a) ≤ 64 * a.length := by rw [nbits_le, ← Bp_eq]; exact hAl
  by_cases h0 : val b = 0
  · have hd : divV (val a) (val b) = [nl [], nl [], .one (.sc (.bool false))] := if_pos h0
    have hb0 : nbits (val b) = 0 := by rw [h0]; rfl
    rw [hb0] at b1
    rw [hd, c84]
    simp only [go_sem, ↓reduceIte, Nat.reduceAdd, Nat.reduceSub, Nat.reduceMul, Nat.reduceEqDiff, Nat.reduceLT, Nat.reduceShiftRight, Nat.reduceAnd, Nat.reduceBNe, Nat.reduceLeDiff, Nat.reduceBEq, Nat.testBit, Nat.zero_lt_one, Int.reduceToNat, Int.reduceNeg, Int.reduceLE, Int.reduceLT, Int.reduceEq, decide_true, decide_false, Bool.and_true, Bool.true_and, Bool.and_false, Bool.false_and, Bool.or_true, Bool.true_or, Bool.or_false, Bool.false_or, Bool.not_true, Bool.not_false, beq_self_eq_true, reduceCtorEq, Int.le_refl, Nat.add_zero, and_self, and_true, true_and, or_true, true_or, if_true, if_false, Nat.le_refl, Bool.and_self, eq_self, Bool.not_false, Bool.not_true, b1, show ((0 : Nat) : Int) = 0 from rfl, List.map_nil, nl]
  · have hD : 0 < val b := Nat.pos_of_ne_zero h0
    have hd : divV (val a) (val b) = [nl (dig (val a / val b)), nl (dig (val a % val b)), .one (.sc (.bool true))] := if_neg h0
    have hnb : 0 < nbits (val b) := by unfold nbits; rw [if_neg h0]; omega
    have d1 : decide (((nbits (val b) : Nat) : Int) = 0) = false := decide_eq_false (by omega)
    have q0 : ((0 : Int) ≤ (a.length : Int)) = True := eq_true (by omega)
    have q1 : ((a.length : Int) * ((8 : Nat) : Int) ≤ (maxBytes : Int)) = True := by
      have h1 : maxBytes = 140737488355328 := rfl
      rw [h1]; exact eq_true (by omega)
    have hz := zeroc a.length
    have hw := wrap_i64_pred (nbits (val a)) (by omega)
    have q2 : (0 + a.length * 1 ≤ a.length) = True := eq_true (by omega)
    have t1 := Trim69 (digs_limbs a.length (val a / val b)) (by rw [digs_len]; omega)
    rw [val_digs, Nat.mod_eq_of_lt (Nat.lt_of_le_of_lt (Nat.div_le_self _ _) hAl)] at t1
    have ch := chunk_w (digs a.length (val a / val b))
    rw [digs_len] at ch
    have hdl := digs_len a.length (val a / val b)
    rw [hd, c84]
    simp only [go_sem, ↓reduceIte, Nat.reduceAdd, Nat.reduceSub, Nat.reduceMul, Nat.reduceEqDiff, Nat.reduceLT, Nat.reduceShiftRight, Nat.reduceAnd, Nat.reduceBNe, Nat.reduceLeDiff, Nat.reduceBEq, Nat.testBit, Nat.zero_lt_one, Int.reduceToNat, Int.reduceNeg, Int.reduceLE, Int.reduceLT, Int.reduceEq, decide_true, decide_false, Bool.and_true, Bool.true_and, Bool.and_false, Bool.false_and, Bool.or_true, Bool.true_or, Bool.or_false, Bool.false_or, Bool.not_true, Bool.not_false, beq_self_eq_true, reduceCtorEq, Int.le_refl, Nat.add_zero, and_self, and_true, true_and, or_true, true_or, if_true, if_false, Nat.le_refl, Bool.and_self, eq_self, Bool.not_false, Bool.not_true, b1, b2, d1, q0, q1, hz, oldc, hw, Int.toNat_natCast, List.length_cons, List.length_nil]
    rcases hn : nbits (val a) with _ | m
    · have hA0 : val a = 0 := by have := nbits_lt (val a); rw [hn] at this; omega
      have t2 := Trim69 Limbs.nil (by simp)
      rw [hA0, Nat.zero_div, digs_zero] at t1 ch hdl
      rw [show val [] = 0 from rfl, List.map_nil] at t2
      rw [hA0, Nat.zero_div, Nat.zero_mod, b84_0_run]
      have dm : decide ((0 : Int) ≤ 0 - 1) = false := rfl
      cases hf : PV.flat (.one (.sl (List.map n64 (dig 0)))) <;>
        simp only [go_sem, ↓reduceIte, Nat.reduceAdd, Nat.reduceSub, Nat.reduceMul, Nat.reduceEqDiff, Nat.reduceLT, Nat.reduceShiftRight, Nat.reduceAnd, Nat.reduceBNe, Nat.reduceLeDiff, Nat.reduceBEq, Nat.testBit, Nat.zero_lt_one, Int.reduceToNat, Int.reduceNeg, Int.reduceLE, Int.reduceLT, Int.reduceEq, decide_true, decide_false, Bool.and_true, Bool.true_and, Bool.and_false, Bool.false_and, Bool.or_true, Bool.true_or, Bool.or_false, Bool.false_or, Bool.not_true, Bool.not_false, beq_self_eq_true, reduceCtorEq, Int.le_refl, Nat.add_zero, and_self, and_true, true_and, or_true, true_or, if_true, if_false, Nat.le_refl, Bool.and_self, eq_self, Bool.not_false, Bool.not_true, show ((0 : Nat) : Int) = 0 from rfl, dm, oldc, lenc, hdl, q2, List.drop_zero, ch, t1, t2, Nat.mul_one, hf, Bool.false_eq_true, nl]
    · have go := iter (F := fun (j : Nat) => loopR AA XX [0, 1, 7, 8, 9] 4 b84_0 (RUN AA XX b84_0 ⟨[(0, (AV.c (C.d (D.sl (List.map n64 (a)))))), (1, (AV.c (C.d (D.sl (List.map n64 (b)))))), (7, .ref 2 0 a.length), (8, (AV.c (C.d (D.sl (List.map n64 (dig (val a / 2 ^ j % val b))))))), (9, (AV.c (C.d (D.sc (Value.int IntKind.i64 ((j : Int) - 1))))))], [(0, .tok 0 0), (1, .tok 0 0), (2, .arr ((digs a.length (val a / 2 ^ j / val b * 2 ^ j)).map w64)), (3, .tok 0 0)], 4⟩)) (Nat.zero_le m) fun j _ hj => by
        have := div84_step ha hb la lb hD j (by omega) _ (.inl rfl)
        have e1 : ((j + 1 : Nat) : Int) - 1 = (j : Int) := by omega
        show loopR _ _ _ _ _ (RUN _ _ _ _) = loopR _ _ _ _ _ (RUN _ _ _ _)
        rw [e1]
        exact this.symm
      have hAm : val a / 2 ^ (m + 1) = 0 := by rw [← hn]; exact Nat.div_eq_of_lt (nbits_lt _)
      have first := div84_step ha hb la lb hD m (by omega) ((AV.c (C.gr 3 []))) (.inr ⟨rfl, by rw [hAm, Nat.zero_mod]⟩)
      rw [hAm, Nat.zero_div, Nat.zero_mul, digs_zero] at first
      have e1 : ((m + 1 : Nat) : Int) - 1 = (m : Int) := by omega
      have t2 := Trim69 (dig_limbs (val a % val b)) (Nat.le_trans (dlen' (Nat.lt_of_le_of_lt (Nat.mod_le _ _) hAl)) (by omega))
      rw [val_dig] at t2
      rw [e1, first, ← go, b84_0_run]
      have dm : decide ((0 : Int) ≤ ((0 : Nat) : Int) - 1) = false := rfl
      simp only [Nat.pow_zero, Nat.div_one, Nat.mul_one] at dm ⊢
      cases hf : PV.flat (.one (.sl (List.map n64 (dig (val a / val b))))) <;>
        simp only [go_sem, ↓reduceIte, Nat.reduceAdd, Nat.reduceSub, Nat.reduceMul, Nat.reduceEqDiff, Nat.reduceLT, Nat.reduceShiftRight, Nat.reduceAnd, Nat.reduceBNe, Nat.reduceLeDiff, Nat.reduceBEq, Nat.testBit, Nat.zero_lt_one, Int.reduceToNat, Int.reduceNeg, Int.reduceLE, Int.reduceLT, Int.reduceEq, decide_true, decide_false, Bool.and_true, Bool.true_and, Bool.and_false, Bool.false_and, Bool.or_true, Bool.true_or, Bool.or_false, Bool.false_or, Bool.not_true, Bool.not_false, beq_self_eq_true, reduceCtorEq, Int.le_refl, Nat.add_zero, and_self, and_true, true_and, or_true, true_or, if_true, if_false, Nat.le_refl, Bool.and_self, eq_self, Bool.not_false, Bool.not_true, dm, oldc, lenc, hdl, q2, List.drop_zero, ch, t1, t2, Nat.mul_one, hf, Bool.false_eq_true, nl]
end
end Go.Proofs.Ytpanbfainilmpaa.Ev.N
end
section
/- A double word divided by a word. -/
set_option linter.unusedVariables false
set_option linter.unusedSimpArgs false
set_option maxRecDepth 100000
set_option maxHeartbeats 4000000
namespace Go.Proofs.Ytpanbfainilmpaa.Ev.N
open Go Go.Proofs.Ytpanbfainilmpaa.Ev

theorem Lead116 {x : Nat} (hx : x < B64) : (KL AA XX).call 116 [(PV.one (D.sc (Value.int IntKind.u64 ((x : Nat)))))] = some [(PV.one (D.sc (Value.int IntKind.i64 ((64 - nbits x : Nat)))))] := by
  have l := Len99 hx
  have h64 := nbits_64 hx
  have w : IntKind.i64.wrap (64 - ((nbits x : Nat) : Int)) = ((64 - nbits x : Nat) : Int) := by rw [wrap_i64 _ (by omega) (by omega)]; omega
  rw [c116]
  simp only [go_sem, ↓reduceIte, Nat.reduceAdd, Nat.reduceSub, Nat.reduceMul, Nat.reduceEqDiff, Nat.reduceLT, Nat.reduceShiftRight, Nat.reduceAnd, Nat.reduceBNe, Nat.reduceLeDiff, Nat.reduceBEq, Nat.testBit, Nat.zero_lt_one, Int.reduceToNat, Int.reduceNeg, Int.reduceLE, Int.reduceLT, Int.reduceEq, decide_true, decide_false, Bool.and_true, Bool.true_and, Bool.and_false, Bool.false_and, Bool.or_true, Bool.true_or, Bool.or_false, Bool.false_or, Bool.not_true, Bool.not_false, beq_self_eq_true, reduceCtorEq, Int.le_refl, Nat.add_zero, and_self, and_true, true_and, or_true, true_or, if_true, if_false, Nat.le_refl, Bool.and_self, eq_self, Bool.not_false, Bool.not_true, l, w]

theorem div115_0 {u v y1 y0 n s X Y : Nat} (hy : 0 < y1) (hv : v = y1 * 4294967296 + y0) (h0 : y0 < 4294967296) (h1 : 4294967296 ≤ 2 * y1) (hy1 : y1 < 4294967296) (hn : n < 4294967296) (hQb : (u * 4294967296 + n) / v < 4294967296) :
    ∀ (m q r : Nat), q ≤ m → q * y1 + r = u → (u * 4294967296 + n) / v ≤ q → q ≤ 4294967296 + 1 → r < 4294967296 →
    ∃ F', blockR 0 (loopR AA XX [2, 8, 9, 10, 11, 13, 14, 15, 16] 0 b115_0 (RUN AA XX b115_0 ⟨[(2, (AV.c (C.d (D.sc (Value.int IntKind.u64 ((v : Nat))))))), (8, (AV.c (C.d (D.sc (Value.int IntKind.u64 ((s : Nat))))))), (9, (AV.c (C.d (D.sc (Value.int IntKind.u64 ((y1 : Nat))))))), (10, (AV.c (C.d (D.sc (Value.int IntKind.u64 ((y0 : Nat))))))), (11, (AV.c (C.d (D.sc (Value.int IntKind.u64 ((u : Nat))))))), (13, (AV.c (C.d (D.sc (Value.int IntKind.u64 ((n : Nat))))))), (14, (AV.c (C.d (D.sc (Value.int IntKind.u64 ((X : Nat))))))), (15, (AV.c (C.d (D.sc (Value.int IntKind.u64 ((q : Nat))))))), (16, (AV.c (C.d (D.sc (Value.int IntKind.u64 ((r : Nat)))))))], [], 0⟩)) = some (.norm, ⟨F', [], 0⟩) ∧ F'.get 2 = (AV.c (C.d (D.sc (Value.int IntKind.u64 ((v : Nat)))))) ∧ F'.get 8 = (AV.c (C.d (D.sc (Value.int IntKind.u64 ((s : Nat)))))) ∧ F'.get 9 = (AV.c (C.d (D.sc (Value.int IntKind.u64 ((y1 : Nat)))))) ∧ F'.get 10 = (AV.c (C.d (D.sc (Value.int IntKind.u64 ((y0 : Nat)))))) ∧ F'.get 11 = (AV.c (C.d (D.sc (Value.int IntKind.u64 ((u : Nat)))))) ∧ F'.get 13 = (AV.c (C.d (D.sc (Value.int IntKind.u64 ((n : Nat)))))) ∧ F'.get 14 = (AV.c (C.d (D.sc (Value.int IntKind.u64 ((X : Nat)))))) ∧ F'.get 15 = (AV.c (C.d (D.sc (Value.int IntKind.u64 ((((u * 4294967296 + n) / v) : Nat)))))) := by
  have hB : B64 = 18446744073709551616 := rfl
  have hv0 : 0 < v := by omega
  intro m
  induction m with
  | zero =>
    intro q r hm hq hQ hqb hr
    obtain rfl : q = 0 := by omega
    have hQ0 : (u * 4294967296 + n) / v = 0 := Nat.le_zero.1 hQ
    have d1 : decide ((4294967296 : Int) ≤ ((0 : Nat) : Int)) = false := decide_eq_false (by omega)
    have m1 := wrap_mul (a := 0) (b := y0) (by rw [hB]; omega)
    have m2 : IntKind.u64.wrap (4294967296 * (r : Int)) = ((4294967296 * r : Nat) : Int) := wrap_mul (a := 4294967296) (b := r) (by rw [hB]; omega)
    have m3 := wrap_add (a := 4294967296 * r) (b := n) (by rw [hB]; omega)
    have d2 : decide (((4294967296 * r + n : Nat) : Int) < ((0 * y0 : Nat) : Int)) = false := decide_eq_false (by rw [Nat.zero_mul]; omega)
    rw [hQ0, b115_0_run]
    simp only [go_sem, ↓reduceIte, Nat.reduceAdd, Nat.reduceSub, Nat.reduceMul, Nat.reduceEqDiff, Nat.reduceLT, Nat.reduceShiftRight, Nat.reduceAnd, Nat.reduceBNe, Nat.reduceLeDiff, Nat.reduceBEq, Nat.testBit, Nat.zero_lt_one, Int.reduceToNat, Int.reduceNeg, Int.reduceLE, Int.reduceLT, Int.reduceEq, decide_true, decide_false, Bool.and_true, Bool.true_and, Bool.and_false, Bool.false_and, Bool.or_true, Bool.true_or, Bool.or_false, Bool.false_or, Bool.not_true, Bool.not_false, beq_self_eq_true, reduceCtorEq, Int.le_refl, Nat.add_zero, and_self, and_true, true_and, or_true, true_or, if_true, if_false, Nat.le_refl, Bool.and_self, eq_self, Bool.not_false, Bool.not_true, d1, m1, m2, m3, d2]
    exact ⟨_, rfl, rfl, rfl, rfl, rfl, rfl, rfl, rfl, rfl⟩
  | succ m ih =>
    intro q r hm hq hQ hqb hr
    have m2 : IntKind.u64.wrap (4294967296 * (r : Int)) = ((4294967296 * r : Nat) : Int) := wrap_mul (a := 4294967296) (b := r) (by rw [hB]; omega)
    have m3 := wrap_add (a := 4294967296 * r) (b := n) (by rw [hB]; omega)
    have hgt := guess_gt (N := u * 4294967296 + n) hv rfl hq
    by_cases hqβ : 4294967296 ≤ q
    · have d1 : decide ((4294967296 : Int) ≤ (q : Int)) = true := decide_eq_true (by omega)
      have hlt : (u * 4294967296 + n) / v < q := Nat.lt_of_lt_of_le hQb hqβ
      have hq1 : q - 1 + 1 = q := Nat.sub_add_cancel (Nat.lt_of_le_of_lt (Nat.zero_le _) hlt)
      have w1 : IntKind.u64.wrap ((q : Int) - 1) = ((q - 1 : Nat) : Int) := by
        rw [show (q : Int) - 1 = ((q - 1 : Nat) : Int) by omega]
        exact wrap_u64_lt (by rw [hB]; omega)
      have w2 := wrap_add (a := r) (b := y1) (by rw [hB]; omega)
      have hq' : (q - 1) * y1 + (r + y1) = u := by
        rw [← hq]
        conv => rhs; rw [← hq1, Nat.add_mul, Nat.one_mul]
        omega
      by_cases hbr : 4294967296 ≤ r + y1
      · have d3 : decide ((4294967296 : Int) ≤ ((r + y1 : Nat) : Int)) = true := decide_eq_true (by omega)
        have hle := quot_ge hv0 (guess_break (n := n) hv h0 hq' hbr (by omega))
        have hQq : (u * 4294967296 + n) / v = q - 1 := Nat.le_antisymm (Nat.le_pred_of_lt hlt) hle
        rw [hQq, b115_0_run]
        simp only [go_sem, ↓reduceIte, Nat.reduceAdd, Nat.reduceSub, Nat.reduceMul, Nat.reduceEqDiff, Nat.reduceLT, Nat.reduceShiftRight, Nat.reduceAnd, Nat.reduceBNe, Nat.reduceLeDiff, Nat.reduceBEq, Nat.testBit, Nat.zero_lt_one, Int.reduceToNat, Int.reduceNeg, Int.reduceLE, Int.reduceLT, Int.reduceEq, decide_true, decide_false, Bool.and_true, Bool.true_and, Bool.and_false, Bool.false_and, Bool.or_true, Bool.true_or, Bool.or_false, Bool.false_or, Bool.not_true, Bool.not_false, beq_self_eq_true, reduceCtorEq, Int.le_refl, Nat.add_zero, and_self, and_true, true_and, or_true, true_or, if_true, if_false, Nat.le_refl, Bool.and_self, eq_self, Bool.not_false, Bool.not_true, d1, m2, m3, w1, w2, d3]
        exact ⟨_, rfl, rfl, rfl, rfl, rfl, rfl, rfl, rfl, rfl⟩
      · have d3 : decide ((4294967296 : Int) ≤ ((r + y1 : Nat) : Int)) = false := decide_eq_false (by omega)
        obtain ⟨F', g1, g2⟩ := ih (q - 1) (r + y1) (by omega) hq' (Nat.le_pred_of_lt hlt) (by omega) (by omega)
        refine ⟨F', ?_, g2⟩
        rw [← g1, b115_0_run]
        simp only [go_sem, ↓reduceIte, Nat.reduceAdd, Nat.reduceSub, Nat.reduceMul, Nat.reduceEqDiff, Nat.reduceLT, Nat.reduceShiftRight, Nat.reduceAnd, Nat.reduceBNe, Nat.reduceLeDiff, Nat.reduceBEq, Nat.testBit, Nat.zero_lt_one, Int.reduceToNat, Int.reduceNeg, Int.reduceLE, Int.reduceLT, Int.reduceEq, decide_true, decide_false, Bool.and_true, Bool.true_and, Bool.and_false, Bool.false_and, Bool.or_true, Bool.true_or, Bool.or_false, Bool.false_or, Bool.not_true, Bool.not_false, beq_self_eq_true, reduceCtorEq, Int.le_refl, Nat.add_zero, and_self, and_true, true_and, or_true, true_or, if_true, if_false, Nat.le_refl, Bool.and_self, eq_self, Bool.not_false, Bool.not_true, d1, m2, m3, w1, w2, d3]
    · have d1 : decide ((4294967296 : Int) ≤ (q : Int)) = false := decide_eq_false (by omega)
      have hqy : q * y0 ≤ 4294967295 * 4294967295 := Nat.mul_le_mul (by omega) (by omega)
      have m1 := wrap_mul (a := q) (b := y0) (by rw [hB]; omega)
      by_cases hc : 4294967296 * r + n < q * y0
      · have d2 : decide (((4294967296 * r + n : Nat) : Int) < ((q * y0 : Nat) : Int)) = true := decide_eq_true (by omega)
        have hlt : (u * 4294967296 + n) / v < q := quot_le hv0 (hgt.1 (by rw [Nat.mul_comm r]; exact hc))
        have hq1 : q - 1 + 1 = q := Nat.sub_add_cancel (Nat.lt_of_le_of_lt (Nat.zero_le _) hlt)
        have w1 : IntKind.u64.wrap ((q : Int) - 1) = ((q - 1 : Nat) : Int) := by
          rw [show (q : Int) - 1 = ((q - 1 : Nat) : Int) by omega]
          exact wrap_u64_lt (by rw [hB]; omega)
        have w2 := wrap_add (a := r) (b := y1) (by rw [hB]; omega)
        have hq' : (q - 1) * y1 + (r + y1) = u := by
          rw [← hq]
          conv => rhs; rw [← hq1, Nat.add_mul, Nat.one_mul]
          omega
        by_cases hbr : 4294967296 ≤ r + y1
        · have d3 : decide ((4294967296 : Int) ≤ ((r + y1 : Nat) : Int)) = true := decide_eq_true (by omega)
          have hle := quot_ge hv0 (guess_break (n := n) hv h0 hq' hbr (by omega))
          have hQq : (u * 4294967296 + n) / v = q - 1 := Nat.le_antisymm (Nat.le_pred_of_lt hlt) hle
          rw [hQq, b115_0_run]
          simp only [go_sem, ↓reduceIte, Nat.reduceAdd, Nat.reduceSub, Nat.reduceMul, Nat.reduceEqDiff, Nat.reduceLT, Nat.reduceShiftRight, Nat.reduceAnd, Nat.reduceBNe, Nat.reduceLeDiff, Nat.reduceBEq, Nat.testBit, Nat.zero_lt_one, Int.reduceToNat, Int.reduceNeg, Int.reduceLE, Int.reduceLT, Int.reduceEq, decide_true, decide_false, Bool.and_true, Bool.true_and, Bool.and_false, Bool.false_and, Bool.or_true, Bool.true_or, Bool.or_false, Bool.false_or, Bool.not_true, Bool.not_false, beq_self_eq_true, reduceCtorEq, Int.le_refl, Nat.add_zero, and_self, and_true, true_and, or_true, true_or, if_true, if_false, Nat.le_refl, Bool.and_self, eq_self, Bool.not_false, Bool.not_true, d1, m1, d2, m2, m3, w1, w2, d3]
          exact ⟨_, rfl, rfl, rfl, rfl, rfl, rfl, rfl, rfl, rfl⟩
        · have d3 : decide ((4294967296 : Int) ≤ ((r + y1 : Nat) : Int)) = false := decide_eq_false (by omega)
          obtain ⟨F', g1, g2⟩ := ih (q - 1) (r + y1) (by omega) hq' (Nat.le_pred_of_lt hlt) (by omega) (by omega)
          refine ⟨F', ?_, g2⟩
          rw [← g1, b115_0_run]
          simp only [go_sem, ↓reduceIte, Nat.reduceAdd, Nat.reduceSub, Nat.reduceMul, Nat.reduceEqDiff, Nat.reduceLT, Nat.reduceShiftRight, Nat.reduceAnd, Nat.reduceBNe, Nat.reduceLeDiff, Nat.reduceBEq, Nat.testBit, Nat.zero_lt_one, Int.reduceToNat, Int.reduceNeg, Int.reduceLE, Int.reduceLT, Int.reduceEq, decide_true, decide_false, Bool.and_true, Bool.true_and, Bool.and_false, Bool.false_and, Bool.or_true, Bool.true_or, Bool.or_false, Bool.false_or, Bool.not_true, Bool.not_false, beq_self_eq_true, reduceCtorEq, Int.le_refl, Nat.add_zero, and_self, and_true, true_and, or_true, true_or, if_true, if_false, Nat.le_refl, Bool.and_self, eq_self, Bool.not_false, Bool.not_true, d1, m1, d2, m2, m3, w1, w2, d3]
      · have d2 : decide (((4294967296 * r + n : Nat) : Int) < ((q * y0 : Nat) : Int)) = false := decide_eq_false (by omega)
        have hle := quot_ge hv0 (fun h => hc (by have := hgt.2 h; rw [Nat.mul_comm r] at this; exact this))
        have hQq : (u * 4294967296 + n) / v = q := Nat.le_antisymm hQ hle
        rw [hQq, b115_0_run]
        simp only [go_sem, ↓reduceIte, Nat.reduceAdd, Nat.reduceSub, Nat.reduceMul, Nat.reduceEqDiff, Nat.reduceLT, Nat.reduceShiftRight, Nat.reduceAnd, Nat.reduceBNe, Nat.reduceLeDiff, Nat.reduceBEq, Nat.testBit, Nat.zero_lt_one, Int.reduceToNat, Int.reduceNeg, Int.reduceLE, Int.reduceLT, Int.reduceEq, decide_true, decide_false, Bool.and_true, Bool.true_and, Bool.and_false, Bool.false_and, Bool.or_true, Bool.true_or, Bool.or_false, Bool.false_or, Bool.not_true, Bool.not_false, beq_self_eq_true, reduceCtorEq, Int.le_refl, Nat.add_zero, and_self, and_true, true_and, or_true, true_or, if_true, if_false, Nat.le_refl, Bool.and_self, eq_self, Bool.not_false, Bool.not_true, d1, m1, m2, m3, d2]
        exact ⟨_, rfl, rfl, rfl, rfl, rfl, rfl, rfl, rfl, rfl⟩

theorem div115_1 {u v y1 y0 n s X Y : Nat} (hy : 0 < y1) (hv : v = y1 * 4294967296 + y0) (h0 : y0 < 4294967296) (h1 : 4294967296 ≤ 2 * y1) (hy1 : y1 < 4294967296) (hn : n < 4294967296) (hQb : (u * 4294967296 + n) / v < 4294967296) :
    ∀ (m q r : Nat), q ≤ m → q * y1 + r = u → (u * 4294967296 + n) / v ≤ q → q ≤ 4294967296 + 1 → r < 4294967296 →
    ∃ F', blockR 2 (loopR AA XX [2, 8, 9, 10, 14, 15, 16, 17, 18] 0 b115_1 (RUN AA XX b115_1 ⟨[(2, (AV.c (C.d (D.sc (Value.int IntKind.u64 ((v : Nat))))))), (8, (AV.c (C.d (D.sc (Value.int IntKind.u64 ((s : Nat))))))), (9, (AV.c (C.d (D.sc (Value.int IntKind.u64 ((y1 : Nat))))))), (10, (AV.c (C.d (D.sc (Value.int IntKind.u64 ((y0 : Nat))))))), (14, (AV.c (C.d (D.sc (Value.int IntKind.u64 ((n : Nat))))))), (15, (AV.c (C.d (D.sc (Value.int IntKind.u64 ((X : Nat))))))), (16, (AV.c (C.d (D.sc (Value.int IntKind.u64 ((r : Nat))))))), (17, (AV.c (C.d (D.sc (Value.int IntKind.u64 ((u : Nat))))))), (18, (AV.c (C.d (D.sc (Value.int IntKind.u64 ((q : Nat)))))))], [], 0⟩)) = some (.norm, ⟨F', [], 0⟩) ∧ F'.get 2 = (AV.c (C.d (D.sc (Value.int IntKind.u64 ((v : Nat)))))) ∧ F'.get 8 = (AV.c (C.d (D.sc (Value.int IntKind.u64 ((s : Nat)))))) ∧ F'.get 9 = (AV.c (C.d (D.sc (Value.int IntKind.u64 ((y1 : Nat)))))) ∧ F'.get 10 = (AV.c (C.d (D.sc (Value.int IntKind.u64 ((y0 : Nat)))))) ∧ F'.get 14 = (AV.c (C.d (D.sc (Value.int IntKind.u64 ((n : Nat)))))) ∧ F'.get 15 = (AV.c (C.d (D.sc (Value.int IntKind.u64 ((X : Nat)))))) ∧ F'.get 17 = (AV.c (C.d (D.sc (Value.int IntKind.u64 ((u : Nat)))))) ∧ F'.get 18 = (AV.c (C.d (D.sc (Value.int IntKind.u64 ((((u * 4294967296 + n) / v) : Nat)))))) := by
  have hB : B64 = 18446744073709551616 := rfl
  have hv0 : 0 < v := by omega
  intro m
  induction m with
  | zero =>
    intro q r hm hq hQ hqb hr
    obtain rfl : q = 0 := by omega
    have hQ0 : (u * 4294967296 + n) / v = 0 := Nat.le_zero.1 hQ
    have d1 : decide ((4294967296 : Int) ≤ ((0 : Nat) : Int)) = false := decide_eq_false (by omega)
    have m1 := wrap_mul (a := 0) (b := y0) (by rw [hB]; omega)
    have m2 : IntKind.u64.wrap (4294967296 * (r : Int)) = ((4294967296 * r : Nat) : Int) := wrap_mul (a := 4294967296) (b := r) (by rw [hB]; omega)
    have m3 := wrap_add (a := 4294967296 * r) (b := n) (by rw [hB]; omega)
    have d2 : decide (((4294967296 * r + n : Nat) : Int) < ((0 * y0 : Nat) : Int)) = false := decide_eq_false (by rw [Nat.zero_mul]; omega)
    rw [hQ0, b115_1_run]
    simp only [go_sem, ↓reduceIte, Nat.reduceAdd, Nat.reduceSub, Nat.reduceMul, Nat.reduceEqDiff, Nat.reduceLT, Nat.reduceShiftRight, Nat.reduceAnd, Nat.reduceBNe, Nat.reduceLeDiff, Nat.reduceBEq, Nat.testBit, Nat.zero_lt_one, Int.reduceToNat, Int.reduceNeg, Int.reduceLE, Int.reduceLT, Int.reduceEq, decide_true, decide_false, Bool.and_true, Bool.true_and, Bool.and_false, Bool.false_and, Bool.or_true, Bool.true_or, Bool.or_false, Bool.false_or, Bool.not_true, Bool.not_false, beq_self_eq_true, reduceCtorEq, Int.le_refl, Nat.add_zero, and_self, and_true, true_and, or_true, true_or, if_true, if_false, Nat.le_refl, Bool.and_self, eq_self, Bool.not_false, Bool.not_true, d1, m1, m2, m3, d2]
    exact ⟨_, rfl, rfl, rfl, rfl, rfl, rfl, rfl, rfl, rfl⟩
  | succ m ih =>
    intro q r hm hq hQ hqb hr
    have m2 : IntKind.u64.wrap (4294967296 * (r : Int)) = ((4294967296 * r : Nat) : Int) := wrap_mul (a := 4294967296) (b := r) (by rw [hB]; omega)
    have m3 := wrap_add (a := 4294967296 * r) (b := n) (by rw [hB]; omega)
    have hgt := guess_gt (N := u * 4294967296 + n) hv rfl hq
    by_cases hqβ : 4294967296 ≤ q
    · have d1 : decide ((4294967296 : Int) ≤ (q : Int)) = true := decide_eq_true (by omega)
      have hlt : (u * 4294967296 + n) / v < q := Nat.lt_of_lt_of_le hQb hqβ
      have hq1 : q - 1 + 1 = q := Nat.sub_add_cancel (Nat.lt_of_le_of_lt (Nat.zero_le _) hlt)
      have w1 : IntKind.u64.wrap ((q : Int) - 1) = ((q - 1 : Nat) : Int) := by
        rw [show (q : Int) - 1 = ((q - 1 : Nat) : Int) by omega]
        exact wrap_u64_lt (by rw [hB]; omega)
      have w2 := wrap_add (a := r) (b := y1) (by rw [hB]; omega)
      have hq' : (q - 1) * y1 + (r + y1) = u := by
        rw [← hq]
        conv => rhs; rw [← hq1, Nat.add_mul, Nat.one_mul]
        omega
      by_cases hbr : 4294967296 ≤ r + y1
      · have d3 : decide ((4294967296 : Int) ≤ ((r + y1 : Nat) : Int)) = true := decide_eq_true (by omega)
        have hle := quot_ge hv0 (guess_break (n := n) hv h0 hq' hbr (by omega))
        have hQq : (u * 4294967296 + n) / v = q - 1 := Nat.le_antisymm (Nat.le_pred_of_lt hlt) hle
        rw [hQq, b115_1_run]
        simp only [go_sem, ↓reduceIte, Nat.reduceAdd, Nat.reduceSub, Nat.reduceMul, Nat.reduceEqDiff, Nat.reduceLT, Nat.reduceShiftRight, Nat.reduceAnd, Nat.reduceBNe, Nat.reduceLeDiff, Nat.reduceBEq, Nat.testBit, Nat.zero_lt_one, Int.reduceToNat, Int.reduceNeg, Int.reduceLE, Int.reduceLT, Int.reduceEq, decide_true, decide_false, Bool.and_true, Bool.true_and, Bool.and_false, Bool.false_and, Bool.or_true, Bool.true_or, Bool.or_false, Bool.false_or, Bool.not_true, Bool.not_false, beq_self_eq_true, reduceCtorEq, Int.le_refl, Nat.add_zero, and_self, and_true, true_and, or_true, true_or, if_true, if_false, Nat.le_refl, Bool.and_self, eq_self, Bool.not_false, Bool.not_true, d1, m2, m3, w1, w2, d3]
        exact ⟨_, rfl, rfl, rfl, rfl, rfl, rfl, rfl, rfl, rfl⟩
      · have d3 : decide ((4294967296 : Int) ≤ ((r + y1 : Nat) : Int)) = false := decide_eq_false (by omega)
        obtain ⟨F', g1, g2⟩ := ih (q - 1) (r + y1) (by omega) hq' (Nat.le_pred_of_lt hlt) (by omega) (by omega)
        refine ⟨F', ?_, g2⟩
        rw [← g1, b115_1_run]
        simp only [go_sem, ↓reduceIte, Nat.reduceAdd, Nat.reduceSub, Nat.reduceMul, Nat.reduceEqDiff, Nat.reduceLT, Nat.reduceShiftRight, Nat.reduceAnd, Nat.reduceBNe, Nat.reduceLeDiff, Nat.reduceBEq, Nat.testBit, Nat.zero_lt_one, Int.reduceToNat, Int.reduceNeg, Int.reduceLE, Int.reduceLT, Int.reduceEq, decide_true, decide_false, Bool.and_true, Bool.true_and, Bool.and_false, Bool.false_and, Bool.or_true, Bool.true_or, Bool.or_false, Bool.false_or, Bool.not_true, Bool.not_false, beq_self_eq_true, reduceCtorEq, Int.le_refl, Nat.add_zero, and_self, and_true, true_and, or_true, true_or, if_true, if_false, Nat.le_refl, Bool.and_self, eq_self, Bool.not_false, Bool.not_true, d1, m2, m3, w1, w2, d3]
    · have d1 : decide ((4294967296 : Int) ≤ (q : Int)) = false := decide_eq_false (by omega)
      have hqy : q * y0 ≤ 4294967295 * 4294967295 := Nat.mul_le_mul (by omega) (by omega)
      have m1 := wrap_mul (a := q) (b := y0) (by rw [hB]; omega)
      by_cases hc : 4294967296 * r + n < q * y0
      · have d2 : decide (((4294967296 * r + n : Nat) : Int) < ((q * y0 : Nat) : Int)) = true := decide_eq_true (by omega)
        have hlt : (u * 4294967296 + n) / v < q := quot_le hv0 (hgt.1 (by rw [Nat.mul_comm r]; exact hc))
        have hq1 : q - 1 + 1 = q := Nat.sub_add_cancel (Nat.lt_of_le_of_lt (Nat.zero_le _) hlt)
        have w1 : IntKind.u64.wrap ((q : Int) - 1) = ((q - 1 : Nat) : Int) := by
          rw [show (q : Int) - 1 = ((q - 1 : Nat) : Int) by omega]
          exact wrap_u64_lt (by rw [hB]; omega)
        have w2 := wrap_add (a := r) (b := y1) (by rw [hB]; omega)
        have hq' : (q - 1) * y1 + (r + y1) = u := by
          rw [← hq]
          conv => rhs; rw [← hq1, Nat.add_mul, Nat.one_mul]
          omega
        by_cases hbr : 4294967296 ≤ r + y1
        · have d3 : decide ((4294967296 : Int) ≤ ((r + y1 : Nat) : Int)) = true := decide_eq_true (by omega)
          have hle := quot_ge hv0 (guess_break (n := n) hv h0 hq' hbr (by omega))
          have hQq : (u * 4294967296 + n) / v = q - 1 := Nat.le_antisymm (Nat.le_pred_of_lt hlt) hle
          rw [hQq, b115_1_run]
          simp only [go_sem, ↓reduceIte, Nat.reduceAdd, Nat.reduceSub, Nat.reduceMul, Nat.reduceEqDiff, Nat.reduceLT, Nat.reduceShiftRight, Nat.reduceAnd, Nat.reduceBNe, Nat.reduceLeDiff, Nat.reduceBEq, Nat.testBit, Nat.zero_lt_one, Int.reduceToNat, Int.reduceNeg, Int.reduceLE, Int.reduceLT, Int.reduceEq, decide_true, decide_false, Bool.and_true, Bool.true_and, Bool.and_false, Bool.false_and, Bool.or_true, Bool.true_or, Bool.or_false, Bool.false_or, Bool.not_true, Bool.not_false, beq_self_eq_true, reduceCtorEq, Int.le_refl, Nat.add_zero, and_self, and_true, true_and, or_true, true_or, if_true, if_false, Nat.le_refl, Bool.and_self, eq_self, Bool.not_false, Bool.not_true, d1, m1, d2, m2, m3, w1, w2, d3]
          exact ⟨_, rfl, rfl, rfl, rfl, rfl, rfl, rfl, rfl, rfl⟩
        · have d3 : decide ((4294967296 : Int) ≤ ((r + y1 : Nat) : Int)) = false := decide_eq_false (by omega)
          obtain ⟨F', g1, g2⟩ := ih (q - 1) (r + y1) (by omega) hq' (Nat.le_pred_of_lt hlt) (by omega) (by omega)
          refine ⟨F', ?_, g2⟩
          rw [← g1, b115_1_run]
          simp only [go_sem, ↓reduceIte, Nat.reduceAdd, Nat.reduceSub, Nat.reduceMul, Nat.reduceEqDiff, Nat.reduceLT, Nat.reduceShiftRight, Nat.reduceAnd, Nat.reduceBNe, Nat.reduceLeDiff, Nat.reduceBEq, Nat.testBit, Nat.zero_lt_one, Int.reduceToNat, Int.reduceNeg, Int.reduceLE, Int.reduceLT, Int.reduceEq, decide_true, decide_false, Bool.and_true, Bool.true_and, Bool.and_false, Bool.false_and, Bool.or_true, Bool.true_or, Bool.or_false, Bool.false_or, Bool.not_true, Bool.not_false, beq_self_eq_true, reduceCtorEq, Int.le_refl, Nat.add_zero, and_self, and_true, true_and, or_true, true_or, if_true, if_false, Nat.le_refl, Bool.and_self, eq_self, Bool.not_false, Bool.not_true, d1, m1, d2, m2, m3, w1, w2, d3]
      · have d2 : decide (((4294967296 * r + n : Nat) : Int) < ((q * y0 : Nat) : Int)) = false := decide_eq_false (by omega)
        have hle := quot_ge hv0 (fun h => hc (by have := hgt.2 h; rw [Nat.mul_comm r] at this; exact this))
        have hQq : (u * 4294967296 + n) / v = q := Nat.le_antisymm hQ hle
        rw [hQq, b115_1_run]
        simp only [go_sem, ↓reduceIte, Nat.reduceAdd, Nat.reduceSub, Nat.reduceMul, Nat.reduceEqDiff, Nat.reduceLT, Nat.reduceShiftRight, Nat.reduceAnd, Nat.reduceBNe, Nat.reduceLeDiff, Nat.reduceBEq, Nat.testBit, Nat.zero_lt_one, Int.reduceToNat, Int.reduceNeg, Int.reduceLE, Int.reduceLT, Int.reduceEq, decide_true, decide_false, Bool.and_true, Bool.true_and, Bool.and_false, Bool.false_and, Bool.or_true, Bool.true_or, Bool.or_false, Bool.false_or, Bool.not_true, Bool.not_false, beq_self_eq_true, reduceCtorEq, Int.le_refl, Nat.add_zero, and_self, and_true, true_and, or_true, true_or, if_true, if_false, Nat.le_refl, Bool.and_self, eq_self, Bool.not_false, Bool.not_true, d1, m1, m2, m3, d2]
        exact ⟨_, rfl, rfl, rfl, rfl, rfl, rfl, rfl, rfl, rfl⟩

end Go.Proofs.Ytpanbfainilmpaa.Ev.N
end
section
/- A double word divided by a word: the whole. -/
set_option linter.unusedVariables false
set_option linter.unusedSimpArgs false
set_option maxRecDepth 100000
set_option maxHeartbeats 4000000
namespace Go.Proofs.Ytpanbfainilmpaa.Ev.N
open Go Go.Proofs.Ytpanbfainilmpaa.Ev

theorem two_steps {U u v n1 n0 β : Nat} (hv : 0 < v) (hU : U = (u * β + n1) * β + n0) : U / v = (u * β + n1) / v * β + ((u * β + n1) % v * β + n0) / v ∧ U % v = ((u * β + n1) % v * β + n0) % v := by
  have e : U = v * ((u * β + n1) / v * β) + ((u * β + n1) % v * β + n0) := by
    have := Nat.div_add_mod (u * β + n1) v
    rw [hU]
    conv => lhs; rw [← this]
    rw [Nat.add_mul, Nat.mul_assoc, Nat.add_assoc]
  constructor
  · rw [e, Nat.mul_add_div hv]
  · rw [e, Nat.mul_add_mod]
theorem norm_bits {y : Nat} (hy : 0 < y) (hyB : y < B64) : nbits y ≤ 64 ∧ 0 < nbits y ∧ y * 2 ^ (64 - nbits y) < B64 ∧ 9223372036854775808 ≤ y * 2 ^ (64 - nbits y) := by
  have h1 := nbits_64 hyB
  have h2 : 0 < nbits y := by unfold nbits; rw [if_neg (by omega)]; omega
  have h3 : 2 ^ (nbits y - 1) ≤ y := by
    have : nbits y = y.log2 + 1 := if_neg (by omega)
    rw [this, Nat.add_sub_cancel]
    exact Nat.log2_self_le (by omega)
  refine ⟨h1, h2, ?_, ?_⟩
  · have := Nat.mul_lt_mul_of_pos_right (nbits_lt y) (show 0 < 2 ^ (64 - nbits y) from Nat.pow_pos (by decide))
    rw [← Nat.pow_add, show nbits y + (64 - nbits y) = 64 by omega] at this
    exact this
  · have := Nat.mul_le_mul_right (2 ^ (64 - nbits y)) h3
    rw [← Nat.pow_add, show nbits y - 1 + (64 - nbits y) = 63 by omega] at this
    exact this
theorem wrap_round {x n W r : Nat} (h : x * 4294967296 + n = W + r) (hr : r < B64) : IntKind.u64.wrap (IntKind.u64.wrap (IntKind.u64.wrap ((x : Int) * 4294967296) + (n : Int)) - IntKind.u64.wrap (W : Int)) = (r : Int) := by
  show (((((x : Int) * 4294967296) % 18446744073709551616 + (n : Int)) % 18446744073709551616 - (W : Int) % 18446744073709551616) % 18446744073709551616) = (r : Int)
  rw [show B64 = 18446744073709551616 from rfl] at hr
  omega
theorem Div115 {hi lo y : Nat} (hy : 0 < y) (hh : hi < y) (hlo : lo < B64) (hyB : y < B64) : (KL AA XX).call 115 [(PV.one (D.sc (Value.int IntKind.u64 ((hi : Nat))))), (PV.one (D.sc (Value.int IntKind.u64 ((lo : Nat))))), (PV.one (D.sc (Value.int IntKind.u64 ((y : Nat)))))] = some [(PV.one (D.sc (Value.int IntKind.u64 (((hi * B64 + lo) / y : Nat))))), (PV.one (D.sc (Value.int IntKind.u64 (((hi * B64 + lo) % y : Nat)))))] := by
  have hB : B64 = 18446744073709551616 := rfl
  have d1 : decide (((y : Nat) : Int) = 0) = false := decide_eq_false (by omega)
  have d2 : decide (((y : Nat) : Int) ≤ ((hi : Nat) : Int)) = false := decide_eq_false (by omega)
  rw [c115]
  by_cases h0 : hi = 0
  · subst h0
    have d3 : (((y : Nat) : Int) = 0) = False := eq_false (by omega)
    have e1 : ((lo : Int)).tdiv (y : Int) = ((lo / y : Nat) : Int) := by rw [Int.tdiv_eq_ediv_of_nonneg (by omega), Int.natCast_ediv]
    have e2 : ((lo : Int)).tmod (y : Int) = ((lo % y : Nat) : Int) := by rw [Int.tmod_eq_emod_of_nonneg (by omega), Int.natCast_emod]
    have w : IntKind.u64.wrap (((lo / y : Nat) : Int)) = ((lo / y : Nat) : Int) := wrap_u64_lt (Nat.lt_of_le_of_lt (Nat.div_le_self _ _) hlo)
    have d2' : decide (((y : Nat) : Int) ≤ 0) = false := decide_eq_false (by omega)
    rw [Nat.zero_mul, Nat.zero_add]
    simp only [go_sem, ↓reduceIte, Nat.reduceAdd, Nat.reduceSub, Nat.reduceMul, Nat.reduceEqDiff, Nat.reduceLT, Nat.reduceShiftRight, Nat.reduceAnd, Nat.reduceBNe, Nat.reduceLeDiff, Nat.reduceBEq, Nat.testBit, Nat.zero_lt_one, Int.reduceToNat, Int.reduceNeg, Int.reduceLE, Int.reduceLT, Int.reduceEq, decide_true, decide_false, Bool.and_true, Bool.true_and, Bool.and_false, Bool.false_and, Bool.or_true, Bool.true_or, Bool.or_false, Bool.false_or, Bool.not_true, Bool.not_false, beq_self_eq_true, reduceCtorEq, Int.le_refl, Nat.add_zero, and_self, and_true, true_and, or_true, true_or, if_true, if_false, Nat.le_refl, Bool.and_self, eq_self, Bool.not_false, Bool.not_true, show ((0 : Nat) : Int) = 0 from rfl, d1, d2', d3, e1, e2, w]
  · have d3 : decide (((hi : Nat) : Int) = 0) = false := decide_eq_false (by omega)
    obtain ⟨hk1, hk2, hv1, hv2⟩ := norm_bits hy hyB
    have l := Lead116 hyB
    obtain ⟨s, hs⟩ : ∃ s, 64 - nbits y = s := ⟨_, rfl⟩
    rw [hs] at hv1 hv2 l
    have hs64 : s < 64 := by omega
    obtain ⟨v, hv⟩ : ∃ v, y * 2 ^ s = v := ⟨_, rfl⟩
    rw [hv] at hv1 hv2
    have hp : 0 < 2 ^ s := Nat.pow_pos (by decide)
    have hv0 : 0 < v := by omega
    -- the double word, moved up
    have hlo2 : lo * 2 ^ s / 18446744073709551616 = lo / 2 ^ (64 - s) := by
      rw [show 18446744073709551616 = 2 ^ (64 - s) * 2 ^ s by rw [← Nat.pow_add, show 64 - s + s = 64 by omega], Nat.mul_div_mul_right _ _ hp]
    have hsplit := Nat.div_add_mod (lo * 2 ^ s) 18446744073709551616
    rw [hlo2] at hsplit
    obtain ⟨n10, hn10⟩ : ∃ n, lo * 2 ^ s % 18446744073709551616 = n := ⟨_, rfl⟩
    have hn10l : n10 < 18446744073709551616 := by rw [← hn10]; exact Nat.mod_lt _ (by decide)
    obtain ⟨top, htop⟩ : ∃ t, lo / 2 ^ (64 - s) = t := ⟨_, rfl⟩
    rw [hn10, htop] at hsplit
    have htl : top < 2 ^ s := by
      rw [← htop, Nat.div_lt_iff_lt_mul (Nat.pow_pos (by decide)), ← Nat.pow_add, show s + (64 - s) = 64 by omega]
      exact hlo
    obtain ⟨u, hu⟩ : ∃ u, hi * 2 ^ s + top = u := ⟨_, rfl⟩
    have hU : (hi * B64 + lo) * 2 ^ s = u * 18446744073709551616 + n10 := by
      rw [Nat.add_mul, ← hsplit, ← hu, hB, Nat.add_mul, Nat.mul_assoc, Nat.mul_comm _ (2 ^ s), ← Nat.mul_assoc]
      omega
    have huv : u < v := by
      rw [← hu, ← hv]
      have : (hi + 1) * 2 ^ s ≤ y * 2 ^ s := Nat.mul_le_mul_right _ hh
      rw [Nat.add_mul, Nat.one_mul] at this
      omega
    have hyd := Nat.div_add_mod v 4294967296
    have hnd := Nat.div_add_mod n10 4294967296
    have hy0 : v % 4294967296 < 4294967296 := Nat.mod_lt _ (by decide)
    have hn0 : n10 % 4294967296 < 4294967296 := Nat.mod_lt _ (by decide)
    have hy1 : 0 < v / 4294967296 := by omega
    have hy1b : 4294967296 ≤ 2 * (v / 4294967296) := by omega
    have hy1l : v / 4294967296 < 4294967296 := by omega
    have hn1 : n10 / 4294967296 < 4294967296 := by omega
    have hvd : v = v / 4294967296 * 4294967296 + v % 4294967296 := by omega
    obtain ⟨g1, g2, g3⟩ := guess_first (u := u) (n := n10 / 4294967296) hy1 hvd hy0 hy1b huv hn1
    have r1 := Nat.mod_lt (u * 4294967296 + n10 / 4294967296) hv0
    obtain ⟨k1, k2, k3⟩ := guess_first (u := (u * 4294967296 + n10 / 4294967296) % v) (n := n10 % 4294967296) hy1 hvd hy0 hy1b r1 hn0
    obtain ⟨t1, t2⟩ := two_steps (U := (hi * B64 + lo) * 2 ^ s) (u := u) (v := v) (n1 := n10 / 4294967296) (n0 := n10 % 4294967296) (β := 4294967296) hv0 (by rw [hU]; omega)
    have r2 := Nat.mod_lt ((u * 4294967296 + n10 / 4294967296) % v * 4294967296 + n10 % 4294967296) hv0
    rw [← hv, Nat.mul_div_mul_right _ _ hp, hv] at t1
    rw [← hv, Nat.mul_mod_mul_right, hv] at t2
    have hq := hyd
    obtain ⟨y1, hy1e⟩ : ∃ x, v / 4294967296 = x := ⟨_, rfl⟩
    obtain ⟨y0, hy0e⟩ : ∃ x, v % 4294967296 = x := ⟨_, rfl⟩
    obtain ⟨n1, hn1e⟩ : ∃ x, n10 / 4294967296 = x := ⟨_, rfl⟩
    obtain ⟨n0, hn0e⟩ : ∃ x, n10 % 4294967296 = x := ⟨_, rfl⟩
    rw [hy1e, hy0e] at hvd
    rw [hy1e] at hy1 hy1b hy1l g1 g2 k1 k2
    rw [hy0e] at hy0
    rw [hn1e] at hn1 g2 g3 k1 k2 k3 r1 r2 t1 t2
    rw [hn0e] at hn0 k2 k3 r2 t1 t2
    have dq1 := Nat.div_add_mod (u * 4294967296 + n1) v
    have rd := Nat.mod_lt u hy1
    have L0 := fun (X : Nat) => div115_0 (s := s) (X := X) (Y := 0) hy1 hvd hy0 hy1b hy1l hn1 g3 (u / y1) (u / y1) (u % y1) (Nat.le_refl _) (by rw [Nat.mul_comm]; exact Nat.div_add_mod u y1) g2 g1 (by omega)
    obtain ⟨Q1, hQ1⟩ : ∃ q, (u * 4294967296 + n1) / v = q := ⟨_, rfl⟩
    obtain ⟨w2, hw2⟩ : ∃ q, (u * 4294967296 + n1) % v = q := ⟨_, rfl⟩
    rw [hQ1, hw2] at dq1
    rw [hQ1] at L0 t1 g3
    rw [hw2] at k1 k2 k3 r1 r2 t1 t2
    have rd2 := Nat.mod_lt w2 hy1
    have dq2 := Nat.div_add_mod (w2 * 4294967296 + n0) v
    have L1 := div115_1 (s := s) (X := Q1) (Y := 0) hy1 hvd hy0 hy1b hy1l hn0 k3 (w2 / y1) (w2 / y1) (w2 % y1) (Nat.le_refl _) (by rw [Nat.mul_comm]; exact Nat.div_add_mod w2 y1) k2 k1 (by omega)
    obtain ⟨Q0, hQ0⟩ : ∃ q, (w2 * 4294967296 + n0) / v = q := ⟨_, rfl⟩
    obtain ⟨w3, hw3⟩ : ∃ q, (w2 * 4294967296 + n0) % v = q := ⟨_, rfl⟩
    rw [hQ0, hw3] at dq2
    rw [hQ0] at L1 t1 k3
    rw [hw3] at t2 r2
    obtain ⟨F0, a0, a1, a2, a3, a4, a5, a6, a7, a8⟩ := L0 n0
    obtain ⟨F1, b0, b1, b2, b3, b4, b5, b6, b7, b8⟩ := L1
    have hres : w3 / 2 ^ s = (hi * B64 + lo) % y := by rw [← t2, Nat.mul_div_cancel _ hp]
    -- words
    have ws : IntKind.u64.wrap ((s : Nat) : Int) = ((s : Nat) : Int) := wrap_u64_lt (Nat.lt_trans hs64 (by decide))
    have q0 : ((0 : Int) ≤ ((s : Nat) : Int)) = True := eq_true (by omega)
    have m64 := min64 hs64
    have wv : IntKind.u64.wrap ((y : Int) * 2 ^ s) = ((v : Nat) : Int) := by
      rw [show (y : Int) * 2 ^ s = ((y * 2 ^ s : Nat) : Int) by norm_cast, hv]; exact wrap_u64_lt hv1
    have whi : IntKind.u64.wrap ((hi : Int) * 2 ^ s) = ((2 ^ s * hi : Nat) : Int) := by
      rw [show (hi : Int) * 2 ^ s = ((2 ^ s * hi : Nat) : Int) by rw [Nat.mul_comm]; norm_cast]
      exact wrap_u64_lt (by rw [Nat.mul_comm]; omega)
    have w64s : IntKind.u64.wrap (64 - ((s : Nat) : Int)) = ((64 - s : Nat) : Int) := by
      rw [show (64 : Int) - ((s : Nat) : Int) = ((64 - s : Nat) : Int) by omega]
      exact wrap_u64_lt (by rw [hB]; omega)
    have q0' : ((0 : Int) ≤ ((64 - s : Nat) : Int)) = True := eq_true (by omega)
    have m64' : min (64 - s) 64 = 64 - s := by omega
    have wor : borI .u64 ((2 ^ s * hi : Nat) : Int) ((top : Nat) : Int) = ((u : Nat) : Int) := by
      rw [borI_u (by rw [Nat.mul_comm]; omega) (by omega), or_low s htl, Nat.mul_comm, hu]
    have wlo : IntKind.u64.wrap ((lo : Int) * 2 ^ s) = ((n10 : Nat) : Int) := by
      rw [show (lo : Int) * 2 ^ s = ((lo * 2 ^ s : Nat) : Int) by norm_cast, wrap_u64, hB, hn10]
    have dz : (((y1 : Nat) : Int) = 0) = False := eq_false (by omega)
    have eq1 : ((u : Int)).tdiv (y1 : Int) = ((u / y1 : Nat) : Int) := by rw [Int.tdiv_eq_ediv_of_nonneg (by omega), Int.natCast_ediv]
    have weq1 : IntKind.u64.wrap (((u / y1 : Nat) : Int)) = ((u / y1 : Nat) : Int) := wrap_u64_lt (by rw [hB]; omega)
    have hud := Nat.div_add_mod u y1
    have wm1 : IntKind.u64.wrap (((u / y1 : Nat) : Int) * (y1 : Int)) = ((u / y1 * y1 : Nat) : Int) := wrap_mul (by rw [Nat.mul_comm]; omega)
    have wr1 : IntKind.u64.wrap ((u : Int) - ((u / y1 * y1 : Nat) : Int)) = ((u % y1 : Nat) : Int) := by
      rw [show (u : Int) - ((u / y1 * y1 : Nat) : Int) = ((u % y1 : Nat) : Int) by rw [Nat.mul_comm]; omega]
      exact wrap_u64_lt (by rw [hB]; omega)
    have eq2 : ((w2 : Int)).tdiv (y1 : Int) = ((w2 / y1 : Nat) : Int) := by rw [Int.tdiv_eq_ediv_of_nonneg (by omega), Int.natCast_ediv]
    have weq2 : IntKind.u64.wrap (((w2 / y1 : Nat) : Int)) = ((w2 / y1 : Nat) : Int) := wrap_u64_lt (by rw [hB]; omega)
    have hwd := Nat.div_add_mod w2 y1
    have wm2 : IntKind.u64.wrap (((w2 / y1 : Nat) : Int) * (y1 : Int)) = ((w2 / y1 * y1 : Nat) : Int) := wrap_mul (by rw [Nat.mul_comm]; omega)
    have wr2 : IntKind.u64.wrap ((w2 : Int) - ((w2 / y1 * y1 : Nat) : Int)) = ((w2 % y1 : Nat) : Int) := by
      rw [show (w2 : Int) - ((w2 / y1 * y1 : Nat) : Int) = ((w2 % y1 : Nat) : Int) by rw [Nat.mul_comm]; omega]
      exact wrap_u64_lt (by rw [hB]; omega)
    have f1 := wrap_round (x := u) (n := n1) (W := Q1 * v) (r := w2) (by rw [Nat.mul_comm Q1]; omega) (by omega)
    have f2 := wrap_round (x := w2) (n := n0) (W := Q0 * v) (r := w3) (by rw [Nat.mul_comm Q0]; omega) (by omega)
    rw [Int.natCast_mul] at f1 f2
    have f3 : IntKind.u64.wrap (IntKind.u64.wrap ((Q1 : Int) * 4294967296) + (Q0 : Int)) = ((Q1 * 4294967296 + Q0 : Nat) : Int) := by
      rw [show (Q1 : Int) * 4294967296 = ((Q1 * 4294967296 : Nat) : Int) by omega, wrap_u64_lt (by rw [hB]; omega)]
      exact wrap_add (by rw [hB]; omega)
    have hsh : ∀ z : Nat, z / 2 ^ 32 = z / 4294967296 := fun z => rfl
    rw [t1]
    simp only [go_sem, ↓reduceIte, Nat.reduceAdd, Nat.reduceSub, Nat.reduceMul, Nat.reduceEqDiff, Nat.reduceLT, Nat.reduceShiftRight, Nat.reduceAnd, Nat.reduceBNe, Nat.reduceLeDiff, Nat.reduceBEq, Nat.testBit, Nat.zero_lt_one, Int.reduceToNat, Int.reduceNeg, Int.reduceLE, Int.reduceLT, Int.reduceEq, decide_true, decide_false, Bool.and_true, Bool.true_and, Bool.and_false, Bool.false_and, Bool.or_true, Bool.true_or, Bool.or_false, Bool.false_or, Bool.not_true, Bool.not_false, beq_self_eq_true, reduceCtorEq, Int.le_refl, Nat.add_zero, and_self, and_true, true_and, or_true, true_or, if_true, if_false, Nat.le_refl, Bool.and_self, eq_self, Bool.not_false, Bool.not_true, d1, d2, d3, l, ws, q0, q0', m64, m64', min32, Int.toNat_natCast, wv, whi, w64s, shr_n, hsh, htop, bin_orI, wor, wlo, bin_andI, bandI_m32, hy1e, hy0e, hn1e, hn0e, dz, eq1, weq1, wm1, wr1]
    rw [a0]
    simp only [go_sem, ↓reduceIte, Nat.reduceAdd, Nat.reduceSub, Nat.reduceMul, Nat.reduceEqDiff, Nat.reduceLT, Nat.reduceShiftRight, Nat.reduceAnd, Nat.reduceBNe, Nat.reduceLeDiff, Nat.reduceBEq, Nat.testBit, Nat.zero_lt_one, Int.reduceToNat, Int.reduceNeg, Int.reduceLE, Int.reduceLT, Int.reduceEq, decide_true, decide_false, Bool.and_true, Bool.true_and, Bool.and_false, Bool.false_and, Bool.or_true, Bool.true_or, Bool.or_false, Bool.false_or, Bool.not_true, Bool.not_false, beq_self_eq_true, reduceCtorEq, Int.le_refl, Nat.add_zero, and_self, and_true, true_and, or_true, true_or, if_true, if_false, Nat.le_refl, Bool.and_self, eq_self, Bool.not_false, Bool.not_true, a1, a2, a3, a4, a5, a6, a7, a8, f1, dz, eq2, weq2, wm2, wr2]
    rw [b0]
    simp only [go_sem, ↓reduceIte, Nat.reduceAdd, Nat.reduceSub, Nat.reduceMul, Nat.reduceEqDiff, Nat.reduceLT, Nat.reduceShiftRight, Nat.reduceAnd, Nat.reduceBNe, Nat.reduceLeDiff, Nat.reduceBEq, Nat.testBit, Nat.zero_lt_one, Int.reduceToNat, Int.reduceNeg, Int.reduceLE, Int.reduceLT, Int.reduceEq, decide_true, decide_false, Bool.and_true, Bool.true_and, Bool.and_false, Bool.false_and, Bool.or_true, Bool.true_or, Bool.or_false, Bool.false_or, Bool.not_true, Bool.not_false, beq_self_eq_true, reduceCtorEq, Int.le_refl, Nat.add_zero, and_self, and_true, true_and, or_true, true_or, if_true, if_false, Nat.le_refl, Bool.and_self, eq_self, Bool.not_false, Bool.not_true, b1, b2, b3, b4, b5, b6, b7, b8, f2, f3, q0, m64, Int.toNat_natCast, shr_n, hres]
end Go.Proofs.Ytpanbfainilmpaa.Ev.N
end
section
/- Calls in the caller's memory: words; a number moved up. -/
set_option linter.unusedVariables false
set_option linter.unusedSimpArgs false
set_option maxRecDepth 100000
set_option maxHeartbeats 4000000
namespace Go.Proofs.Ytpanbfainilmpaa.Ev.N
open Go Go.Proofs.Ytpanbfainilmpaa.Ev

def icallQ (nx : Nat) (rs : List Nat) : Option (AV × Hp × Nat) → Option Re
  | some q => if ((q.1.ids ++ q.2.1.flatMap fun e => e.2.ids).all fun i => rs.contains i || decide (nx ≤ i)) = true then
      some ⟨q.1, rs.map (fun i => (i, q.2.1.get i)) ++ (q.2.1.filter fun e => nx ≤ e.1).map (fun e => (e.1, q.2.1.get e.1)), rs, q.2.2⟩ else none
  | none => none
theorem evOp_icall (K : Or) (dr : Bool) (f : Fr) (h : Hp) (nx g : Nat) (args : List AO) : evOp K dr f h nx (.icall g args) = icallQ nx (h.reach ((args.map (AO.ev f)).flatMap AV.ids)) (K.icall g (args.map (AO.ev f)) (h.cut (h.reach ((args.map (AO.ev f)).flatMap AV.ids))) nx) := by
  show doICall K h nx g (args.map (AO.ev f)) = _
  unfold doICall
  dsimp only
  generalize K.icall g (args.map (AO.ev f)) (h.cut (h.reach ((args.map (AO.ev f)).flatMap AV.ids))) nx = o
  cases o <;> rfl
theorem icallQ_some (nx : Nat) (rs : List Nat) (v : AV) (h : Hp) (m : Nat) : icallQ nx rs (some (v, h, m)) = if ((v.ids ++ h.flatMap fun e => e.2.ids).all fun i => rs.contains i || decide (nx ≤ i)) = true then
      some ⟨v, rs.map (fun i => (i, h.get i)) ++ (h.filter fun e => nx ≤ e.1).map (fun e => (e.1, h.get e.1)), rs, m⟩ else none := rfl
theorem ids_w (L : List Nat) : (L.map w64).flatMap C.ids = [] := by
  rw [List.flatMap_map, List.flatMap_eq_nil_iff]
  intro x _; rfl
theorem reach_eq (h : Hp) (ids : List Nat) : Hp.reach h ids = ids ++ ids.flatMap fun i => match h.get i with | some l => l.ids | none => [] := rfl
theorem cut_eq (h : Hp) (ids : List Nat) : Hp.cut h ids = h.filter fun e => ids.contains e.1 := rfl

theorem shl_or {x s : Nat} (hx : x < B64) (hs : s < 64) : IntKind.u64.wrap ((x : Int) * 2 ^ s) = ((x * 2 ^ s % B64 : Nat) : Int) := by
  rw [show (x : Int) * 2 ^ s = ((x * 2 ^ s : Nat) : Int) by norm_cast, wrap_u64]
/-- One limb moved up: what stays, what goes over. -/
theorem shift_step {x c s : Nat} (hx : x < B64) (hs : s < 64) (hc : c < 2 ^ s) : (c ||| x * 2 ^ s % B64) = (x * 2 ^ s + c) % B64 ∧ x / 2 / 2 ^ (63 - s) = (x * 2 ^ s + c) / B64 ∧ x / 2 / 2 ^ (63 - s) < 2 ^ s := by
  have hp : 0 < 2 ^ s := Nat.pow_pos (by decide)
  have e1 : B64 = 2 ^ s * 2 ^ (64 - s) := by rw [← Nat.pow_add, show s + (64 - s) = 64 by omega]; rfl
  have e2 : x / 2 / 2 ^ (63 - s) = x / 2 ^ (64 - s) := by
    rw [Nat.div_div_eq_div_mul, show 2 * 2 ^ (63 - s) = 2 ^ (64 - s) by rw [← Nat.pow_succ']; congr 1; omega]
  have e3 : x * 2 ^ s % B64 = 2 ^ s * (x % 2 ^ (64 - s)) := by rw [e1, Nat.mul_comm x, Nat.mul_mod_mul_left]
  have hm := Nat.mod_lt x (Nat.pow_pos (n := 64 - s) (show 0 < 2 by decide))
  have hd := Nat.div_add_mod x (2 ^ (64 - s))
  have hsum : x * 2 ^ s + c = B64 * (x / 2 ^ (64 - s)) + (2 ^ s * (x % 2 ^ (64 - s)) + c) := by
    conv => lhs; rw [← hd, Nat.add_mul, Nat.mul_right_comm, Nat.mul_comm (2 ^ (64 - s)) (2 ^ s), ← e1]
    rw [Nat.mul_comm (x % 2 ^ (64 - s))]; omega
  have hlt : 2 ^ s * (x % 2 ^ (64 - s)) + c < B64 := by
    rw [e1]
    have : 2 ^ s * (x % 2 ^ (64 - s) + 1) ≤ 2 ^ s * 2 ^ (64 - s) := Nat.mul_le_mul_left _ hm
    rw [Nat.mul_add] at this; omega
  refine ⟨?_, ?_, ?_⟩
  · rw [e3, Nat.or_comm, or_low s hc, hsum, Nat.mul_add_mod, Nat.mod_eq_of_lt hlt]
  · rw [e2, hsum, Nat.mul_add_div B_pos, Nat.div_eq_of_lt hlt, Nat.add_zero]
  · rw [e2, Nat.div_lt_iff_lt_mul (Nat.pow_pos (by decide)), ← Nat.pow_add, show s + (64 - s) = 64 by omega]
    exact hx

/-- The carry out of the lowest k limbs, moved up. -/
def scry (A s k : Nat) : Nat := (A % B64 ^ k * 2 ^ s) / B64 ^ k
theorem scry_lt (A s k : Nat) : scry A s k < 2 ^ s := by
  unfold scry
  rw [Nat.div_lt_iff_lt_mul (Bp_pos k), Nat.mul_comm]
  exact Nat.mul_lt_mul_of_pos_left (Nat.mod_lt _ (Bp_pos k)) (Nat.pow_pos (by decide))
theorem scry_sum (A s k : Nat) : (A % B64 ^ (k + 1) * 2 ^ s) / B64 ^ k = A / B64 ^ k % B64 * 2 ^ s + scry A s k := by
  rw [Nat.mod_pow_succ, Nat.add_mul, Nat.mul_assoc, Nat.add_mul_div_left _ _ (Bp_pos k), Nat.add_comm]; rfl
theorem scry_succ (A s k : Nat) : scry A s (k + 1) = (A / B64 ^ k % B64 * 2 ^ s + scry A s k) / B64 := by
  rw [← scry_sum, Nat.div_div_eq_div_mul, ← Nat.pow_succ]; rfl
theorem shift_digit (A s k : Nat) : (A * 2 ^ s) / B64 ^ k % B64 = (A / B64 ^ k % B64 * 2 ^ s + scry A s k) % B64 := by
  rw [← scry_sum]
  have h1 : A * 2 ^ s = A % B64 ^ (k + 1) * 2 ^ s + B64 ^ k * (B64 * (A / B64 ^ (k + 1) * 2 ^ s)) := by
    conv => lhs; rw [← Nat.mod_add_div A (B64 ^ (k + 1)), Nat.add_mul]
    rw [← Nat.mul_assoc, ← Nat.pow_succ, Nat.succ_eq_add_one, Nat.mul_assoc]
  conv => lhs; rw [h1]
  rw [Nat.add_mul_div_left _ _ (Bp_pos k), Nat.add_mul_mod_self_left]
/-- The lowest k limbs of what is moved up, the carry, noughts. -/
def shl (N A s k : Nat) : List Nat := digs k (A * 2 ^ s) ++ scry A s k :: List.replicate (N - k - 1) 0
end Go.Proofs.Ytpanbfainilmpaa.Ev.N
end
section
/- A number moved up by fewer than 64 bits, in the caller's memory. -/
set_option linter.unusedVariables false
set_option linter.unusedSimpArgs false
set_option maxRecDepth 100000
set_option maxHeartbeats 4000000
namespace Go.Proofs.Ytpanbfainilmpaa.Ev.N
open Go Go.Proofs.Ytpanbfainilmpaa.Ev

theorem up_step {a : List Nat} (ha : Limbs a) {s i : Nat} (hs : s < 64) (hi : i < a.length) :
    (digs (a.length + 1) (val a % B64 ^ i * 2 ^ s))[i]'(by rw [digs_len]; omega) = scry (val a) s i ∧
    ((digs (a.length + 1) (val a % B64 ^ i * 2 ^ s)).set i (scry (val a) s i ||| a[i] * 2 ^ s % B64)).set (i + 1) (a[i] / 2 / 2 ^ (63 - s)) = digs (a.length + 1) (val a % B64 ^ (i + 1) * 2 ^ s) := by
  have hx := ha.get hi
  have hc := scry_lt (val a) s i
  have h2s : 2 ^ s < B64 := by rw [B_eq]; exact Nat.pow_lt_pow_right (by decide) hs
  obtain ⟨t1, t2, t3⟩ := shift_step hx hs hc
  have hlt : val a % B64 ^ i * 2 ^ s < B64 ^ i * 2 ^ s := Nat.mul_lt_mul_of_pos_right (Nat.mod_lt _ (Bp_pos i)) (Nat.pow_pos (by decide))
  have hle : B64 ^ i * 2 ^ s ≤ B64 ^ (i + 1) := by rw [Nat.pow_succ]; exact Nat.mul_le_mul_left _ (by omega)
  have hN : B64 ^ (i + 1) ≤ B64 ^ (a.length + 1) := Nat.pow_le_pow_right B_pos (by omega)
  have e0 : (digs (a.length + 1) (val a % B64 ^ i * 2 ^ s))[i]'(by rw [digs_len]; omega) = scry (val a) s i := by
    rw [digs_get]
    show scry (val a) s i % B64 = _
    exact Nat.mod_eq_of_lt (Nat.lt_trans hc h2s)
  refine ⟨e0, ?_⟩
  have hvd : val (digs (a.length + 1) (val a % B64 ^ i * 2 ^ s)) = val a % B64 ^ i * 2 ^ s := by
    rw [val_digs, Nat.mod_eq_of_lt (Nat.lt_of_lt_of_le hlt (Nat.le_trans hle hN))]
  have il : i < (digs (a.length + 1) (val a % B64 ^ i * 2 ^ s)).length := by rw [digs_len]; omega
  have v1 := val_set il (scry (val a) s i ||| a[i] * 2 ^ s % B64)
  rw [e0, hvd] at v1
  have l1 : Limbs ((digs (a.length + 1) (val a % B64 ^ i * 2 ^ s)).set i (scry (val a) s i ||| a[i] * 2 ^ s % B64)) := (digs_limbs _ _).set (by rw [t1]; exact Nat.mod_lt _ B_pos) _
  have il2 : i + 1 < ((digs (a.length + 1) (val a % B64 ^ i * 2 ^ s)).set i (scry (val a) s i ||| a[i] * 2 ^ s % B64)).length := by rw [List.length_set, digs_len]; omega
  have v2 := val_set il2 (a[i] / 2 / 2 ^ (63 - s))
  have e1 : ((digs (a.length + 1) (val a % B64 ^ i * 2 ^ s)).set i (scry (val a) s i ||| a[i] * 2 ^ s % B64))[i + 1] = 0 := by
    rw [List.getElem_set_ne (by omega), digs_get, Nat.div_eq_of_lt (Nat.lt_of_lt_of_le hlt hle)]; rfl
  rw [e1, Nat.mul_zero, Nat.add_zero] at v2
  have hv : val (((digs (a.length + 1) (val a % B64 ^ i * 2 ^ s)).set i (scry (val a) s i ||| a[i] * 2 ^ s % B64)).set (i + 1) (a[i] / 2 / 2 ^ (63 - s))) = val a % B64 ^ (i + 1) * 2 ^ s := by
    have hm : val a % B64 ^ (i + 1) = val a % B64 ^ i + B64 ^ i * a[i] := by rw [Nat.mod_pow_succ, ← limb_eq ha, limb_get hi]
    have hd := Nat.div_add_mod (a[i] * 2 ^ s + scry (val a) s i) B64
    rw [← t1, ← t2] at hd
    rw [v2, hm, Nat.add_mul, Nat.mul_assoc (B64 ^ i)]
    have e3 : B64 ^ (i + 1) * (a[i] / 2 / 2 ^ (63 - s)) + B64 ^ i * (scry (val a) s i ||| a[i] * 2 ^ s % B64) = B64 ^ i * (a[i] * 2 ^ s) + B64 ^ i * scry (val a) s i := by
      rw [Nat.pow_succ, Nat.mul_assoc, ← Nat.mul_add, ← Nat.mul_add, hd]
    omega
  have h := digs_val (l1.set (Nat.lt_trans t3 h2s) (i + 1))
  rw [List.length_set, List.length_set, digs_len, hv] at h
  exact h.symm

theorem Up117_2 {a : List Nat} (ha : Limbs a) (la : a.length ≤ 900000) {s : Nat} (hs : s < 64) : (KL AA XX).icall 117 [(AV.c (C.d (D.sl (List.map n64 (a))))), (AV.c (C.d (D.sc (Value.int IntKind.i64 ((s : Nat))))))] [] 2 = some (.ref 3 0 (a.length + 1), [(2, .tok 0 0), (3, .arr ((digs (a.length + 1) (val a * 2 ^ s)).map w64))], 4) := by
  obtain ⟨N, hN⟩ : ∃ N, a.length + 1 = N := ⟨_, rfl⟩
  have go := iter (F := fun (i : Nat) => loopR AA XX [1, 5, 12, 13, 14] 4 b117_0 (RUN AA XX b117_0 ⟨[(1, (AV.c (C.d (D.sc (Value.int IntKind.i64 ((s : Nat))))))), (5, .ref 3 0 N), (12, (AV.c (C.d (D.sl (List.map n64 (a)))))), (13, (AV.c (C.d (D.sc (Value.int IntKind.i64 (a.length)))))), (14, (AV.c (C.d (D.sc (Value.int IntKind.i64 (i))))))], [(2, .tok 0 0), (3, .arr ((digs N (val a % B64 ^ i * 2 ^ s)).map w64))], 4⟩)) (Nat.zero_le a.length) fun i _ hi => by
    obtain ⟨e0, e1⟩ := up_step ha hs hi
    have hlt := ltT hi
    have hg := getn hi
    have hw := wrap_succ i (by omega)
    have hx := ha.get hi
    have il : i < (digs N (val a % B64 ^ i * 2 ^ s)).length := by rw [digs_len]; omega
    have hgc := getc il
    have hdl := digs_len N (val a % B64 ^ i * 2 ^ s)
    have q0 : ((0 : Int) ≤ ((s : Nat) : Int)) = True := eq_true (by omega)
    have m64 := min64 hs
    have w1 := shl_or hx hs
    have hc := scry_lt (val a) s i
    have h2s : 2 ^ s < B64 := by rw [B_eq]; exact Nat.pow_lt_pow_right (by decide) hs
    have w2 : borI .u64 ((scry (val a) s i : Nat) : Int) ((a[i] * 2 ^ s % B64 : Nat) : Int) = ((scry (val a) s i ||| a[i] * 2 ^ s % B64 : Nat) : Int) := borI_u (by omega) (Nat.mod_lt _ B_pos)
    have w3 : IntKind.i64.wrap (63 - ((s : Nat) : Int)) = ((63 - s : Nat) : Int) := by rw [wrap_i64 _ (by omega) (by omega)]; omega
    have q0' : ((0 : Int) ≤ ((63 - s : Nat) : Int)) = True := eq_true (by omega)
    have m63 : min (63 - s) 64 = 63 - s := by omega
    have hsh : ∀ z : Nat, z / 2 ^ 1 = z / 2 := fun z => by rw [Nat.pow_one]
    have q1 : ((i : Int) < (N : Int)) = True := eq_true (by omega)
    have q2 : (i < N) = True := eq_true (by omega)
    have q3 : (((i + 1 : Nat) : Int) < (N : Int)) = True := eq_true (by omega)
    have q4 : (i + 1 < N) = True := eq_true (by omega)
    subst hN
    rw [e0] at hgc
    show loopR _ _ _ _ _ (RUN _ _ _ _) = _
    rw [b117_0_run]
    simp only [go_sem, ↓reduceIte, Nat.reduceAdd, Nat.reduceSub, Nat.reduceMul, Nat.reduceEqDiff, Nat.reduceLT, Nat.reduceShiftRight, Nat.reduceAnd, Nat.reduceBNe, Nat.reduceLeDiff, Nat.reduceBEq, Nat.testBit, Nat.zero_lt_one, Int.reduceToNat, Int.reduceNeg, Int.reduceLE, Int.reduceLT, Int.reduceEq, decide_true, decide_false, Bool.and_true, Bool.true_and, Bool.and_false, Bool.false_and, Bool.or_true, Bool.true_or, Bool.or_false, Bool.false_or, Bool.not_true, Bool.not_false, beq_self_eq_true, reduceCtorEq, Int.le_refl, Nat.add_zero, and_self, and_true, true_and, or_true, true_or, if_true, if_false, Nat.le_refl, Bool.and_self, eq_self, Bool.not_false, Bool.not_true, hlt, hg, hw, hgc, q0, q0', m64, m63, min1, w1, w2, w3, bin_orI, shr_n, hsh, Int.toNat_natCast, q1, q2, q3, q4, lenc, List.length_set, hdl, setc, e1, oldc, Nat.mul_one]
  have hA : val a % B64 ^ a.length = val a := Nat.mod_eq_of_lt (val_lt ha)
  have hz0 : digs N 0 = List.replicate N 0 := digs_zero N
  simp only [Nat.pow_zero, Nat.mod_one, Nat.zero_mul, hz0, hA, show ((0 : Nat) : Int) = 0 from rfl] at go
  have w0 : IntKind.i64.wrap ((a.length : Int) + 1) = (N : Int) := by rw [← hN]; exact wrap_succ _ (by omega)
  have q0 : ((0 : Int) ≤ (N : Int)) = True := eq_true (by omega)
  have q1 : ((N : Int) * ((8 : Nat) : Int) ≤ (maxBytes : Int)) = True := by
    have h1 : maxBytes = 140737488355328 := rfl
    rw [h1]; exact eq_true (by omega)
  have hz := zeroc N
  rw [ICALL_def AA XX (fn := a117) rfl [(AV.c (C.d (D.sl (List.map n64 (a))))), (AV.c (C.d (D.sc (Value.int IntKind.i64 ((s : Nat))))))] [] 2 rfl, hN]
  simp only [a117, go_sem, ↓reduceIte, Nat.reduceAdd, Nat.reduceSub, Nat.reduceMul, Nat.reduceEqDiff, Nat.reduceLT, Nat.reduceShiftRight, Nat.reduceAnd, Nat.reduceBNe, Nat.reduceLeDiff, Nat.reduceBEq, Nat.testBit, Nat.zero_lt_one, Int.reduceToNat, Int.reduceNeg, Int.reduceLE, Int.reduceLT, Int.reduceEq, decide_true, decide_false, Bool.and_true, Bool.true_and, Bool.and_false, Bool.false_and, Bool.or_true, Bool.true_or, Bool.or_false, Bool.false_or, Bool.not_true, Bool.not_false, beq_self_eq_true, reduceCtorEq, Int.le_refl, Nat.add_zero, and_self, and_true, true_and, or_true, true_or, if_true, if_false, Nat.le_refl, Bool.and_self, eq_self, Bool.not_false, Bool.not_true, w0, q0, q1, hz, oldc, Int.toNat_natCast, List.length_cons, List.length_nil]
  rw [go, b117_0_run]
  simp only [go_sem, ↓reduceIte, Nat.reduceAdd, Nat.reduceSub, Nat.reduceMul, Nat.reduceEqDiff, Nat.reduceLT, Nat.reduceShiftRight, Nat.reduceAnd, Nat.reduceBNe, Nat.reduceLeDiff, Nat.reduceBEq, Nat.testBit, Nat.zero_lt_one, Int.reduceToNat, Int.reduceNeg, Int.reduceLE, Int.reduceLT, Int.reduceEq, decide_true, decide_false, Bool.and_true, Bool.true_and, Bool.and_false, Bool.false_and, Bool.or_true, Bool.true_or, Bool.or_false, Bool.false_or, Bool.not_true, Bool.not_false, beq_self_eq_true, reduceCtorEq, Int.le_refl, Nat.add_zero, and_self, and_true, true_and, or_true, true_or, if_true, if_false, Nat.le_refl, Bool.and_self, eq_self, Bool.not_false, Bool.not_true, Int.lt_irrefl, oldc]
  rfl

theorem Up117_4 {a : List Nat} (ha : Limbs a) (la : a.length ≤ 900000) {s : Nat} (hs : s < 64) : (KL AA XX).icall 117 [(AV.c (C.d (D.sl (List.map n64 (a))))), (AV.c (C.d (D.sc (Value.int IntKind.i64 ((s : Nat))))))] [] 4 = some (.ref 5 0 (a.length + 1), [(4, .tok 0 0), (5, .arr ((digs (a.length + 1) (val a * 2 ^ s)).map w64))], 6) := by
  obtain ⟨N, hN⟩ : ∃ N, a.length + 1 = N := ⟨_, rfl⟩
  have go := iter (F := fun (i : Nat) => loopR AA XX [1, 5, 12, 13, 14] 6 b117_0 (RUN AA XX b117_0 ⟨[(1, (AV.c (C.d (D.sc (Value.int IntKind.i64 ((s : Nat))))))), (5, .ref 5 0 N), (12, (AV.c (C.d (D.sl (List.map n64 (a)))))), (13, (AV.c (C.d (D.sc (Value.int IntKind.i64 (a.length)))))), (14, (AV.c (C.d (D.sc (Value.int IntKind.i64 (i))))))], [(4, .tok 0 0), (5, .arr ((digs N (val a % B64 ^ i * 2 ^ s)).map w64))], 6⟩)) (Nat.zero_le a.length) fun i _ hi => by
    obtain ⟨e0, e1⟩ := up_step ha hs hi
    have hlt := ltT hi
    have hg := getn hi
    have hw := wrap_succ i (by omega)
    have hx := ha.get hi
    have il : i < (digs N (val a % B64 ^ i * 2 ^ s)).length := by rw [digs_len]; omega
    have hgc := getc il
    have hdl := digs_len N (val a % B64 ^ i * 2 ^ s)
    have q0 : ((0 : Int) ≤ ((s : Nat) : Int)) = True := eq_true (by omega)
    have m64 := min64 hs
    have w1 := shl_or hx hs
    have hc := scry_lt (val a) s i
    have h2s : 2 ^ s < B64 := by rw [B_eq]; exact Nat.pow_lt_pow_right (by decide) hs
    have w2 : borI .u64 ((scry (val a) s i : Nat) : Int) ((a[i] * 2 ^ s % B64 : Nat) : Int) = ((scry (val a) s i ||| a[i] * 2 ^ s % B64 : Nat) : Int) := borI_u (by omega) (Nat.mod_lt _ B_pos)
    have w3 : IntKind.i64.wrap (63 - ((s : Nat) : Int)) = ((63 - s : Nat) : Int) := by rw [wrap_i64 _ (by omega) (by omega)]; omega
    have q0' : ((0 : Int) ≤ ((63 - s : Nat) : Int)) = True := eq_true (by omega)
    have m63 : min (63 - s) 64 = 63 - s := by omega
    have hsh : ∀ z : Nat, z / 2 ^ 1 = z / 2 := fun z => by rw [Nat.pow_one]
    have q1 : ((i : Int) < (N : Int)) = True := eq_true (by omega)
    have q2 : (i < N) = True := eq_true (by omega)
    have q3 : (((i + 1 : Nat) : Int) < (N : Int)) = True := eq_true (by omega)
    have q4 : (i + 1 < N) = True := eq_true (by omega)
    subst hN
    rw [e0] at hgc
    show loopR _ _ _ _ _ (RUN _ _ _ _) = _
    rw [b117_0_run]
    simp only [go_sem, ↓reduceIte, Nat.reduceAdd, Nat.reduceSub, Nat.reduceMul, Nat.reduceEqDiff, Nat.reduceLT, Nat.reduceShiftRight, Nat.reduceAnd, Nat.reduceBNe, Nat.reduceLeDiff, Nat.reduceBEq, Nat.testBit, Nat.zero_lt_one, Int.reduceToNat, Int.reduceNeg, Int.reduceLE, Int.reduceLT, Int.reduceEq, decide_true, decide_false, Bool.and_true, Bool.true_and, Bool.and_false, Bool.false_and, Bool.or_true, Bool.true_or, Bool.or_false, Bool.false_or, Bool.not_true, Bool.not_false, beq_self_eq_true, reduceCtorEq, Int.le_refl, Nat.add_zero, and_self, and_true, true_and, or_true, true_or, if_true, if_false, Nat.le_refl, Bool.and_self, eq_self, Bool.not_false, Bool.not_true, hlt, hg, hw, hgc, q0, q0', m64, m63, min1, w1, w2, w3, bin_orI, shr_n, hsh, Int.toNat_natCast, q1, q2, q3, q4, lenc, List.length_set, hdl, setc, e1, oldc, Nat.mul_one]
  have hA : val a % B64 ^ a.length = val a := Nat.mod_eq_of_lt (val_lt ha)
  have hz0 : digs N 0 = List.replicate N 0 := digs_zero N
  simp only [Nat.pow_zero, Nat.mod_one, Nat.zero_mul, hz0, hA, show ((0 : Nat) : Int) = 0 from rfl] at go
  have w0 : IntKind.i64.wrap ((a.length : Int) + 1) = (N : Int) := by rw [← hN]; exact wrap_succ _ (by omega)
  have q0 : ((0 : Int) ≤ (N : Int)) = True := eq_true (by omega)
  have q1 : ((N : Int) * ((8 : Nat) : Int) ≤ (maxBytes : Int)) = True := by
    have h1 : maxBytes = 140737488355328 := rfl
    rw [h1]; exact eq_true (by omega)
  have hz := zeroc N
  rw [ICALL_def AA XX (fn := a117) rfl [(AV.c (C.d (D.sl (List.map n64 (a))))), (AV.c (C.d (D.sc (Value.int IntKind.i64 ((s : Nat))))))] [] 4 rfl, hN]
  simp only [a117, go_sem, ↓reduceIte, Nat.reduceAdd, Nat.reduceSub, Nat.reduceMul, Nat.reduceEqDiff, Nat.reduceLT, Nat.reduceShiftRight, Nat.reduceAnd, Nat.reduceBNe, Nat.reduceLeDiff, Nat.reduceBEq, Nat.testBit, Nat.zero_lt_one, Int.reduceToNat, Int.reduceNeg, Int.reduceLE, Int.reduceLT, Int.reduceEq, decide_true, decide_false, Bool.and_true, Bool.true_and, Bool.and_false, Bool.false_and, Bool.or_true, Bool.true_or, Bool.or_false, Bool.false_or, Bool.not_true, Bool.not_false, beq_self_eq_true, reduceCtorEq, Int.le_refl, Nat.add_zero, and_self, and_true, true_and, or_true, true_or, if_true, if_false, Nat.le_refl, Bool.and_self, eq_self, Bool.not_false, Bool.not_true, w0, q0, q1, hz, oldc, Int.toNat_natCast, List.length_cons, List.length_nil]
  rw [go, b117_0_run]
  simp only [go_sem, ↓reduceIte, Nat.reduceAdd, Nat.reduceSub, Nat.reduceMul, Nat.reduceEqDiff, Nat.reduceLT, Nat.reduceShiftRight, Nat.reduceAnd, Nat.reduceBNe, Nat.reduceLeDiff, Nat.reduceBEq, Nat.testBit, Nat.zero_lt_one, Int.reduceToNat, Int.reduceNeg, Int.reduceLE, Int.reduceLT, Int.reduceEq, decide_true, decide_false, Bool.and_true, Bool.true_and, Bool.and_false, Bool.false_and, Bool.or_true, Bool.true_or, Bool.or_false, Bool.false_or, Bool.not_true, Bool.not_false, beq_self_eq_true, reduceCtorEq, Int.le_refl, Nat.add_zero, and_self, and_true, true_and, or_true, true_or, if_true, if_false, Nat.le_refl, Bool.and_self, eq_self, Bool.not_false, Bool.not_true, Int.lt_irrefl, oldc]
  rfl
end Go.Proofs.Ytpanbfainilmpaa.Ev.N
end
section
/- A number moved down by fewer than 64 bits. -/
set_option linter.unusedVariables false
set_option linter.unusedSimpArgs false
set_option maxRecDepth 100000
set_option maxHeartbeats 4000000
namespace Go.Proofs.Ytpanbfainilmpaa.Ev.N
open Go Go.Proofs.Ytpanbfainilmpaa.Ev

theorem down_digit {a : List Nat} (ha : Limbs a) {s i : Nat} (hs : s < 64) : (val a / 2 ^ s) / B64 ^ i % B64 = limb a i / 2 ^ s + 2 ^ (64 - s) * (limb a (i + 1) % 2 ^ s) := by
  have hp : 0 < 2 ^ s := Nat.pow_pos (by decide)
  have hq : 0 < 2 ^ (64 - s) := Nat.pow_pos (by decide)
  have e1 : B64 = 2 ^ s * 2 ^ (64 - s) := by rw [← Nat.pow_add, show s + (64 - s) = 64 by omega]; rfl
  have hd := Nat.div_add_mod (val a / B64 ^ i) B64
  have h1 : (val a / 2 ^ s) / B64 ^ i = limb a i / 2 ^ s + 2 ^ (64 - s) * (val a / B64 ^ (i + 1)) := by
    rw [Nat.div_div_eq_div_mul, Nat.mul_comm (2 ^ s), ← Nat.div_div_eq_div_mul]
    conv => lhs; rw [← hd, Nat.div_div_eq_div_mul, ← Nat.pow_succ, ← limb_eq ha]
    rw [Nat.succ_eq_add_one]
    conv => lhs; rw [e1]
    rw [Nat.mul_assoc, Nat.add_comm, Nat.add_mul_div_left _ _ hp, ← e1]
  have hx := limb_lt ha i
  have hx2 : limb a i / 2 ^ s < 2 ^ (64 - s) := by rw [Nat.div_lt_iff_lt_mul hp, Nat.mul_comm, ← e1]; exact hx
  have h2 : val a / B64 ^ (i + 1) % 2 ^ s = limb a (i + 1) % 2 ^ s := by
    rw [limb_eq ha, Nat.mod_mod_of_dvd]
    rw [e1]; exact Nat.dvd_mul_right _ _
  have hd2 := Nat.div_add_mod (val a / B64 ^ (i + 1)) (2 ^ s)
  have hm := Nat.mod_lt (val a / B64 ^ (i + 1)) hp
  rw [h1]
  have e3 : limb a i / 2 ^ s + 2 ^ (64 - s) * (val a / B64 ^ (i + 1)) = B64 * (val a / B64 ^ (i + 1) / 2 ^ s) + (limb a i / 2 ^ s + 2 ^ (64 - s) * (val a / B64 ^ (i + 1) % 2 ^ s)) := by
    conv => lhs; rw [← hd2, Nat.mul_add, ← Nat.mul_assoc, Nat.mul_comm (2 ^ (64 - s)) (2 ^ s), ← e1]
    omega
  have hlt : limb a i / 2 ^ s + 2 ^ (64 - s) * (val a / B64 ^ (i + 1) % 2 ^ s) < B64 := by
    have : 2 ^ (64 - s) * (val a / B64 ^ (i + 1) % 2 ^ s + 1) ≤ 2 ^ (64 - s) * 2 ^ s := Nat.mul_le_mul_left _ hm
    rw [Nat.mul_add, Nat.mul_comm (2 ^ (64 - s)) (2 ^ s), ← e1] at this
    omega
  rw [e3, Nat.mul_add_mod, Nat.mod_eq_of_lt hlt, h2]
/-- One limb moved down. -/
theorem down_or {x y s : Nat} (hx : x < B64) (hy : y < B64) (hs : s < 64) : (x / 2 ^ s ||| y * 2 % B64 * 2 ^ (63 - s) % B64) = x / 2 ^ s + 2 ^ (64 - s) * (y % 2 ^ s) := by
  have hp : 0 < 2 ^ s := Nat.pow_pos (by decide)
  have e1 : B64 = 2 ^ (64 - s) * 2 ^ s := by rw [← Nat.pow_add, show 64 - s + s = 64 by omega]; rfl
  have e2 : y * 2 % B64 * 2 ^ (63 - s) % B64 = 2 ^ (64 - s) * (y % 2 ^ s) := by
    rw [Nat.mod_mul_mod, Nat.mul_assoc, ← Nat.pow_succ', show (63 - s).succ = 64 - s by omega, Nat.mul_comm y, e1, Nat.mul_mod_mul_left]
  have hx2 : x / 2 ^ s < 2 ^ (64 - s) := by rw [Nat.div_lt_iff_lt_mul hp, ← e1]; exact hx
  rw [e2, Nat.or_comm, or_low _ hx2]; omega
theorem low_set {N X i d : Nat} (hi : i < N) (hd : d = X / B64 ^ i % B64) : (digs N (X % B64 ^ i)).set i d = digs N (X % B64 ^ (i + 1)) ∧ (digs N (X % B64 ^ i))[i]'(by rw [digs_len]; exact hi) = 0 := by
  have hz : (digs N (X % B64 ^ i))[i]'(by rw [digs_len]; exact hi) = 0 := by
    rw [digs_get, Nat.div_eq_of_lt (Nat.mod_lt _ (Bp_pos i))]; rfl
  refine ⟨?_, hz⟩
  have hle : B64 ^ i ≤ B64 ^ N := Nat.pow_le_pow_right B_pos (by omega)
  have v := val_set (l := digs N (X % B64 ^ i)) (by rw [digs_len]; exact hi) d
  rw [hz, val_digs, Nat.mod_eq_of_lt (Nat.lt_of_lt_of_le (Nat.mod_lt _ (Bp_pos i)) hle), Nat.mul_zero, Nat.add_zero, hd, ← Nat.mod_pow_succ] at v
  rw [hd]
  exact digs_set hi (Nat.mod_lt _ B_pos) v
theorem set_set {L : List Nat} (i x y : Nat) : (L.set i x).set i y = L.set i y := List.set_set ..
theorem Back119 {a : List Nat} (ha : Limbs a) (la : a.length ≤ 900000) {s : Nat} (hs : s < 64) : (KL AA XX).call 119 [(PV.one (D.sl (List.map n64 (a)))), (PV.one (D.sc (Value.int IntKind.i64 ((s : Nat)))))] = some [(PV.one (D.sl (List.map n64 (dig (val a / 2 ^ s)))))] := by
  obtain ⟨N, hN⟩ : ∃ N, a.length = N := ⟨_, rfl⟩
  have go := iter (F := fun (i : Nat) => loopR AA XX [0, 1, 5, 11, 12] 2 b119_0 (RUN AA XX b119_0 ⟨[(0, (AV.c (C.d (D.sl (List.map n64 (a)))))), (1, (AV.c (C.d (D.sc (Value.int IntKind.i64 ((s : Nat))))))), (5, .ref 1 0 N), (11, (AV.c (C.d (D.sc (Value.int IntKind.i64 (N)))))), (12, (AV.c (C.d (D.sc (Value.int IntKind.i64 (i))))))], [(0, .tok 0 0), (1, .arr ((digs N (val a / 2 ^ s % B64 ^ i)).map w64))], 2⟩)) (Nat.zero_le N) fun i _ hiN => by
    have hi : i < a.length := by omega
    have hlt : decide ((i : Int) < (N : Int)) = true := ltT hiN
    have hg := getn hi
    have hw := wrap_succ i (by omega)
    have hx := ha.get hi
    have q0 : ((0 : Int) ≤ ((s : Nat) : Int)) = True := eq_true (by omega)
    have m64 := min64 hs
    have q1 : ((i : Int) < (N : Int)) = True := eq_true (by omega)
    have q2 : (i < N) = True := eq_true (by omega)
    have hdg := down_digit ha (s := s) (i := i) hs
    rw [limb_get hi] at hdg
    have hdl := digs_len N (val a / 2 ^ s % B64 ^ i)
    show loopR _ _ _ _ _ (RUN _ _ _ _) = _
    rw [b119_0_run]
    by_cases hi1 : i + 1 < a.length
    · have hlt1 : decide (((i + 1 : Nat) : Int) < (a.length : Int)) = true := ltT hi1
      have hg1 := getn hi1
      have hy := ha.get hi1
      rw [limb_get hi1] at hdg
      have hor := down_or hx hy hs
      rw [← hdg] at hor
      obtain ⟨s1, s2⟩ := low_set (X := val a / 2 ^ s) (d := a[i] / 2 ^ s ||| a[i + 1] * 2 % B64 * 2 ^ (63 - s) % B64) hiN hor
      have hgc : ((digs N (val a / 2 ^ s % B64 ^ i)).set i (a[i] / 2 ^ s))[i]? = some (a[i] / 2 ^ s) := by
        rw [List.getElem?_set_self (by omega)]
      have hgc2 : (((digs N (val a / 2 ^ s % B64 ^ i)).set i (a[i] / 2 ^ s)).map w64)[i]? = some (C.d (D.sc (.int .u64 ((a[i] / 2 ^ s : Nat) : Int)))) := by
        rw [List.getElem?_map, hgc]; rfl
      have w1 : IntKind.u64.wrap ((a[i + 1] : Int) * 2 ^ 1) = ((a[i + 1] * 2 % B64 : Nat) : Int) := shl_or hy (by omega)
      have w2 : IntKind.u64.wrap (((a[i + 1] * 2 % B64 : Nat) : Int) * 2 ^ (63 - s)) = ((a[i + 1] * 2 % B64 * 2 ^ (63 - s) % B64 : Nat) : Int) := shl_or (Nat.mod_lt _ B_pos) (by omega)
      have w3 : IntKind.i64.wrap (63 - ((s : Nat) : Int)) = ((63 - s : Nat) : Int) := by rw [wrap_i64 _ (by omega) (by omega)]; omega
      have q0' : ((0 : Int) ≤ ((63 - s : Nat) : Int)) = True := eq_true (by omega)
      have m63 : min (63 - s) 64 = 63 - s := by omega
      have w4 : borI .u64 ((a[i] / 2 ^ s : Nat) : Int) ((a[i + 1] * 2 % B64 * 2 ^ (63 - s) % B64 : Nat) : Int) = ((a[i] / 2 ^ s ||| a[i + 1] * 2 % B64 * 2 ^ (63 - s) % B64 : Nat) : Int) := borI_u (Nat.lt_of_le_of_lt (Nat.div_le_self _ _) hx) (Nat.mod_lt _ B_pos)
      simp only [go_sem, ↓reduceIte, Nat.reduceAdd, Nat.reduceSub, Nat.reduceMul, Nat.reduceEqDiff, Nat.reduceLT, Nat.reduceShiftRight, Nat.reduceAnd, Nat.reduceBNe, Nat.reduceLeDiff, Nat.reduceBEq, Nat.testBit, Nat.zero_lt_one, Int.reduceToNat, Int.reduceNeg, Int.reduceLE, Int.reduceLT, Int.reduceEq, decide_true, decide_false, Bool.and_true, Bool.true_and, Bool.and_false, Bool.false_and, Bool.or_true, Bool.true_or, Bool.or_false, Bool.false_or, Bool.not_true, Bool.not_false, beq_self_eq_true, reduceCtorEq, Int.le_refl, Nat.add_zero, and_self, and_true, true_and, or_true, true_or, if_true, if_false, Nat.le_refl, Bool.and_self, eq_self, Bool.not_false, Bool.not_true, hlt, hlt1, hg, hg1, hw, q0, q0', m64, m63, min1, w1, w2, w3, w4, bin_orI, shr_n, Int.toNat_natCast, q1, q2, lenc, List.length_set, hdl, setc, hgc2, set_set, s1, oldc, Nat.mul_one]
    · have hlt1 : decide (((i + 1 : Nat) : Int) < (a.length : Int)) = false := ltF (by omega)
      rw [limb_none (by omega), Nat.zero_mod, Nat.mul_zero, Nat.add_zero] at hdg
      obtain ⟨s1, s2⟩ := low_set (X := val a / 2 ^ s) (d := a[i] / 2 ^ s) hiN hdg.symm
      simp only [go_sem, ↓reduceIte, Nat.reduceAdd, Nat.reduceSub, Nat.reduceMul, Nat.reduceEqDiff, Nat.reduceLT, Nat.reduceShiftRight, Nat.reduceAnd, Nat.reduceBNe, Nat.reduceLeDiff, Nat.reduceBEq, Nat.testBit, Nat.zero_lt_one, Int.reduceToNat, Int.reduceNeg, Int.reduceLE, Int.reduceLT, Int.reduceEq, decide_true, decide_false, Bool.and_true, Bool.true_and, Bool.and_false, Bool.false_and, Bool.or_true, Bool.true_or, Bool.or_false, Bool.false_or, Bool.not_true, Bool.not_false, beq_self_eq_true, reduceCtorEq, Int.le_refl, Nat.add_zero, and_self, and_true, true_and, or_true, true_or, if_true, if_false, Nat.le_refl, Bool.and_self, eq_self, Bool.not_false, Bool.not_true, hlt, hlt1, hg, hw, q0, m64, shr_n, Int.toNat_natCast, q1, q2, lenc, hdl, setc, s1, oldc, Nat.mul_one]
  have hA : val a / 2 ^ s % B64 ^ N = val a / 2 ^ s := Nat.mod_eq_of_lt (Nat.lt_of_le_of_lt (Nat.div_le_self _ _) (by rw [← hN]; exact val_lt ha))
  have hz0 : digs N 0 = List.replicate N 0 := digs_zero N
  simp only [Nat.pow_zero, Nat.mod_one, hz0, hA, show ((0 : Nat) : Int) = 0 from rfl] at go
  have q0 : ((0 : Int) ≤ (N : Int)) = True := eq_true (by omega)
  have q1 : ((N : Int) * ((8 : Nat) : Int) ≤ (maxBytes : Int)) = True := by
    have h1 : maxBytes = 140737488355328 := rfl
    rw [h1]; exact eq_true (by omega)
  have hz := zeroc N
  have t := Trim68 (digs_limbs N (val a / 2 ^ s)) (by rw [digs_len]; omega)
  rw [val_digs, hA] at t
  have ch := chunk_w (digs N (val a / 2 ^ s))
  rw [digs_len] at ch
  have hdl := digs_len N (val a / 2 ^ s)
  have q2 : (0 + N * 1 ≤ N) = True := eq_true (by omega)
  rw [c119]
  simp only [go_sem, ↓reduceIte, Nat.reduceAdd, Nat.reduceSub, Nat.reduceMul, Nat.reduceEqDiff, Nat.reduceLT, Nat.reduceShiftRight, Nat.reduceAnd, Nat.reduceBNe, Nat.reduceLeDiff, Nat.reduceBEq, Nat.testBit, Nat.zero_lt_one, Int.reduceToNat, Int.reduceNeg, Int.reduceLE, Int.reduceLT, Int.reduceEq, decide_true, decide_false, Bool.and_true, Bool.true_and, Bool.and_false, Bool.false_and, Bool.or_true, Bool.true_or, Bool.or_false, Bool.false_or, Bool.not_true, Bool.not_false, beq_self_eq_true, reduceCtorEq, Int.le_refl, Nat.add_zero, and_self, and_true, true_and, or_true, true_or, if_true, if_false, Nat.le_refl, Bool.and_self, eq_self, Bool.not_false, Bool.not_true, hN, q0, q1, hz, oldc, Int.toNat_natCast, List.length_cons, List.length_nil]
  rw [go, b119_0_run]
  cases hf : PV.flat (.one (.sl (List.map n64 (dig (val a / 2 ^ s))))) <;>
    simp only [go_sem, ↓reduceIte, Nat.reduceAdd, Nat.reduceSub, Nat.reduceMul, Nat.reduceEqDiff, Nat.reduceLT, Nat.reduceShiftRight, Nat.reduceAnd, Nat.reduceBNe, Nat.reduceLeDiff, Nat.reduceBEq, Nat.testBit, Nat.zero_lt_one, Int.reduceToNat, Int.reduceNeg, Int.reduceLE, Int.reduceLT, Int.reduceEq, decide_true, decide_false, Bool.and_true, Bool.true_and, Bool.and_false, Bool.false_and, Bool.or_true, Bool.true_or, Bool.or_false, Bool.false_or, Bool.not_true, Bool.not_false, beq_self_eq_true, reduceCtorEq, Int.le_refl, Nat.add_zero, and_self, and_true, true_and, or_true, true_or, if_true, if_false, Nat.le_refl, Bool.and_self, eq_self, Bool.not_false, Bool.not_true, Int.lt_irrefl, oldc, lenc, hdl, q2, List.drop_zero, ch, t, Nat.mul_one, hf, Bool.false_eq_true]
end Go.Proofs.Ytpanbfainilmpaa.Ev.N
end
section
/- Windows of an own array: less, plus. -/
set_option linter.unusedVariables false
set_option linter.unusedSimpArgs false
set_option maxRecDepth 100000
set_option maxHeartbeats 4000000
namespace Go.Proofs.Ytpanbfainilmpaa.Ev.N
open Go Go.Proofs.Ytpanbfainilmpaa.Ev

/-- The lowest k limbs from off on are T's. -/
def win (U : List Nat) (off k T : Nat) : List Nat := U.take off ++ digs k T ++ U.drop (off + k)
theorem win_zero (U : List Nat) (off T : Nat) : win U off 0 T = U := by
  unfold win
  rw [show digs 0 T = [] from rfl, List.append_nil, Nat.add_zero, List.take_append_drop]
theorem win_len {U : List Nat} {off k T : Nat} (h : off + k ≤ U.length) : (win U off k T).length = U.length := by
  unfold win
  rw [List.length_append, List.length_append, List.length_take, digs_len, List.length_drop]; omega
theorem win_limbs {U : List Nat} (h : Limbs U) (off k T : Nat) : Limbs (win U off k T) := ((h.take _).append (digs_limbs _ _)).append (h.drop _)
theorem win_get {U : List Nat} {off k T j : Nat} (h : off + k ≤ j) (hj : j < U.length) : (win U off k T)[j]'(by rw [win_len (by omega)]; exact hj) = U[j] := by
  unfold win
  rw [List.getElem_append_right (by rw [List.length_append, List.length_take, digs_len]; omega)]
  simp only [List.getElem_drop, List.length_append, List.length_take, digs_len]
  congr 1; omega
theorem win_set {U : List Nat} {off k T d : Nat} (h : off + k < U.length) (hd : d = T / B64 ^ k % B64) : (win U off k T).set (off + k) d = win U off (k + 1) T := by
  unfold win
  have hl : (U.take off ++ digs k T).length = off + k := by rw [List.length_append, List.length_take, digs_len]; omega
  rw [List.set_append, if_neg (by rw [hl]; omega), hl, Nat.sub_self, List.drop_eq_getElem_cons h, List.set_cons_zero, digs_succ, ← hd]
  simp [Nat.add_assoc]
/-- The worth of k limbs from off on. -/
def wv (U : List Nat) (off k : Nat) : Nat := val ((U.drop off).take k)
theorem wv_limb {U : List Nat} (hU : Limbs U) {off k i : Nat} (hi : i < k) (h : off + i < U.length) : U[off + i] = wv U off k / B64 ^ i % B64 := by
  unfold wv
  have hl : Limbs ((U.drop off).take k) := (hU.drop _).take _
  rw [← limb_eq hl, limb_get (by rw [List.length_take, List.length_drop]; omega)]
  simp
/-- The carry of a number times a word. -/
def mcry (q D k : Nat) : Nat := (q * (D % B64 ^ k)) / B64 ^ k
theorem mcry_zero (q D : Nat) : mcry q D 0 = 0 := by simp [mcry, Nat.mod_one]
theorem mcry_lt {q : Nat} (hq : q < B64) (D k : Nat) : mcry q D k < B64 := by
  unfold mcry
  rw [Nat.div_lt_iff_lt_mul (Bp_pos k)]
  rcases Nat.eq_zero_or_pos q with h | h
  · subst h; rw [Nat.zero_mul]; exact Nat.mul_pos B_pos (Bp_pos k)
  · exact Nat.mul_lt_mul_of_lt_of_le hq (Nat.le_of_lt (Nat.mod_lt _ (Bp_pos k))) (Bp_pos k)
theorem mcry_sum (q D k : Nat) : (q * (D % B64 ^ (k + 1))) / B64 ^ k = q * (D / B64 ^ k % B64) + mcry q D k := by
  rw [Nat.mod_pow_succ, Nat.mul_add, Nat.mul_left_comm, Nat.add_mul_div_left _ _ (Bp_pos k), Nat.add_comm]; rfl
theorem mcry_succ (q D k : Nat) : mcry q D (k + 1) = (q * (D / B64 ^ k % B64) + mcry q D k) / B64 := by
  rw [← mcry_sum, Nat.div_div_eq_div_mul, ← Nat.pow_succ]; rfl
theorem mul_digit (q D k : Nat) : (q * D) / B64 ^ k % B64 = (q * (D / B64 ^ k % B64) + mcry q D k) % B64 := by
  rw [← mcry_sum]
  have h1 : q * D = q * (D % B64 ^ (k + 1)) + B64 ^ k * (B64 * (q * (D / B64 ^ (k + 1)))) := by
    conv => lhs; rw [← Nat.mod_add_div D (B64 ^ (k + 1)), Nat.mul_add]
    rw [← Nat.mul_assoc (B64 ^ k), ← Nat.pow_succ, Nat.succ_eq_add_one, Nat.mul_left_comm]
  conv => lhs; rw [h1]
  rw [Nat.add_mul_div_left _ _ (Bp_pos k), Nat.add_mul_mod_self_left]
theorem mcry_top {q D n : Nat} (hD : D < B64 ^ n) : mcry q D n = (q * D) / B64 ^ n := by
  unfold mcry
  rw [Nat.mod_eq_of_lt hD]
end Go.Proofs.Ytpanbfainilmpaa.Ev.N
end
section
/- less and plus, in the caller's memory. -/
set_option linter.unusedVariables false
set_option linter.unusedSimpArgs false
set_option maxRecDepth 100000
set_option maxHeartbeats 4000000
namespace Go.Proofs.Ytpanbfainilmpaa.Ev.N
open Go Go.Proofs.Ytpanbfainilmpaa.Ev

theorem vtake {V : List Nat} (hV : Limbs V) {n k : Nat} (hk : k < n) (hn : n ≤ V.length) : V[k] = val (V.take n) / B64 ^ k % B64 := by
  have h := limb_eq (hV.take n) k
  rw [limb_get (by rw [List.length_take]; omega)] at h
  rw [← h]; simp
theorem Less126 {U V : List Nat} (hU : Limbs U) (hV : Limbs V) {n off q : Nat} (hn : n ≤ V.length) (ho : off + n < U.length) (hb : U.length ≤ 1000000) (hbv : V.length ≤ 1000000) (hq : q < B64) :
    (KL AA XX).icall 126 [.ref 3 off (n + 1), .ref 5 0 n, (AV.c (C.d (D.sc (Value.int IntKind.u64 ((q : Nat))))))] [(3, .arr (U.map w64)), (5, .arr (V.map w64))] 7 =
      some ((AV.c (C.d (D.sc (Value.bool (decide (wv U off (n + 1) < q * val (V.take n))))))), [(3, .arr ((win U off (n + 1) (wv U off (n + 1) + B64 ^ (n + 1) - q * val (V.take n))).map w64)), (5, .arr (V.map w64))], 7) := by
  obtain ⟨Z, hZ⟩ : ∃ Z, val (V.take n) = Z := ⟨_, rfl⟩
  obtain ⟨W, hW⟩ : ∃ W, wv U off (n + 1) = W := ⟨_, rfl⟩
  have hZl : Z < B64 ^ n := by
    have := val_lt (hV.take n)
    rw [List.length_take, Nat.min_eq_left hn, hZ] at this
    exact this
  have hP : q * Z < B64 ^ (n + 1) := by
    rw [Nat.pow_succ, Nat.mul_comm (B64 ^ n)]
    exact Nat.mul_lt_mul'' hq hZl
  obtain ⟨T, hT⟩ : ∃ T, W + B64 ^ (n + 1) - q * Z = T := ⟨_, rfl⟩
  rw [hZ, hW, hT]
  have go := iter (F := fun (k : Nat) => loopR AA XX [0, 1, 2, 7, 8, 14, 15, 16] 7 b126_0 (RUN AA XX b126_0 ⟨[(0, .ref 3 off (n + 1)), (1, .ref 5 0 n), (2, (AV.c (C.d (D.sc (Value.int IntKind.u64 ((q : Nat))))))), (7, (AV.c (C.d (D.sc (Value.int IntKind.u64 ((mcry q Z k : Nat))))))), (8, (AV.c (C.d (D.sc (Value.int IntKind.u64 ((bor W (q * Z) k : Nat))))))), (14, .ref 5 0 n), (15, (AV.c (C.d (D.sc (Value.int IntKind.i64 (n)))))), (16, (AV.c (C.d (D.sc (Value.int IntKind.i64 (k))))))], [(3, .arr ((win U off k T).map w64)), (5, .arr (V.map w64))], 7⟩)) (Nat.zero_le n) fun k _ hk => by
    have hlt := ltT hk
    have hw := wrap_succ k (by omega)
    have hkl : off + k < U.length := by omega
    have hwl : (win U off k T).length = U.length := win_len (by omega)
    have hg := getc (L := win U off k T) (i := off + k) (by omega)
    rw [win_get (Nat.le_refl _) hkl] at hg
    have hgv := getc (L := V) (i := k) (by omega)
    have hx := wv_limb hU (off := off) (k := n + 1) (i := k) (by omega) hkl
    rw [hW] at hx
    have hy := vtake hV hk hn
    rw [hZ] at hy
    have hyl := hV.get (show k < V.length by omega)
    have m := Mul120 hq hyl
    obtain ⟨s1, _, _, _, _⟩ := mul_step hq hyl (mcry_lt hq Z k) B_pos
    have a1 := Add100 (q * V[k] % B64) (mcry q Z k) (c := 0) (Nat.zero_le _)
    rw [Nat.add_zero] at a1
    have e1 : (q * V[k] % B64 + mcry q Z k) % B64 = (q * Z) / B64 ^ k % B64 := by rw [mul_digit, hy, Nat.mod_add_mod]
    have e2 : q * V[k] / B64 + (q * V[k] % B64 + mcry q Z k) / B64 = mcry q Z (k + 1) := by
      rw [mcry_succ, ← hy]
      have hd := Nat.div_add_mod (q * V[k]) B64
      conv => rhs; rw [← hd, Nat.add_assoc, Nat.mul_add_div B_pos]
    have w1 := wrap_add s1
    rw [e2] at w1
    rw [e1] at a1
    have c103 := Sub103 U[off + k] ((q * Z) / B64 ^ k % B64) (bor_le W (q * Z) k)
    have hs := dif_digit W (q * Z) k (n + 1) (by omega) hP
    have hc := bor_succ W (q * Z) k
    rw [hT, ← hx] at hs
    rw [← hx] at hc
    rw [← hs, ← hc] at c103
    have ws := win_set (T := T) hkl rfl
    have q1 : ((k : Int) < ((n + 1 : Nat) : Int)) = True := eq_true (by omega)
    have q2 : (off + k < U.length) = True := eq_true hkl
    have q3 : ((k : Int) < (n : Int)) = True := eq_true (by omega)
    have q4 : (k < V.length) = True := eq_true (by omega)
    simp only [show ((0 : Nat) : Int) = 0 from rfl] at a1
    show loopR _ _ _ _ _ (RUN _ _ _ _) = _
    rw [b126_0_run]
    simp only [go_sem, ↓reduceIte, Nat.reduceAdd, Nat.reduceSub, Nat.reduceMul, Nat.reduceEqDiff, Nat.reduceLT, Nat.reduceShiftRight, Nat.reduceAnd, Nat.reduceBNe, Nat.reduceLeDiff, Nat.reduceBEq, Nat.testBit, Nat.zero_lt_one, Int.reduceToNat, Int.reduceNeg, Int.reduceLE, Int.reduceLT, Int.reduceEq, decide_true, decide_false, Bool.and_true, Bool.true_and, Bool.and_false, Bool.false_and, Bool.or_true, Bool.true_or, Bool.or_false, Bool.false_or, Bool.not_true, Bool.not_false, beq_self_eq_true, reduceCtorEq, Int.le_refl, Nat.add_zero, and_self, and_true, true_and, or_true, true_or, if_true, if_false, Nat.le_refl, Bool.and_self, eq_self, Bool.not_false, Bool.not_true, hlt, hw, hg, hgv, m, a1, w1, c103, q1, q2, q3, q4, lenc, hwl, setc, ws, oldc, Nat.mul_one]
  simp only [win_zero, mcry_zero, bor_zero, show ((0 : Nat) : Int) = 0 from rfl] at go
  have hkl : off + n < U.length := ho
  have hwl : (win U off n T).length = U.length := win_len (by omega)
  have hg := getc (L := win U off n T) (i := off + n) (by omega)
  rw [win_get (Nat.le_refl _) hkl] at hg
  have hx := wv_limb hU (off := off) (k := n + 1) (i := n) (by omega) hkl
  rw [hW] at hx
  have hWl : W < B64 ^ (n + 1) := by
    rw [← hW]
    have := val_lt ((hU.drop off).take (n + 1))
    rw [List.length_take, List.length_drop, Nat.min_eq_left (by omega)] at this
    exact this
  have ht : mcry q Z n = (q * Z) / B64 ^ n % B64 := by
    rw [mcry_top hZl, Nat.mod_eq_of_lt]
    rw [Nat.div_lt_iff_lt_mul (Bp_pos n), Nat.mul_comm B64, ← Nat.pow_succ]
    exact hP
  have c103 := Sub103 U[off + n] (mcry q Z n) (bor_le W (q * Z) n)
  rw [ht] at c103
  have hs := dif_digit W (q * Z) n (n + 1) (by omega) hP
  have hc := bor_succ W (q * Z) n
  rw [hT, ← hx] at hs
  rw [← hx] at hc
  rw [← hs, ← hc] at c103
  have ws := win_set (T := T) hkl rfl
  have hbor : bor W (q * Z) (n + 1) = if W < q * Z then 1 else 0 := by
    unfold bor
    rw [Nat.mod_eq_of_lt hWl, Nat.mod_eq_of_lt hP]
  rw [← ht] at c103
  have q1 : ((n : Int) < ((n + 1 : Nat) : Int)) = True := eq_true (by omega)
  have q2 : (off + n < U.length) = True := eq_true hkl
  rw [ICALL_def AA XX (fn := a126) rfl [.ref 3 off (n + 1), .ref 5 0 n, (AV.c (C.d (D.sc (Value.int IntKind.u64 ((q : Nat))))))] _ 7 rfl]
  simp only [a126, go_sem, ↓reduceIte, Nat.reduceAdd, Nat.reduceSub, Nat.reduceMul, Nat.reduceEqDiff, Nat.reduceLT, Nat.reduceShiftRight, Nat.reduceAnd, Nat.reduceBNe, Nat.reduceLeDiff, Nat.reduceBEq, Nat.testBit, Nat.zero_lt_one, Int.reduceToNat, Int.reduceNeg, Int.reduceLE, Int.reduceLT, Int.reduceEq, decide_true, decide_false, Bool.and_true, Bool.true_and, Bool.and_false, Bool.false_and, Bool.or_true, Bool.true_or, Bool.or_false, Bool.false_or, Bool.not_true, Bool.not_false, beq_self_eq_true, reduceCtorEq, Int.le_refl, Nat.add_zero, and_self, and_true, true_and, or_true, true_or, if_true, if_false, Nat.le_refl, Bool.and_self, eq_self, Bool.not_false, Bool.not_true, oldc]
  rw [go, b126_0_run]
  by_cases hlt : W < q * Z
  · rw [if_pos hlt] at hbor
    rw [hbor] at c103
    have d1 : decide (W < q * Z) = true := decide_eq_true hlt
    simp only [show ((1 : Nat) : Int) = 1 from rfl] at c103
    rw [d1]
    simp only [go_sem, ↓reduceIte, Nat.reduceAdd, Nat.reduceSub, Nat.reduceMul, Nat.reduceEqDiff, Nat.reduceLT, Nat.reduceShiftRight, Nat.reduceAnd, Nat.reduceBNe, Nat.reduceLeDiff, Nat.reduceBEq, Nat.testBit, Nat.zero_lt_one, Int.reduceToNat, Int.reduceNeg, Int.reduceLE, Int.reduceLT, Int.reduceEq, decide_true, decide_false, Bool.and_true, Bool.true_and, Bool.and_false, Bool.false_and, Bool.or_true, Bool.true_or, Bool.or_false, Bool.false_or, Bool.not_true, Bool.not_false, beq_self_eq_true, reduceCtorEq, Int.le_refl, Nat.add_zero, and_self, and_true, true_and, or_true, true_or, if_true, if_false, Nat.le_refl, Bool.and_self, eq_self, Bool.not_false, Bool.not_true, Int.lt_irrefl, hg, c103, q1, q2, lenc, hwl, setc, ws, oldc, Nat.mul_one]
    rfl
  · rw [if_neg hlt] at hbor
    rw [hbor] at c103
    have d1 : decide (W < q * Z) = false := decide_eq_false hlt
    simp only [show ((0 : Nat) : Int) = 0 from rfl] at c103
    rw [d1]
    simp only [go_sem, ↓reduceIte, Nat.reduceAdd, Nat.reduceSub, Nat.reduceMul, Nat.reduceEqDiff, Nat.reduceLT, Nat.reduceShiftRight, Nat.reduceAnd, Nat.reduceBNe, Nat.reduceLeDiff, Nat.reduceBEq, Nat.testBit, Nat.zero_lt_one, Int.reduceToNat, Int.reduceNeg, Int.reduceLE, Int.reduceLT, Int.reduceEq, decide_true, decide_false, Bool.and_true, Bool.true_and, Bool.and_false, Bool.false_and, Bool.or_true, Bool.true_or, Bool.or_false, Bool.false_or, Bool.not_true, Bool.not_false, beq_self_eq_true, reduceCtorEq, Int.le_refl, Nat.add_zero, and_self, and_true, true_and, or_true, true_or, if_true, if_false, Nat.le_refl, Bool.and_self, eq_self, Bool.not_false, Bool.not_true, Int.lt_irrefl, hg, c103, q1, q2, lenc, hwl, setc, ws, oldc, Nat.mul_one]
    rfl
theorem Plus127 {U V : List Nat} (hU : Limbs U) (hV : Limbs V) {n off : Nat} (hn : n ≤ V.length) (ho : off + n < U.length) (hb : U.length ≤ 1000000) (hbv : V.length ≤ 1000000) :
    (KL AA XX).icall 127 [.ref 3 off (n + 1), .ref 5 0 n] [(3, .arr (U.map w64)), (5, .arr (V.map w64))] 7 =
      some ((AV.c (C.d (D.sc (Value.bool (decide (B64 ^ (n + 1) ≤ wv U off (n + 1) + val (V.take n))))))), [(3, .arr ((win U off (n + 1) (wv U off (n + 1) + val (V.take n))).map w64)), (5, .arr (V.map w64))], 7) := by
  obtain ⟨Z, hZ⟩ : ∃ Z, val (V.take n) = Z := ⟨_, rfl⟩
  obtain ⟨W, hW⟩ : ∃ W, wv U off (n + 1) = W := ⟨_, rfl⟩
  have hZl : Z < B64 ^ n := by
    have := val_lt (hV.take n)
    rw [List.length_take, Nat.min_eq_left hn, hZ] at this
    exact this
  rw [hZ, hW]
  have go := iter (F := fun (k : Nat) => loopR AA XX [0, 1, 5, 8, 9, 10] 7 b127_0 (RUN AA XX b127_0 ⟨[(0, .ref 3 off (n + 1)), (1, .ref 5 0 n), (5, (AV.c (C.d (D.sc (Value.int IntKind.u64 ((cry W Z k : Nat))))))), (8, .ref 5 0 n), (9, (AV.c (C.d (D.sc (Value.int IntKind.i64 (n)))))), (10, (AV.c (C.d (D.sc (Value.int IntKind.i64 (k))))))], [(3, .arr ((win U off k (W + Z)).map w64)), (5, .arr (V.map w64))], 7⟩)) (Nat.zero_le n) fun k _ hk => by
    have hlt := ltT hk
    have hw := wrap_succ k (by omega)
    have hkl : off + k < U.length := by omega
    have hwl : (win U off k (W + Z)).length = U.length := win_len (by omega)
    have hg := getc (L := win U off k (W + Z)) (i := off + k) (by omega)
    rw [win_get (Nat.le_refl _) hkl] at hg
    have hgv := getc (L := V) (i := k) (by omega)
    have hx := wv_limb hU (off := off) (k := n + 1) (i := k) (by omega) hkl
    rw [hW] at hx
    have hy := vtake hV hk hn
    rw [hZ] at hy
    have c100 := Add100 U[off + k] V[k] (cry_le W Z k)
    have hs := sum_digit W Z k
    have hc := cry_succ W Z k
    rw [← hx, ← hy] at hs hc
    rw [← hs, ← hc] at c100
    have ws := win_set (T := W + Z) hkl rfl
    have q1 : ((k : Int) < ((n + 1 : Nat) : Int)) = True := eq_true (by omega)
    have q2 : (off + k < U.length) = True := eq_true hkl
    have q3 : ((k : Int) < (n : Int)) = True := eq_true (by omega)
    have q4 : (k < V.length) = True := eq_true (by omega)
    show loopR _ _ _ _ _ (RUN _ _ _ _) = _
    rw [b127_0_run]
    simp only [go_sem, ↓reduceIte, Nat.reduceAdd, Nat.reduceSub, Nat.reduceMul, Nat.reduceEqDiff, Nat.reduceLT, Nat.reduceShiftRight, Nat.reduceAnd, Nat.reduceBNe, Nat.reduceLeDiff, Nat.reduceBEq, Nat.testBit, Nat.zero_lt_one, Int.reduceToNat, Int.reduceNeg, Int.reduceLE, Int.reduceLT, Int.reduceEq, decide_true, decide_false, Bool.and_true, Bool.true_and, Bool.and_false, Bool.false_and, Bool.or_true, Bool.true_or, Bool.or_false, Bool.false_or, Bool.not_true, Bool.not_false, beq_self_eq_true, reduceCtorEq, Int.le_refl, Nat.add_zero, and_self, and_true, true_and, or_true, true_or, if_true, if_false, Nat.le_refl, Bool.and_self, eq_self, Bool.not_false, Bool.not_true, hlt, hw, hg, hgv, c100, q1, q2, q3, q4, lenc, hwl, setc, ws, oldc, Nat.mul_one]
  simp only [win_zero, cry_zero, show ((0 : Nat) : Int) = 0 from rfl] at go
  have hkl : off + n < U.length := ho
  have hwl : (win U off n (W + Z)).length = U.length := win_len (by omega)
  have hg := getc (L := win U off n (W + Z)) (i := off + n) (by omega)
  rw [win_get (Nat.le_refl _) hkl] at hg
  have hx := wv_limb hU (off := off) (k := n + 1) (i := n) (by omega) hkl
  rw [hW] at hx
  have hWl : W < B64 ^ (n + 1) := by
    rw [← hW]
    have := val_lt ((hU.drop off).take (n + 1))
    rw [List.length_take, List.length_drop, Nat.min_eq_left (by omega)] at this
    exact this
  have hZ0 : Z / B64 ^ n % B64 = 0 := by rw [Nat.div_eq_of_lt hZl]; rfl
  have c100 := Add100 U[off + n] (cry W Z n) (c := 0) (Nat.zero_le _)
  have hs := sum_digit W Z n
  have hc := cry_succ W Z n
  rw [hZ0, ← hx, Nat.add_zero] at hs
  rw [hZ0, ← hx, Nat.add_zero U[off + n]] at hc
  rw [Nat.add_zero (U[off + n] + cry W Z n), ← hs, ← hc] at c100
  have ws := win_set (T := W + Z) hkl rfl
  have hcr : cry W Z (n + 1) = (W + Z) / B64 ^ (n + 1) := by
    unfold cry
    rw [Nat.mod_eq_of_lt hWl, Nat.mod_eq_of_lt (Nat.lt_trans hZl (Nat.pow_lt_pow_right (by decide) (by omega)))]
  have hle := cry_le W Z (n + 1)
  have q1 : ((n : Int) < ((n + 1 : Nat) : Int)) = True := eq_true (by omega)
  have q2 : (off + n < U.length) = True := eq_true hkl
  rw [ICALL_def AA XX (fn := a127) rfl [.ref 3 off (n + 1), .ref 5 0 n] _ 7 rfl]
  simp only [a127, go_sem, ↓reduceIte, Nat.reduceAdd, Nat.reduceSub, Nat.reduceMul, Nat.reduceEqDiff, Nat.reduceLT, Nat.reduceShiftRight, Nat.reduceAnd, Nat.reduceBNe, Nat.reduceLeDiff, Nat.reduceBEq, Nat.testBit, Nat.zero_lt_one, Int.reduceToNat, Int.reduceNeg, Int.reduceLE, Int.reduceLT, Int.reduceEq, decide_true, decide_false, Bool.and_true, Bool.true_and, Bool.and_false, Bool.false_and, Bool.or_true, Bool.true_or, Bool.or_false, Bool.false_or, Bool.not_true, Bool.not_false, beq_self_eq_true, reduceCtorEq, Int.le_refl, Nat.add_zero, and_self, and_true, true_and, or_true, true_or, if_true, if_false, Nat.le_refl, Bool.and_self, eq_self, Bool.not_false, Bool.not_true, oldc]
  rw [go, b127_0_run]
  simp only [show ((0 : Nat) : Int) = 0 from rfl] at c100
  by_cases hlt : B64 ^ (n + 1) ≤ W + Z
  · have h1 : cry W Z (n + 1) = 1 := by
      have : 0 < (W + Z) / B64 ^ (n + 1) := Nat.div_pos hlt (Bp_pos _)
      omega
    rw [h1] at c100
    have d1 : decide (B64 ^ (n + 1) ≤ W + Z) = true := decide_eq_true hlt
    simp only [show ((1 : Nat) : Int) = 1 from rfl] at c100
    rw [d1]
    simp only [go_sem, ↓reduceIte, Nat.reduceAdd, Nat.reduceSub, Nat.reduceMul, Nat.reduceEqDiff, Nat.reduceLT, Nat.reduceShiftRight, Nat.reduceAnd, Nat.reduceBNe, Nat.reduceLeDiff, Nat.reduceBEq, Nat.testBit, Nat.zero_lt_one, Int.reduceToNat, Int.reduceNeg, Int.reduceLE, Int.reduceLT, Int.reduceEq, decide_true, decide_false, Bool.and_true, Bool.true_and, Bool.and_false, Bool.false_and, Bool.or_true, Bool.true_or, Bool.or_false, Bool.false_or, Bool.not_true, Bool.not_false, beq_self_eq_true, reduceCtorEq, Int.le_refl, Nat.add_zero, and_self, and_true, true_and, or_true, true_or, if_true, if_false, Nat.le_refl, Bool.and_self, eq_self, Bool.not_false, Bool.not_true, Int.lt_irrefl, hg, c100, q1, q2, lenc, hwl, setc, ws, oldc, Nat.mul_one]
    rfl
  · have h1 : cry W Z (n + 1) = 0 := by rw [hcr]; exact Nat.div_eq_of_lt (by omega)
    rw [h1] at c100
    have d1 : decide (B64 ^ (n + 1) ≤ W + Z) = false := decide_eq_false hlt
    simp only [show ((0 : Nat) : Int) = 0 from rfl] at c100
    rw [d1]
    simp only [go_sem, ↓reduceIte, Nat.reduceAdd, Nat.reduceSub, Nat.reduceMul, Nat.reduceEqDiff, Nat.reduceLT, Nat.reduceShiftRight, Nat.reduceAnd, Nat.reduceBNe, Nat.reduceLeDiff, Nat.reduceBEq, Nat.testBit, Nat.zero_lt_one, Int.reduceToNat, Int.reduceNeg, Int.reduceLE, Int.reduceLT, Int.reduceEq, decide_true, decide_false, Bool.and_true, Bool.true_and, Bool.and_false, Bool.false_and, Bool.or_true, Bool.true_or, Bool.or_false, Bool.false_or, Bool.not_true, Bool.not_false, beq_self_eq_true, reduceCtorEq, Int.le_refl, Nat.add_zero, and_self, and_true, true_and, or_true, true_or, if_true, if_false, Nat.le_refl, Bool.and_self, eq_self, Bool.not_false, Bool.not_true, Int.lt_irrefl, hg, c100, q1, q2, lenc, hwl, setc, ws, oldc, Nat.mul_one]
    rfl
end Go.Proofs.Ytpanbfainilmpaa.Ev.N
end
section
/- guess: how often v goes into the top of u. -/
set_option linter.unusedVariables false
set_option linter.unusedSimpArgs false
set_option maxRecDepth 100000
set_option maxHeartbeats 4000000
namespace Go.Proofs.Ytpanbfainilmpaa.Ev.N
open Go Go.Proofs.Ytpanbfainilmpaa.Ev

theorem wv_win {U : List Nat} {off k T : Nat} (h : off + k ≤ U.length) : wv (win U off k T) off k = T % B64 ^ k := by
  unfold wv win
  rw [List.append_assoc, List.drop_append_of_le_length (by rw [List.length_take]; omega)]
  rw [show (U.take off).drop off = [] by rw [List.drop_eq_nil_of_le (by rw [List.length_take]; omega)], List.nil_append, List.take_append_of_le_length (by rw [digs_len]; exact Nat.le_refl _), List.take_of_length_le (by rw [digs_len]; exact Nat.le_refl _), val_digs]
theorem win_win {U : List Nat} {off k T T' : Nat} (h : off + k ≤ U.length) : win (win U off k T) off k T' = win U off k T' := by
  unfold win
  have h1 : (U.take off ++ digs k T ++ U.drop (off + k)).take off = U.take off := by
    rw [List.append_assoc, List.take_append_of_le_length (by rw [List.length_take]; omega), List.take_take, Nat.min_self]
  have h2 : (U.take off ++ digs k T ++ U.drop (off + k)).drop (off + k) = U.drop (off + k) := by
    rw [List.drop_append_of_le_length (by rw [List.length_append, List.length_take, digs_len]; omega), List.drop_eq_nil_of_le (by rw [List.length_append, List.length_take, digs_len]; omega), List.nil_append]
  rw [h1, h2]
theorem win_congr {U : List Nat} {off k T T' : Nat} (h : T % B64 ^ k = T' % B64 ^ k) : win U off k T = win U off k T' := by
  unfold win
  rw [digs_congr h]

section
variable {U V : List Nat} {n off : Nat}
/-- Adding back, until it goes over. -/
theorem addback (hU : Limbs U) (hV : Limbs V) (hn : n ≤ V.length) (ho : off + n < U.length) (hb : U.length ≤ 1000000) (hbv : V.length ≤ 1000000) (hD : 0 < val (V.take n)) (W : Nat) (hWl : W < B64 ^ (n + 1)) :
    ∀ (m t : Nat), t = W / val (V.take n) + 1 + m → t < B64 → t * val (V.take n) ≤ W + B64 ^ (n + 1) → ∃ F', blockR 2 (loopR AA XX [0, 1, 6, 11] 7 b118_1 (RUN AA XX b118_1 ⟨[(0, .ref 3 off (n + 1)), (1, .ref 5 0 n), (6, (AV.c (C.d (D.sc (Value.int IntKind.u64 ((t : Nat))))))), (11, (AV.c (C.d (D.sc (Value.bool (false))))))], [(3, .arr ((win U off (n + 1) (W + B64 ^ (n + 1) - t * val (V.take n))).map w64)), (5, .arr (V.map w64))], 7⟩)) =
      some (.norm, ⟨F', [(3, .arr ((win U off (n + 1) (W % val (V.take n))).map w64)), (5, .arr (V.map w64))], 7⟩) ∧ F'.get 6 = (AV.c (C.d (D.sc (Value.int IntKind.u64 ((W / val (V.take n) : Nat)))))) := by
  obtain ⟨Z, hZ⟩ : ∃ Z, val (V.take n) = Z := ⟨_, rfl⟩
  rw [hZ] at hD ⊢
  have hdm := Nat.div_add_mod W Z
  have hml := Nat.mod_lt W hD
  obtain ⟨Q, hQ⟩ : ∃ Q, W / Z = Q := ⟨_, rfl⟩
  obtain ⟨R, hR⟩ : ∃ R, W % Z = R := ⟨_, rfl⟩
  rw [hQ, hR] at hdm
  rw [hR] at hml
  rw [hQ, hR]
  intro m
  induction m with
  | zero =>
    intro t ht htB hle
    have hp := Plus127 (win_limbs hU off (n + 1) (W + B64 ^ (n + 1) - t * Z)) hV hn (by rw [win_len (by omega)]; exact ho) (by rw [win_len (by omega)]; exact hb) hbv
    rw [wv_win (by omega), win_win (by omega), hZ] at hp
    have ht' : t * Z = Z * (Q) + Z := by rw [ht, Nat.add_zero, Nat.add_mul, Nat.one_mul, Nat.mul_comm]
    have hlt : W + B64 ^ (n + 1) - t * Z < B64 ^ (n + 1) := by omega
    rw [Nat.mod_eq_of_lt hlt] at hp
    have hs : W + B64 ^ (n + 1) - t * Z + Z = R + B64 ^ (n + 1) := by omega
    rw [hs] at hp
    have d1 : decide (B64 ^ (n + 1) ≤ R + B64 ^ (n + 1)) = true := decide_eq_true (by omega)
    have hwc : win U off (n + 1) (R + B64 ^ (n + 1)) = win U off (n + 1) (R) := win_congr (by rw [Nat.add_mod_right])
    rw [d1, hwc] at hp
    have w1 : IntKind.u64.wrap ((t : Int) - 1) = ((Q : Nat) : Int) := by
      rw [show (t : Int) - 1 = ((Q : Nat) : Int) by omega]
      exact wrap_u64_lt (by omega)
    have r1 : (3 = 5) = False := eq_false (by decide)
    rw [b118_1_run]
    simp only [go_sem, ↓reduceIte, Nat.reduceAdd, Nat.reduceSub, Nat.reduceMul, Nat.reduceEqDiff, Nat.reduceLT, Nat.reduceShiftRight, Nat.reduceAnd, Nat.reduceBNe, Nat.reduceLeDiff, Nat.reduceBEq, Nat.testBit, Nat.zero_lt_one, Int.reduceToNat, Int.reduceNeg, Int.reduceLE, Int.reduceLT, Int.reduceEq, decide_true, decide_false, Bool.and_true, Bool.true_and, Bool.and_false, Bool.false_and, Bool.or_true, Bool.true_or, Bool.or_false, Bool.false_or, Bool.not_true, Bool.not_false, beq_self_eq_true, reduceCtorEq, Int.le_refl, Nat.add_zero, and_self, and_true, true_and, or_true, true_or, if_true, if_false, Nat.le_refl, Bool.and_self, eq_self, Bool.not_false, Bool.not_true, w1, evOp_icall, reach_eq, cut_eq, ids_w, List.filter_cons, List.filter_nil, hp, icallQ_some, oldc]
    rw [b118_1_run]
    simp only [go_sem, ↓reduceIte, Nat.reduceAdd, Nat.reduceSub, Nat.reduceMul, Nat.reduceEqDiff, Nat.reduceLT, Nat.reduceShiftRight, Nat.reduceAnd, Nat.reduceBNe, Nat.reduceLeDiff, Nat.reduceBEq, Nat.testBit, Nat.zero_lt_one, Int.reduceToNat, Int.reduceNeg, Int.reduceLE, Int.reduceLT, Int.reduceEq, decide_true, decide_false, Bool.and_true, Bool.true_and, Bool.and_false, Bool.false_and, Bool.or_true, Bool.true_or, Bool.or_false, Bool.false_or, Bool.not_true, Bool.not_false, beq_self_eq_true, reduceCtorEq, Int.le_refl, Nat.add_zero, and_self, and_true, true_and, or_true, true_or, if_true, if_false, Nat.le_refl, Bool.and_self, eq_self, Bool.not_false, Bool.not_true, oldc]
    exact ⟨_, rfl, rfl⟩
  | succ m ih =>
    intro t ht htB hle
    have hp := Plus127 (win_limbs hU off (n + 1) (W + B64 ^ (n + 1) - t * Z)) hV hn (by rw [win_len (by omega)]; exact ho) (by rw [win_len (by omega)]; exact hb) hbv
    rw [wv_win (by omega), win_win (by omega), hZ] at hp
    have ht' : t * Z = (t - 1) * Z + Z := by
      conv => lhs; rw [show t = t - 1 + 1 by omega, Nat.add_mul, Nat.one_mul]
    have hge : (Q + 1) * Z ≤ (t - 1) * Z := Nat.mul_le_mul_right _ (by omega)
    rw [Nat.add_mul, Nat.one_mul, Nat.mul_comm (Q)] at hge
    have hlt : W + B64 ^ (n + 1) - t * Z < B64 ^ (n + 1) := by omega
    rw [Nat.mod_eq_of_lt hlt] at hp
    have hs : W + B64 ^ (n + 1) - t * Z + Z = W + B64 ^ (n + 1) - (t - 1) * Z := by omega
    rw [hs] at hp
    have d1 : decide (B64 ^ (n + 1) ≤ W + B64 ^ (n + 1) - (t - 1) * Z) = false := decide_eq_false (by omega)
    rw [d1] at hp
    have w1 : IntKind.u64.wrap ((t : Int) - 1) = ((t - 1 : Nat) : Int) := by
      rw [show (t : Int) - 1 = ((t - 1 : Nat) : Int) by omega]
      exact wrap_u64_lt (by omega)
    obtain ⟨F', g1, g2⟩ := ih (t - 1) (by omega) (by omega) (by omega)
    refine ⟨F', ?_, g2⟩
    rw [← g1, b118_1_run]
    simp only [go_sem, ↓reduceIte, Nat.reduceAdd, Nat.reduceSub, Nat.reduceMul, Nat.reduceEqDiff, Nat.reduceLT, Nat.reduceShiftRight, Nat.reduceAnd, Nat.reduceBNe, Nat.reduceLeDiff, Nat.reduceBEq, Nat.testBit, Nat.zero_lt_one, Int.reduceToNat, Int.reduceNeg, Int.reduceLE, Int.reduceLT, Int.reduceEq, decide_true, decide_false, Bool.and_true, Bool.true_and, Bool.and_false, Bool.false_and, Bool.or_true, Bool.true_or, Bool.or_false, Bool.false_or, Bool.not_true, Bool.not_false, beq_self_eq_true, reduceCtorEq, Int.le_refl, Nat.add_zero, and_self, and_true, true_and, or_true, true_or, if_true, if_false, Nat.le_refl, Bool.and_self, eq_self, Bool.not_false, Bool.not_true, w1, evOp_icall, reach_eq, cut_eq, ids_w, List.filter_cons, List.filter_nil, hp, icallQ_some, oldc]
end
end Go.Proofs.Ytpanbfainilmpaa.Ev.N
end
section
/- guess: the whole. -/
set_option linter.unusedVariables false
set_option linter.unusedSimpArgs false
set_option maxRecDepth 100000
set_option maxHeartbeats 4000000
namespace Go.Proofs.Ytpanbfainilmpaa.Ev.N
open Go Go.Proofs.Ytpanbfainilmpaa.Ev

theorem guess_loop {U V : List Nat} (hU : Limbs U) (hV : Limbs V) {k off Q N : Nat} (hn : k + 2 ≤ V.length) (ho : off + (k + 2) < U.length) (hb : U.length ≤ 1000000) (hbv : V.length ≤ 1000000)
    (gd : ∀ q r, q * V[k + 1] + r = N → r * B64 + U[off + k] < q * V[k] → Q < q) :
    ∀ (m q r : Nat), q ≤ m → q * V[k + 1] + r = N → Q ≤ q → q < B64 → r < B64 → ∃ F' q', blockR 0 (loopR AA XX [0, 1, 5, 6, 7] 7 b118_0 (RUN AA XX b118_0 ⟨[(0, .ref 3 off (k + 3)), (1, .ref 5 0 (k + 2)), (5, (AV.c (C.d (D.sc (Value.int IntKind.i64 ((k + 2 : Nat))))))), (6, (AV.c (C.d (D.sc (Value.int IntKind.u64 ((q : Nat))))))), (7, (AV.c (C.d (D.sc (Value.int IntKind.u64 ((r : Nat)))))))], [(3, .arr (U.map w64)), (5, .arr (V.map w64))], 7⟩)) =
      some (.norm, ⟨F', [(3, .arr (U.map w64)), (5, .arr (V.map w64))], 7⟩) ∧ Q ≤ q' ∧ q' < B64 ∧ F'.get 0 = .ref 3 off (k + 3) ∧ F'.get 1 = .ref 5 0 (k + 2) ∧ F'.get 6 = (AV.c (C.d (D.sc (Value.int IntKind.u64 ((q' : Nat)))))) := by
  have hB : B64 = 18446744073709551616 := rfl
  have hv0 := hV.get (show k < V.length by omega)
  have hv1 := hV.get (show k + 1 < V.length by omega)
  have hu0 := hU.get (show off + k < U.length by omega)
  have e2 : IntKind.i64.wrap (((k + 2 : Nat) : Int) - 2) = (k : Int) := by rw [wrap_i64 _ (by omega) (by omega)]; omega
  have e1 : IntKind.i64.wrap (((k + 2 : Nat) : Int) - 1) = ((k + 1 : Nat) : Int) := by rw [wrap_i64 _ (by omega) (by omega)]; omega
  have gv0 := getc (L := V) (i := k) (by omega)
  have gv1 := getc (L := V) (i := k + 1) (by omega)
  have gu0 := getc (L := U) (i := off + k) (by omega)
  have q1 : ((k : Int) < ((k + 2 : Nat) : Int)) = True := eq_true (by omega)
  have q2 : (((k + 1 : Nat) : Int) < ((k + 2 : Nat) : Int)) = True := eq_true (by omega)
  have q3 : ((k : Int) < ((k + 3 : Nat) : Int)) = True := eq_true (by omega)
  have p1 : (k < V.length) = True := eq_true (by omega)
  have p2 : (k + 1 < V.length) = True := eq_true (by omega)
  have p3 : (off + k < U.length) = True := eq_true (by omega)
  intro m
  induction m with
  | zero =>
    intro q r hm hq hQ hqB hr
    obtain rfl : q = 0 := by omega
    have mu := Mul120 (x := 0) (y := V[k]) (by omega) hv0
    rw [Nat.zero_mul, Nat.zero_div, Nat.zero_mod] at mu
    rw [b118_0_run]
    simp only [show ((0 : Nat) : Int) = 0 from rfl] at mu
    by_cases hr0 : r = 0
    · subst hr0
      have d2 : decide ((0 : Int) ≤ (U[off + k] : Int)) = true := decide_eq_true (by omega)
      simp only [go_sem, ↓reduceIte, Nat.reduceAdd, Nat.reduceSub, Nat.reduceMul, Nat.reduceEqDiff, Nat.reduceLT, Nat.reduceShiftRight, Nat.reduceAnd, Nat.reduceBNe, Nat.reduceLeDiff, Nat.reduceBEq, Nat.testBit, Nat.zero_lt_one, Int.reduceToNat, Int.reduceNeg, Int.reduceLE, Int.reduceLT, Int.reduceEq, decide_true, decide_false, Bool.and_true, Bool.true_and, Bool.and_false, Bool.false_and, Bool.or_true, Bool.true_or, Bool.or_false, Bool.false_or, Bool.not_true, Bool.not_false, beq_self_eq_true, reduceCtorEq, Int.le_refl, Nat.add_zero, and_self, and_true, true_and, or_true, true_or, if_true, if_false, Nat.le_refl, Bool.and_self, eq_self, Bool.not_false, Bool.not_true, show ((0 : Nat) : Int) = 0 from rfl, e2, gv0, gu0, mu, d2, q1, q3, p1, p3, lenc, Nat.mul_one, Int.lt_irrefl]
      exact ⟨_, 0, rfl, hQ, by omega, rfl, rfl, rfl⟩
    · have d1 : decide ((0 : Int) < (r : Int)) = true := decide_eq_true (by omega)
      simp only [go_sem, ↓reduceIte, Nat.reduceAdd, Nat.reduceSub, Nat.reduceMul, Nat.reduceEqDiff, Nat.reduceLT, Nat.reduceShiftRight, Nat.reduceAnd, Nat.reduceBNe, Nat.reduceLeDiff, Nat.reduceBEq, Nat.testBit, Nat.zero_lt_one, Int.reduceToNat, Int.reduceNeg, Int.reduceLE, Int.reduceLT, Int.reduceEq, decide_true, decide_false, Bool.and_true, Bool.true_and, Bool.and_false, Bool.false_and, Bool.or_true, Bool.true_or, Bool.or_false, Bool.false_or, Bool.not_true, Bool.not_false, beq_self_eq_true, reduceCtorEq, Int.le_refl, Nat.add_zero, and_self, and_true, true_and, or_true, true_or, if_true, if_false, Nat.le_refl, Bool.and_self, eq_self, Bool.not_false, Bool.not_true, show ((0 : Nat) : Int) = 0 from rfl, e2, gv0, gu0, mu, d1, q1, q3, p1, p3, lenc, Nat.mul_one]
      exact ⟨_, 0, rfl, hQ, by omega, rfl, rfl, rfl⟩
  | succ m ih =>
    intro q r hm hq hQ hqB hr
    have mu := Mul120 hqB hv0
    have hdm := Nat.div_add_mod (q * V[k]) B64
    have hml := Nat.mod_lt (q * V[k]) B_pos
    obtain ⟨hi, hhi⟩ : ∃ x, q * V[k] / B64 = x := ⟨_, rfl⟩
    obtain ⟨lo, hlo⟩ : ∃ x, q * V[k] % B64 = x := ⟨_, rfl⟩
    rw [hhi, hlo] at mu hdm
    rw [hlo] at hml
    rw [b118_0_run]
    by_cases c1 : hi < r
    · have d1 : decide ((hi : Int) < (r : Int)) = true := decide_eq_true (by omega)
      simp only [go_sem, ↓reduceIte, Nat.reduceAdd, Nat.reduceSub, Nat.reduceMul, Nat.reduceEqDiff, Nat.reduceLT, Nat.reduceShiftRight, Nat.reduceAnd, Nat.reduceBNe, Nat.reduceLeDiff, Nat.reduceBEq, Nat.testBit, Nat.zero_lt_one, Int.reduceToNat, Int.reduceNeg, Int.reduceLE, Int.reduceLT, Int.reduceEq, decide_true, decide_false, Bool.and_true, Bool.true_and, Bool.and_false, Bool.false_and, Bool.or_true, Bool.true_or, Bool.or_false, Bool.false_or, Bool.not_true, Bool.not_false, beq_self_eq_true, reduceCtorEq, Int.le_refl, Nat.add_zero, and_self, and_true, true_and, or_true, true_or, if_true, if_false, Nat.le_refl, Bool.and_self, eq_self, Bool.not_false, Bool.not_true, e2, gv0, gu0, mu, d1, q1, q3, p1, p3, lenc, Nat.mul_one]
      exact ⟨_, q, rfl, hQ, hqB, rfl, rfl, rfl⟩
    · have d1 : decide ((hi : Int) < (r : Int)) = false := decide_eq_false (by omega)
      have turn : r * B64 + U[off + k] < q * V[k] → ∃ F' q', blockR 0 (loopR AA XX [0, 1, 5, 6, 7] 7 b118_0 (RUN AA XX b118_0 ⟨[(0, .ref 3 off (k + 3)), (1, .ref 5 0 (k + 2)), (5, (AV.c (C.d (D.sc (Value.int IntKind.i64 ((k + 2 : Nat))))))), (6, (AV.c (C.d (D.sc (Value.int IntKind.u64 ((q : Nat))))))), (7, (AV.c (C.d (D.sc (Value.int IntKind.u64 ((r : Nat)))))))], [(3, .arr (U.map w64)), (5, .arr (V.map w64))], 7⟩)) =
      some (.norm, ⟨F', [(3, .arr (U.map w64)), (5, .arr (V.map w64))], 7⟩) ∧ Q ≤ q' ∧ q' < B64 ∧ F'.get 0 = .ref 3 off (k + 3) ∧ F'.get 1 = .ref 5 0 (k + 2) ∧ F'.get 6 = (AV.c (C.d (D.sc (Value.int IntKind.u64 ((q' : Nat)))))) := by
        intro hgt
        have hlt := gd q r hq hgt
        have w1 : IntKind.u64.wrap ((q : Int) - 1) = ((q - 1 : Nat) : Int) := by
          rw [show (q : Int) - 1 = ((q - 1 : Nat) : Int) by omega]
          exact wrap_u64_lt (by omega)
        have hq' : (q - 1) * V[k + 1] + (r + V[k + 1]) = N := by
          rw [← hq]
          conv => rhs; rw [show q = q - 1 + 1 by omega, Nat.add_mul, Nat.one_mul]
          omega
        have w2 : IntKind.u64.wrap ((r : Int) + (V[k + 1] : Int)) = (((r + V[k + 1]) % B64 : Nat) : Int) := by
          rw [← Int.natCast_add, wrap_u64]
        have d2 : decide ((hi : Int) = (r : Int)) = false ∨ (decide ((hi : Int) = (r : Int)) = true ∧ decide ((lo : Int) ≤ (U[off + k] : Int)) = false) := by
          by_cases h : hi = r
          · subst h
            refine .inr ⟨decide_eq_true rfl, decide_eq_false ?_⟩
            rw [← hdm, Nat.mul_comm] at hgt
            omega
          · exact .inl (decide_eq_false (by omega))
        rw [b118_0_run]
        by_cases hov : r + V[k + 1] < B64
        · rw [Nat.mod_eq_of_lt hov] at w2
          have d3 : decide (((r + V[k + 1] : Nat) : Int) < (r : Int)) = false := decide_eq_false (by omega)
          obtain ⟨F', q', g1, g2⟩ := ih (q - 1) (r + V[k + 1]) (by omega) hq' (by omega) (by omega) hov
          refine ⟨F', q', ?_, g2⟩
          rw [← g1]
          rcases d2 with d2 | ⟨d2, d4⟩
          · simp only [go_sem, ↓reduceIte, Nat.reduceAdd, Nat.reduceSub, Nat.reduceMul, Nat.reduceEqDiff, Nat.reduceLT, Nat.reduceShiftRight, Nat.reduceAnd, Nat.reduceBNe, Nat.reduceLeDiff, Nat.reduceBEq, Nat.testBit, Nat.zero_lt_one, Int.reduceToNat, Int.reduceNeg, Int.reduceLE, Int.reduceLT, Int.reduceEq, decide_true, decide_false, Bool.and_true, Bool.true_and, Bool.and_false, Bool.false_and, Bool.or_true, Bool.true_or, Bool.or_false, Bool.false_or, Bool.not_true, Bool.not_false, beq_self_eq_true, reduceCtorEq, Int.le_refl, Nat.add_zero, and_self, and_true, true_and, or_true, true_or, if_true, if_false, Nat.le_refl, Bool.and_self, eq_self, Bool.not_false, Bool.not_true, e2, e1, gv0, gv1, gu0, mu, d1, d2, d3, w1, w2, q1, q2, q3, p1, p2, p3, lenc, oldc, Nat.mul_one]
          · simp only [go_sem, ↓reduceIte, Nat.reduceAdd, Nat.reduceSub, Nat.reduceMul, Nat.reduceEqDiff, Nat.reduceLT, Nat.reduceShiftRight, Nat.reduceAnd, Nat.reduceBNe, Nat.reduceLeDiff, Nat.reduceBEq, Nat.testBit, Nat.zero_lt_one, Int.reduceToNat, Int.reduceNeg, Int.reduceLE, Int.reduceLT, Int.reduceEq, decide_true, decide_false, Bool.and_true, Bool.true_and, Bool.and_false, Bool.false_and, Bool.or_true, Bool.true_or, Bool.or_false, Bool.false_or, Bool.not_true, Bool.not_false, beq_self_eq_true, reduceCtorEq, Int.le_refl, Nat.add_zero, and_self, and_true, true_and, or_true, true_or, if_true, if_false, Nat.le_refl, Bool.and_self, eq_self, Bool.not_false, Bool.not_true, e2, e1, gv0, gv1, gu0, mu, d1, d2, d4, d3, w1, w2, q1, q2, q3, p1, p2, p3, lenc, oldc, Nat.mul_one]
        · have d3 : decide ((((r + V[k + 1]) % B64 : Nat) : Int) < (r : Int)) = true := decide_eq_true (by rw [hB] at hov hr hv1 ⊢; omega)
          rcases d2 with d2 | ⟨d2, d4⟩
          · simp only [go_sem, ↓reduceIte, Nat.reduceAdd, Nat.reduceSub, Nat.reduceMul, Nat.reduceEqDiff, Nat.reduceLT, Nat.reduceShiftRight, Nat.reduceAnd, Nat.reduceBNe, Nat.reduceLeDiff, Nat.reduceBEq, Nat.testBit, Nat.zero_lt_one, Int.reduceToNat, Int.reduceNeg, Int.reduceLE, Int.reduceLT, Int.reduceEq, decide_true, decide_false, Bool.and_true, Bool.true_and, Bool.and_false, Bool.false_and, Bool.or_true, Bool.true_or, Bool.or_false, Bool.false_or, Bool.not_true, Bool.not_false, beq_self_eq_true, reduceCtorEq, Int.le_refl, Nat.add_zero, and_self, and_true, true_and, or_true, true_or, if_true, if_false, Nat.le_refl, Bool.and_self, eq_self, Bool.not_false, Bool.not_true, e2, e1, gv0, gv1, gu0, mu, d1, d2, d3, w1, w2, q1, q2, q3, p1, p2, p3, lenc, oldc, Nat.mul_one]
            exact ⟨_, q - 1, rfl, by omega, by omega, rfl, rfl, rfl⟩
          · simp only [go_sem, ↓reduceIte, Nat.reduceAdd, Nat.reduceSub, Nat.reduceMul, Nat.reduceEqDiff, Nat.reduceLT, Nat.reduceShiftRight, Nat.reduceAnd, Nat.reduceBNe, Nat.reduceLeDiff, Nat.reduceBEq, Nat.testBit, Nat.zero_lt_one, Int.reduceToNat, Int.reduceNeg, Int.reduceLE, Int.reduceLT, Int.reduceEq, decide_true, decide_false, Bool.and_true, Bool.true_and, Bool.and_false, Bool.false_and, Bool.or_true, Bool.true_or, Bool.or_false, Bool.false_or, Bool.not_true, Bool.not_false, beq_self_eq_true, reduceCtorEq, Int.le_refl, Nat.add_zero, and_self, and_true, true_and, or_true, true_or, if_true, if_false, Nat.le_refl, Bool.and_self, eq_self, Bool.not_false, Bool.not_true, e2, e1, gv0, gv1, gu0, mu, d1, d2, d4, d3, w1, w2, q1, q2, q3, p1, p2, p3, lenc, oldc, Nat.mul_one]
            exact ⟨_, q - 1, rfl, by omega, by omega, rfl, rfl, rfl⟩
      rw [← b118_0_run]
      by_cases c2 : hi = r
      · subst c2
        by_cases c3 : lo ≤ U[off + k]
        · have d2 : decide ((hi : Int) = (hi : Int)) = true := decide_eq_true rfl
          have d4 : decide ((lo : Int) ≤ (U[off + k] : Int)) = true := decide_eq_true (by omega)
          rw [b118_0_run]
          simp only [go_sem, ↓reduceIte, Nat.reduceAdd, Nat.reduceSub, Nat.reduceMul, Nat.reduceEqDiff, Nat.reduceLT, Nat.reduceShiftRight, Nat.reduceAnd, Nat.reduceBNe, Nat.reduceLeDiff, Nat.reduceBEq, Nat.testBit, Nat.zero_lt_one, Int.reduceToNat, Int.reduceNeg, Int.reduceLE, Int.reduceLT, Int.reduceEq, decide_true, decide_false, Bool.and_true, Bool.true_and, Bool.and_false, Bool.false_and, Bool.or_true, Bool.true_or, Bool.or_false, Bool.false_or, Bool.not_true, Bool.not_false, beq_self_eq_true, reduceCtorEq, Int.le_refl, Nat.add_zero, and_self, and_true, true_and, or_true, true_or, if_true, if_false, Nat.le_refl, Bool.and_self, eq_self, Bool.not_false, Bool.not_true, e2, gv0, gu0, mu, d1, d2, d4, q1, q3, p1, p3, lenc, Nat.mul_one, Int.lt_irrefl]
          exact ⟨_, q, rfl, hQ, hqB, rfl, rfl, rfl⟩
        · exact turn (by rw [← hdm, Nat.mul_comm]; omega)
      · have : (r + 1) * B64 ≤ hi * B64 := Nat.mul_le_mul_right _ (by omega)
        rw [Nat.add_mul, Nat.one_mul] at this
        exact turn (by rw [← hdm, Nat.mul_comm B64 hi]; omega)

theorem Guess118 {U V : List Nat} (hU : Limbs U) (hV : Limbs V) {k off : Nat} (hn : k + 2 ≤ V.length) (ho : off + (k + 2) < U.length) (hb : U.length ≤ 1000000) (hbv : V.length ≤ 1000000)
    (hD : 0 < val (V.take (k + 2))) (hQ : wv U off (k + 3) / val (V.take (k + 2)) < B64) :
    (KL AA XX).icall 118 [.ref 3 off (k + 3), .ref 5 0 (k + 2)] [(3, .arr (U.map w64)), (5, .arr (V.map w64))] 7 =
      some ((AV.c (C.d (D.sc (Value.int IntKind.u64 ((wv U off (k + 3) / val (V.take (k + 2)) : Nat)))))), [(3, .arr ((win U off (k + 3) (wv U off (k + 3) % val (V.take (k + 2)))).map w64)), (5, .arr (V.map w64))], 7) := by
  have hB : B64 = 18446744073709551616 := rfl
  have hless := fun q hq => Less126 (q := q) hU hV (n := k + 2) hn ho hb hbv hq
  have hadd := addback hU hV (n := k + 2) hn ho hb hbv hD
  have hWl : wv U off (k + 3) < B64 ^ (k + 3) := by
    have := val_lt ((hU.drop off).take (k + 3))
    rw [List.length_take, List.length_drop, Nat.min_eq_left (by omega)] at this
    exact this
  have hDl : val (V.take (k + 2)) < B64 ^ (k + 2) := by
    have := val_lt (hV.take (k + 2))
    rw [List.length_take, Nat.min_eq_left hn] at this
    exact this
  -- the top limbs
  have hu2 := wv_limb hU (off := off) (k := k + 3) (i := k + 2) (by omega) (by omega)
  have hu1 := wv_limb hU (off := off) (k := k + 3) (i := k + 1) (by omega) (by omega)
  have hu0 := wv_limb hU (off := off) (k := k + 3) (i := k) (by omega) (by omega)
  have hv1 := vtake hV (n := k + 2) (k := k + 1) (by omega) hn
  have hv0 := vtake hV (n := k + 2) (k := k) (by omega) hn
  obtain ⟨W, hW⟩ : ∃ W, wv U off (k + 3) = W := ⟨_, rfl⟩
  obtain ⟨Z, hZ⟩ : ∃ Z, val (V.take (k + 2)) = Z := ⟨_, rfl⟩
  have hless' : ∀ q, q < B64 → (KL AA XX).icall 126 [.ref 3 off (k + 3), .ref 5 0 (k + 2), (AV.c (C.d (D.sc (Value.int IntKind.u64 ((q : Nat))))))] [(3, .arr (U.map w64)), (5, .arr (V.map w64))] 7 =
      some ((AV.c (C.d (D.sc (Value.bool (decide (W < q * Z)))))), [(3, .arr ((win U off (k + 3) (W + B64 ^ (k + 3) - q * Z)).map w64)), (5, .arr (V.map w64))], 7) := by
    intro q hq
    have := hless q hq
    rw [hW, hZ] at this
    exact this
  rw [hZ] at hadd hD hDl hQ hv1 hv0 ⊢
  rw [hW] at hu2 hu1 hu0 hWl hQ ⊢
  have hadd' := hadd W hWl
  clear hless hadd
  have split3 : W = ((U[off + (k + 2)] * B64 + U[off + (k + 1)]) * B64 + U[off + k]) * B64 ^ k + W % B64 ^ k := by
    have f0 := Nat.div_add_mod W (B64 ^ k)
    have f1 := Nat.div_add_mod (W / B64 ^ k) B64
    have f2 := Nat.div_add_mod (W / B64 ^ (k + 1)) B64
    rw [Nat.div_div_eq_div_mul, ← Nat.pow_succ, Nat.succ_eq_add_one, ← hu0] at f1
    rw [Nat.div_div_eq_div_mul, ← Nat.pow_succ, Nat.succ_eq_add_one, ← hu1] at f2
    have h3 : W / B64 ^ (k + 1 + 1) = U[off + (k + 2)] := by
      rw [hu2, Nat.mod_eq_of_lt]
      rw [Nat.div_lt_iff_lt_mul (Bp_pos _), Nat.mul_comm, ← Nat.pow_succ]
      exact hWl
    rw [h3] at f2
    rw [Nat.mul_comm U[off + (k + 2)], f2, Nat.mul_comm (W / B64 ^ (k + 1)), f1, Nat.mul_comm (W / B64 ^ k), f0]
  have splitv : Z = (V[k + 1] * B64 + V[k]) * B64 ^ k + Z % B64 ^ k := by
    have f0 := Nat.div_add_mod Z (B64 ^ k)
    have f1 := Nat.div_add_mod (Z / B64 ^ k) B64
    rw [Nat.div_div_eq_div_mul, ← Nat.pow_succ, Nat.succ_eq_add_one, ← hv0] at f1
    have h3 : Z / B64 ^ (k + 1) = V[k + 1] := by
      rw [hv1, Nat.mod_eq_of_lt]
      rw [Nat.div_lt_iff_lt_mul (Bp_pos _), Nat.mul_comm, ← Nat.pow_succ]
      exact hDl
    rw [h3] at f1
    rw [Nat.mul_comm V[k + 1], f1, Nat.mul_comm (Z / B64 ^ k), f0]
  have gd : ∀ q r, q * V[k + 1] + r = U[off + (k + 2)] * B64 + U[off + (k + 1)] → r * B64 + U[off + k] < q * V[k] → W / Z < q := fun q r hq hgt =>
    quot_le hD (guess_down split3 (Nat.mod_lt _ (Bp_pos k)) splitv hq hgt)
  have end1 : ∀ q, ¬ W < q * Z → W / Z ≤ q → q < B64 → q = W / Z ∧ win U off (k + 3) (W + B64 ^ (k + 3) - q * Z) = win U off (k + 3) (W % Z) := by
    intro q h1 h2 h3
    have h4 := quot_ge hD h1
    have h5 : q = W / Z := Nat.le_antisymm h4 h2
    refine ⟨h5, win_congr ?_⟩
    have hdm := Nat.div_add_mod W Z
    rw [h5, Nat.mul_comm, show W + B64 ^ (k + 3) - Z * (W / Z) = W % Z + B64 ^ (k + 3) by omega, Nat.add_mod_right]
  have bnd : ∀ q, q < B64 → q * Z ≤ W + B64 ^ (k + 3) := by
    intro q hq
    have h1 : q * Z ≤ B64 * B64 ^ (k + 2) := Nat.mul_le_mul (Nat.le_of_lt hq) (Nat.le_of_lt hDl)
    rw [Nat.mul_comm B64, ← Nat.pow_succ] at h1
    exact Nat.le_trans h1 (Nat.le_add_left _ _)
  have e1 : IntKind.i64.wrap (((k + 2 : Nat) : Int) - 1) = ((k + 1 : Nat) : Int) := by rw [wrap_i64 _ (by omega) (by omega)]; omega
  have gv1 := getc (L := V) (i := k + 1) (by omega)
  have gu2 := getc (L := U) (i := off + (k + 2)) (by omega)
  have gu1 := getc (L := U) (i := off + (k + 1)) (by omega)
  have q1 : (((k + 2 : Nat) : Int) < ((k + 3 : Nat) : Int)) = True := eq_true (by omega)
  have q2 : (((k + 1 : Nat) : Int) < ((k + 2 : Nat) : Int)) = True := eq_true (by omega)
  have q3 : (((k + 1 : Nat) : Int) < ((k + 3 : Nat) : Int)) = True := eq_true (by omega)
  have p1 : (off + (k + 2) < U.length) = True := eq_true (by omega)
  have p2 : (k + 1 < V.length) = True := eq_true (by omega)
  have p3 : (off + (k + 1) < U.length) = True := eq_true (by omega)
  have hu2l := hU.get (show off + (k + 2) < U.length by omega)
  have hu1l := hU.get (show off + (k + 1) < U.length by omega)
  have hv1l := hV.get (show k + 1 < V.length by omega)
  rw [ICALL_def AA XX (fn := a118) rfl [.ref 3 off (k + 3), .ref 5 0 (k + 2)] _ 7 rfl]
  by_cases hlt : U[off + (k + 2)] < V[k + 1]
  · have d1 : decide ((U[off + (k + 2)] : Int) < (V[k + 1] : Int)) = true := decide_eq_true (by omega)
    have hdv := Div115 (hi := U[off + (k + 2)]) (lo := U[off + (k + 1)]) (y := V[k + 1]) (by omega) hlt hu1l hv1l
    have hdm := Nat.div_add_mod (U[off + (k + 2)] * B64 + U[off + (k + 1)]) V[k + 1]
    have hml := Nat.mod_lt (U[off + (k + 2)] * B64 + U[off + (k + 1)]) (show 0 < V[k + 1] by omega)
    have hqB : (U[off + (k + 2)] * B64 + U[off + (k + 1)]) / V[k + 1] < B64 := by
      rw [Nat.div_lt_iff_lt_mul (by omega)]
      have : (U[off + (k + 2)] + 1) * B64 ≤ V[k + 1] * B64 := Nat.mul_le_mul_right _ hlt
      rw [Nat.add_mul, Nat.one_mul] at this
      rw [Nat.mul_comm B64]; omega
    have hQq : W / Z ≤ (U[off + (k + 2)] * B64 + U[off + (k + 1)]) / V[k + 1] := by
      refine guess_top (C := B64 * B64 ^ k) (p := U[off + k] * B64 ^ k + W % B64 ^ k) (d := V[k] * B64 ^ k + Z % B64 ^ k) (by omega) ?_ ?_ ?_ hD
      · conv => lhs; rw [split3, Nat.add_mul, Nat.mul_assoc, Nat.add_assoc]
      · have h1 := hU.get (show off + k < U.length by omega)
        have h2 := Nat.mod_lt W (Bp_pos k)
        have : (U[off + k] + 1) * B64 ^ k ≤ B64 * B64 ^ k := Nat.mul_le_mul_right _ h1
        rw [Nat.add_mul, Nat.one_mul] at this
        omega
      · conv => lhs; rw [splitv, Nat.add_mul, Nat.mul_assoc, Nat.add_assoc]
    obtain ⟨F', q', g1, g2, g3, g4, g5, g6⟩ := guess_loop hU hV hn ho hb hbv (Q := W / Z) (N := U[off + (k + 2)] * B64 + U[off + (k + 1)]) gd _ _ _ (Nat.le_refl _) (by rw [Nat.mul_comm]; exact hdm) hQq hqB (by omega)
    have hl := hless' q' g3
    simp only [a118, go_sem, ↓reduceIte, Nat.reduceAdd, Nat.reduceSub, Nat.reduceMul, Nat.reduceEqDiff, Nat.reduceLT, Nat.reduceShiftRight, Nat.reduceAnd, Nat.reduceBNe, Nat.reduceLeDiff, Nat.reduceBEq, Nat.testBit, Nat.zero_lt_one, Int.reduceToNat, Int.reduceNeg, Int.reduceLE, Int.reduceLT, Int.reduceEq, decide_true, decide_false, Bool.and_true, Bool.true_and, Bool.and_false, Bool.false_and, Bool.or_true, Bool.true_or, Bool.or_false, Bool.false_or, Bool.not_true, Bool.not_false, beq_self_eq_true, reduceCtorEq, Int.le_refl, Nat.add_zero, and_self, and_true, true_and, or_true, true_or, if_true, if_false, Nat.le_refl, Bool.and_self, eq_self, Bool.not_false, Bool.not_true, oldc, e1, gv1, gu2, gu1, d1, hdv, q1, q2, q3, p1, p2, p3, lenc, Nat.mul_one, show ((0 : Nat) : Int) = 0 from rfl]
    rw [g1]
    by_cases hg : W < q' * Z
    · have d2 : decide (W < q' * Z) = true := decide_eq_true hg
      rw [d2] at hl
      obtain ⟨F2, f1, f2⟩ := hadd' (q' - (W / Z) - 1) q' (by have := quot_le hD hg; omega) g3 (bnd q' g3)
      simp only [go_sem, ↓reduceIte, Nat.reduceAdd, Nat.reduceSub, Nat.reduceMul, Nat.reduceEqDiff, Nat.reduceLT, Nat.reduceShiftRight, Nat.reduceAnd, Nat.reduceBNe, Nat.reduceLeDiff, Nat.reduceBEq, Nat.testBit, Nat.zero_lt_one, Int.reduceToNat, Int.reduceNeg, Int.reduceLE, Int.reduceLT, Int.reduceEq, decide_true, decide_false, Bool.and_true, Bool.true_and, Bool.and_false, Bool.false_and, Bool.or_true, Bool.true_or, Bool.or_false, Bool.false_or, Bool.not_true, Bool.not_false, beq_self_eq_true, reduceCtorEq, Int.le_refl, Nat.add_zero, and_self, and_true, true_and, or_true, true_or, if_true, if_false, Nat.le_refl, Bool.and_self, eq_self, Bool.not_false, Bool.not_true, g4, g5, g6, evOp_icall, reach_eq, cut_eq, ids_w, List.filter_cons, List.filter_nil, hl, icallQ_some, oldc]
      rw [f1]
      simp only [go_sem, ↓reduceIte, Nat.reduceAdd, Nat.reduceSub, Nat.reduceMul, Nat.reduceEqDiff, Nat.reduceLT, Nat.reduceShiftRight, Nat.reduceAnd, Nat.reduceBNe, Nat.reduceLeDiff, Nat.reduceBEq, Nat.testBit, Nat.zero_lt_one, Int.reduceToNat, Int.reduceNeg, Int.reduceLE, Int.reduceLT, Int.reduceEq, decide_true, decide_false, Bool.and_true, Bool.true_and, Bool.and_false, Bool.false_and, Bool.or_true, Bool.true_or, Bool.or_false, Bool.false_or, Bool.not_true, Bool.not_false, beq_self_eq_true, reduceCtorEq, Int.le_refl, Nat.add_zero, and_self, and_true, true_and, or_true, true_or, if_true, if_false, Nat.le_refl, Bool.and_self, eq_self, Bool.not_false, Bool.not_true, f2]
      rfl
    · have d2 : decide (W < q' * Z) = false := decide_eq_false hg
      obtain ⟨h1, h2⟩ := end1 q' hg g2 g3
      rw [d2, h2] at hl
      simp only [go_sem, ↓reduceIte, Nat.reduceAdd, Nat.reduceSub, Nat.reduceMul, Nat.reduceEqDiff, Nat.reduceLT, Nat.reduceShiftRight, Nat.reduceAnd, Nat.reduceBNe, Nat.reduceLeDiff, Nat.reduceBEq, Nat.testBit, Nat.zero_lt_one, Int.reduceToNat, Int.reduceNeg, Int.reduceLE, Int.reduceLT, Int.reduceEq, decide_true, decide_false, Bool.and_true, Bool.true_and, Bool.and_false, Bool.false_and, Bool.or_true, Bool.true_or, Bool.or_false, Bool.false_or, Bool.not_true, Bool.not_false, beq_self_eq_true, reduceCtorEq, Int.le_refl, Nat.add_zero, and_self, and_true, true_and, or_true, true_or, if_true, if_false, Nat.le_refl, Bool.and_self, eq_self, Bool.not_false, Bool.not_true, g4, g5, g6, evOp_icall, reach_eq, cut_eq, ids_w, List.filter_cons, List.filter_nil, hl, icallQ_some, oldc]
      rw [h1]
      rfl
  · have d1 : decide ((U[off + (k + 2)] : Int) < (V[k + 1] : Int)) = false := decide_eq_false (by omega)
    have hl := hless' 18446744073709551615 (by rw [hB]; omega)
    simp only [castL] at hl
    by_cases hg : W < 18446744073709551615 * Z
    · have d2 : decide (W < 18446744073709551615 * Z) = true := decide_eq_true hg
      rw [d2] at hl
      obtain ⟨F2, f1, f2⟩ := hadd' (18446744073709551615 - (W / Z) - 1) 18446744073709551615 (by have := quot_le hD hg; omega) (by rw [hB]; omega) (bnd _ (by rw [hB]; omega))
      simp only [castL] at f1
      simp only [a118, go_sem, ↓reduceIte, Nat.reduceAdd, Nat.reduceSub, Nat.reduceMul, Nat.reduceEqDiff, Nat.reduceLT, Nat.reduceShiftRight, Nat.reduceAnd, Nat.reduceBNe, Nat.reduceLeDiff, Nat.reduceBEq, Nat.testBit, Nat.zero_lt_one, Int.reduceToNat, Int.reduceNeg, Int.reduceLE, Int.reduceLT, Int.reduceEq, decide_true, decide_false, Bool.and_true, Bool.true_and, Bool.and_false, Bool.false_and, Bool.or_true, Bool.true_or, Bool.or_false, Bool.false_or, Bool.not_true, Bool.not_false, beq_self_eq_true, reduceCtorEq, Int.le_refl, Nat.add_zero, and_self, and_true, true_and, or_true, true_or, if_true, if_false, Nat.le_refl, Bool.and_self, eq_self, Bool.not_false, Bool.not_true, oldc, e1, gv1, gu2, d1, q1, q2, p1, p2, lenc, Nat.mul_one, evOp_icall, reach_eq, cut_eq, ids_w, List.filter_cons, List.filter_nil, hl, icallQ_some]
      rw [f1]
      simp only [go_sem, ↓reduceIte, Nat.reduceAdd, Nat.reduceSub, Nat.reduceMul, Nat.reduceEqDiff, Nat.reduceLT, Nat.reduceShiftRight, Nat.reduceAnd, Nat.reduceBNe, Nat.reduceLeDiff, Nat.reduceBEq, Nat.testBit, Nat.zero_lt_one, Int.reduceToNat, Int.reduceNeg, Int.reduceLE, Int.reduceLT, Int.reduceEq, decide_true, decide_false, Bool.and_true, Bool.true_and, Bool.and_false, Bool.false_and, Bool.or_true, Bool.true_or, Bool.or_false, Bool.false_or, Bool.not_true, Bool.not_false, beq_self_eq_true, reduceCtorEq, Int.le_refl, Nat.add_zero, and_self, and_true, true_and, or_true, true_or, if_true, if_false, Nat.le_refl, Bool.and_self, eq_self, Bool.not_false, Bool.not_true, f2]
      rfl
    · have d2 : decide (W < 18446744073709551615 * Z) = false := decide_eq_false hg
      obtain ⟨h1, h2⟩ := end1 18446744073709551615 hg (by rw [hB] at hQ; omega) (by rw [hB]; omega)
      rw [d2, h2] at hl
      simp only [a118, go_sem, ↓reduceIte, Nat.reduceAdd, Nat.reduceSub, Nat.reduceMul, Nat.reduceEqDiff, Nat.reduceLT, Nat.reduceShiftRight, Nat.reduceAnd, Nat.reduceBNe, Nat.reduceLeDiff, Nat.reduceBEq, Nat.testBit, Nat.zero_lt_one, Int.reduceToNat, Int.reduceNeg, Int.reduceLE, Int.reduceLT, Int.reduceEq, decide_true, decide_false, Bool.and_true, Bool.true_and, Bool.and_false, Bool.false_and, Bool.or_true, Bool.true_or, Bool.or_false, Bool.false_or, Bool.not_true, Bool.not_false, beq_self_eq_true, reduceCtorEq, Int.le_refl, Nat.add_zero, and_self, and_true, true_and, or_true, true_or, if_true, if_false, Nat.le_refl, Bool.and_self, eq_self, Bool.not_false, Bool.not_true, oldc, e1, gv1, gu2, d1, q1, q2, p1, p2, lenc, Nat.mul_one, evOp_icall, reach_eq, cut_eq, ids_w, List.filter_cons, List.filter_nil, hl, icallQ_some]
      rw [← h1]
      rfl
end Go.Proofs.Ytpanbfainilmpaa.Ev.N
end
section
/- Divide: by one limb. -/
set_option linter.unusedVariables false
set_option linter.unusedSimpArgs false
set_option maxRecDepth 100000
set_option maxHeartbeats 4000000
namespace Go.Proofs.Ytpanbfainilmpaa.Ev.N
open Go Go.Proofs.Ytpanbfainilmpaa.Ev

theorem short_step {a : List Nat} (ha : Limbs a) (la : a.length ≤ 100000) {y : Nat} (hy : 0 < y) (hyB : y < B64) (j : Nat) (hj : j < a.length) :
    loopR AA XX [0, 1, 8, 9, 10] 3 b83_0 (RUN AA XX b83_0 ⟨[(0, (AV.c (C.d (D.sl (List.map n64 (a)))))), (1, (AV.c (C.d (D.sl (List.map n64 ([y])))))), (8, .ref 2 0 a.length), (9, (AV.c (C.d (D.sc (Value.int IntKind.u64 ((val a / B64 ^ (j + 1) % y : Nat))))))), (10, (AV.c (C.d (D.sc (Value.int IntKind.i64 (j))))))], [(0, .tok 0 0), (1, .tok 0 0), (2, .arr ((digs a.length (val a / B64 ^ (j + 1) / y * B64 ^ (j + 1))).map w64))], 3⟩) =
    loopR AA XX [0, 1, 8, 9, 10] 3 b83_0 (RUN AA XX b83_0 ⟨[(0, (AV.c (C.d (D.sl (List.map n64 (a)))))), (1, (AV.c (C.d (D.sl (List.map n64 ([y])))))), (8, .ref 2 0 a.length), (9, (AV.c (C.d (D.sc (Value.int IntKind.u64 ((val a / B64 ^ j % y : Nat))))))), (10, (AV.c (C.d (D.sc (Value.int IntKind.i64 ((j : Int) - 1))))))], [(0, .tok 0 0), (1, .tok 0 0), (2, .arr ((digs a.length (val a / B64 ^ j / y * B64 ^ j)).map w64))], 3⟩) := by
  obtain ⟨_, s2, s3, s4⟩ := place_step (val a) y j hy
  have hx : a[j] = val a / B64 ^ j % B64 := by rw [← limb_eq ha, limb_get hj]
  rw [← hx] at s2 s3 s4
  have hr := Nat.mod_lt (val a / B64 ^ (j + 1)) hy
  have hdv := Div115 (lo := a[j]) hy hr (ha.get hj) hyB
  rw [← s3] at hdv
  have hqs : val a / B64 ^ (j + 1) / y * B64 ^ (j + 1) < B64 ^ a.length :=
    Nat.lt_of_le_of_lt (Nat.le_trans (Nat.mul_le_mul_right _ (Nat.div_le_self _ _)) (Nat.div_mul_le_self _ _)) (val_lt ha)
  obtain ⟨t1, _⟩ := quot_set hj s4 hqs
  rw [← s2] at t1
  have hg := getn hj
  have hw := wrap_i64_pred j (by omega)
  have d0 : decide ((0 : Int) ≤ (j : Int)) = true := decide_eq_true (by omega)
  have q1 : ((j : Int) < (a.length : Int)) = True := eq_true (by omega)
  have q2 : (j < a.length) = True := eq_true hj
  have hdl := digs_len a.length (val a / B64 ^ (j + 1) / y * B64 ^ (j + 1))
  rw [b83_0_run]
  simp only [go_sem, ↓reduceIte, Nat.reduceAdd, Nat.reduceSub, Nat.reduceMul, Nat.reduceEqDiff, Nat.reduceLT, Nat.reduceShiftRight, Nat.reduceAnd, Nat.reduceBNe, Nat.reduceLeDiff, Nat.reduceBEq, Nat.testBit, Nat.zero_lt_one, Int.reduceToNat, Int.reduceNeg, Int.reduceLE, Int.reduceLT, Int.reduceEq, decide_true, decide_false, Bool.and_true, Bool.true_and, Bool.and_false, Bool.false_and, Bool.or_true, Bool.true_or, Bool.or_false, Bool.false_or, Bool.not_true, Bool.not_false, beq_self_eq_true, reduceCtorEq, Int.le_refl, Nat.add_zero, and_self, and_true, true_and, or_true, true_or, if_true, if_false, Nat.le_refl, Bool.and_self, eq_self, Bool.not_false, Bool.not_true, d0, hg, hdv, hw, q1, q2, lenc, hdl, setc, t1, oldc, Nat.mul_one, n64]
end Go.Proofs.Ytpanbfainilmpaa.Ev.N
end
section
/- Divide: Knuth's loop. -/
set_option linter.unusedVariables false
set_option linter.unusedSimpArgs false
set_option maxRecDepth 100000
set_option maxHeartbeats 4000000
namespace Go.Proofs.Ytpanbfainilmpaa.Ev.N
open Go Go.Proofs.Ytpanbfainilmpaa.Ev

theorem val_win {U : List Nat} {off k T : Nat} (h : off + k ≤ U.length) : val (win U off k T) = val (U.take off) + B64 ^ off * (T % B64 ^ k) + B64 ^ (off + k) * val (U.drop (off + k)) := by
  unfold win
  rw [val_append, val_append, val_digs, List.length_append, List.length_take, digs_len, Nat.min_eq_left (by omega)]
theorem wv_eq {U : List Nat} (hU : Limbs U) {off k : Nat} (h : off + k ≤ U.length) : wv U off k = val U / B64 ^ off % B64 ^ k := by
  unfold wv
  rw [val_take (hU.drop off) (by rw [List.length_drop]; omega), val_drop hU (by omega)]
/-- The window of what is left, mended. -/
theorem win_rem {N n U0 Z j : Nat} (hZ : 0 < Z) (hZn : Z < B64 ^ n) (hj : j + n + 1 ≤ N) :
    wv (digs N (rem U0 Z (j + 1))) j (n + 1) = U0 / B64 ^ (j + 1) % Z * B64 + U0 / B64 ^ j % B64 ∧
    win (digs N (rem U0 Z (j + 1))) j (n + 1) ((U0 / B64 ^ (j + 1) % Z * B64 + U0 / B64 ^ j % B64) % Z) = digs N (rem U0 Z j) := by
  have hl : rem U0 Z (j + 1) < B64 ^ (n + (j + 1)) := rem_lt hZ hZn
  have hN : B64 ^ (n + (j + 1)) ≤ B64 ^ N := Nat.pow_le_pow_right B_pos (by omega)
  have hv : val (digs N (rem U0 Z (j + 1))) = rem U0 Z (j + 1) := by rw [val_digs, Nat.mod_eq_of_lt (by omega)]
  have hw : rem U0 Z (j + 1) / B64 ^ j < B64 ^ (n + 1) := by
    rw [Nat.div_lt_iff_lt_mul (Bp_pos j), ← Nat.pow_add, show n + 1 + j = n + (j + 1) by omega]; exact hl
  constructor
  · rw [wv_eq (digs_limbs _ _) (by rw [digs_len]; omega), hv, Nat.mod_eq_of_lt hw, rem_div _ _ _ hZ]
  · obtain ⟨_, _, s3, _⟩ := place_step U0 Z j hZ
    rw [← s3]
    have hz0 : rem U0 Z (j + 1) / B64 ^ (j + (n + 1)) = 0 := Nat.div_eq_of_lt (by rw [show j + (n + 1) = n + (j + 1) by omega]; exact hl)
    have hval : val (win (digs N (rem U0 Z (j + 1))) j (n + 1) (U0 / B64 ^ j % Z)) = rem U0 Z j := by
      rw [val_win (by rw [digs_len]; omega), val_take (digs_limbs _ _) (by rw [digs_len]; omega), val_drop (digs_limbs _ _) (by rw [digs_len]; omega), hv, rem_mod, hz0, Nat.mul_zero, Nat.add_zero]
      have h1 := Nat.mod_lt (U0 / B64 ^ j) hZ
      have h2 : B64 ^ n ≤ B64 ^ (n + 1) := Nat.pow_le_pow_right B_pos (by omega)
      rw [Nat.mod_eq_of_lt (a := U0 / B64 ^ j % Z) (by omega)]
      unfold rem
      rw [Nat.mul_comm, Nat.add_comm]
    have h := digs_val (win_limbs (digs_limbs N (rem U0 Z (j + 1))) j (n + 1) (U0 / B64 ^ j % Z))
    rw [win_len (by rw [digs_len]; omega), digs_len, hval] at h
    exact h.symm

theorem knuth_step {N M k s U0 Z : Nat} {V : List Nat} (hV : Limbs V) (hVl : V.length = k + 3) (hVv : val (V.take (k + 2)) = Z) (hZ : 0 < Z) (hZn : Z < B64 ^ (k + 2)) (hNM : N = M + (k + 2)) (hN : N ≤ 200000) (hQ : U0 / Z < B64 ^ M) (hsM : s < 64) (j : Nat) (hj : j < M) :
    loopR AA XX [7, 11, 12, 13, 14, 15] 7 b83_1 (RUN AA XX b83_1 ⟨[(7, (AV.c (C.d (D.sc (Value.int IntKind.i64 ((k + 2 : Nat))))))), (11, (AV.c (C.d (D.sc (Value.int IntKind.i64 ((s : Nat))))))), (12, .ref 3 0 N), (13, .ref 5 0 (k + 2)), (14, .ref 6 0 M), (15, (AV.c (C.d (D.sc (Value.int IntKind.i64 (j))))))], [(0, .tok 0 0), (1, .tok 0 0), (2, .tok 0 0), (3, .arr ((digs N (rem U0 Z (j + 1))).map w64)), (4, .tok 0 0), (5, .arr (V.map w64)), (6, .arr ((digs M (U0 / B64 ^ (j + 1) / Z * B64 ^ (j + 1))).map w64))], 7⟩) =
    loopR AA XX [7, 11, 12, 13, 14, 15] 7 b83_1 (RUN AA XX b83_1 ⟨[(7, (AV.c (C.d (D.sc (Value.int IntKind.i64 ((k + 2 : Nat))))))), (11, (AV.c (C.d (D.sc (Value.int IntKind.i64 ((s : Nat))))))), (12, .ref 3 0 N), (13, .ref 5 0 (k + 2)), (14, .ref 6 0 M), (15, (AV.c (C.d (D.sc (Value.int IntKind.i64 ((j : Int) - 1))))))], [(0, .tok 0 0), (1, .tok 0 0), (2, .tok 0 0), (3, .arr ((digs N (rem U0 Z j)).map w64)), (4, .tok 0 0), (5, .arr (V.map w64)), (6, .arr ((digs M (U0 / B64 ^ j / Z * B64 ^ j)).map w64))], 7⟩) := by
  obtain ⟨w1, w2⟩ := win_rem (N := N) (n := k + 2) (U0 := U0) (j := j) hZ hZn (by omega)
  obtain ⟨_, s2, s3, s4⟩ := place_step U0 Z j hZ
  have hU := digs_limbs N (rem U0 Z (j + 1))
  have hdl := digs_len N (rem U0 Z (j + 1))
  have g := Guess118 hU hV (k := k) (off := j) (by omega) (by omega) (by omega) (by omega) (by rw [hVv]; exact hZ) (by rw [hVv, w1]; exact s4)
  rw [hVv, w1, w2] at g
  have hqs : U0 / B64 ^ (j + 1) / Z * B64 ^ (j + 1) < B64 ^ M := by
    refine Nat.lt_of_le_of_lt ?_ hQ
    rw [Nat.div_div_eq_div_mul, Nat.mul_comm (B64 ^ (j + 1)), ← Nat.div_div_eq_div_mul]
    exact Nat.div_mul_le_self _ _
  obtain ⟨t1, _⟩ := quot_set hj s4 hqs
  rw [← s2] at t1
  have hdq := digs_len M (U0 / B64 ^ (j + 1) / Z * B64 ^ (j + 1))
  have hw := wrap_i64_pred j (by omega)
  have d0 : decide ((0 : Int) ≤ (j : Int)) = true := decide_eq_true (by omega)
  have a1 := wrap_iadd (a := j) (b := k + 2) (by omega)
  have a2 := wrap_succ (j + (k + 2)) (by omega)
  have b1 : ((j : Int) ≤ ((j + (k + 2) + 1 : Nat) : Int)) = True := eq_true (by omega)
  have b2 : (((j + (k + 2) + 1 : Nat) : Int) ≤ (N : Int)) = True := eq_true (by omega)
  have b3 : (((j + (k + 2) + 1 : Nat) : Int) - (j : Int)).toNat = k + 3 := by omega
  have q1 : ((j : Int) < (M : Int)) = True := eq_true (by omega)
  have q2 : (j < M) = True := eq_true hj
  rw [b83_1_run]
  simp only [go_sem, ↓reduceIte, Nat.reduceAdd, Nat.reduceSub, Nat.reduceMul, Nat.reduceEqDiff, Nat.reduceLT, Nat.reduceShiftRight, Nat.reduceAnd, Nat.reduceBNe, Nat.reduceLeDiff, Nat.reduceBEq, Nat.testBit, Nat.zero_lt_one, Int.reduceToNat, Int.reduceNeg, Int.reduceLE, Int.reduceLT, Int.reduceEq, decide_true, decide_false, Bool.and_true, Bool.true_and, Bool.and_false, Bool.false_and, Bool.or_true, Bool.true_or, Bool.or_false, Bool.false_or, Bool.not_true, Bool.not_false, beq_self_eq_true, reduceCtorEq, Int.le_refl, Nat.add_zero, and_self, and_true, true_and, or_true, true_or, if_true, if_false, Nat.le_refl, Bool.and_self, eq_self, Bool.not_false, Bool.not_true, d0, a1, a2, hw, b1, b2, b3, q1, q2, evOp_icall, reach_eq, cut_eq, ids_w, List.filter_cons, List.filter_nil, g, icallQ_some, oldc, lenc, hdl, hdq, setc, t1, Nat.mul_one, Nat.zero_add]
end Go.Proofs.Ytpanbfainilmpaa.Ev.N
end
section
/- Divide: the whole. -/
set_option linter.unusedVariables false
set_option linter.unusedSimpArgs false
set_option maxRecDepth 100000
set_option maxHeartbeats 4000000
namespace Go.Proofs.Ytpanbfainilmpaa.Ev.N
open Go Go.Proofs.Ytpanbfainilmpaa.Ev

section
variable {a b : List Nat} (ha : Limbs a) (hb : Limbs b) (la : a.length ≤ 90000) (lb : b.length ≤ 90000)
include ha hb la lb
theorem div83_small (h : val b = 0 ∨ val a < val b) : (KL AA XX).call 83 [(PV.one (D.sl (List.map n64 (a)))), (PV.one (D.sl (List.map n64 (b))))] = some (divV (val a) (val b)) := by
  have t1 := Trim68 ha (by omega)
  have t2 := Trim68 hb (by omega)
  have hla : (dig (val a)).length ≤ 90000 := Nat.le_trans (dlen' (val_lt ha)) la
  have hlb : (dig (val b)).length ≤ 90000 := Nat.le_trans (dlen' (val_lt hb)) lb
  rw [c83]
  by_cases h0 : val b = 0
  · have hd : divV (val a) (val b) = [nl [], nl [], .one (.sc (.bool false))] := if_pos h0
    rw [h0] at t2
    rw [hd]
    simp only [go_sem, ↓reduceIte, Nat.reduceAdd, Nat.reduceSub, Nat.reduceMul, Nat.reduceEqDiff, Nat.reduceLT, Nat.reduceShiftRight, Nat.reduceAnd, Nat.reduceBNe, Nat.reduceLeDiff, Nat.reduceBEq, Nat.testBit, Nat.zero_lt_one, Int.reduceToNat, Int.reduceNeg, Int.reduceLE, Int.reduceLT, Int.reduceEq, decide_true, decide_false, Bool.and_true, Bool.true_and, Bool.and_false, Bool.false_and, Bool.or_true, Bool.true_or, Bool.or_false, Bool.false_or, Bool.not_true, Bool.not_false, beq_self_eq_true, reduceCtorEq, Int.le_refl, Nat.add_zero, and_self, and_true, true_and, or_true, true_or, if_true, if_false, Nat.le_refl, Bool.and_self, eq_self, Bool.not_false, Bool.not_true, t1, t2, dig_zero, List.map_nil, show ((0 : Nat) : Int) = 0 from rfl, nl]
  · have hlt : val a < val b := by rcases h with h | h; exact absurd h h0; exact h
    have hd : divV (val a) (val b) = [nl (dig (val a / val b)), nl (dig (val a % val b)), .one (.sc (.bool true))] := if_neg h0
    rw [Nat.div_eq_of_lt hlt, Nat.mod_eq_of_lt hlt, dig_zero] at hd
    have d0 : decide ((((dig (val b)).length : Nat) : Int) = 0) = false := decide_eq_false (by rw [dig_len, nlen_pos h0]; omega)
    have c := Cmp67 (dig_limbs (val a)) (dig_limbs (val b)) (by omega) (by omega)
    rw [val_dig, val_dig, show cmpI (val a) (val b) = -1 from if_pos hlt] at c
    rw [hd]
    simp only [go_sem, ↓reduceIte, Nat.reduceAdd, Nat.reduceSub, Nat.reduceMul, Nat.reduceEqDiff, Nat.reduceLT, Nat.reduceShiftRight, Nat.reduceAnd, Nat.reduceBNe, Nat.reduceLeDiff, Nat.reduceBEq, Nat.testBit, Nat.zero_lt_one, Int.reduceToNat, Int.reduceNeg, Int.reduceLE, Int.reduceLT, Int.reduceEq, decide_true, decide_false, Bool.and_true, Bool.true_and, Bool.and_false, Bool.false_and, Bool.or_true, Bool.true_or, Bool.or_false, Bool.false_or, Bool.not_true, Bool.not_false, beq_self_eq_true, reduceCtorEq, Int.le_refl, Nat.add_zero, and_self, and_true, true_and, or_true, true_or, if_true, if_false, Nat.le_refl, Bool.and_self, eq_self, Bool.not_false, Bool.not_true, t1, t2, d0, c, List.map_nil, nl]
theorem div83_short (hge : val b ≤ val a) (hn : nlen (val b) = 1) : (KL AA XX).call 83 [(PV.one (D.sl (List.map n64 (a)))), (PV.one (D.sl (List.map n64 (b))))] = some (divV (val a) (val b)) := by
  have t1 := Trim68 ha (by omega)
  have t2 := Trim68 hb (by omega)
  have hla : (dig (val a)).length ≤ 90000 := Nat.le_trans (dlen' (val_lt ha)) la
  have h0 : val b ≠ 0 := by intro e; rw [e] at hn; simp [nlen] at hn
  have hB1 : val b < B64 := by have := lt_nlen (val b); rw [hn, Nat.pow_one] at this; exact this
  have hdb : dig (val b) = [val b] := by
    unfold dig
    rw [hn]
    simp [digs, Nat.mod_eq_of_lt hB1]
  have hd : divV (val a) (val b) = [nl (dig (val a / val b)), nl (dig (val a % val b)), .one (.sc (.bool true))] := if_neg h0
  have c := Cmp67 (dig_limbs (val a)) (dig_limbs (val b)) (by omega) (by rw [hdb]; simp)
  rw [val_dig, val_dig] at c
  have dc : decide (cmpI (val a) (val b) < 0) = false := by
    unfold cmpI; rw [if_neg (by omega)]; split <;> rfl
  rw [hdb] at c t2
  obtain ⟨L, hL⟩ : ∃ L, dig (val a) = L := ⟨_, rfl⟩
  have hLl : Limbs L := by rw [← hL]; exact dig_limbs _
  have hLv : val L = val a := by rw [← hL, val_dig]
  rw [hL] at t1 c hla
  have go := iter (F := fun (j : Nat) => loopR AA XX [0, 1, 8, 9, 10] 3 b83_0 (RUN AA XX b83_0 ⟨[(0, (AV.c (C.d (D.sl (List.map n64 (L)))))), (1, (AV.c (C.d (D.sl (List.map n64 ([val b])))))), (8, .ref 2 0 L.length), (9, (AV.c (C.d (D.sc (Value.int IntKind.u64 ((val L / B64 ^ j % val b : Nat))))))), (10, (AV.c (C.d (D.sc (Value.int IntKind.i64 ((j : Int) - 1))))))], [(0, .tok 0 0), (1, .tok 0 0), (2, .arr ((digs L.length (val L / B64 ^ j / val b * B64 ^ j)).map w64))], 3⟩)) (Nat.zero_le L.length) fun j _ hj => by
    have := short_step hLl (by omega) (Nat.pos_of_ne_zero h0) hB1 j hj
    have e1 : ((j + 1 : Nat) : Int) - 1 = (j : Int) := by omega
    show loopR _ _ _ _ _ (RUN _ _ _ _) = loopR _ _ _ _ _ (RUN _ _ _ _)
    rw [e1]
    exact this.symm
  have hz : val L / B64 ^ L.length = 0 := Nat.div_eq_of_lt (val_lt hLl)
  rw [hLv] at hz
  simp only [hz, Nat.zero_mod, Nat.zero_div, Nat.zero_mul, digs_zero, Nat.pow_zero, Nat.div_one, Nat.mul_one, hLv, show ((0 : Nat) : Int) = 0 from rfl, List.map_cons, List.map_nil] at go
  simp only [List.map_cons, List.map_nil] at c t2
  have q0 : ((0 : Int) ≤ (L.length : Int)) = True := eq_true (by omega)
  have q1 : ((L.length : Int) * ((8 : Nat) : Int) ≤ (maxBytes : Int)) = True := by
    have h1 : maxBytes = 140737488355328 := rfl
    rw [h1]; exact eq_true (by omega)
  have hzc := zeroc L.length
  have hw := wrap_i64_pred L.length (by omega)
  have q2 : (0 + L.length * 1 ≤ L.length) = True := eq_true (by omega)
  have t3 := Trim68 (digs_limbs L.length (val a / val b)) (by rw [digs_len]; omega)
  rw [val_digs, Nat.mod_eq_of_lt (Nat.lt_of_le_of_lt (Nat.div_le_self _ _) (by rw [← hLv]; exact val_lt hLl))] at t3
  have ch := chunk_w (digs L.length (val a / val b))
  rw [digs_len] at ch
  have hdl := digs_len L.length (val a / val b)
  have lr : Limbs [val a % val b] := Limbs.cons (Nat.lt_trans (Nat.mod_lt _ (Nat.pos_of_ne_zero h0)) hB1) Limbs.nil
  have t4 := Trim68 lr (by simp)
  rw [show val [val a % val b] = val a % val b by simp [val]] at t4
  rw [show List.map n64 [val a % val b] = [[D.sc (Value.int .u64 ((val a % val b : Nat) : Int))]] from rfl] at t4
  rw [hd, c83]
  simp only [go_sem, ↓reduceIte, Nat.reduceAdd, Nat.reduceSub, Nat.reduceMul, Nat.reduceEqDiff, Nat.reduceLT, Nat.reduceShiftRight, Nat.reduceAnd, Nat.reduceBNe, Nat.reduceLeDiff, Nat.reduceBEq, Nat.testBit, Nat.zero_lt_one, Int.reduceToNat, Int.reduceNeg, Int.reduceLE, Int.reduceLT, Int.reduceEq, decide_true, decide_false, Bool.and_true, Bool.true_and, Bool.and_false, Bool.false_and, Bool.or_true, Bool.true_or, Bool.or_false, Bool.false_or, Bool.not_true, Bool.not_false, beq_self_eq_true, reduceCtorEq, Int.le_refl, Nat.add_zero, and_self, and_true, true_and, or_true, true_or, if_true, if_false, Nat.le_refl, Bool.and_self, eq_self, Bool.not_false, Bool.not_true, t1, t2, c, dc, q0, q1, hzc, oldc, hw, Int.toNat_natCast, List.length_cons, List.length_nil, show ((1 : Nat) : Int) = 1 from rfl]
  rw [← go, b83_0_run]
  have dm : decide ((0 : Int) ≤ 0 - 1) = false := rfl
  cases hf : PV.flat (.one (.sl (List.map n64 (dig (val a / val b))))) <;>
    simp only [go_sem, ↓reduceIte, Nat.reduceAdd, Nat.reduceSub, Nat.reduceMul, Nat.reduceEqDiff, Nat.reduceLT, Nat.reduceShiftRight, Nat.reduceAnd, Nat.reduceBNe, Nat.reduceLeDiff, Nat.reduceBEq, Nat.testBit, Nat.zero_lt_one, Int.reduceToNat, Int.reduceNeg, Int.reduceLE, Int.reduceLT, Int.reduceEq, decide_true, decide_false, Bool.and_true, Bool.true_and, Bool.and_false, Bool.false_and, Bool.or_true, Bool.true_or, Bool.or_false, Bool.false_or, Bool.not_true, Bool.not_false, beq_self_eq_true, reduceCtorEq, Int.le_refl, Nat.add_zero, and_self, and_true, true_and, or_true, true_or, if_true, if_false, Nat.le_refl, Bool.and_self, eq_self, Bool.not_false, Bool.not_true, dm, oldc, lenc, hdl, q2, List.drop_zero, ch, t3, t4, Nat.mul_one, hf, Bool.false_eq_true, nl]
omit ha hb la lb in
theorem chunk_take : ∀ (n : Nat) (L : List Nat), n ≤ L.length → chunk 1 n ((L.map w64).map C.toD) = (L.take n).map n64
  | 0, L, _ => rfl
  | n + 1, [], h => by simp at h
  | n + 1, x :: L, h => by
    have := chunk_take n L (by simpa using h)
    simp only [chunk, List.map_cons, List.take_succ_cons, List.take_zero, List.drop_succ_cons, List.drop_zero, this]
    rfl
theorem div83_long (hge : val b ≤ val a) {k : Nat} (hn : nlen (val b) = k + 2) : (KL AA XX).call 83 [(PV.one (D.sl (List.map n64 (a)))), (PV.one (D.sl (List.map n64 (b))))] = some (divV (val a) (val b)) := by
  have t1 := Trim68 ha (by omega)
  have t2 := Trim68 hb (by omega)
  have hla : (dig (val a)).length ≤ 90000 := Nat.le_trans (dlen' (val_lt ha)) la
  have h0 : val b ≠ 0 := by intro e; rw [e] at hn; simp [nlen] at hn
  have hd : divV (val a) (val b) = [nl (dig (val a / val b)), nl (dig (val a % val b)), .one (.sc (.bool true))] := if_neg h0
  have hlb : (dig (val b)).length = k + 2 := by rw [dig_len, hn]
  have hkb : k + 2 ≤ 90000 := by rw [← hlb]; exact Nat.le_trans (dlen' (val_lt hb)) lb
  have c := Cmp67 (dig_limbs (val a)) (dig_limbs (val b)) (by omega) (by omega)
  rw [val_dig, val_dig] at c
  have dc : decide (cmpI (val a) (val b) < 0) = false := by
    unfold cmpI; rw [if_neg (by omega)]; split <;> rfl
  have hab : k + 2 ≤ (dig (val a)).length := by rw [dig_len, ← hn]; exact nlen_mono hge
  have hAL := lt_nlen (val a)
  rw [← dig_len] at hAL
  have hDlo := le_nlen h0
  have hDhi := lt_nlen (val b)
  rw [hn] at hDlo hDhi
  obtain ⟨A, hA⟩ : ∃ A, val a = A := ⟨_, rfl⟩
  obtain ⟨E, hD⟩ : ∃ E, val b = E := ⟨_, rfl⟩
  have hLl := dig_limbs (val a)
  have hMl := dig_limbs (val b)
  have hLv := val_dig (val a)
  have hMv := val_dig (val b)
  rw [hA] at t1 c dc hge hd hla hab hAL hLl hLv
  rw [hD] at t2 c dc hge hd h0 hlb hDlo hDhi hMl hMv
  rw [hA, hD]
  obtain ⟨L, hL⟩ : ∃ L, dig A = L := ⟨_, rfl⟩
  obtain ⟨M, hM⟩ : ∃ M, dig E = M := ⟨_, rfl⟩
  rw [hL] at t1 c hla hab hAL hLl hLv
  rw [hM] at t2 c hlb hMl hMv
  -- the top limb
  have hy : M[k + 1] = E / B64 ^ (k + 1) := by
    rw [← limb_get (show k + 1 < M.length by omega), limb_eq hMl, hMv, Nat.mod_eq_of_lt]
    rw [Nat.div_lt_iff_lt_mul (Bp_pos _), Nat.mul_comm, ← Nat.pow_succ]; exact hDhi
  have hy0 : 0 < M[k + 1] := by rw [hy]; exact Nat.div_pos hDlo (Bp_pos _)
  have hyB : M[k + 1] < B64 := hMl.get (by omega)
  obtain ⟨nb1, nb2, nb3, nb4⟩ := norm_bits hy0 hyB
  have lead := Lead116 hyB
  have hyp := nbits_lt M[k + 1]
  obtain ⟨s, hs⟩ : ∃ s, 64 - nbits M[k + 1] = s := ⟨_, rfl⟩
  rw [hs] at lead
  have hs64 : s < 64 := by omega
  have hZn : E * 2 ^ s < B64 ^ (k + 2) := by
    have e1 := Nat.div_add_mod E (B64 ^ (k + 1))
    have e2 := Nat.mod_lt E (Bp_pos (k + 1))
    rw [← hy] at e1
    have h1 : E < B64 ^ (k + 1) * (M[k + 1] + 1) := by rw [Nat.mul_add, Nat.mul_one]; omega
    have h2 : (M[k + 1] + 1) * 2 ^ s ≤ B64 := by
      have : (M[k + 1] + 1) * 2 ^ s ≤ 2 ^ nbits M[k + 1] * 2 ^ s := Nat.mul_le_mul_right _ hyp
      rw [← Nat.pow_add, show nbits M[k + 1] + s = 64 by omega, ← B_eq] at this
      exact this
    have h3 : E * 2 ^ s < B64 ^ (k + 1) * (M[k + 1] + 1) * 2 ^ s := Nat.mul_lt_mul_of_pos_right h1 (Nat.pow_pos (by decide))
    rw [Nat.mul_assoc] at h3
    have h4 : B64 ^ (k + 1) * ((M[k + 1] + 1) * 2 ^ s) ≤ B64 ^ (k + 1) * B64 := Nat.mul_le_mul_left _ h2
    rw [← Nat.pow_succ] at h4
    exact Nat.lt_of_lt_of_le h3 h4
  have hZ0 : 0 < E * 2 ^ s := Nat.mul_pos (Nat.pos_of_ne_zero h0) (Nat.pow_pos (by decide))
  have u1 := Up117_2 hLl (by omega) hs64
  have u2 := Up117_4 hMl (by omega) hs64
  rw [hLv] at u1
  rw [hMv, hlb] at u2
  obtain ⟨N, hN⟩ : ∃ N, L.length = N := ⟨_, rfl⟩
  rw [hN] at u1 hla hab hAL
  obtain ⟨m, hm⟩ : ∃ m, N + 1 = m + (k + 2) := ⟨N + 1 - (k + 2), by omega⟩
  rw [hm] at u1
  have hqd : A * 2 ^ s / (E * 2 ^ s) = A / E := Nat.mul_div_mul_right _ _ (Nat.pow_pos (by decide))
  have hqm : A * 2 ^ s % (E * 2 ^ s) = A % E * 2 ^ s := Nat.mul_mod_mul_right _ _ _
  have hQ : A * 2 ^ s / (E * 2 ^ s) < B64 ^ m := by
    rw [hqd, Nat.div_lt_iff_lt_mul (Nat.pos_of_ne_zero h0)]
    have h1 : B64 ^ (k + 1) * B64 ^ m ≤ E * B64 ^ m := Nat.mul_le_mul_right _ hDlo
    rw [← Nat.pow_add, show k + 1 + m = N by omega] at h1
    rw [Nat.mul_comm]
    exact Nat.lt_of_lt_of_le hAL h1
  have hV := digs_limbs (k + 2 + 1) (E * 2 ^ s)
  have hVl := digs_len (k + 2 + 1) (E * 2 ^ s)
  have hVv : val ((digs (k + 2 + 1) (E * 2 ^ s)).take (k + 2)) = E * 2 ^ s := by
    rw [val_take hV (by omega), val_digs, Nat.mod_mod_of_dvd _ (Nat.pow_dvd_pow _ (by omega)), Nat.mod_eq_of_lt hZn]
  have go := iter (F := fun (j : Nat) => loopR AA XX [7, 11, 12, 13, 14, 15] 7 b83_1 (RUN AA XX b83_1 ⟨[(7, (AV.c (C.d (D.sc (Value.int IntKind.i64 ((k + 2 : Nat))))))), (11, (AV.c (C.d (D.sc (Value.int IntKind.i64 ((s : Nat))))))), (12, .ref 3 0 (m + (k + 2))), (13, .ref 5 0 (k + 2)), (14, .ref 6 0 m), (15, (AV.c (C.d (D.sc (Value.int IntKind.i64 ((j : Int) - 1))))))], [(0, .tok 0 0), (1, .tok 0 0), (2, .tok 0 0), (3, .arr ((digs (m + (k + 2)) (rem (A * 2 ^ s) (E * 2 ^ s) j)).map w64)), (4, .tok 0 0), (5, .arr ((digs (k + 2 + 1) (E * 2 ^ s)).map w64)), (6, .arr ((digs m (A * 2 ^ s / B64 ^ j / (E * 2 ^ s) * B64 ^ j)).map w64))], 7⟩)) (Nat.zero_le m) fun j _ hj => by
    have := knuth_step hV hVl hVv hZ0 hZn rfl (by omega) hQ hs64 j hj
    have e1 : ((j + 1 : Nat) : Int) - 1 = (j : Int) := by omega
    show loopR _ _ _ _ _ (RUN _ _ _ _) = loopR _ _ _ _ _ (RUN _ _ _ _)
    rw [e1]
    exact this.symm
  have hz : A * 2 ^ s / B64 ^ m / (E * 2 ^ s) = 0 := by
    rw [Nat.div_div_eq_div_mul, Nat.mul_comm (B64 ^ m), ← Nat.div_div_eq_div_mul]; exact Nat.div_eq_of_lt hQ
  have hrm : rem (A * 2 ^ s) (E * 2 ^ s) m = A * 2 ^ s := by
    unfold rem
    have h1 : A * 2 ^ s / B64 ^ m < E * 2 ^ s := by
      rw [Nat.div_lt_iff_lt_mul (Bp_pos m), Nat.mul_comm (E * 2 ^ s), ← Nat.div_lt_iff_lt_mul hZ0]; exact hQ
    rw [Nat.mod_eq_of_lt h1, Nat.mul_comm]
    exact Nat.div_add_mod _ _
  have hr0 : rem (A * 2 ^ s) (E * 2 ^ s) 0 = A % E * 2 ^ s := by
    unfold rem
    rw [Nat.pow_zero, Nat.div_one, Nat.mul_one, Nat.mod_one, Nat.add_zero, hqm]
  simp only [hz, hrm, hr0, Nat.zero_mul, digs_zero, Nat.pow_zero, Nat.div_one, Nat.mul_one, hqd, show ((0 : Nat) : Int) = 0 from rfl] at go
  have d0 : decide (((k + 2 : Nat) : Int) = 0) = false := decide_eq_false (by omega)
  have d1 : decide (((k + 2 : Nat) : Int) = 1) = false := decide_eq_false (by omega)
  have e1 : IntKind.i64.wrap (((k + 2 : Nat) : Int) - 1) = ((k + 1 : Nat) : Int) := by rw [wrap_i64 _ (by omega) (by omega)]; omega
  have e2 : IntKind.i64.wrap (((m + (k + 2) : Nat) : Int) - ((k + 2 : Nat) : Int)) = (m : Int) := by rw [wrap_i64 _ (by omega) (by omega)]; omega
  have gm := getn (l := M) (i := k + 1) (by omega)
  have q1 : (((k + 1 : Nat) : Int) < (M.length : Int)) = True := eq_true (by omega)
  have hw := wrap_i64_pred m (by omega)
  have q3 : ((0 : Int) ≤ (m : Int)) = True := eq_true (by omega)
  have q4 : ((m : Int) * ((8 : Nat) : Int) ≤ (maxBytes : Int)) = True := by
    have h1 : maxBytes = 140737488355328 := rfl
    rw [h1]; exact eq_true (by omega)
  have hzc := zeroc m
  have t3 := Trim68 (digs_limbs m (A / E)) (by rw [digs_len]; omega)
  rw [val_digs, Nat.mod_eq_of_lt (by rw [← hqd]; exact hQ)] at t3
  have ch := chunk_w (digs m (A / E))
  rw [digs_len] at ch
  have hdl := digs_len m (A / E)
  have hdl3 := digs_len (m + (k + 2)) (A % E * 2 ^ s)
  rw [hd, c83]
  have b1 : (((k + 2 : Nat) : Int) ≤ ((k + 2 + 1 : Nat) : Int)) = True := eq_true (by omega)
  simp only [go_sem, ↓reduceIte, Nat.reduceAdd, Nat.reduceSub, Nat.reduceMul, Nat.reduceEqDiff, Nat.reduceLT, Nat.reduceShiftRight, Nat.reduceAnd, Nat.reduceBNe, Nat.reduceLeDiff, Nat.reduceBEq, Nat.testBit, Nat.zero_lt_one, Int.reduceToNat, Int.reduceNeg, Int.reduceLE, Int.reduceLT, Int.reduceEq, decide_true, decide_false, Bool.and_true, Bool.true_and, Bool.and_false, Bool.false_and, Bool.or_true, Bool.true_or, Bool.or_false, Bool.false_or, Bool.not_true, Bool.not_false, beq_self_eq_true, reduceCtorEq, Int.le_refl, Nat.add_zero, and_self, and_true, true_and, or_true, true_or, if_true, if_false, Nat.le_refl, Bool.and_self, eq_self, Bool.not_false, Bool.not_true, b1, Int.sub_zero, t1, t2, c, dc, d0, d1, hlb, e1, e2, gm, q1, lead, hs, u1, u2, q3, q4, hw, hzc, oldc, lenc, Int.toNat_natCast, evOp_icall, reach_eq, cut_eq, ids_w, List.filter_cons, List.filter_nil, icallQ_some]
  rw [← go, b83_1_run]
  have dm : decide ((0 : Int) ≤ 0 - 1) = false := rfl
  have q5 : (0 + m * 1 ≤ m) = True := eq_true (by omega)
  have q6 : (k + 2 ≤ m + (k + 2)) = True := eq_true (by omega)
  have b5 : (((k + 2 : Nat) : Int) ≤ ((m + (k + 2) : Nat) : Int)) = True := eq_true (by omega)
  have ck := chunk_take (k + 2) (digs (m + (k + 2)) (A % E * 2 ^ s)) (by omega)
  have hrl : A % E * 2 ^ s < B64 ^ (k + 2) := by
    rw [← hqm]; exact Nat.lt_trans (Nat.mod_lt _ hZ0) hZn
  have t4 := Back119 ((digs_limbs (m + (k + 2)) (A % E * 2 ^ s)).take (k + 2)) (by rw [List.length_take, digs_len]; omega) hs64
  rw [val_take (digs_limbs _ _) (by omega), val_digs, Nat.mod_mod_of_dvd _ (Nat.pow_dvd_pow _ (by omega)), Nat.mod_eq_of_lt hrl, Nat.mul_div_cancel _ (Nat.pow_pos (by decide))] at t4
  cases hf : PV.flat (.one (.sl (List.map n64 (dig (A / E))))) <;> cases hf2 : PV.flat (.one (.sl (List.map n64 (dig (A % E))))) <;>
    simp only [go_sem, ↓reduceIte, Nat.reduceAdd, Nat.reduceSub, Nat.reduceMul, Nat.reduceEqDiff, Nat.reduceLT, Nat.reduceShiftRight, Nat.reduceAnd, Nat.reduceBNe, Nat.reduceLeDiff, Nat.reduceBEq, Nat.testBit, Nat.zero_lt_one, Int.reduceToNat, Int.reduceNeg, Int.reduceLE, Int.reduceLT, Int.reduceEq, decide_true, decide_false, Bool.and_true, Bool.true_and, Bool.and_false, Bool.false_and, Bool.or_true, Bool.true_or, Bool.or_false, Bool.false_or, Bool.not_true, Bool.not_false, beq_self_eq_true, reduceCtorEq, Int.le_refl, Nat.add_zero, and_self, and_true, true_and, or_true, true_or, if_true, if_false, Nat.le_refl, Bool.and_self, eq_self, Bool.not_false, Bool.not_true, dm, oldc, lenc, hdl, hdl3, q5, q6, b5, Int.sub_zero, Int.toNat_natCast, List.drop_zero, ch, ck, t3, t4, Nat.mul_one, hf, hf2, Bool.false_eq_true, nl]
theorem Divide83 : (KL AA XX).call 83 [(PV.one (D.sl (List.map n64 (a)))), (PV.one (D.sl (List.map n64 (b))))] = some (divV (val a) (val b)) := by
  by_cases h0 : val b = 0
  · exact div83_small ha hb la lb (.inl h0)
  · by_cases hlt : val a < val b
    · exact div83_small ha hb la lb (.inr hlt)
    · have hp := nlen_pos h0
      rcases Nat.lt_or_ge (nlen (val b)) 2 with h | h
      · exact div83_short ha hb la lb (by omega) (by omega)
      · exact div83_long ha hb la lb (by omega) (k := nlen (val b) - 2) (by omega)
end
end Go.Proofs.Ytpanbfainilmpaa.Ev.N
end
section
/- What is left, and powers (the document's own). -/
set_option linter.unusedVariables false
set_option linter.unusedSimpArgs false
set_option maxRecDepth 100000
set_option maxHeartbeats 4000000
namespace Go.Proofs.Ytpanbfainilmpaa.Ev.N
open Go Go.Proofs.Ytpanbfainilmpaa.Ev

def restV (A M : Nat) : List PV := if M = 0 then [nl [], .one (.sc (.bool false))] else [nl (dig (A % M)), .one (.sc (.bool true))]
theorem restV_pos {A M : Nat} (h : M ≠ 0) : restV A M = [nl (dig (A % M)), .one (.sc (.bool true))] := if_neg h
theorem Rest55 {a m : List Nat} (ha : Limbs a) (hm : Limbs m) (la : a.length ≤ 90000) (lm : m.length ≤ 90000) : (KL AA XX).call 55 [(PV.one (D.sl (List.map n64 (a)))), (PV.one (D.sl (List.map n64 (m))))] = some (restV (val a) (val m)) := by
  have f := Divide83 ha hm la lm
  rw [c55]
  unfold divV at f
  unfold restV
  by_cases h : val m = 0
  · rw [if_pos h] at f ⊢
    simp only [go_sem, ↓reduceIte, Nat.reduceAdd, Nat.reduceSub, Nat.reduceMul, Nat.reduceEqDiff, Nat.reduceLT, Nat.reduceShiftRight, Nat.reduceAnd, Nat.reduceBNe, Nat.reduceLeDiff, Nat.reduceBEq, Nat.testBit, Nat.zero_lt_one, Int.reduceToNat, Int.reduceNeg, Int.reduceLE, Int.reduceLT, Int.reduceEq, decide_true, decide_false, Bool.and_true, Bool.true_and, Bool.and_false, Bool.false_and, Bool.or_true, Bool.true_or, Bool.or_false, Bool.false_or, Bool.not_true, Bool.not_false, beq_self_eq_true, reduceCtorEq, Int.le_refl, Nat.add_zero, and_self, and_true, true_and, or_true, true_or, if_true, if_false, Nat.le_refl, Bool.and_self, eq_self, Bool.not_false, Bool.not_true, f, nl]
  · rw [if_neg h] at f ⊢
    simp only [go_sem, ↓reduceIte, Nat.reduceAdd, Nat.reduceSub, Nat.reduceMul, Nat.reduceEqDiff, Nat.reduceLT, Nat.reduceShiftRight, Nat.reduceAnd, Nat.reduceBNe, Nat.reduceLeDiff, Nat.reduceBEq, Nat.testBit, Nat.zero_lt_one, Int.reduceToNat, Int.reduceNeg, Int.reduceLE, Int.reduceLT, Int.reduceEq, decide_true, decide_false, Bool.and_true, Bool.true_and, Bool.and_false, Bool.false_and, Bool.or_true, Bool.true_or, Bool.or_false, Bool.false_or, Bool.not_true, Bool.not_false, beq_self_eq_true, reduceCtorEq, Int.le_refl, Nat.add_zero, and_self, and_true, true_and, or_true, true_or, if_true, if_false, Nat.le_refl, Bool.and_self, eq_self, Bool.not_false, Bool.not_true, f, nl]
theorem Rest90 {a m : List Nat} (ha : Limbs a) (hm : Limbs m) (la : a.length ≤ 10000) (lm : m.length ≤ 10000) : (KL AA XX).call 90 [(PV.one (D.sl (List.map n64 (a)))), (PV.one (D.sl (List.map n64 (m))))] = some (restV (val a) (val m)) := by
  have f := Divide84 ha hm la lm
  rw [c90]
  unfold divV at f
  unfold restV
  by_cases h : val m = 0
  · rw [if_pos h] at f ⊢
    simp only [go_sem, ↓reduceIte, Nat.reduceAdd, Nat.reduceSub, Nat.reduceMul, Nat.reduceEqDiff, Nat.reduceLT, Nat.reduceShiftRight, Nat.reduceAnd, Nat.reduceBNe, Nat.reduceLeDiff, Nat.reduceBEq, Nat.testBit, Nat.zero_lt_one, Int.reduceToNat, Int.reduceNeg, Int.reduceLE, Int.reduceLT, Int.reduceEq, decide_true, decide_false, Bool.and_true, Bool.true_and, Bool.and_false, Bool.false_and, Bool.or_true, Bool.true_or, Bool.or_false, Bool.false_or, Bool.not_true, Bool.not_false, beq_self_eq_true, reduceCtorEq, Int.le_refl, Nat.add_zero, and_self, and_true, true_and, or_true, true_or, if_true, if_false, Nat.le_refl, Bool.and_self, eq_self, Bool.not_false, Bool.not_true, f, nl]
  · rw [if_neg h] at f ⊢
    simp only [go_sem, ↓reduceIte, Nat.reduceAdd, Nat.reduceSub, Nat.reduceMul, Nat.reduceEqDiff, Nat.reduceLT, Nat.reduceShiftRight, Nat.reduceAnd, Nat.reduceBNe, Nat.reduceLeDiff, Nat.reduceBEq, Nat.testBit, Nat.zero_lt_one, Int.reduceToNat, Int.reduceNeg, Int.reduceLE, Int.reduceLT, Int.reduceEq, decide_true, decide_false, Bool.and_true, Bool.true_and, Bool.and_false, Bool.false_and, Bool.or_true, Bool.true_or, Bool.or_false, Bool.false_or, Bool.not_true, Bool.not_false, beq_self_eq_true, reduceCtorEq, Int.le_refl, Nat.add_zero, and_self, and_true, true_and, or_true, true_or, if_true, if_false, Nat.le_refl, Bool.and_self, eq_self, Bool.not_false, Bool.not_true, f, nl]
theorem mul_len {a b : List Nat} (ha : Limbs a) (hb : Limbs b) : (dig (val a * val b)).length ≤ a.length + b.length := by
  refine dlen' ?_
  rw [Nat.pow_add]
  exact Nat.mul_lt_mul_of_lt_of_le (val_lt ha) (Nat.le_of_lt (val_lt hb)) (Bp_pos _)
theorem Times58 {a b m : List Nat} (ha : Limbs a) (hb : Limbs b) (hm : Limbs m) (la : a.length ≤ 40000) (lb : b.length ≤ 40000) (lm : m.length ≤ 90000) : (KL AA XX).call 58 [(PV.one (D.sl (List.map n64 (a)))), (PV.one (D.sl (List.map n64 (b)))), (PV.one (D.sl (List.map n64 (m))))] = some (restV (val a * val b) (val m)) := by
  have f1 := Mul86 ha hb (by omega) (by omega)
  have hl := mul_len ha hb
  have f2 := Rest55 (dig_limbs (val a * val b)) hm (by omega) lm
  rw [val_dig] at f2
  rw [c58]
  unfold restV at f2 ⊢
  by_cases h : val m = 0
  · rw [if_pos h] at f2 ⊢
    simp only [go_sem, ↓reduceIte, Nat.reduceAdd, Nat.reduceSub, Nat.reduceMul, Nat.reduceEqDiff, Nat.reduceLT, Nat.reduceShiftRight, Nat.reduceAnd, Nat.reduceBNe, Nat.reduceLeDiff, Nat.reduceBEq, Nat.testBit, Nat.zero_lt_one, Int.reduceToNat, Int.reduceNeg, Int.reduceLE, Int.reduceLT, Int.reduceEq, decide_true, decide_false, Bool.and_true, Bool.true_and, Bool.and_false, Bool.false_and, Bool.or_true, Bool.true_or, Bool.or_false, Bool.false_or, Bool.not_true, Bool.not_false, beq_self_eq_true, reduceCtorEq, Int.le_refl, Nat.add_zero, and_self, and_true, true_and, or_true, true_or, if_true, if_false, Nat.le_refl, Bool.and_self, eq_self, Bool.not_false, Bool.not_true, f1, f2, nl]
  · rw [if_neg h] at f2 ⊢
    simp only [go_sem, ↓reduceIte, Nat.reduceAdd, Nat.reduceSub, Nat.reduceMul, Nat.reduceEqDiff, Nat.reduceLT, Nat.reduceShiftRight, Nat.reduceAnd, Nat.reduceBNe, Nat.reduceLeDiff, Nat.reduceBEq, Nat.testBit, Nat.zero_lt_one, Int.reduceToNat, Int.reduceNeg, Int.reduceLE, Int.reduceLT, Int.reduceEq, decide_true, decide_false, Bool.and_true, Bool.true_and, Bool.and_false, Bool.false_and, Bool.or_true, Bool.true_or, Bool.or_false, Bool.false_or, Bool.not_true, Bool.not_false, beq_self_eq_true, reduceCtorEq, Int.le_refl, Nat.add_zero, and_self, and_true, true_and, or_true, true_or, if_true, if_false, Nat.le_refl, Bool.and_self, eq_self, Bool.not_false, Bool.not_true, f1, f2, nl]
theorem Times89 {a b m : List Nat} (ha : Limbs a) (hb : Limbs b) (hm : Limbs m) (la : a.length ≤ 4000) (lb : b.length ≤ 4000) (lm : m.length ≤ 10000) : (KL AA XX).call 89 [(PV.one (D.sl (List.map n64 (a)))), (PV.one (D.sl (List.map n64 (b)))), (PV.one (D.sl (List.map n64 (m))))] = some (restV (val a * val b) (val m)) := by
  have f1 := Mul87 ha hb (by omega) (by omega)
  have hl := mul_len ha hb
  have f2 := Rest90 (dig_limbs (val a * val b)) hm (by omega) lm
  rw [val_dig] at f2
  rw [c89]
  unfold restV at f2 ⊢
  by_cases h : val m = 0
  · rw [if_pos h] at f2 ⊢
    simp only [go_sem, ↓reduceIte, Nat.reduceAdd, Nat.reduceSub, Nat.reduceMul, Nat.reduceEqDiff, Nat.reduceLT, Nat.reduceShiftRight, Nat.reduceAnd, Nat.reduceBNe, Nat.reduceLeDiff, Nat.reduceBEq, Nat.testBit, Nat.zero_lt_one, Int.reduceToNat, Int.reduceNeg, Int.reduceLE, Int.reduceLT, Int.reduceEq, decide_true, decide_false, Bool.and_true, Bool.true_and, Bool.and_false, Bool.false_and, Bool.or_true, Bool.true_or, Bool.or_false, Bool.false_or, Bool.not_true, Bool.not_false, beq_self_eq_true, reduceCtorEq, Int.le_refl, Nat.add_zero, and_self, and_true, true_and, or_true, true_or, if_true, if_false, Nat.le_refl, Bool.and_self, eq_self, Bool.not_false, Bool.not_true, f1, f2, nl]
  · rw [if_neg h] at f2 ⊢
    simp only [go_sem, ↓reduceIte, Nat.reduceAdd, Nat.reduceSub, Nat.reduceMul, Nat.reduceEqDiff, Nat.reduceLT, Nat.reduceShiftRight, Nat.reduceAnd, Nat.reduceBNe, Nat.reduceLeDiff, Nat.reduceBEq, Nat.testBit, Nat.zero_lt_one, Int.reduceToNat, Int.reduceNeg, Int.reduceLE, Int.reduceLT, Int.reduceEq, decide_true, decide_false, Bool.and_true, Bool.true_and, Bool.and_false, Bool.false_and, Bool.or_true, Bool.true_or, Bool.or_false, Bool.false_or, Bool.not_true, Bool.not_false, beq_self_eq_true, reduceCtorEq, Int.le_refl, Nat.add_zero, and_self, and_true, true_and, or_true, true_or, if_true, if_false, Nat.le_refl, Bool.and_self, eq_self, Bool.not_false, Bool.not_true, f1, f2, nl]
/-- A power's rest, one bit more. -/
theorem pow_bit (A E M j : Nat) : A ^ (E / 2 ^ j) % M = if E / 2 ^ j % 2 = 1 then ((A ^ (E / 2 ^ (j + 1)) % M) * (A ^ (E / 2 ^ (j + 1)) % M) % M) * A % M else (A ^ (E / 2 ^ (j + 1)) % M) * (A ^ (E / 2 ^ (j + 1)) % M) % M := by
  have f1 := Nat.div_add_mod (E / 2 ^ j) 2
  rw [Nat.div_div_eq_div_mul, ← Nat.pow_succ] at f1
  have hx : E / 2 ^ j % 2 < 2 := Nat.mod_lt _ (by decide)
  rw [← Nat.mul_mod]
  by_cases h : E / 2 ^ j % 2 = 1
  · rw [if_pos h, ← f1, h, Nat.pow_add, Nat.pow_one, Nat.two_mul, Nat.pow_add, Nat.mod_mul_mod]
  · rw [if_neg h, ← f1, show E / 2 ^ j % 2 = 0 by omega, Nat.add_zero, Nat.two_mul, Nat.pow_add]
theorem nbl {n k : Nat} (h : n < B64 ^ k) : nbits n ≤ 64 * k := by rw [nbits_le, ← Bp_eq]; exact h
theorem mod_len {M : Nat} (hM : M ≠ 0) {k : Nat} (h : M < B64 ^ k) (x : Nat) : (dig (x % M)).length ≤ k := dlen' (Nat.lt_trans (Nat.mod_lt _ (Nat.pos_of_ne_zero hM)) h)
theorem i64_nat {j : Nat} (h : j < 9223372036854775807) : (Lit.int .i64 (j : Int)).wf = true := by
  simp only [Lit.wf, Bool.and_eq_true, decide_eq_true_eq]
  show (-9223372036854775808 : Int) ≤ (j : Int) ∧ (j : Int) ≤ 9223372036854775807
  omega
section
variable {a e m : List Nat} (ha : Limbs a) (he : Limbs e) (hm : Limbs m) (la : a.length ≤ 1000) (le : e.length ≤ 1000) (lm : m.length ≤ 1000)
include ha he hm la le lm
theorem pow88_step (hM : val m ≠ 0) (j : Nat) (hj : j < 64000) :
    loopR AA XX [0, 1, 2, 8, 10] 2 b88_0 (RUN AA XX b88_0 ⟨[(0, (AV.c (C.d (D.sl (List.map n64 (a)))))), (1, (AV.c (C.d (D.sl (List.map n64 (e)))))), (2, (AV.c (C.d (D.sl (List.map n64 (m)))))), (8, (AV.c (C.d (D.sl (List.map n64 (dig (val a ^ (val e / 2 ^ (j + 1)) % val m))))))), (10, (AV.c (C.d (D.sc (Value.int IntKind.i64 (j))))))], [(0, .tok 0 0), (1, .tok 1 1)], 2⟩) =
    loopR AA XX [0, 1, 2, 8, 10] 2 b88_0 (RUN AA XX b88_0 ⟨[(0, (AV.c (C.d (D.sl (List.map n64 (a)))))), (1, (AV.c (C.d (D.sl (List.map n64 (e)))))), (2, (AV.c (C.d (D.sl (List.map n64 (m)))))), (8, (AV.c (C.d (D.sl (List.map n64 (dig (val a ^ (val e / 2 ^ j) % val m))))))), (10, (AV.c (C.d (D.sc (Value.int IntKind.i64 ((j : Int) - 1))))))], [(0, .tok 0 0), (1, .tok 1 1)], 2⟩) := by
  have hp := pow_bit (val a) (val e) (val m) j
  obtain ⟨p, hpp⟩ : ∃ p, val a ^ (val e / 2 ^ (j + 1)) % val m = p := ⟨_, rfl⟩
  have hpm : p < val m := by rw [← hpp]; exact Nat.mod_lt _ (Nat.pos_of_ne_zero hM)
  rw [hpp] at hp ⊢
  have hlm := val_lt hm
  have l1 : (dig p).length ≤ 1000 := Nat.le_trans (dlen' (Nat.lt_trans hpm hlm)) lm
  have l2 := Nat.le_trans (mod_len hM hlm (p * p)) lm
  have f1 := Times89 (dig_limbs p) (dig_limbs p) hm (by omega) (by omega) (by omega)
  have f2 := Times89 (dig_limbs (p * p % val m)) ha hm (by omega) (by omega) (by omega)
  rw [val_dig, restV_pos hM] at f1 f2
  have f3 := Bit72 he (by omega) (j : Int) (i64_nat (by omega))
  rw [bitN_cast] at f3
  have hb : val e / 2 ^ j % 2 < 2 := Nat.mod_lt _ (by decide)
  have d0 : decide ((0 : Int) ≤ (j : Int)) = true := decide_eq_true (by omega)
  have hw := wrap_i64_pred j (by omega)
  rw [b88_0_run]
  by_cases h : val e / 2 ^ j % 2 = 1
  · rw [if_pos h] at hp
    rw [h] at f3
    rw [hp]
    simp only [go_sem, ↓reduceIte, Nat.reduceAdd, Nat.reduceSub, Nat.reduceMul, Nat.reduceEqDiff, Nat.reduceLT, Nat.reduceShiftRight, Nat.reduceAnd, Nat.reduceBNe, Nat.reduceLeDiff, Nat.reduceBEq, Nat.testBit, Nat.zero_lt_one, Int.reduceToNat, Int.reduceNeg, Int.reduceLE, Int.reduceLT, Int.reduceEq, decide_true, decide_false, Bool.and_true, Bool.true_and, Bool.and_false, Bool.false_and, Bool.or_true, Bool.true_or, Bool.or_false, Bool.false_or, Bool.not_true, Bool.not_false, beq_self_eq_true, reduceCtorEq, Int.le_refl, Nat.add_zero, and_self, and_true, true_and, or_true, true_or, if_true, if_false, Nat.le_refl, Bool.and_self, eq_self, Bool.not_false, Bool.not_true, d0, f1, f2, f3, hw, nl, show ((1 : Nat) : Int) = 1 from rfl]
  · rw [if_neg h] at hp
    rw [show val e / 2 ^ j % 2 = 0 by omega] at f3
    rw [hp]
    simp only [go_sem, ↓reduceIte, Nat.reduceAdd, Nat.reduceSub, Nat.reduceMul, Nat.reduceEqDiff, Nat.reduceLT, Nat.reduceShiftRight, Nat.reduceAnd, Nat.reduceBNe, Nat.reduceLeDiff, Nat.reduceBEq, Nat.testBit, Nat.zero_lt_one, Int.reduceToNat, Int.reduceNeg, Int.reduceLE, Int.reduceLT, Int.reduceEq, decide_true, decide_false, Bool.and_true, Bool.true_and, Bool.and_false, Bool.false_and, Bool.or_true, Bool.true_or, Bool.or_false, Bool.false_or, Bool.not_true, Bool.not_false, beq_self_eq_true, reduceCtorEq, Int.le_refl, Nat.add_zero, and_self, and_true, true_and, or_true, true_or, if_true, if_false, Nat.le_refl, Bool.and_self, eq_self, Bool.not_false, Bool.not_true, d0, f1, f2, f3, hw, nl, show ((0 : Nat) : Int) = 0 from rfl]
theorem Power88 : (KL AA XX).call 88 [(PV.one (D.sl (List.map n64 (a)))), (PV.one (D.sl (List.map n64 (e)))), (PV.one (D.sl (List.map n64 (m))))] = some (restV (val a ^ val e) (val m)) := by
  have l1 : Limbs [1] := Limbs.cons (by decide) Limbs.nil
  have f1 := Rest90 l1 hm (by simp) (by omega)
  rw [show val [1] = 1 from rfl] at f1
  simp only [List.map_cons, List.map_nil, n64, show ((1 : Nat) : Int) = 1 from rfl] at f1
  rw [c88]
  by_cases hM : val m = 0
  · unfold restV at f1 ⊢
    rw [if_pos hM] at f1 ⊢
    simp only [go_sem, ↓reduceIte, Nat.reduceAdd, Nat.reduceSub, Nat.reduceMul, Nat.reduceEqDiff, Nat.reduceLT, Nat.reduceShiftRight, Nat.reduceAnd, Nat.reduceBNe, Nat.reduceLeDiff, Nat.reduceBEq, Nat.testBit, Nat.zero_lt_one, Int.reduceToNat, Int.reduceNeg, Int.reduceLE, Int.reduceLT, Int.reduceEq, decide_true, decide_false, Bool.and_true, Bool.true_and, Bool.and_false, Bool.false_and, Bool.or_true, Bool.true_or, Bool.or_false, Bool.false_or, Bool.not_true, Bool.not_false, beq_self_eq_true, reduceCtorEq, Int.le_refl, Nat.add_zero, and_self, and_true, true_and, or_true, true_or, if_true, if_false, Nat.le_refl, Bool.and_self, eq_self, Bool.not_false, Bool.not_true, f1, nl, List.map_nil]
  · rw [restV_pos hM] at f1 ⊢
    have f2 := Bits56 he (by omega)
    have hnb := nbl (val_lt he)
    have hw := wrap_i64_pred (nbits (val e)) (by omega)
    have go := iter (F := fun (j : Nat) => loopR AA XX [0, 1, 2, 8, 10] 2 b88_0 (RUN AA XX b88_0 ⟨[(0, (AV.c (C.d (D.sl (List.map n64 (a)))))), (1, (AV.c (C.d (D.sl (List.map n64 (e)))))), (2, (AV.c (C.d (D.sl (List.map n64 (m)))))), (8, (AV.c (C.d (D.sl (List.map n64 (dig (val a ^ (val e / 2 ^ j) % val m))))))), (10, (AV.c (C.d (D.sc (Value.int IntKind.i64 ((j : Int) - 1))))))], [(0, .tok 0 0), (1, .tok 1 1)], 2⟩)) (Nat.zero_le (nbits (val e))) fun j _ hj => by
      have := pow88_step ha he hm la le lm hM j (by omega)
      have e1 : ((j + 1 : Nat) : Int) - 1 = (j : Int) := by omega
      show loopR _ _ _ _ _ (RUN _ _ _ _) = loopR _ _ _ _ _ (RUN _ _ _ _)
      rw [e1]
      exact this.symm
    rw [Nat.div_eq_of_lt (nbits_lt (val e)), Nat.pow_zero, Nat.pow_zero, Nat.div_one] at go
    simp only [show ((0 : Nat) : Int) = 0 from rfl] at go
    simp only [go_sem, ↓reduceIte, Nat.reduceAdd, Nat.reduceSub, Nat.reduceMul, Nat.reduceEqDiff, Nat.reduceLT, Nat.reduceShiftRight, Nat.reduceAnd, Nat.reduceBNe, Nat.reduceLeDiff, Nat.reduceBEq, Nat.testBit, Nat.zero_lt_one, Int.reduceToNat, Int.reduceNeg, Int.reduceLE, Int.reduceLT, Int.reduceEq, decide_true, decide_false, Bool.and_true, Bool.true_and, Bool.and_false, Bool.false_and, Bool.or_true, Bool.true_or, Bool.or_false, Bool.false_or, Bool.not_true, Bool.not_false, beq_self_eq_true, reduceCtorEq, Int.le_refl, Nat.add_zero, and_self, and_true, true_and, or_true, true_or, if_true, if_false, Nat.le_refl, Bool.and_self, eq_self, Bool.not_false, Bool.not_true, f1, f2, hw, nl]
    rw [← go, b88_0_run]
    have dm : decide ((0 : Int) ≤ 0 - 1) = false := rfl
    simp only [go_sem, ↓reduceIte, Nat.reduceAdd, Nat.reduceSub, Nat.reduceMul, Nat.reduceEqDiff, Nat.reduceLT, Nat.reduceShiftRight, Nat.reduceAnd, Nat.reduceBNe, Nat.reduceLeDiff, Nat.reduceBEq, Nat.testBit, Nat.zero_lt_one, Int.reduceToNat, Int.reduceNeg, Int.reduceLE, Int.reduceLT, Int.reduceEq, decide_true, decide_false, Bool.and_true, Bool.true_and, Bool.and_false, Bool.false_and, Bool.or_true, Bool.true_or, Bool.or_false, Bool.false_or, Bool.not_true, Bool.not_false, beq_self_eq_true, reduceCtorEq, Int.le_refl, Nat.add_zero, and_self, and_true, true_and, or_true, true_or, if_true, if_false, Nat.le_refl, Bool.and_self, eq_self, Bool.not_false, Bool.not_true, dm]
end
end Go.Proofs.Ytpanbfainilmpaa.Ev.N
end
section
/- Montgomery's ring: of, row, wide. -/
set_option linter.unusedVariables false
set_option linter.unusedSimpArgs false
set_option maxRecDepth 100000
set_option maxHeartbeats 4000000
namespace Go.Proofs.Ytpanbfainilmpaa.Ev.N
open Go Go.Proofs.Ytpanbfainilmpaa.Ev

/-- A ring's data. -/
abbrev rg (m : List Nat) (mi : Nat) : List D := [.sl (m.map n64), .sc (.int .u64 (mi : Int))]
theorem of_step {m : List Nat} (h0 : 0 < m.length) {z : Nat} (hz : m[0]'h0 = z) (x : Nat) (i : Nat) (hi : i < 6) :
    loopR AA XX [0, 2, 3, 4] 2 b94_0 (RUN AA XX b94_0 ⟨[(0, (AV.c (C.d (D.sl (List.map n64 (m)))))), (2, .ptr 1 0), (3, (AV.c (C.d (D.sc (Value.int IntKind.u64 ((x : Nat))))))), (4, (AV.c (C.d (D.sc (Value.int IntKind.i64 (i))))))], [(0, .tok 0 0), (1, .arr [.gr 0 [], (C.d (D.sc (Value.int IntKind.u64 (0))))])], 2⟩) =
    loopR AA XX [0, 2, 3, 4] 2 b94_0 (RUN AA XX b94_0 ⟨[(0, (AV.c (C.d (D.sl (List.map n64 (m)))))), (2, .ptr 1 0), (3, (AV.c (C.d (D.sc (Value.int IntKind.u64 ((nw z x : Nat))))))), (4, (AV.c (C.d (D.sc (Value.int IntKind.i64 ((i + 1 : Nat)))))))], [(0, .tok 0 0), (1, .arr [.gr 0 [], (C.d (D.sc (Value.int IntKind.u64 (0))))])], 2⟩) := by
  have hlt := ltT hi
  simp only [castL] at hlt
  have hg := getn h0
  rw [hz] at hg
  have hw := wrap_succ i (by omega)
  obtain ⟨y, hy⟩ : ∃ y, nw z x = y := ⟨_, rfl⟩
  have w1 := wrap_mulm z x
  have w2 : IntKind.u64.wrap ((2 : Int) - ((z * x % B64 : Nat) : Int)) = (((2 + B64 - z * x % B64) % B64 : Nat) : Int) := wrap_u64_sub (a := 2) (Nat.le_of_lt (Nat.mod_lt _ B_pos))
  have w3 := wrap_mulm x ((2 + B64 - z * x % B64) % B64)
  rw [show x * ((2 + B64 - z * x % B64) % B64) % B64 = y by rw [← hy, nw]] at w3
  rw [b94_0_run, hy]
  simp only [go_sem, ↓reduceIte, Nat.reduceAdd, Nat.reduceSub, Nat.reduceMul, Nat.reduceEqDiff, Nat.reduceLT, Nat.reduceShiftRight, Nat.reduceAnd, Nat.reduceBNe, Nat.reduceLeDiff, Nat.reduceBEq, Nat.testBit, Nat.zero_lt_one, Int.reduceToNat, Int.reduceNeg, Int.reduceLE, Int.reduceLT, Int.reduceEq, decide_true, decide_false, Bool.and_true, Bool.true_and, Bool.and_false, Bool.false_and, Bool.or_true, Bool.true_or, Bool.or_false, Bool.false_or, Bool.not_true, Bool.not_false, beq_self_eq_true, reduceCtorEq, Int.le_refl, Nat.add_zero, and_self, and_true, true_and, or_true, true_or, if_true, if_false, Nat.le_refl, Bool.and_self, eq_self, Bool.not_false, Bool.not_true, hlt, hg, hw, w1, w2, w3]
theorem of_all {m : List Nat} (h0 : 0 < m.length) {z : Nat} (hz : m[0]'h0 = z) :
    loopR AA XX [0, 2, 3, 4] 2 b94_0 (RUN AA XX b94_0 ⟨[(0, (AV.c (C.d (D.sl (List.map n64 (m)))))), (2, .ptr 1 0), (3, (AV.c (C.d (D.sc (Value.int IntKind.u64 ((1 : Nat))))))), (4, (AV.c (C.d (D.sc (Value.int IntKind.i64 ((0 : Nat)))))))], [(0, .tok 0 0), (1, .arr [.gr 0 [], (C.d (D.sc (Value.int IntKind.u64 (0))))])], 2⟩) =
    loopR AA XX [0, 2, 3, 4] 2 b94_0 (RUN AA XX b94_0 ⟨[(0, (AV.c (C.d (D.sl (List.map n64 (m)))))), (2, .ptr 1 0), (3, (AV.c (C.d (D.sc (Value.int IntKind.u64 ((nw6 z : Nat))))))), (4, (AV.c (C.d (D.sc (Value.int IntKind.i64 ((6 : Nat)))))))], [(0, .tok 0 0), (1, .arr [.gr 0 [], (C.d (D.sc (Value.int IntKind.u64 (0))))])], 2⟩) := by
  rw [of_step h0 hz _ 0 (by omega), of_step h0 hz _ (0 + 1) (by omega), of_step h0 hz _ (0 + 1 + 1) (by omega), of_step h0 hz _ (0 + 1 + 1 + 1) (by omega), of_step h0 hz _ (0 + 1 + 1 + 1 + 1) (by omega), of_step h0 hz _ (0 + 1 + 1 + 1 + 1 + 1) (by omega), nw6_def]
theorem Of94 {m : List Nat} (h0 : 0 < m.length) {z : Nat} (hz : m[0]'h0 = z) : (KL AA XX).call 94 [(PV.one (D.sl (List.map n64 (m))))] = some [.agg (rg m ((B64 - nw6 z) % B64))] := by
  have go := of_all h0 hz
  simp only [show ((0 : Nat) : Int) = 0 from rfl, show ((1 : Nat) : Int) = 1 from rfl, castL] at go
  have hl := nw6_lt z
  obtain ⟨y, hy⟩ : ∃ y, nw6 z = y := ⟨_, rfl⟩
  rw [hy] at go hl ⊢
  have w1 : IntKind.u64.wrap ((0 : Int) - (y : Int)) = (((B64 - y) % B64 : Nat) : Int) := by
    have := wrap_u64_sub (a := 0) (Nat.le_of_lt hl)
    rw [Nat.zero_add] at this
    exact this
  rw [c94]
  simp only [go_sem, ↓reduceIte, Nat.reduceAdd, Nat.reduceSub, Nat.reduceMul, Nat.reduceEqDiff, Nat.reduceLT, Nat.reduceShiftRight, Nat.reduceAnd, Nat.reduceBNe, Nat.reduceLeDiff, Nat.reduceBEq, Nat.testBit, Nat.zero_lt_one, Int.reduceToNat, Int.reduceNeg, Int.reduceLE, Int.reduceLT, Int.reduceEq, decide_true, decide_false, Bool.and_true, Bool.true_and, Bool.and_false, Bool.false_and, Bool.or_true, Bool.true_or, Bool.or_false, Bool.false_or, Bool.not_true, Bool.not_false, beq_self_eq_true, reduceCtorEq, Int.le_refl, Nat.add_zero, and_self, and_true, true_and, or_true, true_or, if_true, if_false, Nat.le_refl, Bool.and_self, eq_self, Bool.not_false, Bool.not_true]
  rw [go, b94_0_run]
  simp only [go_sem, ↓reduceIte, Nat.reduceAdd, Nat.reduceSub, Nat.reduceMul, Nat.reduceEqDiff, Nat.reduceLT, Nat.reduceShiftRight, Nat.reduceAnd, Nat.reduceBNe, Nat.reduceLeDiff, Nat.reduceBEq, Nat.testBit, Nat.zero_lt_one, Int.reduceToNat, Int.reduceNeg, Int.reduceLE, Int.reduceLT, Int.reduceEq, decide_true, decide_false, Bool.and_true, Bool.true_and, Bool.and_false, Bool.false_and, Bool.or_true, Bool.true_or, Bool.or_false, Bool.false_or, Bool.not_true, Bool.not_false, beq_self_eq_true, reduceCtorEq, Int.le_refl, Nat.add_zero, and_self, and_true, true_and, or_true, true_or, if_true, if_false, Nat.le_refl, Bool.and_self, eq_self, Bool.not_false, Bool.not_true, w1]
  rfl

theorem Row121 {U b : List Nat} (hU : Limbs U) (hb : Limbs b) {x : Nat} (hx : x < B64) (hn : U.length = b.length + 2) (lb : b.length ≤ 100000) :
    (KL AA XX).icall 121 [.ref 2 0 (b.length + 2), (AV.c (C.d (D.sl (List.map n64 (b))))), (AV.c (C.d (D.sc (Value.int IntKind.u64 ((x : Nat))))))] [(2, .arr (U.map w64))] 3 = some (.tu [], [(2, .arr ((digs (b.length + 2) (val U + x * val b)).map w64))], 3) := by
  obtain ⟨S, hS⟩ : ∃ S, val U + x * val b = S := ⟨_, rfl⟩
  rw [hS]
  have go := iter (F := fun (k : Nat) => loopR AA XX [0, 2, 6, 7, 15, 16, 17] 3 b121_0 (RUN AA XX b121_0 ⟨[(0, .ref 2 0 (b.length + 2)), (2, (AV.c (C.d (D.sc (Value.int IntKind.u64 ((x : Nat))))))), (6, (AV.c (C.d (D.sc (Value.int IntKind.i64 (b.length)))))), (7, (AV.c (C.d (D.sc (Value.int IntKind.u64 ((rcry (val U) (val b) x k : Nat))))))), (15, (AV.c (C.d (D.sl (List.map n64 (b)))))), (16, (AV.c (C.d (D.sc (Value.int IntKind.i64 (b.length)))))), (17, (AV.c (C.d (D.sc (Value.int IntKind.i64 (k))))))], [(2, .arr ((mid U k S).map w64))], 3⟩)) (Nat.zero_le b.length) fun k _ hk => by
    have hlt := ltT hk
    have hw := wrap_succ k (by omega)
    have hkl : k < U.length := by omega
    have hwl : (mid U k S).length = U.length := mid_len (by omega)
    have hg := getc (L := mid U k S) (i := k) (by omega)
    rw [mid_get (Nat.le_refl _) hkl] at hg
    have hgv := getn hk
    have hu : U[k] = val U / B64 ^ k % B64 := by rw [← limb_eq hU, limb_get hkl]
    have hv : b[k] = val b / B64 ^ k % B64 := by rw [← limb_eq hb, limb_get hk]
    have hyl := hb.get hk
    have hul := hU.get hkl
    obtain ⟨s1, s2, s3, s4, s5⟩ := mul_step hx hyl hul (rcry_lt hx (val U) (val b) k)
    have m := Mul120 hx hyl
    have a1 := Add100 (x * b[k] % B64) U[k] (c := 0) (Nat.zero_le _)
    have a2 := Add100 ((x * b[k] % B64 + U[k]) % B64) (rcry (val U) (val b) x k) (c := 0) (Nat.zero_le _)
    rw [Nat.add_zero] at a1 a2
    have hd := row_digit (val U) (val b) x k
    have hc := rcry_succ (val U) (val b) x k
    rw [hS, ← hu, ← hv] at hd
    rw [← hu, ← hv] at hc
    rw [s4, ← hd] at a2
    have w2 := wrap_add s1
    have w3 := wrap_add s2
    rw [s3, ← hc] at w3
    have ws := mid_set (S := S) hkl rfl
    have q1 : ((k : Int) < ((b.length + 2 : Nat) : Int)) = True := eq_true (by omega)
    have q2 : (k < U.length) = True := eq_true hkl
    simp only [show ((0 : Nat) : Int) = 0 from rfl] at a1 a2
    show loopR _ _ _ _ _ (RUN _ _ _ _) = loopR _ _ _ _ _ (RUN _ _ _ _)
    rw [b121_0_run]
    simp only [go_sem, ↓reduceIte, Nat.reduceAdd, Nat.reduceSub, Nat.reduceMul, Nat.reduceEqDiff, Nat.reduceLT, Nat.reduceShiftRight, Nat.reduceAnd, Nat.reduceBNe, Nat.reduceLeDiff, Nat.reduceBEq, Nat.testBit, Nat.zero_lt_one, Int.reduceToNat, Int.reduceNeg, Int.reduceLE, Int.reduceLT, Int.reduceEq, decide_true, decide_false, Bool.and_true, Bool.true_and, Bool.and_false, Bool.false_and, Bool.or_true, Bool.true_or, Bool.or_false, Bool.false_or, Bool.not_true, Bool.not_false, beq_self_eq_true, reduceCtorEq, Int.le_refl, Nat.add_zero, and_self, and_true, true_and, or_true, true_or, if_true, if_false, Nat.le_refl, Bool.and_self, eq_self, Bool.not_false, Bool.not_true, hlt, hg, hgv, m, a1, a2, w2, w3, hw, q1, q2, lenc, oldc, setc, hwl, ws, Nat.mul_one]
  simp only [rcry_zero, mid_zero, show ((0 : Nat) : Int) = 0 from rfl] at go
  obtain ⟨n, hnn⟩ : ∃ n, b.length = n := ⟨_, rfl⟩
  have hbz : ∀ j, n ≤ j → val b / B64 ^ j % B64 = 0 := fun j hj => by rw [← limb_eq hb, limb_none (by omega)]
  rw [hnn] at go hn lb ⊢
  have hd0 := row_digit (val U) (val b) x n
  have hc0 := rcry_succ (val U) (val b) x n
  have hd1 := row_digit (val U) (val b) x (n + 1)
  have hu0 : U[n] = val U / B64 ^ n % B64 := by rw [← limb_eq hU, limb_get (by omega)]
  have hu1 : U[n + 1] = val U / B64 ^ (n + 1) % B64 := by rw [← limb_eq hU, limb_get (by omega)]
  rw [hbz n (Nat.le_refl _), Nat.mul_zero, Nat.zero_add, ← hu0] at hd0 hc0
  rw [hbz (n + 1) (by omega), Nat.mul_zero, Nat.zero_add, ← hu1] at hd1
  rw [hS] at hd0 hd1
  have l0 : (mid U n S).length = U.length := mid_len (by omega)
  have l1 : (mid U (n + 1) S).length = U.length := mid_len (by omega)
  have g0 := getc (L := mid U n S) (i := n) (by omega)
  rw [mid_get (Nat.le_refl _) (by omega)] at g0
  have g1 := getc (L := mid U (n + 1) S) (i := n + 1) (by omega)
  rw [mid_get (Nat.le_refl _) (by omega)] at g1
  have a0 := Add100 U[n] (rcry (val U) (val b) x n) (c := 0) (Nat.zero_le _)
  rw [Nat.add_zero, ← hd0, ← hc0] at a0
  have w1 : IntKind.u64.wrap ((U[n + 1] : Int) + (rcry (val U) (val b) x (n + 1) : Int)) = ((S / B64 ^ (n + 1) % B64 : Nat) : Int) := by
    rw [hd1, ← Int.natCast_add, wrap_u64]
  have ws0 := mid_set (U := U) (S := S) (k := n) (by omega) rfl
  have ws1 := mid_set (U := U) (S := S) (k := n + 1) (by omega) rfl
  have hm := mid_all (S := S) hn
  have hw := wrap_succ n (by omega)
  have q1 : ((n : Int) < ((n + 2 : Nat) : Int)) = True := eq_true (by omega)
  have q2 : (((n + 1 : Nat) : Int) < ((n + 2 : Nat) : Int)) = True := eq_true (by omega)
  have q3 : (n < U.length) = True := eq_true (by omega)
  have q4 : (n + 1 < U.length) = True := eq_true (by omega)
  simp only [show ((0 : Nat) : Int) = 0 from rfl] at a0
  rw [ICALL_def AA XX (fn := a121) rfl [.ref 2 0 (n + 2), _, _] _ 3 rfl]
  simp only [a121, go_sem, ↓reduceIte, Nat.reduceAdd, Nat.reduceSub, Nat.reduceMul, Nat.reduceEqDiff, Nat.reduceLT, Nat.reduceShiftRight, Nat.reduceAnd, Nat.reduceBNe, Nat.reduceLeDiff, Nat.reduceBEq, Nat.testBit, Nat.zero_lt_one, Int.reduceToNat, Int.reduceNeg, Int.reduceLE, Int.reduceLT, Int.reduceEq, decide_true, decide_false, Bool.and_true, Bool.true_and, Bool.and_false, Bool.false_and, Bool.or_true, Bool.true_or, Bool.or_false, Bool.false_or, Bool.not_true, Bool.not_false, beq_self_eq_true, reduceCtorEq, Int.le_refl, Nat.add_zero, and_self, and_true, true_and, or_true, true_or, if_true, if_false, Nat.le_refl, Bool.and_self, eq_self, Bool.not_false, Bool.not_true, hnn, oldc]
  rw [go, b121_0_run]
  simp only [go_sem, ↓reduceIte, Nat.reduceAdd, Nat.reduceSub, Nat.reduceMul, Nat.reduceEqDiff, Nat.reduceLT, Nat.reduceShiftRight, Nat.reduceAnd, Nat.reduceBNe, Nat.reduceLeDiff, Nat.reduceBEq, Nat.testBit, Nat.zero_lt_one, Int.reduceToNat, Int.reduceNeg, Int.reduceLE, Int.reduceLT, Int.reduceEq, decide_true, decide_false, Bool.and_true, Bool.true_and, Bool.and_false, Bool.false_and, Bool.or_true, Bool.true_or, Bool.or_false, Bool.false_or, Bool.not_true, Bool.not_false, beq_self_eq_true, reduceCtorEq, Int.le_refl, Nat.add_zero, and_self, and_true, true_and, or_true, true_or, if_true, if_false, Nat.le_refl, Bool.and_self, eq_self, Bool.not_false, Bool.not_true, Int.lt_irrefl, g0, g1, a0, w1, hw, q1, q2, q3, q4, lenc, oldc, setc, l0, l1, ws0, ws1, hm, Nat.mul_one]
  rfl

theorem flat_n64 (l : List Nat) : (l.map n64).flatten = l.map fun (x : Nat) => D.sc (.int .u64 (x : Int)) := by
  induction l with
  | nil => rfl
  | cons x l ih => rw [List.map_cons, List.flatten_cons, ih]; rfl
theorem cpy_w {l U : List Nat} (h : l.length ≤ U.length) : List.map C.d (List.take (min l.length U.length) (List.map n64 l).flatten) ++ List.drop (min l.length U.length) (List.map w64 U) = (l ++ U.drop l.length).map w64 := by
  rw [flat_n64, Nat.min_eq_left h, List.take_of_length_le (by simp), List.map_append, List.map_map, List.map_drop]
  rfl
theorem pad_digs {l : List Nat} (hl : Limbs l) {n : Nat} (h : l.length ≤ n) : l ++ (List.replicate n 0).drop l.length = digs n (val l) := by
  have hL : Limbs (l ++ (List.replicate n 0).drop l.length) := hl.append ((Limbs.rep n).drop _)
  have hv : val (l ++ (List.replicate n 0).drop l.length) = val l := by
    rw [val_append, List.drop_replicate, val_rep, Nat.mul_zero, Nat.add_zero]
  have := digs_val hL
  rw [hv] at this
  rw [← this]
  congr 1
  rw [List.length_append, List.length_drop, List.length_replicate]; omega
theorem Wide98 {m l : List Nat} {mi : Nat} (hl : Limbs l) (h : l.length ≤ m.length) (lm : m.length ≤ 100000) :
    (KL AA XX).call 98 [.agg (rg m mi), (PV.one (D.sl (List.map n64 (l))))] = some [(PV.one (D.sl (List.map n64 (digs m.length (val l)))))] := by
  have q3 : ((0 : Int) ≤ (m.length : Int)) = True := eq_true (by omega)
  have q4 : ((m.length : Int) * ((8 : Nat) : Int) ≤ (maxBytes : Int)) = True := by
    have h1 : maxBytes = 140737488355328 := rfl
    rw [h1]; exact eq_true (by omega)
  have hzc := zeroc m.length
  have hc := cpy_w (l := l) (U := List.replicate m.length 0) (by rw [List.length_replicate]; exact h)
  rw [pad_digs hl h, List.length_replicate] at hc
  have ch := chunk_w (digs m.length (val l))
  rw [digs_len] at ch
  have hdl := digs_len m.length (val l)
  rw [c98]
  simp only [go_sem, ↓reduceIte, Nat.reduceAdd, Nat.reduceSub, Nat.reduceMul, Nat.reduceEqDiff, Nat.reduceLT, Nat.reduceShiftRight, Nat.reduceAnd, Nat.reduceBNe, Nat.reduceLeDiff, Nat.reduceBEq, Nat.testBit, Nat.zero_lt_one, Int.reduceToNat, Int.reduceNeg, Int.reduceLE, Int.reduceLT, Int.reduceEq, decide_true, decide_false, Bool.and_true, Bool.true_and, Bool.and_false, Bool.false_and, Bool.or_true, Bool.true_or, Bool.or_false, Bool.false_or, Bool.not_true, Bool.not_false, beq_self_eq_true, reduceCtorEq, Int.le_refl, Nat.add_zero, and_self, and_true, true_and, or_true, true_or, if_true, if_false, Nat.le_refl, Bool.and_self, eq_self, Bool.not_false, Bool.not_true, q3, q4, hzc, Int.toNat_natCast, all64, lenc, List.length_replicate, hc, hdl, ch, Nat.mul_one]
end Go.Proofs.Ytpanbfainilmpaa.Ev.N
end
section
/- Montgomery's ring: times. -/
set_option linter.unusedVariables false
set_option linter.unusedSimpArgs false
set_option maxRecDepth 100000
set_option maxHeartbeats 4000000
namespace Go.Proofs.Ytpanbfainilmpaa.Ev.N
open Go Go.Proofs.Ytpanbfainilmpaa.Ev

/-- What is left of a sum that ends in a nought, moved down by a limb. -/
theorem down_digs {N S : Nat} (hS : S < B64 ^ (N + 1)) : ((digs (N + 1) S).drop 1 ++ (digs (N + 1) S).drop N).set N 0 = digs (N + 1) (S / B64) := by
  apply List.ext_getElem
  · simp [digs_len]
  · intro i h1 h2
    rw [digs_len] at h2
    rw [List.getElem_set, digs_get, Nat.div_div_eq_div_mul, Nat.mul_comm B64, ← Nat.pow_succ]
    by_cases hi : N = i
    · subst hi
      rw [if_pos rfl, Nat.div_eq_of_lt hS, Nat.zero_mod]
    · rw [if_neg hi, List.getElem_append_left (by rw [List.length_drop, digs_len]; omega), List.getElem_drop, digs_get, Nat.add_comm 1 i]

section
variable {m a b : List Nat} {mi : Nat} (hm : Limbs m) (ha : Limbs a) (hb : Limbs b) (lb : b.length = m.length) (lm : m.length ≤ 90000) (la : a.length ≤ 90000)
include hm ha hb lb lm la
theorem times_step (T : Nat) (hT : T < val b + val m) (i : Nat) (hi : i < a.length) :
    loopR AA XX [2, 3, 7, 8, 19, 20, 21] 3 b97_0 (RUN AA XX b97_0 ⟨[(2, (AV.c (C.d (D.sl (List.map n64 (b)))))), (3, .ptr 0 0), (7, (AV.c (C.d (D.sc (Value.int IntKind.i64 (m.length)))))), (8, .ref 2 0 (m.length + 2)), (19, (AV.c (C.d (D.sl (List.map n64 (a)))))), (20, (AV.c (C.d (D.sc (Value.int IntKind.i64 (a.length)))))), (21, (AV.c (C.d (D.sc (Value.int IntKind.i64 (i))))))], [(0, .arr ((rg m mi).map C.d)), (1, .tok 0 0), (2, .arr ((digs (m.length + 2) T).map w64))], 3⟩) =
    loopR AA XX [2, 3, 7, 8, 19, 20, 21] 3 b97_0 (RUN AA XX b97_0 ⟨[(2, (AV.c (C.d (D.sl (List.map n64 (b)))))), (3, .ptr 0 0), (7, (AV.c (C.d (D.sc (Value.int IntKind.i64 (m.length)))))), (8, .ref 2 0 (m.length + 2)), (19, (AV.c (C.d (D.sl (List.map n64 (a)))))), (20, (AV.c (C.d (D.sc (Value.int IntKind.i64 (a.length)))))), (21, (AV.c (C.d (D.sc (Value.int IntKind.i64 ((i + 1 : Nat)))))))], [(0, .arr ((rg m mi).map C.d)), (1, .tok 0 0), (2, .arr ((digs (m.length + 2) (mt (val m) mi (val b) T a[i])).map w64))], 3⟩) := by
  have hx := ha.get hi
  obtain ⟨x, hxx⟩ : ∃ x, a[i] = x := ⟨_, rfl⟩
  have hg := getn hi
  rw [hxx] at hx hg ⊢
  have hlt := ltT hi
  have hw := wrap_succ i (by omega)
  have hMl := val_lt hm
  have hDl := val_lt hb
  rw [lb] at hDl
  have hsum := mt_sum (mi := mi) hx hT
  have hpow : B64 * (val b + val m) ≤ B64 ^ (m.length + 2) := by
    have : B64 * (val b + val m) ≤ B64 * (B64 * B64 ^ m.length) := Nat.mul_le_mul_left _ (by
      have : 2 * B64 ^ m.length ≤ B64 * B64 ^ m.length := Nat.mul_le_mul_right _ (by decide)
      omega)
    rw [Nat.pow_succ, Nat.pow_succ, Nat.mul_comm _ B64, Nat.mul_comm (B64 ^ m.length)]
    exact this
  have hS2 : T + x * val b + ((T + x * val b) % B64 * mi % B64) * val m < B64 ^ (m.length + 2) := Nat.lt_of_lt_of_le hsum hpow
  have hqB : (T + x * val b) % B64 * mi % B64 < B64 := Nat.mod_lt _ B_pos
  have hmt : mt (val m) mi (val b) T x = (T + x * val b + ((T + x * val b) % B64 * mi % B64) * val m) / B64 := rfl
  have hS1 : T + x * val b < B64 ^ (m.length + 2) := Nat.lt_of_le_of_lt (Nat.le_add_right _ _) hS2
  have hT0 : T < B64 ^ (m.length + 2) := Nat.lt_of_le_of_lt (Nat.le_add_right _ _) hS1
  have r1 := Row121 (digs_limbs (m.length + 2) T) hb hx (by rw [digs_len, lb]) (by omega)
  rw [val_digs, Nat.mod_eq_of_lt hT0, lb] at r1
  obtain ⟨S1, hS1e⟩ : ∃ S, T + x * val b = S := ⟨_, rfl⟩
  rw [hS1e] at r1 hS1 hS2 hqB hmt
  have w1 : IntKind.u64.wrap (((S1 / B64 ^ 0 % B64 : Nat) : Int) * (mi : Int)) = ((S1 % B64 * mi % B64 : Nat) : Int) := by
    rw [Nat.pow_zero, Nat.div_one]; exact wrap_mulm _ _
  obtain ⟨q, hq⟩ : ∃ q, S1 % B64 * mi % B64 = q := ⟨_, rfl⟩
  rw [hq] at hS2 hqB hmt w1
  have r2 := Row121 (digs_limbs (m.length + 2) S1) hm hqB (by rw [digs_len]) (by omega)
  rw [val_digs, Nat.mod_eq_of_lt hS1] at r2
  obtain ⟨S2, hS2e⟩ : ∃ S, S1 + q * val m = S := ⟨_, rfl⟩
  rw [hS2e] at r2 hS2 hmt
  rw [hmt]
  have hdd := down_digs (N := m.length + 1) hS2
  obtain ⟨n, hn⟩ : ∃ n, m.length = n := ⟨_, rfl⟩
  rw [hn] at r1 r2 hdd lm ⊢
  have g0 := getc (L := digs (n + 2) S1) (i := 0) (by rw [digs_len]; omega)
  rw [digs_get] at g0
  have l0 := digs_len (n + 2) S1
  have l2 := digs_len (n + 2) S2
  have hw2 := wrap_succ n (by omega)
  have q1 : ((0 : Int) < ((n + 2 : Nat) : Int)) = True := eq_true (by omega)
  have q2 : (((n + 1 : Nat) : Int) < ((n + 2 : Nat) : Int)) = True := eq_true (by omega)
  have q3 : ((1 : Int) ≤ ((n + 2 : Nat) : Int)) = True := eq_true (by omega)
  have t1 : (((n + 2 : Nat) : Int) - 1).toNat = n + 1 := by omega
  have q4 : (1 + (n + 1) ≤ n + 2) = True := eq_true (by omega)
  have hl1 : ((digs (n + 2) S2).drop 1).length = n + 1 := by rw [List.length_drop, l2]; omega
  have ch := chunk_w ((digs (n + 2) S2).drop 1)
  rw [hl1, List.map_drop] at ch
  have hc := cpy_w (l := (digs (n + 2) S2).drop 1) (U := digs (n + 2) S2) (by omega)
  rw [hl1, l2] at hc
  have hcl : ((digs (n + 2) S2).drop 1 ++ (digs (n + 2) S2).drop (n + 1)).length = n + 2 := by rw [List.length_append, hl1, List.length_drop, l2]; omega
  have hset := setc ((digs (n + 2) S2).drop 1 ++ (digs (n + 2) S2).drop (n + 1)) (n + 1) 0
  rw [hdd, show ((0 : Nat) : Int) = 0 from rfl] at hset
  have q5 : (n + 1 < n + 2) = True := eq_true (by omega)
  rw [b97_0_run]
  simp only [go_sem, ↓reduceIte, Nat.reduceAdd, Nat.reduceSub, Nat.reduceMul, Nat.reduceEqDiff, Nat.reduceLT, Nat.reduceShiftRight, Nat.reduceAnd, Nat.reduceBNe, Nat.reduceLeDiff, Nat.reduceBEq, Nat.testBit, Nat.zero_lt_one, Int.reduceToNat, Int.reduceNeg, Int.reduceLE, Int.reduceLT, Int.reduceEq, decide_true, decide_false, Bool.and_true, Bool.true_and, Bool.and_false, Bool.false_and, Bool.or_true, Bool.true_or, Bool.or_false, Bool.false_or, Bool.not_true, Bool.not_false, beq_self_eq_true, reduceCtorEq, Int.le_refl, Nat.add_zero, and_self, and_true, true_and, or_true, true_or, if_true, if_false, Nat.le_refl, Bool.and_self, eq_self, Bool.not_false, Bool.not_true, t1, q4, q5, ch, hl1, hc, hcl, hset, hw, hw2, q2, all64, List.length_map, Nat.mul_one, hlt, hg, evOp_icall, reach_eq, cut_eq, ids_w, List.filter_cons, List.filter_nil, r1, r2, icallQ_some, oldc, g0, q1, w1, q3, l0, l2, List.map_cons, List.map_nil]
theorem Times97 (hM : 0 < val m) (hmi : (val m * mi + 1) % B64 = 0) : ∃ V, (KL AA XX).call 97 [.agg (rg m mi), (PV.one (D.sl (List.map n64 (a)))), (PV.one (D.sl (List.map n64 (b))))] = some [(PV.one (D.sl (List.map n64 (digs m.length V))))] ∧ V < B64 ^ m.length ∧ (∃ Q Q', B64 ^ a.length * V + Q' * val m = val a * val b + Q * val m) ∧ (V < val m ∨ V < val b) := by
  have hok := fun i hi => mts_ok (D := val b) hM hmi ha i hi
  have go := iter (F := fun (i : Nat) => loopR AA XX [2, 3, 7, 8, 19, 20, 21] 3 b97_0 (RUN AA XX b97_0 ⟨[(2, (AV.c (C.d (D.sl (List.map n64 (b)))))), (3, .ptr 0 0), (7, (AV.c (C.d (D.sc (Value.int IntKind.i64 (m.length)))))), (8, .ref 2 0 (m.length + 2)), (19, (AV.c (C.d (D.sl (List.map n64 (a)))))), (20, (AV.c (C.d (D.sc (Value.int IntKind.i64 (a.length)))))), (21, (AV.c (C.d (D.sc (Value.int IntKind.i64 (i))))))], [(0, .arr ((rg m mi).map C.d)), (1, .tok 0 0), (2, .arr ((digs (m.length + 2) (mts (val m) mi (val b) (a.take i))).map w64))], 3⟩)) (Nat.zero_le a.length) fun i _ hi => by
    have := times_step hm ha hb lb lm la (mi := mi) _ (hok i (by omega)).1 i hi
    have e : a.take (i + 1) = a.take i ++ [a[i]] := by rw [List.take_succ_eq_append_getElem (by omega)]
    show loopR _ _ _ _ _ (RUN _ _ _ _) = loopR _ _ _ _ _ (RUN _ _ _ _)
    rw [e, mts_snoc]
    exact this
  obtain ⟨hT, Q, hQ⟩ := hok a.length (Nat.le_refl _)
  rw [List.take_length] at hT hQ
  simp only [List.take_length, List.take_zero, show mts (val m) mi (val b) [] = 0 from rfl, digs_zero, show ((0 : Nat) : Int) = 0 from rfl, List.map_cons, List.map_nil] at go
  obtain ⟨T, hTe⟩ : ∃ T, mts (val m) mi (val b) a = T := ⟨_, rfl⟩
  rw [hTe] at hT hQ go
  have hMl := val_lt hm
  have hDl := val_lt hb
  rw [lb] at hDl
  obtain ⟨n, hn⟩ : ∃ n, m.length = n := ⟨_, rfl⟩
  have hT2 : T < B64 ^ (n + 2) := by
    have h1 : 2 * B64 ^ n ≤ B64 * B64 ^ n := Nat.mul_le_mul_right _ (by decide)
    have h2 : B64 ^ (n + 2) = B64 * (B64 * B64 ^ n) := by rw [Nat.pow_succ, Nat.pow_succ, Nat.mul_comm _ B64, Nat.mul_comm (B64 ^ n)]
    have h3 : 1 * (B64 * B64 ^ n) ≤ B64 * (B64 * B64 ^ n) := Nat.mul_le_mul_right _ (by decide)
    rw [hn] at hMl hDl
    omega
  have w1 := wrap_succ (m.length + 1) (by omega)
  have w2 : IntKind.i64.wrap ((m.length : Int) + 2) = ((m.length + 2 : Nat) : Int) := by rw [wrap_i64 _ (by omega) (by omega)]; rfl
  have q3 : ((0 : Int) ≤ ((m.length + 2 : Nat) : Int)) = True := eq_true (by omega)
  have q4 : (((m.length + 2 : Nat) : Int) * ((8 : Nat) : Int) ≤ (maxBytes : Int)) = True := by
    have h1 : maxBytes = 140737488355328 := rfl
    rw [h1]; exact eq_true (by omega)
  have hzc := zeroc (m.length + 2)
  have sb := Sub63 (digs_limbs (m.length + 2) T) hm (by rw [digs_len]; omega) (by omega)
  rw [val_digs, Nat.mod_eq_of_lt (by rw [hn]; exact hT2)] at sb
  have ch := chunk_w (digs (m.length + 2) T)
  rw [digs_len] at ch
  have hdl := digs_len (m.length + 2) T
  have ck := chunk_take m.length (digs (m.length + 2) T) (by omega)
  have ht : (digs (m.length + 2) T).take m.length = digs m.length T := by
    apply List.ext_getElem
    · simp [digs_len]
    · intro i h1 h2
      rw [List.getElem_take, digs_get, digs_get]
  rw [ht] at ck
  have q5 : ((m.length : Int) ≤ ((m.length + 2 : Nat) : Int)) = True := eq_true (by omega)
  have q6 : (m.length ≤ m.length + 2) = True := eq_true (by omega)
  obtain ⟨N, hN⟩ : ∃ N, m.length + 2 = N := ⟨_, rfl⟩
  rw [hN] at go w2 q3 q4 q5 q6 hzc sb ch ck hdl
  by_cases hle : val m ≤ T
  · rw [subV, if_pos hle] at sb
    have hV : T - val m < val b := by omega
    have hV2 : T - val m < B64 ^ m.length := by omega
    have wd := Wide98 (m := m) (mi := mi) (dig_limbs (T - val m)) (dlen' hV2) (by omega)
    rw [val_dig] at wd
    refine ⟨T - val m, ?_, hV2, ⟨Q, B64 ^ a.length, ?_⟩, .inr hV⟩
    · rw [c97]
      simp only [go_sem, ↓reduceIte, Nat.reduceAdd, Nat.reduceSub, Nat.reduceMul, Nat.reduceEqDiff, Nat.reduceLT, Nat.reduceShiftRight, Nat.reduceAnd, Nat.reduceBNe, Nat.reduceLeDiff, Nat.reduceBEq, Nat.testBit, Nat.zero_lt_one, Int.reduceToNat, Int.reduceNeg, Int.reduceLE, Int.reduceLT, Int.reduceEq, decide_true, decide_false, Bool.and_true, Bool.true_and, Bool.and_false, Bool.false_and, Bool.or_true, Bool.true_or, Bool.or_false, Bool.false_or, Bool.not_true, Bool.not_false, beq_self_eq_true, reduceCtorEq, Int.le_refl, Nat.add_zero, and_self, and_true, true_and, or_true, true_or, if_true, if_false, Nat.le_refl, Bool.and_self, eq_self, Bool.not_false, Bool.not_true, w2, q3, q4, hzc, oldc, Int.toNat_natCast]
      rw [go, b97_0_run]
      cases hf : PV.flat (.one (.sl (List.map n64 (dig (T - val m))))) <;>
        simp only [go_sem, ↓reduceIte, Nat.reduceAdd, Nat.reduceSub, Nat.reduceMul, Nat.reduceEqDiff, Nat.reduceLT, Nat.reduceShiftRight, Nat.reduceAnd, Nat.reduceBNe, Nat.reduceLeDiff, Nat.reduceBEq, Nat.testBit, Nat.zero_lt_one, Int.reduceToNat, Int.reduceNeg, Int.reduceLE, Int.reduceLT, Int.reduceEq, decide_true, decide_false, Bool.and_true, Bool.true_and, Bool.and_false, Bool.false_and, Bool.or_true, Bool.true_or, Bool.or_false, Bool.false_or, Bool.not_true, Bool.not_false, beq_self_eq_true, reduceCtorEq, Int.le_refl, Nat.add_zero, and_self, and_true, true_and, or_true, true_or, if_true, if_false, Nat.le_refl, Bool.and_self, eq_self, Bool.not_false, Bool.not_true, Int.lt_irrefl, sb, wd, hf, show ∀ v : Value, PV.flat (.one (.sc v)) = true from fun _ => rfl, hdl, ch, lenc, Nat.mul_one, nl, List.drop_zero, Bool.false_eq_true]
    · rw [← Nat.mul_add, Nat.sub_add_cancel hle]
      exact hQ
  · rw [subV, if_neg hle] at sb
    refine ⟨T, ?_, by omega, ⟨Q, 0, by rw [Nat.zero_mul, Nat.add_zero]; exact hQ⟩, .inl (by omega)⟩
    rw [c97]
    simp only [go_sem, ↓reduceIte, Nat.reduceAdd, Nat.reduceSub, Nat.reduceMul, Nat.reduceEqDiff, Nat.reduceLT, Nat.reduceShiftRight, Nat.reduceAnd, Nat.reduceBNe, Nat.reduceLeDiff, Nat.reduceBEq, Nat.testBit, Nat.zero_lt_one, Int.reduceToNat, Int.reduceNeg, Int.reduceLE, Int.reduceLT, Int.reduceEq, decide_true, decide_false, Bool.and_true, Bool.true_and, Bool.and_false, Bool.false_and, Bool.or_true, Bool.true_or, Bool.or_false, Bool.false_or, Bool.not_true, Bool.not_false, beq_self_eq_true, reduceCtorEq, Int.le_refl, Nat.add_zero, and_self, and_true, true_and, or_true, true_or, if_true, if_false, Nat.le_refl, Bool.and_self, eq_self, Bool.not_false, Bool.not_true, w2, q3, q4, hzc, oldc, Int.toNat_natCast]
    rw [go, b97_0_run]
    simp only [go_sem, ↓reduceIte, Nat.reduceAdd, Nat.reduceSub, Nat.reduceMul, Nat.reduceEqDiff, Nat.reduceLT, Nat.reduceShiftRight, Nat.reduceAnd, Nat.reduceBNe, Nat.reduceLeDiff, Nat.reduceBEq, Nat.testBit, Nat.zero_lt_one, Int.reduceToNat, Int.reduceNeg, Int.reduceLE, Int.reduceLT, Int.reduceEq, decide_true, decide_false, Bool.and_true, Bool.true_and, Bool.and_false, Bool.false_and, Bool.or_true, Bool.true_or, Bool.or_false, Bool.false_or, Bool.not_true, Bool.not_false, beq_self_eq_true, reduceCtorEq, Int.le_refl, Nat.add_zero, and_self, and_true, true_and, or_true, true_or, if_true, if_false, Nat.le_refl, Bool.and_self, eq_self, Bool.not_false, Bool.not_true, Int.lt_irrefl, sb, hdl, ch, ck, lenc, Nat.mul_one, nl, List.drop_zero, List.map_nil, q5, q6, Int.sub_zero, Int.toNat_natCast, show ∀ v : Value, PV.flat (.one (.sc v)) = true from fun _ => rfl, show PV.flat (.one (.sl [])) = true from rfl]
end
end Go.Proofs.Ytpanbfainilmpaa.Ev.N
end
section
/- Powers: Montgomery's, and the whole. -/
set_option linter.unusedVariables false
set_option linter.unusedSimpArgs false
set_option maxRecDepth 100000
set_option maxHeartbeats 4000000
namespace Go.Proofs.Ytpanbfainilmpaa.Ev.N
open Go Go.Proofs.Ytpanbfainilmpaa.Ev

theorem co_pow {M : Nat} (h : M % 2 = 1) (n : Nat) : Nat.Coprime (B64 ^ n) M := by
  have h2 : Nat.Coprime 2 M := by
    unfold Nat.Coprime
    rw [Nat.gcd_rec, h]
    rfl
  rw [Bp_eq]
  exact h2.pow_left _
theorem mod_cancel {R M : Nat} (h : Nat.Coprime R M) : ∀ {V Y : Nat}, (R * V) % M = (R * Y) % M → V % M = Y % M := by
  have half : ∀ {V Y : Nat}, V ≤ Y → (R * V) % M = (R * Y) % M → V % M = Y % M := by
    intro V Y hle he
    have h1 : (R * Y - R * V) % M = 0 := Nat.sub_mod_eq_zero_of_mod_eq he.symm
    rw [← Nat.mul_sub] at h1
    obtain ⟨c, hc⟩ := h.symm.dvd_of_dvd_mul_left (Nat.dvd_of_mod_eq_zero h1)
    rw [show Y = V + M * c by omega, Nat.add_mul_mod_self_left]
  intro V Y he
  rcases Nat.le_total V Y with hl | hl
  · exact half hl he
  · exact (half hl he.symm).symm
/-- What a product by Montgomery's way is. -/
theorem mont_eq {R M V Y Z Q Q' : Nat} (h : Nat.Coprime R M) (hV : V < M) (he : R * V + Q' * M = Z + Q * M) (hZ : Z % M = (R * Y) % M) : V = Y % M := by
  have h1 : (R * V) % M = (R * Y) % M := by
    rw [← hZ, ← Nat.add_mul_mod_self_right (R * V) Q' M, he, Nat.add_mul_mod_self_right]
  rw [← mod_cancel h h1, Nat.mod_eq_of_lt hV]

section
variable {m : List Nat} {mi : Nat} (hm : Limbs m) (lm : m.length ≤ 2000) (hM : 0 < val m) (hmi : (val m * mi + 1) % B64 = 0) (hodd : val m % 2 = 1)
section
include hm lm hM
theorem In96 {a : List Nat} (ha : Limbs a) (la : a.length ≤ 2000) : (KL AA XX).call 96 [.agg (rg m mi), (PV.one (D.sl (List.map n64 (a))))] = some [(PV.one (D.sl (List.map n64 (digs m.length (B64 ^ m.length * val a % val m)))))] := by
  have q3 : ((0 : Int) ≤ (m.length : Int)) = True := eq_true (by omega)
  have q4 : ((m.length : Int) * ((8 : Nat) : Int) ≤ (maxBytes : Int)) = True := by
    have h1 : maxBytes = 140737488355328 := rfl
    rw [h1]; exact eq_true (by omega)
  have hz : List.replicate m.length [D.sc (Value.int .u64 0)] = (List.replicate m.length 0).map n64 := by
    rw [List.map_replicate]; rfl
  have mb := mbk (show m.length + a.length ≤ 10000000 by omega) (Nat.le_refl _) (show 8 ≤ 1000 by omega)
  have lz : Limbs (List.replicate m.length 0 ++ a) := (Limbs.rep _).append ha
  have f1 := Rest55 lz hm (by rw [List.length_append, List.length_replicate]; omega) (by omega)
  rw [val_append, val_rep, Nat.zero_add, List.length_replicate, restV_pos (by omega)] at f1
  have hl := val_lt hm
  have f2 := Wide98 (m := m) (mi := mi) (dig_limbs (B64 ^ m.length * val a % val m)) (dlen' (Nat.lt_trans (Nat.mod_lt _ hM) hl)) (by omega)
  rw [val_dig] at f2
  have al := all64 a
  rw [c96]
  simp only [go_sem, ↓reduceIte, Nat.reduceAdd, Nat.reduceSub, Nat.reduceMul, Nat.reduceEqDiff, Nat.reduceLT, Nat.reduceShiftRight, Nat.reduceAnd, Nat.reduceBNe, Nat.reduceLeDiff, Nat.reduceBEq, Nat.testBit, Nat.zero_lt_one, Int.reduceToNat, Int.reduceNeg, Int.reduceLE, Int.reduceLT, Int.reduceEq, decide_true, decide_false, Bool.and_true, Bool.true_and, Bool.and_false, Bool.false_and, Bool.or_true, Bool.true_or, Bool.or_false, Bool.false_or, Bool.not_true, Bool.not_false, beq_self_eq_true, reduceCtorEq, Int.le_refl, Nat.add_zero, and_self, and_true, true_and, or_true, true_or, if_true, if_false, Nat.le_refl, Bool.and_self, eq_self, Bool.not_false, Bool.not_true, q3, q4, hz, mb, al, app64, Int.toNat_natCast, f1, f2, nl, List.length_map, List.length_replicate]
end
include hm lm hM hmi hodd
theorem times_eq {a b : List Nat} (ha : Limbs a) (hb : Limbs b) (la : a.length = m.length) (lb : b.length = m.length) {Y : Nat} (hZ : (val a * val b) % val m = (B64 ^ m.length * Y) % val m) (hlt : val b < val m ∨ val b = 1) :
    (KL AA XX).call 97 [.agg (rg m mi), (PV.one (D.sl (List.map n64 (a)))), (PV.one (D.sl (List.map n64 (b))))] = some [(PV.one (D.sl (List.map n64 (digs m.length (Y % val m)))))] := by
  obtain ⟨V, h1, h2, ⟨Q, Q', h3⟩, h4⟩ := Times97 (mi := mi) hm ha hb lb (by omega) (by omega) hM hmi
  rw [la] at h3
  have hV : V < val m := by omega
  rw [h1, ← mont_eq (co_pow hodd m.length) hV h3 hZ]
theorem pow95_step {a e : List Nat} (ha : Limbs a) (la : a.length = m.length) {A : Nat} (hA : val a = B64 ^ m.length * A % val m) (he : Limbs e) (le : e.length ≤ 1000) (j : Nat) (hj : j < 64000) :
    loopR AA XX [1, 2, 3, 7, 8] 3 b95_0 (RUN AA XX b95_0 ⟨[(1, (AV.c (C.d (D.sl (List.map n64 (a)))))), (2, (AV.c (C.d (D.sl (List.map n64 (e)))))), (3, .ptr 0 0), (7, (AV.c (C.d (D.sl (List.map n64 (digs m.length (B64 ^ m.length * A ^ (val e / 2 ^ (j + 1)) % val m))))))), (8, (AV.c (C.d (D.sc (Value.int IntKind.i64 (j))))))], [(0, .arr ((rg m mi).map C.d)), (1, .tok 0 0), (2, .tok 1 1)], 3⟩) =
    loopR AA XX [1, 2, 3, 7, 8] 3 b95_0 (RUN AA XX b95_0 ⟨[(1, (AV.c (C.d (D.sl (List.map n64 (a)))))), (2, (AV.c (C.d (D.sl (List.map n64 (e)))))), (3, .ptr 0 0), (7, (AV.c (C.d (D.sl (List.map n64 (digs m.length (B64 ^ m.length * A ^ (val e / 2 ^ j) % val m))))))), (8, (AV.c (C.d (D.sc (Value.int IntKind.i64 ((j : Int) - 1))))))], [(0, .arr ((rg m mi).map C.d)), (1, .tok 0 0), (2, .tok 1 1)], 3⟩) := by
  have hl := val_lt hm
  obtain ⟨R, hR⟩ : ∃ R, B64 ^ m.length = R := ⟨_, rfl⟩
  obtain ⟨M, hMe⟩ : ∃ M, val m = M := ⟨_, rfl⟩
  have vd : ∀ X, val (digs m.length (X % M)) = X % M := fun X => by
    rw [val_digs, Nat.mod_eq_of_lt]
    exact Nat.lt_trans (Nat.mod_lt _ (by omega)) (by omega)
  have ml : ∀ X, X % M < M := fun X => Nat.mod_lt _ (by omega)
  have fb := Nat.div_add_mod (val e / 2 ^ j) 2
  rw [Nat.div_div_eq_div_mul, ← Nat.pow_succ, Nat.succ_eq_add_one] at fb
  obtain ⟨k, hk⟩ : ∃ k, val e / 2 ^ (j + 1) = k := ⟨_, rfl⟩
  rw [hk] at fb
  have f1 := times_eq hm lm hM hmi hodd (digs_limbs m.length (R * A ^ k % M)) (digs_limbs m.length (R * A ^ k % M)) (digs_len _ _) (digs_len _ _) (Y := R * A ^ (k + k))
    (by
      rw [hR, hMe, vd, ← Nat.mul_mod, Nat.pow_add]
      congr 1
      ac_rfl) (by rw [hMe, vd]; exact .inl (ml _))
  have f2 := times_eq hm lm hM hmi hodd (digs_limbs m.length (R * A ^ (k + k) % M)) ha (digs_len _ _) la (Y := R * A ^ (k + k + 1))
    (by
      rw [hA, hR, hMe, vd, ← Nat.mul_mod, Nat.pow_succ]
      congr 1
      ac_rfl) (by rw [hA, hMe]; exact .inl (ml _))
  rw [hMe] at f1 f2
  have f3 := Bit71 he (by omega) (j : Int) (i64_nat (by omega))
  rw [bitN_cast] at f3
  have hb : val e / 2 ^ j % 2 < 2 := Nat.mod_lt _ (by decide)
  have d0 : decide ((0 : Int) ≤ (j : Int)) = true := decide_eq_true (by omega)
  have hw := wrap_i64_pred j (by omega)
  rw [hR, hMe, hk, b95_0_run]
  by_cases h : val e / 2 ^ j % 2 = 1
  · rw [h] at f3 fb
    rw [show val e / 2 ^ j = k + k + 1 by omega]
    simp only [go_sem, ↓reduceIte, Nat.reduceAdd, Nat.reduceSub, Nat.reduceMul, Nat.reduceEqDiff, Nat.reduceLT, Nat.reduceShiftRight, Nat.reduceAnd, Nat.reduceBNe, Nat.reduceLeDiff, Nat.reduceBEq, Nat.testBit, Nat.zero_lt_one, Int.reduceToNat, Int.reduceNeg, Int.reduceLE, Int.reduceLT, Int.reduceEq, decide_true, decide_false, Bool.and_true, Bool.true_and, Bool.and_false, Bool.false_and, Bool.or_true, Bool.true_or, Bool.or_false, Bool.false_or, Bool.not_true, Bool.not_false, beq_self_eq_true, reduceCtorEq, Int.le_refl, Nat.add_zero, and_self, and_true, true_and, or_true, true_or, if_true, if_false, Nat.le_refl, Bool.and_self, eq_self, Bool.not_false, Bool.not_true, List.map_cons, List.map_nil, d0, f1, f2, f3, hw, show ((1 : Nat) : Int) = 1 from rfl]
  · rw [show val e / 2 ^ j % 2 = 0 by omega] at f3 fb
    rw [show val e / 2 ^ j = k + k by omega]
    simp only [go_sem, ↓reduceIte, Nat.reduceAdd, Nat.reduceSub, Nat.reduceMul, Nat.reduceEqDiff, Nat.reduceLT, Nat.reduceShiftRight, Nat.reduceAnd, Nat.reduceBNe, Nat.reduceLeDiff, Nat.reduceBEq, Nat.testBit, Nat.zero_lt_one, Int.reduceToNat, Int.reduceNeg, Int.reduceLE, Int.reduceLT, Int.reduceEq, decide_true, decide_false, Bool.and_true, Bool.true_and, Bool.and_false, Bool.false_and, Bool.or_true, Bool.true_or, Bool.or_false, Bool.false_or, Bool.not_true, Bool.not_false, beq_self_eq_true, reduceCtorEq, Int.le_refl, Nat.add_zero, and_self, and_true, true_and, or_true, true_or, if_true, if_false, Nat.le_refl, Bool.and_self, eq_self, Bool.not_false, Bool.not_true, List.map_cons, List.map_nil, d0, f1, f3, hw, show ((0 : Nat) : Int) = 0 from rfl]
theorem Power95 {a e : List Nat} (ha : Limbs a) (la : a.length = m.length) {A : Nat} (hA : val a = B64 ^ m.length * A % val m) (he : Limbs e) (le : e.length ≤ 1000) :
    (KL AA XX).call 95 [.agg (rg m mi), (PV.one (D.sl (List.map n64 (a)))), (PV.one (D.sl (List.map n64 (e))))] = some [(PV.one (D.sl (List.map n64 (digs m.length (B64 ^ m.length * A ^ val e % val m)))))] := by
  have l1 : Limbs [1] := Limbs.cons (by decide) Limbs.nil
  have f1 := In96 (mi := mi) hm lm hM l1 (by simp)
  rw [show val [1] = 1 from rfl] at f1
  simp only [List.map_cons, List.map_nil, n64, show ((1 : Nat) : Int) = 1 from rfl] at f1
  have f2 := Bits70 he (by omega)
  have hnb := nbl (val_lt he)
  have hw := wrap_i64_pred (nbits (val e)) (by omega)
  have go := iter (F := fun (j : Nat) => loopR AA XX [1, 2, 3, 7, 8] 3 b95_0 (RUN AA XX b95_0 ⟨[(1, (AV.c (C.d (D.sl (List.map n64 (a)))))), (2, (AV.c (C.d (D.sl (List.map n64 (e)))))), (3, .ptr 0 0), (7, (AV.c (C.d (D.sl (List.map n64 (digs m.length (B64 ^ m.length * A ^ (val e / 2 ^ j) % val m))))))), (8, (AV.c (C.d (D.sc (Value.int IntKind.i64 ((j : Int) - 1))))))], [(0, .arr ((rg m mi).map C.d)), (1, .tok 0 0), (2, .tok 1 1)], 3⟩)) (Nat.zero_le (nbits (val e))) fun j _ hj => by
    have := pow95_step hm lm hM hmi hodd ha la hA he le j (by omega)
    have e1 : ((j + 1 : Nat) : Int) - 1 = (j : Int) := by omega
    show loopR _ _ _ _ _ (RUN _ _ _ _) = loopR _ _ _ _ _ (RUN _ _ _ _)
    rw [e1]
    exact this.symm
  rw [Nat.div_eq_of_lt (nbits_lt (val e)), Nat.pow_zero, Nat.pow_zero, Nat.div_one] at go
  simp only [show ((0 : Nat) : Int) = 0 from rfl, List.map_cons, List.map_nil] at go
  rw [c95]
  simp only [go_sem, ↓reduceIte, Nat.reduceAdd, Nat.reduceSub, Nat.reduceMul, Nat.reduceEqDiff, Nat.reduceLT, Nat.reduceShiftRight, Nat.reduceAnd, Nat.reduceBNe, Nat.reduceLeDiff, Nat.reduceBEq, Nat.testBit, Nat.zero_lt_one, Int.reduceToNat, Int.reduceNeg, Int.reduceLE, Int.reduceLT, Int.reduceEq, decide_true, decide_false, Bool.and_true, Bool.true_and, Bool.and_false, Bool.false_and, Bool.or_true, Bool.true_or, Bool.or_false, Bool.false_or, Bool.not_true, Bool.not_false, beq_self_eq_true, reduceCtorEq, Int.le_refl, Nat.add_zero, and_self, and_true, true_and, or_true, true_or, if_true, if_false, Nat.le_refl, Bool.and_self, eq_self, Bool.not_false, Bool.not_true, f1, f2, hw]
  rw [← go, b95_0_run]
  have dm : decide ((0 : Int) ≤ 0 - 1) = false := rfl
  simp only [go_sem, ↓reduceIte, Nat.reduceAdd, Nat.reduceSub, Nat.reduceMul, Nat.reduceEqDiff, Nat.reduceLT, Nat.reduceShiftRight, Nat.reduceAnd, Nat.reduceBNe, Nat.reduceLeDiff, Nat.reduceBEq, Nat.testBit, Nat.zero_lt_one, Int.reduceToNat, Int.reduceNeg, Int.reduceLE, Int.reduceLT, Int.reduceEq, decide_true, decide_false, Bool.and_true, Bool.true_and, Bool.and_false, Bool.false_and, Bool.or_true, Bool.true_or, Bool.or_false, Bool.false_or, Bool.not_true, Bool.not_false, beq_self_eq_true, reduceCtorEq, Int.le_refl, Nat.add_zero, and_self, and_true, true_and, or_true, true_or, if_true, if_false, Nat.le_refl, Bool.and_self, eq_self, Bool.not_false, Bool.not_true, dm]
end
end Go.Proofs.Ytpanbfainilmpaa.Ev.N
end
section
/- Powers: the whole. -/
set_option linter.unusedVariables false
set_option linter.unusedSimpArgs false
set_option maxRecDepth 100000
set_option maxHeartbeats 4000000
namespace Go.Proofs.Ytpanbfainilmpaa.Ev.N
open Go Go.Proofs.Ytpanbfainilmpaa.Ev

section
variable {a e m : List Nat} (ha : Limbs a) (he : Limbs e) (hm : Limbs m) (la : a.length ≤ 1000) (le : e.length ≤ 1000) (lm : m.length ≤ 1000)
include ha he hm la le lm
theorem pow54_step (hM : val m ≠ 0) (j : Nat) (hj : j < 64000) :
    loopR AA XX [0, 1, 2, 9, 11] 2 b54_0 (RUN AA XX b54_0 ⟨[(0, (AV.c (C.d (D.sl (List.map n64 (a)))))), (1, (AV.c (C.d (D.sl (List.map n64 (e)))))), (2, (AV.c (C.d (D.sl (List.map n64 (m)))))), (9, (AV.c (C.d (D.sl (List.map n64 (dig (val a ^ (val e / 2 ^ (j + 1)) % val m))))))), (11, (AV.c (C.d (D.sc (Value.int IntKind.i64 (j))))))], [(0, .tok 0 0), (1, .tok 1 1)], 2⟩) =
    loopR AA XX [0, 1, 2, 9, 11] 2 b54_0 (RUN AA XX b54_0 ⟨[(0, (AV.c (C.d (D.sl (List.map n64 (a)))))), (1, (AV.c (C.d (D.sl (List.map n64 (e)))))), (2, (AV.c (C.d (D.sl (List.map n64 (m)))))), (9, (AV.c (C.d (D.sl (List.map n64 (dig (val a ^ (val e / 2 ^ j) % val m))))))), (11, (AV.c (C.d (D.sc (Value.int IntKind.i64 ((j : Int) - 1))))))], [(0, .tok 0 0), (1, .tok 1 1)], 2⟩) := by
  have hp := pow_bit (val a) (val e) (val m) j
  obtain ⟨p, hpp⟩ : ∃ p, val a ^ (val e / 2 ^ (j + 1)) % val m = p := ⟨_, rfl⟩
  have hpm : p < val m := by rw [← hpp]; exact Nat.mod_lt _ (Nat.pos_of_ne_zero hM)
  rw [hpp] at hp ⊢
  have hlm := val_lt hm
  have l1 : (dig p).length ≤ 1000 := Nat.le_trans (dlen' (Nat.lt_trans hpm hlm)) lm
  have l2 := Nat.le_trans (mod_len hM hlm (p * p)) lm
  have f1 := Times58 (dig_limbs p) (dig_limbs p) hm (by omega) (by omega) (by omega)
  have f2 := Times58 (dig_limbs (p * p % val m)) ha hm (by omega) (by omega) (by omega)
  rw [val_dig, restV_pos hM] at f1 f2
  have f3 := Bit71 he (by omega) (j : Int) (i64_nat (by omega))
  rw [bitN_cast] at f3
  have hb : val e / 2 ^ j % 2 < 2 := Nat.mod_lt _ (by decide)
  have d0 : decide ((0 : Int) ≤ (j : Int)) = true := decide_eq_true (by omega)
  have hw := wrap_i64_pred j (by omega)
  rw [b54_0_run]
  by_cases h : val e / 2 ^ j % 2 = 1
  · rw [if_pos h] at hp
    rw [h] at f3
    rw [hp]
    simp only [go_sem, ↓reduceIte, Nat.reduceAdd, Nat.reduceSub, Nat.reduceMul, Nat.reduceEqDiff, Nat.reduceLT, Nat.reduceShiftRight, Nat.reduceAnd, Nat.reduceBNe, Nat.reduceLeDiff, Nat.reduceBEq, Nat.testBit, Nat.zero_lt_one, Int.reduceToNat, Int.reduceNeg, Int.reduceLE, Int.reduceLT, Int.reduceEq, decide_true, decide_false, Bool.and_true, Bool.true_and, Bool.and_false, Bool.false_and, Bool.or_true, Bool.true_or, Bool.or_false, Bool.false_or, Bool.not_true, Bool.not_false, beq_self_eq_true, reduceCtorEq, Int.le_refl, Nat.add_zero, and_self, and_true, true_and, or_true, true_or, if_true, if_false, Nat.le_refl, Bool.and_self, eq_self, Bool.not_false, Bool.not_true, d0, f1, f2, f3, hw, nl, show ((1 : Nat) : Int) = 1 from rfl]
  · rw [if_neg h] at hp
    rw [show val e / 2 ^ j % 2 = 0 by omega] at f3
    rw [hp]
    simp only [go_sem, ↓reduceIte, Nat.reduceAdd, Nat.reduceSub, Nat.reduceMul, Nat.reduceEqDiff, Nat.reduceLT, Nat.reduceShiftRight, Nat.reduceAnd, Nat.reduceBNe, Nat.reduceLeDiff, Nat.reduceBEq, Nat.testBit, Nat.zero_lt_one, Int.reduceToNat, Int.reduceNeg, Int.reduceLE, Int.reduceLT, Int.reduceEq, decide_true, decide_false, Bool.and_true, Bool.true_and, Bool.and_false, Bool.false_and, Bool.or_true, Bool.true_or, Bool.or_false, Bool.false_or, Bool.not_true, Bool.not_false, beq_self_eq_true, reduceCtorEq, Int.le_refl, Nat.add_zero, and_self, and_true, true_and, or_true, true_or, if_true, if_false, Nat.le_refl, Bool.and_self, eq_self, Bool.not_false, Bool.not_true, d0, f1, f2, f3, hw, nl, show ((0 : Nat) : Int) = 0 from rfl]
theorem Power54 : (KL AA XX).call 54 [(PV.one (D.sl (List.map n64 (a)))), (PV.one (D.sl (List.map n64 (e)))), (PV.one (D.sl (List.map n64 (m))))] = some (restV (val a ^ val e) (val m)) := by
  have f0 := Trim68 hm (by omega)
  have hlm : (dig (val m)).length ≤ 1000 := Nat.le_trans (dlen' (val_lt hm)) lm
  have f1 := Rest55 ha (dig_limbs (val m)) (by omega) (by omega)
  rw [val_dig] at f1
  rw [c54]
  by_cases hM : val m = 0
  · unfold restV at f1 ⊢
    rw [if_pos hM] at f1 ⊢
    simp only [go_sem, ↓reduceIte, Nat.reduceAdd, Nat.reduceSub, Nat.reduceMul, Nat.reduceEqDiff, Nat.reduceLT, Nat.reduceShiftRight, Nat.reduceAnd, Nat.reduceBNe, Nat.reduceLeDiff, Nat.reduceBEq, Nat.testBit, Nat.zero_lt_one, Int.reduceToNat, Int.reduceNeg, Int.reduceLE, Int.reduceLT, Int.reduceEq, decide_true, decide_false, Bool.and_true, Bool.true_and, Bool.and_false, Bool.false_and, Bool.or_true, Bool.true_or, Bool.or_false, Bool.false_or, Bool.not_true, Bool.not_false, beq_self_eq_true, reduceCtorEq, Int.le_refl, Nat.add_zero, and_self, and_true, true_and, or_true, true_or, if_true, if_false, Nat.le_refl, Bool.and_self, eq_self, Bool.not_false, Bool.not_true, f0, f1, nl, List.map_nil]
  · rw [restV_pos hM] at f1 ⊢
    have hdl : 0 < (dig (val m)).length := by rw [dig_len, nlen_pos hM]; omega
    have hg := getn hdl
    have h0 : (dig (val m))[0] = val m % B64 := by
      rw [← limb_get hdl, limb_eq (dig_limbs _), val_dig, Nat.pow_zero, Nat.div_one]
    rw [h0] at hg
    have hb := bandI_u1 (val m % B64)
    have hm2 : val m % B64 % 2 = val m % 2 := Nat.mod_mod_of_dvd _ (by decide)
    rw [hm2] at hb
    have hap : ∀ k, (val a % val m) ^ k % val m = val a ^ k % val m := fun k => (Nat.pow_mod _ _ _).symm
    by_cases hodd : val m % 2 = 1
    · rw [hodd] at hb
      have hM0 : 0 < val m := Nat.pos_of_ne_zero hM
      have hml := dig_limbs (val m)
      have hi := nw6_inv (m := val m % B64) (by omega)
      have hof := Of94 hdl h0
      obtain ⟨mi, hmi⟩ : ∃ mi, (B64 - nw6 (val m % B64)) % B64 = mi := ⟨_, rfl⟩
      rw [hmi] at hi hof
      have hinv : (val (dig (val m)) * mi + 1) % B64 = 0 := by
        rw [val_dig, Nat.add_mod, ← Nat.mod_mul_mod, ← Nat.add_mod]; exact hi
      have hv : val (dig (val m)) = val m := val_dig _
      have hvl := val_lt hml
      rw [hv] at hvl
      obtain ⟨L, hL⟩ : ∃ L, dig (val m) = L := ⟨_, rfl⟩
      rw [hL] at f0 f1 hlm hdl hg hml hof hinv hv hvl
      obtain ⟨N, hN⟩ : ∃ N, L.length = N := ⟨_, rfl⟩
      have hra : (dig (val a % val m)).length ≤ 1000 := by
        refine Nat.le_trans (dlen' ?_) hlm
        exact Nat.lt_trans (Nat.mod_lt _ hM0) hvl
      have f2 := In96 (mi := mi) hml (by omega) (by rw [hv]; exact hM0) (dig_limbs (val a % val m)) (by omega)
      rw [val_dig, hv] at f2
      have vd : ∀ X, val (digs L.length (X % val m)) = X % val m := fun X => by
        rw [val_digs, Nat.mod_eq_of_lt]
        exact Nat.lt_trans (Nat.mod_lt _ hM0) hvl
      have f3 := Power95 (mi := mi) hml (by omega) (by rw [hv]; exact hM0) hinv (by rw [hv]; exact hodd) (digs_limbs L.length (B64 ^ L.length * (val a % val m) % val m)) (digs_len _ _) (A := val a % val m) (by rw [vd, hv]) he le
      rw [hv] at f3
      have l1 : Limbs [1] := Limbs.cons (by decide) Limbs.nil
      have f4 := Wide98 (m := L) (mi := mi) l1 (by simp; omega) (by omega)
      rw [show val [1] = 1 from rfl] at f4
      simp only [List.map_cons, List.map_nil, n64, show ((1 : Nat) : Int) = 1 from rfl] at f4
      have hv1 : val (digs L.length 1) = 1 := by
        rw [val_digs, Nat.mod_eq_of_lt]
        exact Nat.one_lt_pow (by omega) (by decide)
      have f5 := times_eq (mi := mi) hml (by omega) (by rw [hv]; exact hM0) hinv (by rw [hv]; exact hodd) (digs_limbs L.length (B64 ^ L.length * (val a % val m) ^ val e % val m)) (digs_limbs L.length 1) (digs_len _ _) (digs_len _ _) (Y := (val a % val m) ^ val e) (by rw [vd, hv1, hv, Nat.mul_one, Nat.mod_mod]) (.inr hv1)
      rw [hv] at f5
      have f6 := Trim68 (digs_limbs L.length ((val a % val m) ^ val e % val m)) (by rw [digs_len]; omega)
      rw [vd, hap] at f6
      rw [hap] at f5
      simp only [go_sem, ↓reduceIte, Nat.reduceAdd, Nat.reduceSub, Nat.reduceMul, Nat.reduceEqDiff, Nat.reduceLT, Nat.reduceShiftRight, Nat.reduceAnd, Nat.reduceBNe, Nat.reduceLeDiff, Nat.reduceBEq, Nat.testBit, Nat.zero_lt_one, Int.reduceToNat, Int.reduceNeg, Int.reduceLE, Int.reduceLT, Int.reduceEq, decide_true, decide_false, Bool.and_true, Bool.true_and, Bool.and_false, Bool.false_and, Bool.or_true, Bool.true_or, Bool.or_false, Bool.false_or, Bool.not_true, Bool.not_false, beq_self_eq_true, reduceCtorEq, Int.le_refl, Nat.add_zero, and_self, and_true, true_and, or_true, true_or, if_true, if_false, Nat.le_refl, Bool.and_self, eq_self, Bool.not_false, Bool.not_true, f0, f1, nl, hg, bin_andI, hb, show ((1 : Nat) : Int) = 1 from rfl, hof, f2, f3, f4, f5, f6]
    · rw [show val m % 2 = 0 by omega] at hb
      have hM0 : 0 < val m := Nat.pos_of_ne_zero hM
      have l1 : Limbs [1] := Limbs.cons (by decide) Limbs.nil
      have f2 := Rest55 l1 (dig_limbs (val m)) (by simp) (by omega)
      rw [show val [1] = 1 from rfl, val_dig, restV_pos hM] at f2
      simp only [List.map_cons, List.map_nil, n64, show ((1 : Nat) : Int) = 1 from rfl] at f2
      have f3 := Bits70 he (by omega)
      have hnb := nbl (val_lt he)
      have hw := wrap_i64_pred (nbits (val e)) (by omega)
      have hra : (dig (val a % val m)).length ≤ 1000 := by
        refine Nat.le_trans (dlen' ?_) lm
        exact Nat.lt_trans (Nat.mod_lt _ hM0) (val_lt hm)
      have go := iter (F := fun (j : Nat) => loopR AA XX [0, 1, 2, 9, 11] 2 b54_0 (RUN AA XX b54_0 ⟨[(0, (AV.c (C.d (D.sl (List.map n64 (dig (val a % val m))))))), (1, (AV.c (C.d (D.sl (List.map n64 (e)))))), (2, (AV.c (C.d (D.sl (List.map n64 (dig (val m))))))), (9, (AV.c (C.d (D.sl (List.map n64 (dig ((val a % val m) ^ (val e / 2 ^ j) % val m))))))), (11, (AV.c (C.d (D.sc (Value.int IntKind.i64 ((j : Int) - 1))))))], [(0, .tok 0 0), (1, .tok 1 1)], 2⟩)) (Nat.zero_le (nbits (val e))) fun j _ hj => by
        have := pow54_step (dig_limbs (val a % val m)) he (dig_limbs (val m)) hra le hlm (by rw [val_dig]; exact hM) j (by omega)
        rw [val_dig, val_dig] at this
        have e1 : ((j + 1 : Nat) : Int) - 1 = (j : Int) := by omega
        show loopR _ _ _ _ _ (RUN _ _ _ _) = loopR _ _ _ _ _ (RUN _ _ _ _)
        rw [e1]
        exact this.symm
      rw [Nat.div_eq_of_lt (nbits_lt (val e)), Nat.pow_zero, Nat.pow_zero, Nat.div_one, hap] at go
      simp only [show ((0 : Nat) : Int) = 0 from rfl] at go
      simp only [go_sem, ↓reduceIte, Nat.reduceAdd, Nat.reduceSub, Nat.reduceMul, Nat.reduceEqDiff, Nat.reduceLT, Nat.reduceShiftRight, Nat.reduceAnd, Nat.reduceBNe, Nat.reduceLeDiff, Nat.reduceBEq, Nat.testBit, Nat.zero_lt_one, Int.reduceToNat, Int.reduceNeg, Int.reduceLE, Int.reduceLT, Int.reduceEq, decide_true, decide_false, Bool.and_true, Bool.true_and, Bool.and_false, Bool.false_and, Bool.or_true, Bool.true_or, Bool.or_false, Bool.false_or, Bool.not_true, Bool.not_false, beq_self_eq_true, reduceCtorEq, Int.le_refl, Nat.add_zero, and_self, and_true, true_and, or_true, true_or, if_true, if_false, Nat.le_refl, Bool.and_self, eq_self, Bool.not_false, Bool.not_true, f0, f1, f2, f3, hw, nl, hg, bin_andI, hb, show ((0 : Nat) : Int) = 0 from rfl]
      rw [← go, b54_0_run]
      have dm : decide ((0 : Int) ≤ 0 - 1) = false := rfl
      simp only [go_sem, ↓reduceIte, Nat.reduceAdd, Nat.reduceSub, Nat.reduceMul, Nat.reduceEqDiff, Nat.reduceLT, Nat.reduceShiftRight, Nat.reduceAnd, Nat.reduceBNe, Nat.reduceLeDiff, Nat.reduceBEq, Nat.testBit, Nat.zero_lt_one, Int.reduceToNat, Int.reduceNeg, Int.reduceLE, Int.reduceLT, Int.reduceEq, decide_true, decide_false, Bool.and_true, Bool.true_and, Bool.and_false, Bool.false_and, Bool.or_true, Bool.true_or, Bool.or_false, Bool.false_or, Bool.not_true, Bool.not_false, beq_self_eq_true, reduceCtorEq, Int.le_refl, Nat.add_zero, and_self, and_true, true_and, or_true, true_or, if_true, if_false, Nat.le_refl, Bool.and_self, eq_self, Bool.not_false, Bool.not_true, dm]
end
end Go.Proofs.Ytpanbfainilmpaa.Ev.N
end
section
/- small, and the examples of chapter 04. -/
set_option linter.unusedVariables false
set_option linter.unusedSimpArgs false
set_option maxRecDepth 100000
set_option maxHeartbeats 4000000
namespace Go.Proofs.Ytpanbfainilmpaa.Ev.N
open Go Go.Proofs.Ytpanbfainilmpaa.Ev

abbrev nls (L : List (List Nat)) : List (List D) := L.map fun l => [D.sl (l.map n64)]
theorem small_loop (L : List (List Nat)) (lL : L.length ≤ 1000) (n : Nat) : ∀ d i, i + d = L.length →
    ((∀ l ∈ L.drop i, l.length ≤ n) → ∃ F', blockR 0 (loopR AA XX [0, 1, 5] 0 b52_0 (RUN AA XX b52_0 ⟨[(0, (AV.c (C.d (D.sc (Value.int IntKind.i64 (n)))))), (1, (AV.c (C.d (D.sl (nls L))))), (5, (AV.c (C.d (D.sc (Value.int IntKind.i64 (i))))))], [], 0⟩)) = some (.norm, ⟨F', [], 0⟩)) ∧
    ((∃ l ∈ L.drop i, n < l.length) → ∃ F', blockR 0 (loopR AA XX [0, 1, 5] 0 b52_0 (RUN AA XX b52_0 ⟨[(0, (AV.c (C.d (D.sc (Value.int IntKind.i64 (n)))))), (1, (AV.c (C.d (D.sl (nls L))))), (5, (AV.c (C.d (D.sc (Value.int IntKind.i64 (i))))))], [], 0⟩)) = some (.ret, ⟨F', [], 0⟩) ∧ F'.get 4 = (AV.c (C.d (D.sc (Value.bool (false)))))) := by
  intro d
  induction d with
  | zero =>
    intro i hi
    have hlt := ltF (i := i) (n := L.length) (by omega)
    refine ⟨fun _ => ?_, fun ⟨l, hl, _⟩ => ?_⟩
    · rw [b52_0_run]
      simp only [go_sem, ↓reduceIte, Nat.reduceAdd, Nat.reduceSub, Nat.reduceMul, Nat.reduceEqDiff, Nat.reduceLT, Nat.reduceShiftRight, Nat.reduceAnd, Nat.reduceBNe, Nat.reduceLeDiff, Nat.reduceBEq, Nat.testBit, Nat.zero_lt_one, Int.reduceToNat, Int.reduceNeg, Int.reduceLE, Int.reduceLT, Int.reduceEq, decide_true, decide_false, Bool.and_true, Bool.true_and, Bool.and_false, Bool.false_and, Bool.or_true, Bool.true_or, Bool.or_false, Bool.false_or, Bool.not_true, Bool.not_false, beq_self_eq_true, reduceCtorEq, Int.le_refl, Nat.add_zero, and_self, and_true, true_and, or_true, true_or, if_true, if_false, Nat.le_refl, Bool.and_self, eq_self, Bool.not_false, Bool.not_true, hlt, List.length_map]
      exact ⟨_, rfl⟩
    · rw [List.drop_eq_nil_of_le (by omega)] at hl; cases hl
  | succ d ih =>
    intro i hi
    have hil : i < L.length := by omega
    have hlt := ltT hil
    have hg : (nls L)[i]? = some [D.sl (L[i].map n64)] := by simp [nls, hil]
    have hw := wrap_succ i (by omega)
    obtain ⟨h1, h2⟩ := ih (i + 1) (by omega)
    rw [List.drop_eq_getElem_cons hil]
    have hstep : L[i].length ≤ n → loopR AA XX [0, 1, 5] 0 b52_0 (RUN AA XX b52_0 ⟨[(0, (AV.c (C.d (D.sc (Value.int IntKind.i64 (n)))))), (1, (AV.c (C.d (D.sl (nls L))))), (5, (AV.c (C.d (D.sc (Value.int IntKind.i64 (i))))))], [], 0⟩) = loopR AA XX [0, 1, 5] 0 b52_0 (RUN AA XX b52_0 ⟨[(0, (AV.c (C.d (D.sc (Value.int IntKind.i64 (n)))))), (1, (AV.c (C.d (D.sl (nls L))))), (5, (AV.c (C.d (D.sc (Value.int IntKind.i64 ((i + 1 : Nat)))))))], [], 0⟩) := by
      intro hle
      have d1 : decide ((n : Int) < (L[i].length : Int)) = false := decide_eq_false (by omega)
      conv => lhs; rw [b52_0_run]
      simp only [go_sem, ↓reduceIte, Nat.reduceAdd, Nat.reduceSub, Nat.reduceMul, Nat.reduceEqDiff, Nat.reduceLT, Nat.reduceShiftRight, Nat.reduceAnd, Nat.reduceBNe, Nat.reduceLeDiff, Nat.reduceBEq, Nat.testBit, Nat.zero_lt_one, Int.reduceToNat, Int.reduceNeg, Int.reduceLE, Int.reduceLT, Int.reduceEq, decide_true, decide_false, Bool.and_true, Bool.true_and, Bool.and_false, Bool.false_and, Bool.or_true, Bool.true_or, Bool.or_false, Bool.false_or, Bool.not_true, Bool.not_false, beq_self_eq_true, reduceCtorEq, Int.le_refl, Nat.add_zero, and_self, and_true, true_and, or_true, true_or, if_true, if_false, Nat.le_refl, Bool.and_self, eq_self, Bool.not_false, Bool.not_true, hlt, List.length_map, hg, d1, hw]
    refine ⟨fun hall => ?_, fun ⟨l, hl, hb⟩ => ?_⟩
    · rw [hstep (hall _ List.mem_cons_self)]
      exact h1 fun l hl => hall l (List.mem_cons_of_mem _ hl)
    · by_cases hle : L[i].length ≤ n
      · rw [hstep hle]
        rcases List.mem_cons.1 hl with rfl | hl
        · omega
        · exact h2 ⟨l, hl, hb⟩
      · have d1 : decide ((n : Int) < (L[i].length : Int)) = true := decide_eq_true (by omega)
        rw [b52_0_run]
        simp only [go_sem, ↓reduceIte, Nat.reduceAdd, Nat.reduceSub, Nat.reduceMul, Nat.reduceEqDiff, Nat.reduceLT, Nat.reduceShiftRight, Nat.reduceAnd, Nat.reduceBNe, Nat.reduceLeDiff, Nat.reduceBEq, Nat.testBit, Nat.zero_lt_one, Int.reduceToNat, Int.reduceNeg, Int.reduceLE, Int.reduceLT, Int.reduceEq, decide_true, decide_false, Bool.and_true, Bool.true_and, Bool.and_false, Bool.false_and, Bool.or_true, Bool.true_or, Bool.or_false, Bool.false_or, Bool.not_true, Bool.not_false, beq_self_eq_true, reduceCtorEq, Int.le_refl, Nat.add_zero, and_self, and_true, true_and, or_true, true_or, if_true, if_false, Nat.le_refl, Bool.and_self, eq_self, Bool.not_false, Bool.not_true, hlt, List.length_map, hg, d1, hw]
        exact ⟨_, rfl, rfl⟩
theorem Small52 (L : List (List Nat)) (lL : L.length ≤ 1000) (n : Nat) : (KL AA XX).call 52 [(PV.one (D.sc (Value.int IntKind.i64 (n)))), (PV.one (D.sl (nls L)))] = some [(PV.one (D.sc (Value.bool (decide (∀ l ∈ L, l.length ≤ n)))))] := by
  obtain ⟨h1, h2⟩ := small_loop L lL n L.length 0 (by omega)
  rw [List.drop_zero] at h1 h2
  simp only [show ((0 : Nat) : Int) = 0 from rfl] at h1 h2
  rw [c52]
  by_cases h : ∀ l ∈ L, l.length ≤ n
  · obtain ⟨F', g⟩ := h1 h
    rw [decide_eq_true h]
    simp only [go_sem, ↓reduceIte, Nat.reduceAdd, Nat.reduceSub, Nat.reduceMul, Nat.reduceEqDiff, Nat.reduceLT, Nat.reduceShiftRight, Nat.reduceAnd, Nat.reduceBNe, Nat.reduceLeDiff, Nat.reduceBEq, Nat.testBit, Nat.zero_lt_one, Int.reduceToNat, Int.reduceNeg, Int.reduceLE, Int.reduceLT, Int.reduceEq, decide_true, decide_false, Bool.and_true, Bool.true_and, Bool.and_false, Bool.false_and, Bool.or_true, Bool.true_or, Bool.or_false, Bool.false_or, Bool.not_true, Bool.not_false, beq_self_eq_true, reduceCtorEq, Int.le_refl, Nat.add_zero, and_self, and_true, true_and, or_true, true_or, if_true, if_false, Nat.le_refl, Bool.and_self, eq_self, Bool.not_false, Bool.not_true]
    rw [g]
    simp only [go_sem, ↓reduceIte, Nat.reduceAdd, Nat.reduceSub, Nat.reduceMul, Nat.reduceEqDiff, Nat.reduceLT, Nat.reduceShiftRight, Nat.reduceAnd, Nat.reduceBNe, Nat.reduceLeDiff, Nat.reduceBEq, Nat.testBit, Nat.zero_lt_one, Int.reduceToNat, Int.reduceNeg, Int.reduceLE, Int.reduceLT, Int.reduceEq, decide_true, decide_false, Bool.and_true, Bool.true_and, Bool.and_false, Bool.false_and, Bool.or_true, Bool.true_or, Bool.or_false, Bool.false_or, Bool.not_true, Bool.not_false, beq_self_eq_true, reduceCtorEq, Int.le_refl, Nat.add_zero, and_self, and_true, true_and, or_true, true_or, if_true, if_false, Nat.le_refl, Bool.and_self, eq_self, Bool.not_false, Bool.not_true]
  · rw [decide_eq_false h]
    obtain ⟨F', g, g4⟩ := h2 (by
      by_cases hx : ∃ l ∈ L, n < l.length
      · exact hx
      · exact absurd (fun l hl => Nat.le_of_not_lt fun hlt => hx ⟨l, hl, hlt⟩) h)
    simp only [go_sem, ↓reduceIte, Nat.reduceAdd, Nat.reduceSub, Nat.reduceMul, Nat.reduceEqDiff, Nat.reduceLT, Nat.reduceShiftRight, Nat.reduceAnd, Nat.reduceBNe, Nat.reduceLeDiff, Nat.reduceBEq, Nat.testBit, Nat.zero_lt_one, Int.reduceToNat, Int.reduceNeg, Int.reduceLE, Int.reduceLT, Int.reduceEq, decide_true, decide_false, Bool.and_true, Bool.true_and, Bool.and_false, Bool.false_and, Bool.or_true, Bool.true_or, Bool.or_false, Bool.false_or, Bool.not_true, Bool.not_false, beq_self_eq_true, reduceCtorEq, Int.le_refl, Nat.add_zero, and_self, and_true, true_and, or_true, true_or, if_true, if_false, Nat.le_refl, Bool.and_self, eq_self, Bool.not_false, Bool.not_true]
    rw [g]
    simp only [go_sem, ↓reduceIte, Nat.reduceAdd, Nat.reduceSub, Nat.reduceMul, Nat.reduceEqDiff, Nat.reduceLT, Nat.reduceShiftRight, Nat.reduceAnd, Nat.reduceBNe, Nat.reduceLeDiff, Nat.reduceBEq, Nat.testBit, Nat.zero_lt_one, Int.reduceToNat, Int.reduceNeg, Int.reduceLE, Int.reduceLT, Int.reduceEq, decide_true, decide_false, Bool.and_true, Bool.true_and, Bool.and_false, Bool.false_and, Bool.or_true, Bool.true_or, Bool.or_false, Bool.false_or, Bool.not_true, Bool.not_false, beq_self_eq_true, reduceCtorEq, Int.le_refl, Nat.add_zero, and_self, and_true, true_and, or_true, true_or, if_true, if_false, Nat.le_refl, Bool.and_self, eq_self, Bool.not_false, Bool.not_true, g4]
theorem Small52_3 (a b m : List Nat) (n : Nat) : (KL AA XX).call 52 [(PV.one (D.sc (Value.int IntKind.i64 (n)))), (PV.one (D.sl ([[D.sl (a.map n64)], [D.sl (b.map n64)], [D.sl (m.map n64)]])))] = some [(PV.one (D.sc (Value.bool (decide (a.length ≤ n ∧ b.length ≤ n ∧ m.length ≤ n)))))] := by
  have := Small52 [a, b, m] (by simp) n
  simpa using this
theorem Small52_1 (a : List Nat) (n : Nat) : (KL AA XX).call 52 [(PV.one (D.sc (Value.int IntKind.i64 (n)))), (PV.one (D.sl ([[D.sl (a.map n64)]])))] = some [(PV.one (D.sc (Value.bool (decide (a.length ≤ n)))))] := by
  have := Small52 [a] (by simp) n
  simpa using this
theorem one_limb {x : Nat} (h : x < B64) : Limbs [x] := Limbs.cons h Limbs.nil
theorem val_one (x : Nat) : val [x] = x := by simp [val]
theorem three_pow : 3 ^ B64 % B64 = 1 := by
  rw [← pm_eq B64 65 3 B64 (by decide)]
  kernel_rfl
theorem awake53 : (KL AA XX).call 53 [] = some [(PV.one (D.sc (Value.bool (true))))] := by
  have l01 : Limbs [0, 1] := Limbs.cons (by decide) (one_limb (by decide))
  have f1 := Power54 (one_limb (show 2 < B64 by decide)) (one_limb (show 11 < B64 by decide)) (one_limb (show 23 < B64 by decide)) (by simp) (by simp) (by simp)
  have f2 := Power54 (one_limb (show 2 < B64 by decide)) (one_limb (show 11 < B64 by decide)) Limbs.nil (by simp) (by simp) (by simp)
  have f3 := Power54 (one_limb (show 3 < B64 by decide)) l01 l01 (by simp) (by simp) (by simp)
  have f4 := Times58 (one_limb (show 5 < B64 by decide)) (one_limb (show 6 < B64 by decide)) (one_limb (show 7 < B64 by decide)) (by simp) (by simp) (by simp)
  have f5 := Rest55 l01 (one_limb (show 10 < B64 by decide)) (by simp) (by simp)
  have v01 : val [0, 1] = B64 := rfl
  rw [val_one, val_one, val_one, restV_pos (by decide), show 2 ^ 11 % 23 = 1 from rfl, show dig 1 = [1] by decide] at f1
  rw [show val [] = 0 from rfl, restV, if_pos rfl] at f2
  rw [val_one, v01, restV_pos (by decide), three_pow, show dig 1 = [1] by decide] at f3
  rw [val_one, val_one, val_one, restV_pos (by decide), show dig (5 * 6 % 7) = [2] by decide] at f4
  rw [v01, val_one, restV_pos (by decide), show dig (B64 % 10) = [6] by decide] at f5
  simp only [List.map_cons, List.map_nil, n64, nl, castL, show ((0 : Nat) : Int) = 0 from rfl, show ((1 : Nat) : Int) = 1 from rfl] at f1 f2 f3 f4 f5
  rw [c53]
  simp only [go_sem, ↓reduceIte, Nat.reduceAdd, Nat.reduceSub, Nat.reduceMul, Nat.reduceEqDiff, Nat.reduceLT, Nat.reduceShiftRight, Nat.reduceAnd, Nat.reduceBNe, Nat.reduceLeDiff, Nat.reduceBEq, Nat.testBit, Nat.zero_lt_one, Int.reduceToNat, Int.reduceNeg, Int.reduceLE, Int.reduceLT, Int.reduceEq, decide_true, decide_false, Bool.and_true, Bool.true_and, Bool.and_false, Bool.false_and, Bool.or_true, Bool.true_or, Bool.or_false, Bool.false_or, Bool.not_true, Bool.not_false, beq_self_eq_true, reduceCtorEq, Int.le_refl, Nat.add_zero, and_self, and_true, true_and, or_true, true_or, if_true, if_false, Nat.le_refl, Bool.and_self, eq_self, Bool.not_false, Bool.not_true, f1, f2, f3, f4, f5, show ((1 : Nat) : Int) = 1 from rfl]
end Go.Proofs.Ytpanbfainilmpaa.Ev.N
end
