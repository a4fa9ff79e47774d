/- Texts that were joined: EvNF6, EvNF7, EvNF8, EvNF9, EvNF10, EvNFA, EvNFB, EvNFC, EvNFD, EvNFE, EvNFF, EvNFG, EvNFH, EvNFI, EvNFJ, EvNA, EvNL1, EvNL3, EvN1, EvP. -/
import Derived.KernelRfl
import Derived.Test.YtpanbfainilmpaaProg
import Derived.Test.YtpanbfainilmpaaRows
import Derived.ProofKit
import Derived.OpenShut
import Derived.Test.YtpanbfainilmpaaEvG3
section
/- Products of numbers. -/
set_option linter.unusedVariables false
set_option linter.unusedSimpArgs false
set_option maxRecDepth 100000
set_option maxHeartbeats 4000000
namespace Go.Proofs.Ytpanbfainilmpaa.Ev.N
open Go Go.Proofs.Ytpanbfainilmpaa.Ev

theorem chunk_w (L : List Nat) : chunk 1 L.length ((L.map w64).map C.toD) = L.map n64 := by
  induction L with
  | nil => rfl
  | cons x L ih =>
    show chunk 1 (L.length + 1) _ = _
    simp only [List.map_cons, chunk, List.take_succ_cons, List.take_zero, List.drop_succ_cons, List.drop_zero]
    rw [ih]
    rfl
/-- One limb's step of a product. -/
theorem mul_step {x y l c : Nat} (hx : x < B64) (hy : y < B64) (hl : l < B64) (hc : c < B64) :
    x * y / B64 + (x * y % B64 + l) / B64 < B64 ∧ x * y / B64 + (x * y % B64 + l) / B64 + ((x * y % B64 + l) % B64 + c) / B64 < B64 ∧
    x * y / B64 + (x * y % B64 + l) / B64 + ((x * y % B64 + l) % B64 + c) / B64 = (x * y + l + c) / B64 ∧ ((x * y % B64 + l) % B64 + c) % B64 = (x * y + l + c) % B64 ∧ (x * y + l + c) / B64 < B64 := by
  have hB : B64 = 18446744073709551616 := rfl
  rw [hB] at hx hy hl hc ⊢
  have : x * y ≤ 18446744073709551615 * 18446744073709551615 := Nat.mul_le_mul (by omega) (by omega)
  generalize x * y = p at *
  omega
theorem set_get? {L : List Nat} {i n j : Nat} (h : j ≠ i) : (L.set i n)[j]? = L[j]? := List.getElem?_set_ne (fun e => h e.symm)

theorem mul86_in {a b : List Nat} (ha : Limbs a) (hb : Limbs b) (la : a.length ≤ 900000) (lb : b.length ≤ 900000) (i : Nat) (hi : i < a.length) (L : List Nat) (hL : Limbs L) (hN : L.length = a.length + b.length) :
    ∀ k, k ≤ b.length → ∃ L' c, loopR AA XX [1, 5, 6, 7, 8, 20, 21, 22, 27, 28, 29] 2 b86_1 (RUN AA XX b86_1 ⟨[(1, (AV.c (C.d (D.sl (List.map n64 (b)))))), (5, .ref 1 0 (a.length + b.length)), (6, (AV.c (C.d (D.sc (Value.int IntKind.i64 (i)))))), (7, (AV.c (C.d (D.sc (Value.int IntKind.u64 (a[i])))))), (8, (AV.c (C.d (D.sc (Value.int IntKind.u64 (0)))))), (20, (AV.c (C.d (D.sl (List.map n64 (a)))))), (21, (AV.c (C.d (D.sc (Value.int IntKind.i64 (a.length)))))), (22, (AV.c (C.d (D.sc (Value.int IntKind.i64 (i)))))), (27, (AV.c (C.d (D.sl (List.map n64 (b)))))), (28, (AV.c (C.d (D.sc (Value.int IntKind.i64 (b.length)))))), (29, (AV.c (C.d (D.sc (Value.int IntKind.i64 (0))))))], [(0, .tok 0 0), (1, .arr (L.map w64))], 2⟩) =
      loopR AA XX [1, 5, 6, 7, 8, 20, 21, 22, 27, 28, 29] 2 b86_1 (RUN AA XX b86_1 ⟨[(1, (AV.c (C.d (D.sl (List.map n64 (b)))))), (5, .ref 1 0 (a.length + b.length)), (6, (AV.c (C.d (D.sc (Value.int IntKind.i64 (i)))))), (7, (AV.c (C.d (D.sc (Value.int IntKind.u64 (a[i])))))), (8, (AV.c (C.d (D.sc (Value.int IntKind.u64 ((c : Nat))))))), (20, (AV.c (C.d (D.sl (List.map n64 (a)))))), (21, (AV.c (C.d (D.sc (Value.int IntKind.i64 (a.length)))))), (22, (AV.c (C.d (D.sc (Value.int IntKind.i64 (i)))))), (27, (AV.c (C.d (D.sl (List.map n64 (b)))))), (28, (AV.c (C.d (D.sc (Value.int IntKind.i64 (b.length)))))), (29, (AV.c (C.d (D.sc (Value.int IntKind.i64 (k))))))], [(0, .tok 0 0), (1, .arr (L'.map w64))], 2⟩) ∧
      Limbs L' ∧ L'.length = a.length + b.length ∧ c < B64 ∧ val L' + B64 ^ (i + k) * c = val L + a[i] * B64 ^ i * (val b % B64 ^ k) ∧ ∀ j, i + k ≤ j → L'[j]? = L[j]? := by
  intro k
  induction k with
  | zero =>
    intro _
    exact ⟨L, 0, rfl, hL, hN, B_pos, by simp [Nat.mod_one], fun _ _ => rfl⟩
  | succ k ih =>
    intro hk
    obtain ⟨L', c, e, h1, h2, h3, h4, h5⟩ := ih (by omega)
    have hik : i + k < L'.length := by omega
    have hx := ha.get hi
    have hy := hb.get (show k < b.length by omega)
    have hl := h1.get hik
    obtain ⟨s1, s2, s3, s4, s5⟩ := mul_step hx hy hl h3
    refine ⟨L'.set (i + k) ((a[i] * b[k] + L'[i + k] + c) % B64), (a[i] * b[k] + L'[i + k] + c) / B64, ?_, h1.set (Nat.mod_lt _ B_pos) _, by rw [List.length_set]; exact h2, s5, ?_, ?_⟩
    · rw [e, b86_1_run]
      have hlt := ltT (show k < b.length by omega)
      have hg := getn (show k < b.length by omega)
      have hgc := getc hik
      have m := Mul120 hx hy
      have a1 := Add100 (a[i] * b[k] % B64) L'[i + k] (c := 0) (Nat.zero_le _)
      have a2 := Add100 ((a[i] * b[k] % B64 + L'[i + k]) % B64) c (c := 0) (Nat.zero_le _)
      rw [Nat.add_zero] at a1 a2
      rw [s4] at a2
      have w1 := wrap_iadd (a := i) (b := k) (by omega)
      have w2 := wrap_add s1
      have w3 := wrap_add s2
      rw [s3] at w3
      have hw := wrap_succ k (by omega)
      have q1 : (((i + k : Nat) : Int) < ((a.length + b.length : Nat) : Int)) = True := eq_true (by omega)
      have q2 : (i + k < a.length + b.length) = True := eq_true (by omega)
      have q3 : (i + k < L'.length) = True := eq_true hik
      simp only [show ((0 : Nat) : Int) = 0 from rfl] at a1 a2
      simp only [go_sem, ↓reduceIte, Nat.reduceAdd, Nat.reduceSub, Nat.reduceMul, Nat.reduceEqDiff, Nat.reduceLT, Nat.reduceShiftRight, Nat.reduceAnd, Nat.reduceBNe, Nat.reduceLeDiff, Nat.reduceBEq, Nat.testBit, Nat.zero_lt_one, Int.reduceToNat, Int.reduceNeg, Int.reduceLE, Int.reduceLT, Int.reduceEq, decide_true, decide_false, Bool.and_true, Bool.true_and, Bool.and_false, Bool.false_and, Bool.or_true, Bool.true_or, Bool.or_false, Bool.false_or, Bool.not_true, Bool.not_false, beq_self_eq_true, reduceCtorEq, Int.le_refl, Nat.add_zero, and_self, and_true, true_and, or_true, true_or, if_true, if_false, Nat.le_refl, Bool.and_self, eq_self, Bool.not_false, Bool.not_true, hlt, hg, hgc, m, a1, a2, w1, w2, w3, hw, q1, q2, q3, lenc, oldc, setc, h2, Nat.mul_one]
    · have hs := val_set hik ((a[i] * b[k] + L'[i + k] + c) % B64)
      have hdm := Nat.div_add_mod (a[i] * b[k] + L'[i + k] + c) B64
      have hv : val b % B64 ^ (k + 1) = val b % B64 ^ k + B64 ^ k * b[k] := by
        rw [Nat.mod_pow_succ, ← limb_eq hb, limb_get (by omega)]
      rw [hv, ← Nat.add_assoc, Nat.pow_succ]
      generalize (a[i] * b[k] + L'[i + k] + c) % B64 = n at *
      generalize (a[i] * b[k] + L'[i + k] + c) / B64 = c' at *
      have e1 : a[i] * B64 ^ i * (val b % B64 ^ k + B64 ^ k * b[k]) = a[i] * B64 ^ i * (val b % B64 ^ k) + B64 ^ (i + k) * (a[i] * b[k]) := by
        rw [Nat.mul_add, Nat.pow_add]
        congr 1
        simp only [Nat.mul_comm, Nat.mul_left_comm, Nat.mul_assoc]
      rw [e1]
      have e2 : B64 ^ (i + k) * B64 * c' = B64 ^ (i + k) * (a[i] * b[k]) + B64 ^ (i + k) * L'[i + k] + B64 ^ (i + k) * c - B64 ^ (i + k) * n := by
        rw [← Nat.mul_add, ← Nat.mul_add, ← hdm, Nat.mul_add, Nat.mul_assoc]
        omega
      have e3 : B64 ^ (i + k) * n ≤ B64 ^ (i + k) * (a[i] * b[k]) + B64 ^ (i + k) * L'[i + k] + B64 ^ (i + k) * c := by
        rw [← Nat.mul_add, ← Nat.mul_add]
        exact Nat.mul_le_mul_left _ (by omega)
      omega
    · intro j hj
      rw [set_get? (by omega)]
      exact h5 j (by omega)

theorem mul86_out {a b : List Nat} (ha : Limbs a) (hb : Limbs b) (la : a.length ≤ 900000) (lb : b.length ≤ 900000) :
    ∀ i, i ≤ a.length → ∃ L, loopR AA XX [1, 5, 20, 21, 22] 2 b86_0 (RUN AA XX b86_0 ⟨[(1, (AV.c (C.d (D.sl (List.map n64 (b)))))), (5, .ref 1 0 (a.length + b.length)), (20, (AV.c (C.d (D.sl (List.map n64 (a)))))), (21, (AV.c (C.d (D.sc (Value.int IntKind.i64 (a.length)))))), (22, (AV.c (C.d (D.sc (Value.int IntKind.i64 (0))))))], [(0, .tok 0 0), (1, .arr ((List.replicate (a.length + b.length) 0).map w64))], 2⟩) =
      loopR AA XX [1, 5, 20, 21, 22] 2 b86_0 (RUN AA XX b86_0 ⟨[(1, (AV.c (C.d (D.sl (List.map n64 (b)))))), (5, .ref 1 0 (a.length + b.length)), (20, (AV.c (C.d (D.sl (List.map n64 (a)))))), (21, (AV.c (C.d (D.sc (Value.int IntKind.i64 (a.length)))))), (22, (AV.c (C.d (D.sc (Value.int IntKind.i64 (i))))))], [(0, .tok 0 0), (1, .arr (L.map w64))], 2⟩) ∧
      Limbs L ∧ L.length = a.length + b.length ∧ val L = (val a % B64 ^ i) * val b ∧ ∀ j, i + b.length ≤ j → j < a.length + b.length → L[j]? = some 0 := by
  intro i
  induction i with
  | zero =>
    intro _
    refine ⟨_, rfl, Limbs.rep _, List.length_replicate, by rw [val_rep]; simp [Nat.mod_one], fun j _ hj => by simp [hj]⟩
  | succ i ih =>
    intro hi
    obtain ⟨L, e, h1, h2, h3, h4⟩ := ih (by omega)
    have hia : i < a.length := by omega
    obtain ⟨L', c, e', g1, g2, g3, g4, g5⟩ := mul86_in ha hb la lb i hia L h1 h2 b.length (Nat.le_refl _)
    have hib : i + b.length < L'.length := by omega
    have hz : L'[i + b.length] = 0 := by
      have := g5 (i + b.length) (Nat.le_refl _)
      rw [h4 _ (Nat.le_refl _) (by omega), List.getElem?_eq_getElem hib] at this
      exact Option.some.inj this
    refine ⟨L'.set (i + b.length) c, ?_, g1.set g3 _, by rw [List.length_set]; exact g2, ?_, ?_⟩
    · rw [e, b86_0_run]
      have hlt := ltT hia
      have hg := getn hia
      have hw := wrap_succ i (by omega)
      have w1 := wrap_iadd (a := i) (b := b.length) (by omega)
      have q1 : (((i + b.length : Nat) : Int) < ((a.length + b.length : Nat) : Int)) = True := eq_true (by omega)
      have q2 : (i + b.length < a.length + b.length) = True := eq_true (by omega)
      simp only [go_sem, ↓reduceIte, Nat.reduceAdd, Nat.reduceSub, Nat.reduceMul, Nat.reduceEqDiff, Nat.reduceLT, Nat.reduceShiftRight, Nat.reduceAnd, Nat.reduceBNe, Nat.reduceLeDiff, Nat.reduceBEq, Nat.testBit, Nat.zero_lt_one, Int.reduceToNat, Int.reduceNeg, Int.reduceLE, Int.reduceLT, Int.reduceEq, decide_true, decide_false, Bool.and_true, Bool.true_and, Bool.and_false, Bool.false_and, Bool.or_true, Bool.true_or, Bool.or_false, Bool.false_or, Bool.not_true, Bool.not_false, beq_self_eq_true, reduceCtorEq, Int.le_refl, Nat.add_zero, and_self, and_true, true_and, or_true, true_or, if_true, if_false, Nat.le_refl, Bool.and_self, eq_self, Bool.not_false, Bool.not_true, hlt, hg, oldc]
      rw [e', b86_1_run]
      simp only [go_sem, ↓reduceIte, Nat.reduceAdd, Nat.reduceSub, Nat.reduceMul, Nat.reduceEqDiff, Nat.reduceLT, Nat.reduceShiftRight, Nat.reduceAnd, Nat.reduceBNe, Nat.reduceLeDiff, Nat.reduceBEq, Nat.testBit, Nat.zero_lt_one, Int.reduceToNat, Int.reduceNeg, Int.reduceLE, Int.reduceLT, Int.reduceEq, decide_true, decide_false, Bool.and_true, Bool.true_and, Bool.and_false, Bool.false_and, Bool.or_true, Bool.true_or, Bool.or_false, Bool.false_or, Bool.not_true, Bool.not_false, beq_self_eq_true, reduceCtorEq, Int.le_refl, Nat.add_zero, and_self, and_true, true_and, or_true, true_or, if_true, if_false, Nat.le_refl, Bool.and_self, eq_self, Bool.not_false, Bool.not_true, Int.lt_irrefl, w1, q1, q2, lenc, oldc, setc, hw, g2, Nat.mul_one]
    · have hs := val_set hib c
      rw [hz, Nat.mul_zero, Nat.add_zero] at hs
      rw [hs, g4, h3]
      have hv : val a % B64 ^ (i + 1) = val a % B64 ^ i + B64 ^ i * a[i] := by
        rw [Nat.mod_pow_succ, ← limb_eq ha, limb_get hia]
      rw [hv, Nat.mod_eq_of_lt (val_lt hb), Nat.add_mul, Nat.mul_comm a[i]]
    · intro j hj hjn
      rw [set_get? (by omega), g5 j (by omega)]
      exact h4 j (by omega) hjn
theorem Mul86 {a b : List Nat} (ha : Limbs a) (hb : Limbs b) (la : a.length ≤ 400000) (lb : b.length ≤ 400000) : (KL AA XX).call 86 [(PV.one (D.sl (List.map n64 (a)))), (PV.one (D.sl (List.map n64 (b))))] = some [(PV.one (D.sl (List.map n64 (dig (val a * val b)))))] := by
  obtain ⟨L, e, h1, h2, h3, _⟩ := mul86_out ha hb (by omega) (by omega) a.length (Nat.le_refl _)
  rw [Nat.mod_eq_of_lt (val_lt ha)] at h3
  have t := Trim68 h1 (by omega)
  rw [h3] at t
  have w1 := wrap_iadd (a := a.length) (b := b.length) (by omega)
  have q0 : ((0 : Int) ≤ ((a.length + b.length : Nat) : Int)) = True := eq_true (by omega)
  have q1 : (((a.length + b.length : Nat) : Int) * ((8 : Nat) : Int) ≤ (maxBytes : Int)) = True := by
    have h1 : maxBytes = 140737488355328 := rfl
    rw [h1]; exact eq_true (by omega)
  have hz := zeroc (a.length + b.length)
  have ch := chunk_w L
  rw [h2] at ch
  have q2 : (0 + (a.length + b.length) * 1 ≤ a.length + b.length) = True := eq_true (by omega)
  rw [c86]
  simp only [go_sem, ↓reduceIte, Nat.reduceAdd, Nat.reduceSub, Nat.reduceMul, Nat.reduceEqDiff, Nat.reduceLT, Nat.reduceShiftRight, Nat.reduceAnd, Nat.reduceBNe, Nat.reduceLeDiff, Nat.reduceBEq, Nat.testBit, Nat.zero_lt_one, Int.reduceToNat, Int.reduceNeg, Int.reduceLE, Int.reduceLT, Int.reduceEq, decide_true, decide_false, Bool.and_true, Bool.true_and, Bool.and_false, Bool.false_and, Bool.or_true, Bool.true_or, Bool.or_false, Bool.false_or, Bool.not_true, Bool.not_false, beq_self_eq_true, reduceCtorEq, Int.le_refl, Nat.add_zero, and_self, and_true, true_and, or_true, true_or, if_true, if_false, Nat.le_refl, Bool.and_self, eq_self, Bool.not_false, Bool.not_true, w1, q0, q1, hz, oldc, Int.toNat_natCast, List.length_cons, List.length_nil]
  rw [e, b86_0_run]
  cases hf : PV.flat (.one (.sl (List.map n64 (dig (val a * val b))))) <;>
    simp only [go_sem, ↓reduceIte, Nat.reduceAdd, Nat.reduceSub, Nat.reduceMul, Nat.reduceEqDiff, Nat.reduceLT, Nat.reduceShiftRight, Nat.reduceAnd, Nat.reduceBNe, Nat.reduceLeDiff, Nat.reduceBEq, Nat.testBit, Nat.zero_lt_one, Int.reduceToNat, Int.reduceNeg, Int.reduceLE, Int.reduceLT, Int.reduceEq, decide_true, decide_false, Bool.and_true, Bool.true_and, Bool.and_false, Bool.false_and, Bool.or_true, Bool.true_or, Bool.or_false, Bool.false_or, Bool.not_true, Bool.not_false, beq_self_eq_true, reduceCtorEq, Int.le_refl, Nat.add_zero, and_self, and_true, true_and, or_true, true_or, if_true, if_false, Nat.le_refl, Bool.and_self, eq_self, Bool.not_false, Bool.not_true, Int.lt_irrefl, oldc, lenc, h2, q2, List.drop_zero, ch, t, Nat.mul_one, hf, Bool.false_eq_true]
end Go.Proofs.Ytpanbfainilmpaa.Ev.N
end
section
/- The document's products. -/
set_option linter.unusedVariables false
set_option linter.unusedSimpArgs false
set_option maxRecDepth 100000
set_option maxHeartbeats 4000000
namespace Go.Proofs.Ytpanbfainilmpaa.Ev.N
open Go Go.Proofs.Ytpanbfainilmpaa.Ev

theorem mul87_in {a b : List Nat} (ha : Limbs a) (hb : Limbs b) (la : a.length ≤ 900000) (lb : b.length ≤ 900000) (i : Nat) (hi : i < a.length) (L : List Nat) (hL : Limbs L) (hN : L.length = a.length + b.length + 1) :
    ∀ k, k ≤ b.length → ∃ L' c, loopR AA XX [0, 1, 5, 6, 7, 8] 2 b87_1 (RUN AA XX b87_1 ⟨[(0, (AV.c (C.d (D.sl (List.map n64 (a)))))), (1, (AV.c (C.d (D.sl (List.map n64 (b)))))), (5, .ref 1 0 (a.length + b.length + 1)), (6, (AV.c (C.d (D.sc (Value.int IntKind.i64 (i)))))), (7, (AV.c (C.d (D.sc (Value.int IntKind.u64 (0)))))), (8, (AV.c (C.d (D.sc (Value.int IntKind.i64 (0))))))], [(0, .tok 0 0), (1, .arr (L.map w64))], 2⟩) =
      loopR AA XX [0, 1, 5, 6, 7, 8] 2 b87_1 (RUN AA XX b87_1 ⟨[(0, (AV.c (C.d (D.sl (List.map n64 (a)))))), (1, (AV.c (C.d (D.sl (List.map n64 (b)))))), (5, .ref 1 0 (a.length + b.length + 1)), (6, (AV.c (C.d (D.sc (Value.int IntKind.i64 (i)))))), (7, (AV.c (C.d (D.sc (Value.int IntKind.u64 ((c : Nat))))))), (8, (AV.c (C.d (D.sc (Value.int IntKind.i64 (k))))))], [(0, .tok 0 0), (1, .arr (L'.map w64))], 2⟩) ∧
      Limbs L' ∧ L'.length = a.length + b.length + 1 ∧ c < B64 ∧ val L' + B64 ^ (i + k) * c = val L + a[i] * B64 ^ i * (val b % B64 ^ k) ∧ ∀ j, i + k ≤ j → L'[j]? = L[j]? := by
  intro k
  induction k with
  | zero =>
    intro _
    exact ⟨L, 0, rfl, hL, hN, B_pos, by simp [Nat.mod_one], fun _ _ => rfl⟩
  | succ k ih =>
    intro hk
    obtain ⟨L', c, e, h1, h2, h3, h4, h5⟩ := ih (by omega)
    have hik : i + k < L'.length := by omega
    have hx := ha.get hi
    have hy := hb.get (show k < b.length by omega)
    have hl := h1.get hik
    obtain ⟨s1, s2, s3, s4, s5⟩ := mul_step hx hy hl h3
    refine ⟨L'.set (i + k) ((a[i] * b[k] + L'[i + k] + c) % B64), (a[i] * b[k] + L'[i + k] + c) / B64, ?_, h1.set (Nat.mod_lt _ B_pos) _, by rw [List.length_set]; exact h2, s5, ?_, ?_⟩
    · rw [e, b87_1_run]
      have hlt := ltT (show k < b.length by omega)
      have hga := getn hi
      have hg := getn (show k < b.length by omega)
      have hgc := getc hik
      have m := Mul120 hx hy
      have a1 := Add100 L'[i + k] (a[i] * b[k] % B64) (c := 0) (Nat.zero_le _)
      have a2 := Add100 ((a[i] * b[k] % B64 + L'[i + k]) % B64) c (c := 0) (Nat.zero_le _)
      rw [Nat.add_zero, Nat.add_comm L'[i + k]] at a1
      rw [Nat.add_zero] at a2
      rw [s4] at a2
      have w1 := wrap_iadd (a := i) (b := k) (by omega)
      have w2 := wrap_add s1
      have w3 := wrap_add s2
      rw [s3] at w3
      have hw := wrap_succ k (by omega)
      have q1 : (((i + k : Nat) : Int) < ((a.length + b.length + 1 : Nat) : Int)) = True := eq_true (by omega)
      have q2 : (i + k < a.length + b.length + 1) = True := eq_true (by omega)
      have q3 : (i + k < L'.length) = True := eq_true hik
      simp only [show ((0 : Nat) : Int) = 0 from rfl] at a1 a2
      simp only [go_sem, ↓reduceIte, Nat.reduceAdd, Nat.reduceSub, Nat.reduceMul, Nat.reduceEqDiff, Nat.reduceLT, Nat.reduceShiftRight, Nat.reduceAnd, Nat.reduceBNe, Nat.reduceLeDiff, Nat.reduceBEq, Nat.testBit, Nat.zero_lt_one, Int.reduceToNat, Int.reduceNeg, Int.reduceLE, Int.reduceLT, Int.reduceEq, decide_true, decide_false, Bool.and_true, Bool.true_and, Bool.and_false, Bool.false_and, Bool.or_true, Bool.true_or, Bool.or_false, Bool.false_or, Bool.not_true, Bool.not_false, beq_self_eq_true, reduceCtorEq, Int.le_refl, Nat.add_zero, and_self, and_true, true_and, or_true, true_or, if_true, if_false, Nat.le_refl, Bool.and_self, eq_self, Bool.not_false, Bool.not_true, hlt, hg, hga, hgc, m, a1, a2, w1, w2, w3, hw, q1, q2, q3, lenc, oldc, setc, h2, Nat.mul_one]
    · have hs := val_set hik ((a[i] * b[k] + L'[i + k] + c) % B64)
      have hdm := Nat.div_add_mod (a[i] * b[k] + L'[i + k] + c) B64
      have hv : val b % B64 ^ (k + 1) = val b % B64 ^ k + B64 ^ k * b[k] := by
        rw [Nat.mod_pow_succ, ← limb_eq hb, limb_get (by omega)]
      rw [hv, ← Nat.add_assoc, Nat.pow_succ]
      generalize (a[i] * b[k] + L'[i + k] + c) % B64 = n at *
      generalize (a[i] * b[k] + L'[i + k] + c) / B64 = c' at *
      have e1 : a[i] * B64 ^ i * (val b % B64 ^ k + B64 ^ k * b[k]) = a[i] * B64 ^ i * (val b % B64 ^ k) + B64 ^ (i + k) * (a[i] * b[k]) := by
        rw [Nat.mul_add, Nat.pow_add]
        congr 1
        simp only [Nat.mul_comm, Nat.mul_left_comm, Nat.mul_assoc]
      rw [e1]
      have e2 : B64 ^ (i + k) * B64 * c' = B64 ^ (i + k) * (a[i] * b[k]) + B64 ^ (i + k) * L'[i + k] + B64 ^ (i + k) * c - B64 ^ (i + k) * n := by
        rw [← Nat.mul_add, ← Nat.mul_add, ← hdm, Nat.mul_add, Nat.mul_assoc]
        omega
      have e3 : B64 ^ (i + k) * n ≤ B64 ^ (i + k) * (a[i] * b[k]) + B64 ^ (i + k) * L'[i + k] + B64 ^ (i + k) * c := by
        rw [← Nat.mul_add, ← Nat.mul_add]
        exact Nat.mul_le_mul_left _ (by omega)
      omega
    · intro j hj
      rw [set_get? (by omega)]
      exact h5 j (by omega)
theorem mul87_out {a b : List Nat} (ha : Limbs a) (hb : Limbs b) (la : a.length ≤ 900000) (lb : b.length ≤ 900000) :
    ∀ i, i ≤ a.length → ∃ L, loopR AA XX [0, 1, 5, 6] 2 b87_0 (RUN AA XX b87_0 ⟨[(0, (AV.c (C.d (D.sl (List.map n64 (a)))))), (1, (AV.c (C.d (D.sl (List.map n64 (b)))))), (5, .ref 1 0 (a.length + b.length + 1)), (6, (AV.c (C.d (D.sc (Value.int IntKind.i64 (0))))))], [(0, .tok 0 0), (1, .arr ((List.replicate (a.length + b.length + 1) 0).map w64))], 2⟩) =
      loopR AA XX [0, 1, 5, 6] 2 b87_0 (RUN AA XX b87_0 ⟨[(0, (AV.c (C.d (D.sl (List.map n64 (a)))))), (1, (AV.c (C.d (D.sl (List.map n64 (b)))))), (5, .ref 1 0 (a.length + b.length + 1)), (6, (AV.c (C.d (D.sc (Value.int IntKind.i64 (i))))))], [(0, .tok 0 0), (1, .arr (L.map w64))], 2⟩) ∧
      Limbs L ∧ L.length = a.length + b.length + 1 ∧ val L = (val a % B64 ^ i) * val b ∧ ∀ j, i + b.length ≤ j → j < a.length + b.length + 1 → L[j]? = some 0 := by
  intro i
  induction i with
  | zero =>
    intro _
    refine ⟨_, rfl, Limbs.rep _, List.length_replicate, by rw [val_rep]; simp [Nat.mod_one], fun j _ hj => by simp [hj]⟩
  | succ i ih =>
    intro hi
    obtain ⟨L, e, h1, h2, h3, h4⟩ := ih (by omega)
    have hia : i < a.length := by omega
    obtain ⟨L', c, e', g1, g2, g3, g4, g5⟩ := mul87_in ha hb la lb i hia L h1 h2 b.length (Nat.le_refl _)
    have hib : i + b.length < L'.length := by omega
    have hz : L'[i + b.length] = 0 := by
      have := g5 (i + b.length) (Nat.le_refl _)
      rw [h4 _ (Nat.le_refl _) (by omega), List.getElem?_eq_getElem hib] at this
      exact Option.some.inj this
    refine ⟨L'.set (i + b.length) c, ?_, g1.set g3 _, by rw [List.length_set]; exact g2, ?_, ?_⟩
    · rw [e, b87_0_run]
      have hlt := ltT hia
      have hw := wrap_succ i (by omega)
      have hw2 := wrap_succ (i + b.length) (by omega)
      have w1 := wrap_iadd (a := i) (b := b.length) (by omega)
      have q1 : (((i + b.length : Nat) : Int) < ((a.length + b.length + 1 : Nat) : Int)) = True := eq_true (by omega)
      have q2 : (i + b.length < a.length + b.length + 1) = True := eq_true (by omega)
      have hgc := getc hib
      rw [hz] at hgc
      have a1 := Add100 0 c (c := 0) (Nat.zero_le _)
      rw [Nat.add_zero, Nat.zero_add, Nat.mod_eq_of_lt g3, Nat.div_eq_of_lt g3] at a1
      simp only [show ((0 : Nat) : Int) = 0 from rfl] at a1 hgc
      simp only [go_sem, ↓reduceIte, Nat.reduceAdd, Nat.reduceSub, Nat.reduceMul, Nat.reduceEqDiff, Nat.reduceLT, Nat.reduceShiftRight, Nat.reduceAnd, Nat.reduceBNe, Nat.reduceLeDiff, Nat.reduceBEq, Nat.testBit, Nat.zero_lt_one, Int.reduceToNat, Int.reduceNeg, Int.reduceLE, Int.reduceLT, Int.reduceEq, decide_true, decide_false, Bool.and_true, Bool.true_and, Bool.and_false, Bool.false_and, Bool.or_true, Bool.true_or, Bool.or_false, Bool.false_or, Bool.not_true, Bool.not_false, beq_self_eq_true, reduceCtorEq, Int.le_refl, Nat.add_zero, and_self, and_true, true_and, or_true, true_or, if_true, if_false, Nat.le_refl, Bool.and_self, eq_self, Bool.not_false, Bool.not_true, hlt, oldc]
      rw [e', b87_1_run]
      simp only [go_sem, ↓reduceIte, Nat.reduceAdd, Nat.reduceSub, Nat.reduceMul, Nat.reduceEqDiff, Nat.reduceLT, Nat.reduceShiftRight, Nat.reduceAnd, Nat.reduceBNe, Nat.reduceLeDiff, Nat.reduceBEq, Nat.testBit, Nat.zero_lt_one, Int.reduceToNat, Int.reduceNeg, Int.reduceLE, Int.reduceLT, Int.reduceEq, decide_true, decide_false, Bool.and_true, Bool.true_and, Bool.and_false, Bool.false_and, Bool.or_true, Bool.true_or, Bool.or_false, Bool.false_or, Bool.not_true, Bool.not_false, beq_self_eq_true, reduceCtorEq, Int.le_refl, Nat.add_zero, and_self, and_true, true_and, or_true, true_or, if_true, if_false, Nat.le_refl, Bool.and_self, eq_self, Bool.not_false, Bool.not_true, Int.lt_irrefl, oldc, w1]
      rw [b87_2_run]
      rcases Nat.eq_zero_or_pos c with hc0 | hc0
      · subst hc0
        have hse : L'.set (i + b.length) 0 = L' := by
          apply List.ext_getElem
          · simp
          · intro j h6 h7
            rw [List.getElem_set]
            split
            · rename_i hj; subst hj; exact hz.symm
            · rfl
        rw [hse]
        simp only [go_sem, ↓reduceIte, Nat.reduceAdd, Nat.reduceSub, Nat.reduceMul, Nat.reduceEqDiff, Nat.reduceLT, Nat.reduceShiftRight, Nat.reduceAnd, Nat.reduceBNe, Nat.reduceLeDiff, Nat.reduceBEq, Nat.testBit, Nat.zero_lt_one, Int.reduceToNat, Int.reduceNeg, Int.reduceLE, Int.reduceLT, Int.reduceEq, decide_true, decide_false, Bool.and_true, Bool.true_and, Bool.and_false, Bool.false_and, Bool.or_true, Bool.true_or, Bool.or_false, Bool.false_or, Bool.not_true, Bool.not_false, beq_self_eq_true, reduceCtorEq, Int.le_refl, Nat.add_zero, and_self, and_true, true_and, or_true, true_or, if_true, if_false, Nat.le_refl, Bool.and_self, eq_self, Bool.not_false, Bool.not_true, Int.lt_irrefl, oldc, hw, show ((0 : Nat) : Int) = 0 from rfl]
      · have d0 : decide ((0 : Int) < (c : Int)) = true := decide_eq_true (by omega)
        simp only [go_sem, ↓reduceIte, Nat.reduceAdd, Nat.reduceSub, Nat.reduceMul, Nat.reduceEqDiff, Nat.reduceLT, Nat.reduceShiftRight, Nat.reduceAnd, Nat.reduceBNe, Nat.reduceLeDiff, Nat.reduceBEq, Nat.testBit, Nat.zero_lt_one, Int.reduceToNat, Int.reduceNeg, Int.reduceLE, Int.reduceLT, Int.reduceEq, decide_true, decide_false, Bool.and_true, Bool.true_and, Bool.and_false, Bool.false_and, Bool.or_true, Bool.true_or, Bool.or_false, Bool.false_or, Bool.not_true, Bool.not_false, beq_self_eq_true, reduceCtorEq, Int.le_refl, Nat.add_zero, and_self, and_true, true_and, or_true, true_or, if_true, if_false, Nat.le_refl, Bool.and_self, eq_self, Bool.not_false, Bool.not_true, d0, hgc, a1, q1, q2, lenc, oldc, setc, g2, hw2, Nat.mul_one]
        rw [b87_2_run]
        simp only [go_sem, ↓reduceIte, Nat.reduceAdd, Nat.reduceSub, Nat.reduceMul, Nat.reduceEqDiff, Nat.reduceLT, Nat.reduceShiftRight, Nat.reduceAnd, Nat.reduceBNe, Nat.reduceLeDiff, Nat.reduceBEq, Nat.testBit, Nat.zero_lt_one, Int.reduceToNat, Int.reduceNeg, Int.reduceLE, Int.reduceLT, Int.reduceEq, decide_true, decide_false, Bool.and_true, Bool.true_and, Bool.and_false, Bool.false_and, Bool.or_true, Bool.true_or, Bool.or_false, Bool.false_or, Bool.not_true, Bool.not_false, beq_self_eq_true, reduceCtorEq, Int.le_refl, Nat.add_zero, and_self, and_true, true_and, or_true, true_or, if_true, if_false, Nat.le_refl, Bool.and_self, eq_self, Bool.not_false, Bool.not_true, Int.lt_irrefl, oldc, hw]
    · have hs := val_set hib c
      rw [hz, Nat.mul_zero, Nat.add_zero] at hs
      rw [hs, g4, h3]
      have hv : val a % B64 ^ (i + 1) = val a % B64 ^ i + B64 ^ i * a[i] := by
        rw [Nat.mod_pow_succ, ← limb_eq ha, limb_get hia]
      rw [hv, Nat.mod_eq_of_lt (val_lt hb), Nat.add_mul, Nat.mul_comm a[i]]
    · intro j hj hjn
      rw [set_get? (by omega), g5 j (by omega)]
      exact h4 j (by omega) hjn
theorem Mul87 {a b : List Nat} (ha : Limbs a) (hb : Limbs b) (la : a.length ≤ 400000) (lb : b.length ≤ 400000) : (KL AA XX).call 87 [(PV.one (D.sl (List.map n64 (a)))), (PV.one (D.sl (List.map n64 (b))))] = some [(PV.one (D.sl (List.map n64 (dig (val a * val b)))))] := by
  obtain ⟨L, e, h1, h2, h3, _⟩ := mul87_out ha hb (by omega) (by omega) a.length (Nat.le_refl _)
  have w2 := wrap_succ (a.length + b.length) (by omega)
  obtain ⟨N, hN⟩ : ∃ N, a.length + b.length + 1 = N := ⟨_, rfl⟩
  rw [hN] at e h2 w2
  rw [Nat.mod_eq_of_lt (val_lt ha)] at h3
  have t := Trim69 h1 (by omega)
  rw [h3] at t
  have w1 := wrap_iadd (a := a.length) (b := b.length) (by omega)
  have q0 : ((0 : Int) ≤ ((N : Nat) : Int)) = True := eq_true (by omega)
  have q1 : (((N : Nat) : Int) * ((8 : Nat) : Int) ≤ (maxBytes : Int)) = True := by
    have h1 : maxBytes = 140737488355328 := rfl
    rw [h1]; exact eq_true (by omega)
  have hz := zeroc N
  have ch := chunk_w L
  rw [h2] at ch
  have q2 : (0 + N * 1 ≤ N) = True := eq_true (by omega)
  rw [c87]
  simp only [go_sem, ↓reduceIte, Nat.reduceAdd, Nat.reduceSub, Nat.reduceMul, Nat.reduceEqDiff, Nat.reduceLT, Nat.reduceShiftRight, Nat.reduceAnd, Nat.reduceBNe, Nat.reduceLeDiff, Nat.reduceBEq, Nat.testBit, Nat.zero_lt_one, Int.reduceToNat, Int.reduceNeg, Int.reduceLE, Int.reduceLT, Int.reduceEq, decide_true, decide_false, Bool.and_true, Bool.true_and, Bool.and_false, Bool.false_and, Bool.or_true, Bool.true_or, Bool.or_false, Bool.false_or, Bool.not_true, Bool.not_false, beq_self_eq_true, reduceCtorEq, Int.le_refl, Nat.add_zero, and_self, and_true, true_and, or_true, true_or, if_true, if_false, Nat.le_refl, Bool.and_self, eq_self, Bool.not_false, Bool.not_true, w1, w2, q0, q1, hz, oldc, Int.toNat_natCast, List.length_cons, List.length_nil]
  rw [e, b87_0_run]
  cases hf : PV.flat (.one (.sl (List.map n64 (dig (val a * val b))))) <;>
    simp only [go_sem, ↓reduceIte, Nat.reduceAdd, Nat.reduceSub, Nat.reduceMul, Nat.reduceEqDiff, Nat.reduceLT, Nat.reduceShiftRight, Nat.reduceAnd, Nat.reduceBNe, Nat.reduceLeDiff, Nat.reduceBEq, Nat.testBit, Nat.zero_lt_one, Int.reduceToNat, Int.reduceNeg, Int.reduceLE, Int.reduceLT, Int.reduceEq, decide_true, decide_false, Bool.and_true, Bool.true_and, Bool.and_false, Bool.false_and, Bool.or_true, Bool.true_or, Bool.or_false, Bool.false_or, Bool.not_true, Bool.not_false, beq_self_eq_true, reduceCtorEq, Int.le_refl, Nat.add_zero, and_self, and_true, true_and, or_true, true_or, if_true, if_false, Nat.le_refl, Bool.and_self, eq_self, Bool.not_false, Bool.not_true, Int.lt_irrefl, oldc, lenc, h2, q2, List.drop_zero, ch, t, Nat.mul_one, hf, Bool.false_eq_true]
end Go.Proofs.Ytpanbfainilmpaa.Ev.N
end
section
/- The document's quotient, bit by bit. -/
set_option linter.unusedVariables false
set_option linter.unusedSimpArgs false
set_option maxRecDepth 100000
set_option maxHeartbeats 4000000
namespace Go.Proofs.Ytpanbfainilmpaa.Ev.N
open Go Go.Proofs.Ytpanbfainilmpaa.Ev

/-- A bit more of what is divided. -/
theorem div_step (A D j : Nat) (hD : 0 < D) :
    A / 2 ^ j = 2 * (A / 2 ^ (j + 1)) + A / 2 ^ j % 2 ∧
    (if D ≤ 2 * (A / 2 ^ (j + 1) % D) + A / 2 ^ j % 2 then A / 2 ^ j % D = 2 * (A / 2 ^ (j + 1) % D) + A / 2 ^ j % 2 - D ∧ A / 2 ^ j / D = 2 * (A / 2 ^ (j + 1) / D) + 1
     else A / 2 ^ j % D = 2 * (A / 2 ^ (j + 1) % D) + A / 2 ^ j % 2 ∧ A / 2 ^ j / D = 2 * (A / 2 ^ (j + 1) / D)) := by
  have h1 : A / 2 ^ j = 2 * (A / 2 ^ (j + 1)) + A / 2 ^ j % 2 := by
    have f1 := Nat.div_add_mod (A / 2 ^ j) 2
    rw [Nat.div_div_eq_div_mul, ← Nat.pow_succ] at f1
    exact f1.symm
  refine ⟨h1, ?_⟩
  have hb : A / 2 ^ j % 2 < 2 := Nat.mod_lt _ (by decide)
  generalize A / 2 ^ j % 2 = b at *
  rw [h1]
  have f2 := Nat.div_add_mod (A / 2 ^ (j + 1)) D
  have hr := Nat.mod_lt (A / 2 ^ (j + 1)) hD
  generalize A / 2 ^ (j + 1) / D = q at *
  generalize A / 2 ^ (j + 1) % D = r at *
  generalize A / 2 ^ (j + 1) = P at *
  have e : 2 * P + b = D * (2 * q) + (2 * r + b) := by
    rw [← f2, Nat.mul_add, Nat.mul_left_comm]; omega
  split
  · rename_i hge
    have e2 : 2 * P + b = D * (2 * q + 1) + (2 * r + b - D) := by rw [e, Nat.mul_add D (2 * q) 1]; omega
    rw [e2]
    exact ⟨by rw [Nat.mul_add_mod, Nat.mod_eq_of_lt (by omega)], by rw [Nat.mul_add_div hD, Nat.div_eq_of_lt (by omega), Nat.add_zero]⟩
  · rename_i hlt
    rw [e]
    exact ⟨by rw [Nat.mul_add_mod, Nat.mod_eq_of_lt (by omega)], by rw [Nat.mul_add_div hD, Nat.div_eq_of_lt (by omega), Nat.add_zero]⟩
/-- A bit set. -/
theorem set_bit {L : List Nat} (hL : Limbs L) {t j : Nat} (hv : val L = t * 2 ^ (j + 1)) (hj : j / 64 < L.length) :
    (L[j / 64] ||| 2 ^ (j % 64)) = L[j / 64] + 2 ^ (j % 64) ∧ L[j / 64] + 2 ^ (j % 64) < B64 ∧ val (L.set (j / 64) (L[j / 64] + 2 ^ (j % 64))) = val L + 2 ^ j := by
  have hs : j % 64 < 64 := Nat.mod_lt _ (by decide)
  have hl : L[j / 64] = 2 ^ (j % 64 + 1) * (t % 2 ^ (63 - j % 64)) := by
    have := limb_eq hL (j / 64)
    rw [limb_get hj, hv] at this
    rw [this]
    have e1 : j + 1 = 64 * (j / 64) + (j % 64 + 1) := by omega
    rw [e1, Nat.pow_add, Bp_eq, ← Nat.mul_assoc, Nat.mul_comm t, Nat.mul_assoc, Nat.mul_div_cancel_left _ (Nat.pow_pos (by decide)), Nat.mul_comm t]
    rw [B_eq, show (2 : Nat) ^ 64 = 2 ^ (j % 64 + 1) * 2 ^ (63 - j % 64) by rw [← Nat.pow_add]; congr 1; omega, Nat.mul_mod_mul_left]
  have h1 : (L[j / 64] ||| 2 ^ (j % 64)) = L[j / 64] + 2 ^ (j % 64) := by
    rw [hl]
    exact or_low _ (Nat.pow_lt_pow_right (by decide) (by omega))
  have h2 : L[j / 64] + 2 ^ (j % 64) < B64 := by
    rw [← h1, B_eq]
    exact Nat.or_lt_two_pow (hL.get hj) (Nat.pow_lt_pow_right (by decide) hs)
  refine ⟨h1, h2, ?_⟩
  have h3 := val_set hj (L[j / 64] + 2 ^ (j % 64))
  have h4 : B64 ^ (j / 64) * 2 ^ (j % 64) = 2 ^ j := by
    rw [Bp_eq, ← Nat.pow_add]; congr 1; omega
  rw [Nat.mul_add, h4] at h3
  omega
theorem digs_set {N v : Nat} {i n v' : Nat} (hi : i < N) (hn : n < B64) (hv : val ((digs N v).set i n) = v') : (digs N v).set i n = digs N v' := by
  have h := digs_val ((digs_limbs N v).set hn i)
  rw [List.length_set, digs_len, hv] at h
  exact h.symm
theorem pow_shift (q j : Nat) : q * 2 ^ (j + 1) = 2 * q * 2 ^ j := by rw [Nat.pow_succ, Nat.mul_comm 2 q, Nat.mul_assoc, Nat.mul_comm 2 (2 ^ j)]
theorem lt_dbl {x c k : Nat} (hx : x < B64 ^ k) (hc : c < 2) : 2 * x + c < B64 ^ (k + 1) := by
  have : 2 * B64 ^ k ≤ B64 * B64 ^ k := Nat.mul_le_mul_right _ (by decide)
  rw [Nat.pow_succ, Nat.mul_comm (B64 ^ k)]; omega
theorem bitN_cast (n j : Nat) : bitN n (j : Int) = n / 2 ^ j % 2 := by
  unfold bitN
  rw [if_neg (by omega), Int.toNat_natCast]
theorem dlen' {n k : Nat} (h : n < B64 ^ k) : (dig n).length ≤ k := by rw [dig_len]; exact nlen_le.2 h
theorem b2_bit {x : Nat} (h : x < 2) : b2 ((x : Nat) : Int) = x := by unfold b2; omega

def divV (A D : Nat) : List PV := if D = 0 then [nl [], nl [], .one (.sc (.bool false))] else [nl (dig (A / D)), nl (dig (A % D)), .one (.sc (.bool true))]
theorem digs_zero (N : Nat) : digs N 0 = List.replicate N 0 := by
  have h := digs_val (Limbs.rep N)
  rw [List.length_replicate, val_rep] at h
  exact h
theorem nbits_lt (n : Nat) : n < 2 ^ nbits n := nbits_le.1 (Nat.le_refl _)
section
variable {a b : List Nat} (ha : Limbs a) (hb : Limbs b) (la : a.length ≤ 10000) (lb : b.length ≤ 10000)
include ha hb la lb
theorem div84_step (hD : 0 < val b) (j : Nat) (hj : j < 64 * a.length) (V : AV) (hV : V = (AV.c (C.d (D.sl (List.map n64 (dig (val a / 2 ^ (j + 1) % val b)))))) ∨ (V = (AV.c (C.gr 3 [])) ∧ val a / 2 ^ (j + 1) % val b = 0)) :
    loopR AA XX [0, 1, 7, 8, 9] 4 b84_0 (RUN AA XX b84_0 ⟨[(0, (AV.c (C.d (D.sl (List.map n64 (a)))))), (1, (AV.c (C.d (D.sl (List.map n64 (b)))))), (7, .ref 2 0 a.length), (8, V), (9, (AV.c (C.d (D.sc (Value.int IntKind.i64 (j))))))], [(0, .tok 0 0), (1, .tok 0 0), (2, .arr ((digs a.length (val a / 2 ^ (j + 1) / val b * 2 ^ (j + 1))).map w64)), (3, .tok 0 0)], 4⟩) =
    loopR AA XX [0, 1, 7, 8, 9] 4 b84_0 (RUN AA XX b84_0 ⟨[(0, (AV.c (C.d (D.sl (List.map n64 (a)))))), (1, (AV.c (C.d (D.sl (List.map n64 (b)))))), (7, .ref 2 0 a.length), (8, (AV.c (C.d (D.sl (List.map n64 (dig (val a / 2 ^ j % val b))))))), (9, (AV.c (C.d (D.sc (Value.int IntKind.i64 ((j : Int) - 1))))))], [(0, .tok 0 0), (1, .tok 0 0), (2, .arr ((digs a.length (val a / 2 ^ j / val b * 2 ^ j)).map w64)), (3, .tok 0 0)], 4⟩) := by
  obtain ⟨_, hst⟩ := div_step (val a) (val b) j hD
  have hwf : (Lit.int .i64 (j : Int)).wf = true := by
    simp only [Lit.wf, Bool.and_eq_true, decide_eq_true_eq]
    show (-9223372036854775808 : Int) ≤ (j : Int) ∧ (j : Int) ≤ 9223372036854775807
    omega
  have f1 := Bit72 ha (by omega) (j : Int) hwf
  rw [bitN_cast] at f1
  have hbit : val a / 2 ^ j % 2 < 2 := Nat.mod_lt _ (by decide)
  have hr := Nat.mod_lt (val a / 2 ^ (j + 1)) hD
  have hDl := val_lt hb
  have f2 := Double74 (dig_limbs (val a / 2 ^ (j + 1) % val b)) (Nat.le_trans (dlen' (Nat.lt_trans hr hDl)) (by omega)) ((val a / 2 ^ j % 2 : Nat) : Int)
  rw [val_dig, b2_bit hbit] at f2
  have h2 : 2 * (val a / 2 ^ (j + 1) % val b) + val a / 2 ^ j % 2 < B64 ^ (b.length + 1) := lt_dbl (Nat.lt_trans hr hDl) hbit
  have f3 := Sub64 (dig_limbs (2 * (val a / 2 ^ (j + 1) % val b) + val a / 2 ^ j % 2)) hb (Nat.le_trans (dlen' h2) (by omega)) (by omega)
  rw [val_dig] at f3
  have hw := wrap_i64_pred j (by omega)
  have d0 : decide ((0 : Int) ≤ (j : Int)) = true := decide_eq_true (by omega)
  have hqs : val a / 2 ^ (j + 1) / val b * 2 ^ (j + 1) < B64 ^ a.length := by
    refine Nat.lt_of_le_of_lt (Nat.le_trans (Nat.mul_le_mul_right _ (Nat.div_le_self _ _)) (Nat.div_mul_le_self _ _)) (val_lt ha)
  unfold subV at f3
  by_cases hge : val b ≤ 2 * (val a / 2 ^ (j + 1) % val b) + val a / 2 ^ j % 2
  · rw [if_pos hge] at f3 hst
    rw [← hst.1] at f3
    have hjl : j / 64 < (digs a.length (val a / 2 ^ (j + 1) / val b * 2 ^ (j + 1))).length := by rw [digs_len]; omega
    have hv := val_digs a.length (val a / 2 ^ (j + 1) / val b * 2 ^ (j + 1))
    rw [Nat.mod_eq_of_lt hqs] at hv
    obtain ⟨o1, o2, o3⟩ := set_bit (digs_limbs a.length (val a / 2 ^ (j + 1) / val b * 2 ^ (j + 1))) hv hjl
    rw [hv] at o3
    have o4 := digs_set (by omega) o2 o3
    have e : val a / 2 ^ (j + 1) / val b * 2 ^ (j + 1) + 2 ^ j = val a / 2 ^ j / val b * 2 ^ j := by
      rw [hst.2, Nat.add_mul, Nat.one_mul, pow_shift]
    rw [e] at o4
    have hgc := getc hjl
    have e1 : ((j : Int)).tdiv 64 = ((j / 64 : Nat) : Int) := by rw [Int.tdiv_eq_ediv_of_nonneg (by omega)]; omega
    have w1 : IntKind.i64.wrap (((j / 64 : Nat) : Int)) = ((j / 64 : Nat) : Int) := wrap_i64 _ (by omega) (by omega)
    have e2 : ((j : Int)).tmod 64 = ((j % 64 : Nat) : Int) := by rw [Int.tmod_eq_emod_of_nonneg (by omega)]; omega
    have hs : j % 64 < 64 := Nat.mod_lt _ (by decide)
    have w2 : IntKind.u64.wrap (((j % 64 : Nat) : Int)) = ((j % 64 : Nat) : Int) := wrap_u64_lt (Nat.lt_trans hs (by decide))
    have q0 : ((0 : Int) ≤ ((j % 64 : Nat) : Int)) = True := eq_true (by omega)
    have m64 := min64 hs
    have hp2 : 2 ^ (j % 64) < B64 := by rw [B_eq]; exact Nat.pow_lt_pow_right (by decide) hs
    have w3 : IntKind.u64.wrap (1 * 2 ^ (j % 64)) = ((2 ^ (j % 64) : Nat) : Int) := by
      rw [Int.one_mul, show ((2 : Int) ^ (j % 64)) = ((2 ^ (j % 64) : Nat) : Int) by norm_cast]
      exact wrap_u64_lt hp2
    have w4 : borI .u64 (((digs a.length (val a / 2 ^ (j + 1) / val b * 2 ^ (j + 1)))[j / 64] : Nat) : Int) ((2 ^ (j % 64) : Nat) : Int) = (((digs a.length (val a / 2 ^ (j + 1) / val b * 2 ^ (j + 1)))[j / 64] + 2 ^ (j % 64) : Nat) : Int) := by
      rw [borI_u ((digs_limbs _ _).get hjl) hp2, o1]
    have q1 : (((j / 64 : Nat) : Int) < (a.length : Int)) = True := eq_true (by omega)
    have q2 : (j / 64 < a.length) = True := eq_true (by omega)
    have hdl := digs_len a.length (val a / 2 ^ (j + 1) / val b * 2 ^ (j + 1))
    rcases hV with rfl | ⟨rfl, hz⟩
    · rw [b84_0_run]
      simp only [go_sem, ↓reduceIte, Nat.reduceAdd, Nat.reduceSub, Nat.reduceMul, Nat.reduceEqDiff, Nat.reduceLT, Nat.reduceShiftRight, Nat.reduceAnd, Nat.reduceBNe, Nat.reduceLeDiff, Nat.reduceBEq, Nat.testBit, Nat.zero_lt_one, Int.reduceToNat, Int.reduceNeg, Int.reduceLE, Int.reduceLT, Int.reduceEq, decide_true, decide_false, Bool.and_true, Bool.true_and, Bool.and_false, Bool.false_and, Bool.or_true, Bool.true_or, Bool.or_false, Bool.false_or, Bool.not_true, Bool.not_false, beq_self_eq_true, reduceCtorEq, Int.le_refl, Nat.add_zero, and_self, and_true, true_and, or_true, true_or, if_true, if_false, Nat.le_refl, Bool.and_self, eq_self, Bool.not_false, Bool.not_true, d0, f1, f2, f3, nl, hw, e1, w1, e2, w2, q0, Int.toNat_natCast, m64, w3, bin_orI, w4, q1, q2, hgc, lenc, hdl, setc, o4, oldc, Nat.mul_one]
    · rw [hz, dig_zero, List.map_nil, Nat.mul_zero, Nat.zero_add] at f2
      rw [hz, Nat.mul_zero, Nat.zero_add] at f3
      rw [b84_0_run]
      simp only [go_sem, ↓reduceIte, Nat.reduceAdd, Nat.reduceSub, Nat.reduceMul, Nat.reduceEqDiff, Nat.reduceLT, Nat.reduceShiftRight, Nat.reduceAnd, Nat.reduceBNe, Nat.reduceLeDiff, Nat.reduceBEq, Nat.testBit, Nat.zero_lt_one, Int.reduceToNat, Int.reduceNeg, Int.reduceLE, Int.reduceLT, Int.reduceEq, decide_true, decide_false, Bool.and_true, Bool.true_and, Bool.and_false, Bool.false_and, Bool.or_true, Bool.true_or, Bool.or_false, Bool.false_or, Bool.not_true, Bool.not_false, beq_self_eq_true, reduceCtorEq, Int.le_refl, Nat.add_zero, and_self, and_true, true_and, or_true, true_or, if_true, if_false, Nat.le_refl, Bool.and_self, eq_self, Bool.not_false, Bool.not_true, d0, f1, f2, f3, nl, hw, e1, w1, e2, w2, q0, Int.toNat_natCast, m64, w3, bin_orI, w4, q1, q2, hgc, lenc, hdl, setc, o4, oldc, Nat.mul_one]
  · rw [if_neg hge] at f3 hst
    have e : val a / 2 ^ (j + 1) / val b * 2 ^ (j + 1) = val a / 2 ^ j / val b * 2 ^ j := by
      rw [hst.2, pow_shift]
    rw [← hst.1] at f2 f3
    rcases hV with rfl | ⟨rfl, hz⟩
    · rw [b84_0_run]
      simp only [go_sem, ↓reduceIte, Nat.reduceAdd, Nat.reduceSub, Nat.reduceMul, Nat.reduceEqDiff, Nat.reduceLT, Nat.reduceShiftRight, Nat.reduceAnd, Nat.reduceBNe, Nat.reduceLeDiff, Nat.reduceBEq, Nat.testBit, Nat.zero_lt_one, Int.reduceToNat, Int.reduceNeg, Int.reduceLE, Int.reduceLT, Int.reduceEq, decide_true, decide_false, Bool.and_true, Bool.true_and, Bool.and_false, Bool.false_and, Bool.or_true, Bool.true_or, Bool.or_false, Bool.false_or, Bool.not_true, Bool.not_false, beq_self_eq_true, reduceCtorEq, Int.le_refl, Nat.add_zero, and_self, and_true, true_and, or_true, true_or, if_true, if_false, Nat.le_refl, Bool.and_self, eq_self, Bool.not_false, Bool.not_true, d0, f1, f2, f3, nl, hw, e, oldc]
    · rw [hz, dig_zero, List.map_nil] at f2
      rw [b84_0_run]
      simp only [go_sem, ↓reduceIte, Nat.reduceAdd, Nat.reduceSub, Nat.reduceMul, Nat.reduceEqDiff, Nat.reduceLT, Nat.reduceShiftRight, Nat.reduceAnd, Nat.reduceBNe, Nat.reduceLeDiff, Nat.reduceBEq, Nat.testBit, Nat.zero_lt_one, Int.reduceToNat, Int.reduceNeg, Int.reduceLE, Int.reduceLT, Int.reduceEq, decide_true, decide_false, Bool.and_true, Bool.true_and, Bool.and_false, Bool.false_and, Bool.or_true, Bool.true_or, Bool.or_false, Bool.false_or, Bool.not_true, Bool.not_false, beq_self_eq_true, reduceCtorEq, Int.le_refl, Nat.add_zero, and_self, and_true, true_and, or_true, true_or, if_true, if_false, Nat.le_refl, Bool.and_self, eq_self, Bool.not_false, Bool.not_true, d0, f1, f2, f3, nl, hw, e, oldc]

theorem Divide84 : (KL AA XX).call 84 [(PV.one (D.sl (List.map n64 (a)))), (PV.one (D.sl (List.map n64 (b))))] = some (divV (val a) (val b)) := by
  have b1 := Bits56 hb (by omega)
  have b2 := Bits56 ha (by omega)
  have hAl := val_lt ha
  have hn64 : nbits (val a) ≤ 64 * a.length := by rw [nbits_le, ← Bp_eq]; exact hAl
  by_cases h0 : val b = 0
  · have hd : divV (val a) (val b) = [nl [], nl [], .one (.sc (.bool false))] := if_pos h0
    have hb0 : nbits (val b) = 0 := by rw [h0]; rfl
    rw [hb0] at b1
    rw [hd, c84]
    simp only [go_sem, ↓reduceIte, Nat.reduceAdd, Nat.reduceSub, Nat.reduceMul, Nat.reduceEqDiff, Nat.reduceLT, Nat.reduceShiftRight, Nat.reduceAnd, Nat.reduceBNe, Nat.reduceLeDiff, Nat.reduceBEq, Nat.testBit, Nat.zero_lt_one, Int.reduceToNat, Int.reduceNeg, Int.reduceLE, Int.reduceLT, Int.reduceEq, decide_true, decide_false, Bool.and_true, Bool.true_and, Bool.and_false, Bool.false_and, Bool.or_true, Bool.true_or, Bool.or_false, Bool.false_or, Bool.not_true, Bool.not_false, beq_self_eq_true, reduceCtorEq, Int.le_refl, Nat.add_zero, and_self, and_true, true_and, or_true, true_or, if_true, if_false, Nat.le_refl, Bool.and_self, eq_self, Bool.not_false, Bool.not_true, b1, show ((0 : Nat) : Int) = 0 from rfl, List.map_nil, nl]
  · have hD : 0 < val b := Nat.pos_of_ne_zero h0
    have hd : divV (val a) (val b) = [nl (dig (val a / val b)), nl (dig (val a % val b)), .one (.sc (.bool true))] := if_neg h0
    have hnb : 0 < nbits (val b) := by unfold nbits; rw [if_neg h0]; omega
    have d1 : decide (((nbits (val b) : Nat) : Int) = 0) = false := decide_eq_false (by omega)
    have q0 : ((0 : Int) ≤ (a.length : Int)) = True := eq_true (by omega)
    have q1 : ((a.length : Int) * ((8 : Nat) : Int) ≤ (maxBytes : Int)) = True := by
      have h1 : maxBytes = 140737488355328 := rfl
      rw [h1]; exact eq_true (by omega)
    have hz := zeroc a.length
    have hw := wrap_i64_pred (nbits (val a)) (by omega)
    have q2 : (0 + a.length * 1 ≤ a.length) = True := eq_true (by omega)
    have t1 := Trim69 (digs_limbs a.length (val a / val b)) (by rw [digs_len]; omega)
    rw [val_digs, Nat.mod_eq_of_lt (Nat.lt_of_le_of_lt (Nat.div_le_self _ _) hAl)] at t1
    have ch := chunk_w (digs a.length (val a / val b))
    rw [digs_len] at ch
    have hdl := digs_len a.length (val a / val b)
    rw [hd, c84]
    simp only [go_sem, ↓reduceIte, Nat.reduceAdd, Nat.reduceSub, Nat.reduceMul, Nat.reduceEqDiff, Nat.reduceLT, Nat.reduceShiftRight, Nat.reduceAnd, Nat.reduceBNe, Nat.reduceLeDiff, Nat.reduceBEq, Nat.testBit, Nat.zero_lt_one, Int.reduceToNat, Int.reduceNeg, Int.reduceLE, Int.reduceLT, Int.reduceEq, decide_true, decide_false, Bool.and_true, Bool.true_and, Bool.and_false, Bool.false_and, Bool.or_true, Bool.true_or, Bool.or_false, Bool.false_or, Bool.not_true, Bool.not_false, beq_self_eq_true, reduceCtorEq, Int.le_refl, Nat.add_zero, and_self, and_true, true_and, or_true, true_or, if_true, if_false, Nat.le_refl, Bool.and_self, eq_self, Bool.not_false, Bool.not_true, b1, b2, d1, q0, q1, hz, oldc, hw, Int.toNat_natCast, List.length_cons, List.length_nil]
    rcases hn : nbits (val a) with _ | m
    · have hA0 : val a = 0 := by have := nbits_lt (val a); rw [hn] at this; omega
      have t2 := Trim69 Limbs.nil (by simp)
      rw [hA0, Nat.zero_div, digs_zero] at t1 ch hdl
      rw [show val [] = 0 from rfl, List.map_nil] at t2
      rw [hA0, Nat.zero_div, Nat.zero_mod, b84_0_run]
      have dm : decide ((0 : Int) ≤ 0 - 1) = false := rfl
      cases hf : PV.flat (.one (.sl (List.map n64 (dig 0)))) <;>
        simp only [go_sem, ↓reduceIte, Nat.reduceAdd, Nat.reduceSub, Nat.reduceMul, Nat.reduceEqDiff, Nat.reduceLT, Nat.reduceShiftRight, Nat.reduceAnd, Nat.reduceBNe, Nat.reduceLeDiff, Nat.reduceBEq, Nat.testBit, Nat.zero_lt_one, Int.reduceToNat, Int.reduceNeg, Int.reduceLE, Int.reduceLT, Int.reduceEq, decide_true, decide_false, Bool.and_true, Bool.true_and, Bool.and_false, Bool.false_and, Bool.or_true, Bool.true_or, Bool.or_false, Bool.false_or, Bool.not_true, Bool.not_false, beq_self_eq_true, reduceCtorEq, Int.le_refl, Nat.add_zero, and_self, and_true, true_and, or_true, true_or, if_true, if_false, Nat.le_refl, Bool.and_self, eq_self, Bool.not_false, Bool.not_true, show ((0 : Nat) : Int) = 0 from rfl, dm, oldc, lenc, hdl, q2, List.drop_zero, ch, t1, t2, Nat.mul_one, hf, Bool.false_eq_true, nl]
    · have go := iter (F := fun (j : Nat) => loopR AA XX [0, 1, 7, 8, 9] 4 b84_0 (RUN AA XX b84_0 ⟨[(0, (AV.c (C.d (D.sl (List.map n64 (a)))))), (1, (AV.c (C.d (D.sl (List.map n64 (b)))))), (7, .ref 2 0 a.length), (8, (AV.c (C.d (D.sl (List.map n64 (dig (val a / 2 ^ j % val b))))))), (9, (AV.c (C.d (D.sc (Value.int IntKind.i64 ((j : Int) - 1))))))], [(0, .tok 0 0), (1, .tok 0 0), (2, .arr ((digs a.length (val a / 2 ^ j / val b * 2 ^ j)).map w64)), (3, .tok 0 0)], 4⟩)) (Nat.zero_le m) fun j _ hj => by
        have := div84_step ha hb la lb hD j (by omega) _ (.inl rfl)
        have e1 : ((j + 1 : Nat) : Int) - 1 = (j : Int) := by omega
        show loopR _ _ _ _ _ (RUN _ _ _ _) = loopR _ _ _ _ _ (RUN _ _ _ _)
        rw [e1]
        exact this.symm
      have hAm : val a / 2 ^ (m + 1) = 0 := by rw [← hn]; exact Nat.div_eq_of_lt (nbits_lt _)
      have first := div84_step ha hb la lb hD m (by omega) ((AV.c (C.gr 3 []))) (.inr ⟨rfl, by rw [hAm, Nat.zero_mod]⟩)
      rw [hAm, Nat.zero_div, Nat.zero_mul, digs_zero] at first
      have e1 : ((m + 1 : Nat) : Int) - 1 = (m : Int) := by omega
      have t2 := Trim69 (dig_limbs (val a % val b)) (Nat.le_trans (dlen' (Nat.lt_of_le_of_lt (Nat.mod_le _ _) hAl)) (by omega))
      rw [val_dig] at t2
      rw [e1, first, ← go, b84_0_run]
      have dm : decide ((0 : Int) ≤ ((0 : Nat) : Int) - 1) = false := rfl
      simp only [Nat.pow_zero, Nat.div_one, Nat.mul_one] at dm ⊢
      cases hf : PV.flat (.one (.sl (List.map n64 (dig (val a / val b))))) <;>
        simp only [go_sem, ↓reduceIte, Nat.reduceAdd, Nat.reduceSub, Nat.reduceMul, Nat.reduceEqDiff, Nat.reduceLT, Nat.reduceShiftRight, Nat.reduceAnd, Nat.reduceBNe, Nat.reduceLeDiff, Nat.reduceBEq, Nat.testBit, Nat.zero_lt_one, Int.reduceToNat, Int.reduceNeg, Int.reduceLE, Int.reduceLT, Int.reduceEq, decide_true, decide_false, Bool.and_true, Bool.true_and, Bool.and_false, Bool.false_and, Bool.or_true, Bool.true_or, Bool.or_false, Bool.false_or, Bool.not_true, Bool.not_false, beq_self_eq_true, reduceCtorEq, Int.le_refl, Nat.add_zero, and_self, and_true, true_and, or_true, true_or, if_true, if_false, Nat.le_refl, Bool.and_self, eq_self, Bool.not_false, Bool.not_true, dm, oldc, lenc, hdl, q2, List.drop_zero, ch, t1, t2, Nat.mul_one, hf, Bool.false_eq_true, nl]
end
end Go.Proofs.Ytpanbfainilmpaa.Ev.N
end
section
/- A double word divided by a word. -/
set_option linter.unusedVariables false
set_option linter.unusedSimpArgs false
set_option maxRecDepth 100000
set_option maxHeartbeats 4000000
namespace Go.Proofs.Ytpanbfainilmpaa.Ev.N
open Go Go.Proofs.Ytpanbfainilmpaa.Ev

theorem Lead116 {x : Nat} (hx : x < B64) : (KL AA XX).call 116 [(PV.one (D.sc (Value.int IntKind.u64 ((x : Nat)))))] = some [(PV.one (D.sc (Value.int IntKind.i64 ((64 - nbits x : Nat)))))] := by
  have l := Len99 hx
  have h64 := nbits_64 hx
  have w : IntKind.i64.wrap (64 - ((nbits x : Nat) : Int)) = ((64 - nbits x : Nat) : Int) := by rw [wrap_i64 _ (by omega) (by omega)]; omega
  rw [c116]
  simp only [go_sem, ↓reduceIte, Nat.reduceAdd, Nat.reduceSub, Nat.reduceMul, Nat.reduceEqDiff, Nat.reduceLT, Nat.reduceShiftRight, Nat.reduceAnd, Nat.reduceBNe, Nat.reduceLeDiff, Nat.reduceBEq, Nat.testBit, Nat.zero_lt_one, Int.reduceToNat, Int.reduceNeg, Int.reduceLE, Int.reduceLT, Int.reduceEq, decide_true, decide_false, Bool.and_true, Bool.true_and, Bool.and_false, Bool.false_and, Bool.or_true, Bool.true_or, Bool.or_false, Bool.false_or, Bool.not_true, Bool.not_false, beq_self_eq_true, reduceCtorEq, Int.le_refl, Nat.add_zero, and_self, and_true, true_and, or_true, true_or, if_true, if_false, Nat.le_refl, Bool.and_self, eq_self, Bool.not_false, Bool.not_true, l, w]

theorem div115_0 {u v y1 y0 n s X Y : Nat} (hy : 0 < y1) (hv : v = y1 * 4294967296 + y0) (h0 : y0 < 4294967296) (h1 : 4294967296 ≤ 2 * y1) (hy1 : y1 < 4294967296) (hn : n < 4294967296) (hQb : (u * 4294967296 + n) / v < 4294967296) :
    ∀ (m q r : Nat), q ≤ m → q * y1 + r = u → (u * 4294967296 + n) / v ≤ q → q ≤ 4294967296 + 1 → r < 4294967296 →
    ∃ F', blockR 0 (loopR AA XX [2, 8, 9, 10, 11, 13, 14, 15, 16] 0 b115_0 (RUN AA XX b115_0 ⟨[(2, (AV.c (C.d (D.sc (Value.int IntKind.u64 ((v : Nat))))))), (8, (AV.c (C.d (D.sc (Value.int IntKind.u64 ((s : Nat))))))), (9, (AV.c (C.d (D.sc (Value.int IntKind.u64 ((y1 : Nat))))))), (10, (AV.c (C.d (D.sc (Value.int IntKind.u64 ((y0 : Nat))))))), (11, (AV.c (C.d (D.sc (Value.int IntKind.u64 ((u : Nat))))))), (13, (AV.c (C.d (D.sc (Value.int IntKind.u64 ((n : Nat))))))), (14, (AV.c (C.d (D.sc (Value.int IntKind.u64 ((X : Nat))))))), (15, (AV.c (C.d (D.sc (Value.int IntKind.u64 ((q : Nat))))))), (16, (AV.c (C.d (D.sc (Value.int IntKind.u64 ((r : Nat)))))))], [], 0⟩)) = some (.norm, ⟨F', [], 0⟩) ∧ F'.get 2 = (AV.c (C.d (D.sc (Value.int IntKind.u64 ((v : Nat)))))) ∧ F'.get 8 = (AV.c (C.d (D.sc (Value.int IntKind.u64 ((s : Nat)))))) ∧ F'.get 9 = (AV.c (C.d (D.sc (Value.int IntKind.u64 ((y1 : Nat)))))) ∧ F'.get 10 = (AV.c (C.d (D.sc (Value.int IntKind.u64 ((y0 : Nat)))))) ∧ F'.get 11 = (AV.c (C.d (D.sc (Value.int IntKind.u64 ((u : Nat)))))) ∧ F'.get 13 = (AV.c (C.d (D.sc (Value.int IntKind.u64 ((n : Nat)))))) ∧ F'.get 14 = (AV.c (C.d (D.sc (Value.int IntKind.u64 ((X : Nat)))))) ∧ F'.get 15 = (AV.c (C.d (D.sc (Value.int IntKind.u64 ((((u * 4294967296 + n) / v) : Nat)))))) := by
  have hB : B64 = 18446744073709551616 := rfl
  have hv0 : 0 < v := by omega
  intro m
  induction m with
  | zero =>
    intro q r hm hq hQ hqb hr
    obtain rfl : q = 0 := by omega
    have hQ0 : (u * 4294967296 + n) / v = 0 := Nat.le_zero.1 hQ
    have d1 : decide ((4294967296 : Int) ≤ ((0 : Nat) : Int)) = false := decide_eq_false (by omega)
    have m1 := wrap_mul (a := 0) (b := y0) (by rw [hB]; omega)
    have m2 : IntKind.u64.wrap (4294967296 * (r : Int)) = ((4294967296 * r : Nat) : Int) := wrap_mul (a := 4294967296) (b := r) (by rw [hB]; omega)
    have m3 := wrap_add (a := 4294967296 * r) (b := n) (by rw [hB]; omega)
    have d2 : decide (((4294967296 * r + n : Nat) : Int) < ((0 * y0 : Nat) : Int)) = false := decide_eq_false (by rw [Nat.zero_mul]; omega)
    rw [hQ0, b115_0_run]
    simp only [go_sem, ↓reduceIte, Nat.reduceAdd, Nat.reduceSub, Nat.reduceMul, Nat.reduceEqDiff, Nat.reduceLT, Nat.reduceShiftRight, Nat.reduceAnd, Nat.reduceBNe, Nat.reduceLeDiff, Nat.reduceBEq, Nat.testBit, Nat.zero_lt_one, Int.reduceToNat, Int.reduceNeg, Int.reduceLE, Int.reduceLT, Int.reduceEq, decide_true, decide_false, Bool.and_true, Bool.true_and, Bool.and_false, Bool.false_and, Bool.or_true, Bool.true_or, Bool.or_false, Bool.false_or, Bool.not_true, Bool.not_false, beq_self_eq_true, reduceCtorEq, Int.le_refl, Nat.add_zero, and_self, and_true, true_and, or_true, true_or, if_true, if_false, Nat.le_refl, Bool.and_self, eq_self, Bool.not_false, Bool.not_true, d1, m1, m2, m3, d2]
    exact ⟨_, rfl, rfl, rfl, rfl, rfl, rfl, rfl, rfl, rfl⟩
  | succ m ih =>
    intro q r hm hq hQ hqb hr
    have m2 : IntKind.u64.wrap (4294967296 * (r : Int)) = ((4294967296 * r : Nat) : Int) := wrap_mul (a := 4294967296) (b := r) (by rw [hB]; omega)
    have m3 := wrap_add (a := 4294967296 * r) (b := n) (by rw [hB]; omega)
    have hgt := guess_gt (N := u * 4294967296 + n) hv rfl hq
    by_cases hqβ : 4294967296 ≤ q
    · have d1 : decide ((4294967296 : Int) ≤ (q : Int)) = true := decide_eq_true (by omega)
      have hlt : (u * 4294967296 + n) / v < q := Nat.lt_of_lt_of_le hQb hqβ
      have hq1 : q - 1 + 1 = q := Nat.sub_add_cancel (Nat.lt_of_le_of_lt (Nat.zero_le _) hlt)
      have w1 : IntKind.u64.wrap ((q : Int) - 1) = ((q - 1 : Nat) : Int) := by
        rw [show (q : Int) - 1 = ((q - 1 : Nat) : Int) by omega]
        exact wrap_u64_lt (by rw [hB]; omega)
      have w2 := wrap_add (a := r) (b := y1) (by rw [hB]; omega)
      have hq' : (q - 1) * y1 + (r + y1) = u := by
        rw [← hq]
        conv => rhs; rw [← hq1, Nat.add_mul, Nat.one_mul]
        omega
      by_cases hbr : 4294967296 ≤ r + y1
      · have d3 : decide ((4294967296 : Int) ≤ ((r + y1 : Nat) : Int)) = true := decide_eq_true (by omega)
        have hle := quot_ge hv0 (guess_break (n := n) hv h0 hq' hbr (by omega))
        have hQq : (u * 4294967296 + n) / v = q - 1 := Nat.le_antisymm (Nat.le_pred_of_lt hlt) hle
        rw [hQq, b115_0_run]
        simp only [go_sem, ↓reduceIte, Nat.reduceAdd, Nat.reduceSub, Nat.reduceMul, Nat.reduceEqDiff, Nat.reduceLT, Nat.reduceShiftRight, Nat.reduceAnd, Nat.reduceBNe, Nat.reduceLeDiff, Nat.reduceBEq, Nat.testBit, Nat.zero_lt_one, Int.reduceToNat, Int.reduceNeg, Int.reduceLE, Int.reduceLT, Int.reduceEq, decide_true, decide_false, Bool.and_true, Bool.true_and, Bool.and_false, Bool.false_and, Bool.or_true, Bool.true_or, Bool.or_false, Bool.false_or, Bool.not_true, Bool.not_false, beq_self_eq_true, reduceCtorEq, Int.le_refl, Nat.add_zero, and_self, and_true, true_and, or_true, true_or, if_true, if_false, Nat.le_refl, Bool.and_self, eq_self, Bool.not_false, Bool.not_true, d1, m2, m3, w1, w2, d3]
        exact ⟨_, rfl, rfl, rfl, rfl, rfl, rfl, rfl, rfl, rfl⟩
      · have d3 : decide ((4294967296 : Int) ≤ ((r + y1 : Nat) : Int)) = false := decide_eq_false (by omega)
        obtain ⟨F', g1, g2⟩ := ih (q - 1) (r + y1) (by omega) hq' (Nat.le_pred_of_lt hlt) (by omega) (by omega)
        refine ⟨F', ?_, g2⟩
        rw [← g1, b115_0_run]
        simp only [go_sem, ↓reduceIte, Nat.reduceAdd, Nat.reduceSub, Nat.reduceMul, Nat.reduceEqDiff, Nat.reduceLT, Nat.reduceShiftRight, Nat.reduceAnd, Nat.reduceBNe, Nat.reduceLeDiff, Nat.reduceBEq, Nat.testBit, Nat.zero_lt_one, Int.reduceToNat, Int.reduceNeg, Int.reduceLE, Int.reduceLT, Int.reduceEq, decide_true, decide_false, Bool.and_true, Bool.true_and, Bool.and_false, Bool.false_and, Bool.or_true, Bool.true_or, Bool.or_false, Bool.false_or, Bool.not_true, Bool.not_false, beq_self_eq_true, reduceCtorEq, Int.le_refl, Nat.add_zero, and_self, and_true, true_and, or_true, true_or, if_true, if_false, Nat.le_refl, Bool.and_self, eq_self, Bool.not_false, Bool.not_true, d1, m2, m3, w1, w2, d3]
    · have d1 : decide ((4294967296 : Int) ≤ (q : Int)) = false := decide_eq_false (by omega)
      have hqy : q * y0 ≤ 4294967295 * 4294967295 := Nat.mul_le_mul (by omega) (by omega)
      have m1 := wrap_mul (a := q) (b := y0) (by rw [hB]; omega)
      by_cases hc : 4294967296 * r + n < q * y0
      · have d2 : decide (((4294967296 * r + n : Nat) : Int) < ((q * y0 : Nat) : Int)) = true := decide_eq_true (by omega)
        have hlt : (u * 4294967296 + n) / v < q := quot_le hv0 (hgt.1 (by rw [Nat.mul_comm r]; exact hc))
        have hq1 : q - 1 + 1 = q := Nat.sub_add_cancel (Nat.lt_of_le_of_lt (Nat.zero_le _) hlt)
        have w1 : IntKind.u64.wrap ((q : Int) - 1) = ((q - 1 : Nat) : Int) := by
          rw [show (q : Int) - 1 = ((q - 1 : Nat) : Int) by omega]
          exact wrap_u64_lt (by rw [hB]; omega)
        have w2 := wrap_add (a := r) (b := y1) (by rw [hB]; omega)
        have hq' : (q - 1) * y1 + (r + y1) = u := by
          rw [← hq]
          conv => rhs; rw [← hq1, Nat.add_mul, Nat.one_mul]
          omega
        by_cases hbr : 4294967296 ≤ r + y1
        · have d3 : decide ((4294967296 : Int) ≤ ((r + y1 : Nat) : Int)) = true := decide_eq_true (by omega)
          have hle := quot_ge hv0 (guess_break (n := n) hv h0 hq' hbr (by omega))
          have hQq : (u * 4294967296 + n) / v = q - 1 := Nat.le_antisymm (Nat.le_pred_of_lt hlt) hle
          rw [hQq, b115_0_run]
          simp only [go_sem, ↓reduceIte, Nat.reduceAdd, Nat.reduceSub, Nat.reduceMul, Nat.reduceEqDiff, Nat.reduceLT, Nat.reduceShiftRight, Nat.reduceAnd, Nat.reduceBNe, Nat.reduceLeDiff, Nat.reduceBEq, Nat.testBit, Nat.zero_lt_one, Int.reduceToNat, Int.reduceNeg, Int.reduceLE, Int.reduceLT, Int.reduceEq, decide_true, decide_false, Bool.and_true, Bool.true_and, Bool.and_false, Bool.false_and, Bool.or_true, Bool.true_or, Bool.or_false, Bool.false_or, Bool.not_true, Bool.not_false, beq_self_eq_true, reduceCtorEq, Int.le_refl, Nat.add_zero, and_self, and_true, true_and, or_true, true_or, if_true, if_false, Nat.le_refl, Bool.and_self, eq_self, Bool.not_false, Bool.not_true, d1, m1, d2, m2, m3, w1, w2, d3]
          exact ⟨_, rfl, rfl, rfl, rfl, rfl, rfl, rfl, rfl, rfl⟩
        · have d3 : decide ((4294967296 : Int) ≤ ((r + y1 : Nat) : Int)) = false := decide_eq_false (by omega)
          obtain ⟨F', g1, g2⟩ := ih (q - 1) (r + y1) (by omega) hq' (Nat.le_pred_of_lt hlt) (by omega) (by omega)
          refine ⟨F', ?_, g2⟩
          rw [← g1, b115_0_run]
          simp only [go_sem, ↓reduceIte, Nat.reduceAdd, Nat.reduceSub, Nat.reduceMul, Nat.reduceEqDiff, Nat.reduceLT, Nat.reduceShiftRight, Nat.reduceAnd, Nat.reduceBNe, Nat.reduceLeDiff, Nat.reduceBEq, Nat.testBit, Nat.zero_lt_one, Int.reduceToNat, Int.reduceNeg, Int.reduceLE, Int.reduceLT, Int.reduceEq, decide_true, decide_false, Bool.and_true, Bool.true_and, Bool.and_false, Bool.false_and, Bool.or_true, Bool.true_or, Bool.or_false, Bool.false_or, Bool.not_true, Bool.not_false, beq_self_eq_true, reduceCtorEq, Int.le_refl, Nat.add_zero, and_self, and_true, true_and, or_true, true_or, if_true, if_false, Nat.le_refl, Bool.and_self, eq_self, Bool.not_false, Bool.not_true, d1, m1, d2, m2, m3, w1, w2, d3]
      · have d2 : decide (((4294967296 * r + n : Nat) : Int) < ((q * y0 : Nat) : Int)) = false := decide_eq_false (by omega)
        have hle := quot_ge hv0 (fun h => hc (by have := hgt.2 h; rw [Nat.mul_comm r] at this; exact this))
        have hQq : (u * 4294967296 + n) / v = q := Nat.le_antisymm hQ hle
        rw [hQq, b115_0_run]
        simp only [go_sem, ↓reduceIte, Nat.reduceAdd, Nat.reduceSub, Nat.reduceMul, Nat.reduceEqDiff, Nat.reduceLT, Nat.reduceShiftRight, Nat.reduceAnd, Nat.reduceBNe, Nat.reduceLeDiff, Nat.reduceBEq, Nat.testBit, Nat.zero_lt_one, Int.reduceToNat, Int.reduceNeg, Int.reduceLE, Int.reduceLT, Int.reduceEq, decide_true, decide_false, Bool.and_true, Bool.true_and, Bool.and_false, Bool.false_and, Bool.or_true, Bool.true_or, Bool.or_false, Bool.false_or, Bool.not_true, Bool.not_false, beq_self_eq_true, reduceCtorEq, Int.le_refl, Nat.add_zero, and_self, and_true, true_and, or_true, true_or, if_true, if_false, Nat.le_refl, Bool.and_self, eq_self, Bool.not_false, Bool.not_true, d1, m1, m2, m3, d2]
        exact ⟨_, rfl, rfl, rfl, rfl, rfl, rfl, rfl, rfl, rfl⟩

theorem div115_1 {u v y1 y0 n s X Y : Nat} (hy : 0 < y1) (hv : v = y1 * 4294967296 + y0) (h0 : y0 < 4294967296) (h1 : 4294967296 ≤ 2 * y1) (hy1 : y1 < 4294967296) (hn : n < 4294967296) (hQb : (u * 4294967296 + n) / v < 4294967296) :
    ∀ (m q r : Nat), q ≤ m → q * y1 + r = u → (u * 4294967296 + n) / v ≤ q → q ≤ 4294967296 + 1 → r < 4294967296 →
    ∃ F', blockR 2 (loopR AA XX [2, 8, 9, 10, 14, 15, 16, 17, 18] 0 b115_1 (RUN AA XX b115_1 ⟨[(2, (AV.c (C.d (D.sc (Value.int IntKind.u64 ((v : Nat))))))), (8, (AV.c (C.d (D.sc (Value.int IntKind.u64 ((s : Nat))))))), (9, (AV.c (C.d (D.sc (Value.int IntKind.u64 ((y1 : Nat))))))), (10, (AV.c (C.d (D.sc (Value.int IntKind.u64 ((y0 : Nat))))))), (14, (AV.c (C.d (D.sc (Value.int IntKind.u64 ((n : Nat))))))), (15, (AV.c (C.d (D.sc (Value.int IntKind.u64 ((X : Nat))))))), (16, (AV.c (C.d (D.sc (Value.int IntKind.u64 ((r : Nat))))))), (17, (AV.c (C.d (D.sc (Value.int IntKind.u64 ((u : Nat))))))), (18, (AV.c (C.d (D.sc (Value.int IntKind.u64 ((q : Nat)))))))], [], 0⟩)) = some (.norm, ⟨F', [], 0⟩) ∧ F'.get 2 = (AV.c (C.d (D.sc (Value.int IntKind.u64 ((v : Nat)))))) ∧ F'.get 8 = (AV.c (C.d (D.sc (Value.int IntKind.u64 ((s : Nat)))))) ∧ F'.get 9 = (AV.c (C.d (D.sc (Value.int IntKind.u64 ((y1 : Nat)))))) ∧ F'.get 10 = (AV.c (C.d (D.sc (Value.int IntKind.u64 ((y0 : Nat)))))) ∧ F'.get 14 = (AV.c (C.d (D.sc (Value.int IntKind.u64 ((n : Nat)))))) ∧ F'.get 15 = (AV.c (C.d (D.sc (Value.int IntKind.u64 ((X : Nat)))))) ∧ F'.get 17 = (AV.c (C.d (D.sc (Value.int IntKind.u64 ((u : Nat)))))) ∧ F'.get 18 = (AV.c (C.d (D.sc (Value.int IntKind.u64 ((((u * 4294967296 + n) / v) : Nat)))))) := by
  have hB : B64 = 18446744073709551616 := rfl
  have hv0 : 0 < v := by omega
  intro m
  induction m with
  | zero =>
    intro q r hm hq hQ hqb hr
    obtain rfl : q = 0 := by omega
    have hQ0 : (u * 4294967296 + n) / v = 0 := Nat.le_zero.1 hQ
    have d1 : decide ((4294967296 : Int) ≤ ((0 : Nat) : Int)) = false := decide_eq_false (by omega)
    have m1 := wrap_mul (a := 0) (b := y0) (by rw [hB]; omega)
    have m2 : IntKind.u64.wrap (4294967296 * (r : Int)) = ((4294967296 * r : Nat) : Int) := wrap_mul (a := 4294967296) (b := r) (by rw [hB]; omega)
    have m3 := wrap_add (a := 4294967296 * r) (b := n) (by rw [hB]; omega)
    have d2 : decide (((4294967296 * r + n : Nat) : Int) < ((0 * y0 : Nat) : Int)) = false := decide_eq_false (by rw [Nat.zero_mul]; omega)
    rw [hQ0, b115_1_run]
    simp only [go_sem, ↓reduceIte, Nat.reduceAdd, Nat.reduceSub, Nat.reduceMul, Nat.reduceEqDiff, Nat.reduceLT, Nat.reduceShiftRight, Nat.reduceAnd, Nat.reduceBNe, Nat.reduceLeDiff, Nat.reduceBEq, Nat.testBit, Nat.zero_lt_one, Int.reduceToNat, Int.reduceNeg, Int.reduceLE, Int.reduceLT, Int.reduceEq, decide_true, decide_false, Bool.and_true, Bool.true_and, Bool.and_false, Bool.false_and, Bool.or_true, Bool.true_or, Bool.or_false, Bool.false_or, Bool.not_true, Bool.not_false, beq_self_eq_true, reduceCtorEq, Int.le_refl, Nat.add_zero, and_self, and_true, true_and, or_true, true_or, if_true, if_false, Nat.le_refl, Bool.and_self, eq_self, Bool.not_false, Bool.not_true, d1, m1, m2, m3, d2]
    exact ⟨_, rfl, rfl, rfl, rfl, rfl, rfl, rfl, rfl, rfl⟩
  | succ m ih =>
    intro q r hm hq hQ hqb hr
    have m2 : IntKind.u64.wrap (4294967296 * (r : Int)) = ((4294967296 * r : Nat) : Int) := wrap_mul (a := 4294967296) (b := r) (by rw [hB]; omega)
    have m3 := wrap_add (a := 4294967296 * r) (b := n) (by rw [hB]; omega)
    have hgt := guess_gt (N := u * 4294967296 + n) hv rfl hq
    by_cases hqβ : 4294967296 ≤ q
    · have d1 : decide ((4294967296 : Int) ≤ (q : Int)) = true := decide_eq_true (by omega)
      have hlt : (u * 4294967296 + n) / v < q := Nat.lt_of_lt_of_le hQb hqβ
      have hq1 : q - 1 + 1 = q := Nat.sub_add_cancel (Nat.lt_of_le_of_lt (Nat.zero_le _) hlt)
      have w1 : IntKind.u64.wrap ((q : Int) - 1) = ((q - 1 : Nat) : Int) := by
        rw [show (q : Int) - 1 = ((q - 1 : Nat) : Int) by omega]
        exact wrap_u64_lt (by rw [hB]; omega)
      have w2 := wrap_add (a := r) (b := y1) (by rw [hB]; omega)
      have hq' : (q - 1) * y1 + (r + y1) = u := by
        rw [← hq]
        conv => rhs; rw [← hq1, Nat.add_mul, Nat.one_mul]
        omega
      by_cases hbr : 4294967296 ≤ r + y1
      · have d3 : decide ((4294967296 : Int) ≤ ((r + y1 : Nat) : Int)) = true := decide_eq_true (by omega)
        have hle := quot_ge hv0 (guess_break (n := n) hv h0 hq' hbr (by omega))
        have hQq : (u * 4294967296 + n) / v = q - 1 := Nat.le_antisymm (Nat.le_pred_of_lt hlt) hle
        rw [hQq, b115_1_run]
        simp only [go_sem, ↓reduceIte, Nat.reduceAdd, Nat.reduceSub, Nat.reduceMul, Nat.reduceEqDiff, Nat.reduceLT, Nat.reduceShiftRight, Nat.reduceAnd, Nat.reduceBNe, Nat.reduceLeDiff, Nat.reduceBEq, Nat.testBit, Nat.zero_lt_one, Int.reduceToNat, Int.reduceNeg, Int.reduceLE, Int.reduceLT, Int.reduceEq, decide_true, decide_false, Bool.and_true, Bool.true_and, Bool.and_false, Bool.false_and, Bool.or_true, Bool.true_or, Bool.or_false, Bool.false_or, Bool.not_true, Bool.not_false, beq_self_eq_true, reduceCtorEq, Int.le_refl, Nat.add_zero, and_self, and_true, true_and, or_true, true_or, if_true, if_false, Nat.le_refl, Bool.and_self, eq_self, Bool.not_false, Bool.not_true, d1, m2, m3, w1, w2, d3]
        exact ⟨_, rfl, rfl, rfl, rfl, rfl, rfl, rfl, rfl, rfl⟩
      · have d3 : decide ((4294967296 : Int) ≤ ((r + y1 : Nat) : Int)) = false := decide_eq_false (by omega)
        obtain ⟨F', g1, g2⟩ := ih (q - 1) (r + y1) (by omega) hq' (Nat.le_pred_of_lt hlt) (by omega) (by omega)
        refine ⟨F', ?_, g2⟩
        rw [← g1, b115_1_run]
        simp only [go_sem, ↓reduceIte, Nat.reduceAdd, Nat.reduceSub, Nat.reduceMul, Nat.reduceEqDiff, Nat.reduceLT, Nat.reduceShiftRight, Nat.reduceAnd, Nat.reduceBNe, Nat.reduceLeDiff, Nat.reduceBEq, Nat.testBit, Nat.zero_lt_one, Int.reduceToNat, Int.reduceNeg, Int.reduceLE, Int.reduceLT, Int.reduceEq, decide_true, decide_false, Bool.and_true, Bool.true_and, Bool.and_false, Bool.false_and, Bool.or_true, Bool.true_or, Bool.or_false, Bool.false_or, Bool.not_true, Bool.not_false, beq_self_eq_true, reduceCtorEq, Int.le_refl, Nat.add_zero, and_self, and_true, true_and, or_true, true_or, if_true, if_false, Nat.le_refl, Bool.and_self, eq_self, Bool.not_false, Bool.not_true, d1, m2, m3, w1, w2, d3]
    · have d1 : decide ((4294967296 : Int) ≤ (q : Int)) = false := decide_eq_false (by omega)
      have hqy : q * y0 ≤ 4294967295 * 4294967295 := Nat.mul_le_mul (by omega) (by omega)
      have m1 := wrap_mul (a := q) (b := y0) (by rw [hB]; omega)
      by_cases hc : 4294967296 * r + n < q * y0
      · have d2 : decide (((4294967296 * r + n : Nat) : Int) < ((q * y0 : Nat) : Int)) = true := decide_eq_true (by omega)
        have hlt : (u * 4294967296 + n) / v < q := quot_le hv0 (hgt.1 (by rw [Nat.mul_comm r]; exact hc))
        have hq1 : q - 1 + 1 = q := Nat.sub_add_cancel (Nat.lt_of_le_of_lt (Nat.zero_le _) hlt)
        have w1 : IntKind.u64.wrap ((q : Int) - 1) = ((q - 1 : Nat) : Int) := by
          rw [show (q : Int) - 1 = ((q - 1 : Nat) : Int) by omega]
          exact wrap_u64_lt (by rw [hB]; omega)
        have w2 := wrap_add (a := r) (b := y1) (by rw [hB]; omega)
        have hq' : (q - 1) * y1 + (r + y1) = u := by
          rw [← hq]
          conv => rhs; rw [← hq1, Nat.add_mul, Nat.one_mul]
          omega
        by_cases hbr : 4294967296 ≤ r + y1
        · have d3 : decide ((4294967296 : Int) ≤ ((r + y1 : Nat) : Int)) = true := decide_eq_true (by omega)
          have hle := quot_ge hv0 (guess_break (n := n) hv h0 hq' hbr (by omega))
          have hQq : (u * 4294967296 + n) / v = q - 1 := Nat.le_antisymm (Nat.le_pred_of_lt hlt) hle
          rw [hQq, b115_1_run]
          simp only [go_sem, ↓reduceIte, Nat.reduceAdd, Nat.reduceSub, Nat.reduceMul, Nat.reduceEqDiff, Nat.reduceLT, Nat.reduceShiftRight, Nat.reduceAnd, Nat.reduceBNe, Nat.reduceLeDiff, Nat.reduceBEq, Nat.testBit, Nat.zero_lt_one, Int.reduceToNat, Int.reduceNeg, Int.reduceLE, Int.reduceLT, Int.reduceEq, decide_true, decide_false, Bool.and_true, Bool.true_and, Bool.and_false, Bool.false_and, Bool.or_true, Bool.true_or, Bool.or_false, Bool.false_or, Bool.not_true, Bool.not_false, beq_self_eq_true, reduceCtorEq, Int.le_refl, Nat.add_zero, and_self, and_true, true_and, or_true, true_or, if_true, if_false, Nat.le_refl, Bool.and_self, eq_self, Bool.not_false, Bool.not_true, d1, m1, d2, m2, m3, w1, w2, d3]
          exact ⟨_, rfl, rfl, rfl, rfl, rfl, rfl, rfl, rfl, rfl⟩
        · have d3 : decide ((4294967296 : Int) ≤ ((r + y1 : Nat) : Int)) = false := decide_eq_false (by omega)
          obtain ⟨F', g1, g2⟩ := ih (q - 1) (r + y1) (by omega) hq' (Nat.le_pred_of_lt hlt) (by omega) (by omega)
          refine ⟨F', ?_, g2⟩
          rw [← g1, b115_1_run]
          simp only [go_sem, ↓reduceIte, Nat.reduceAdd, Nat.reduceSub, Nat.reduceMul, Nat.reduceEqDiff, Nat.reduceLT, Nat.reduceShiftRight, Nat.reduceAnd, Nat.reduceBNe, Nat.reduceLeDiff, Nat.reduceBEq, Nat.testBit, Nat.zero_lt_one, Int.reduceToNat, Int.reduceNeg, Int.reduceLE, Int.reduceLT, Int.reduceEq, decide_true, decide_false, Bool.and_true, Bool.true_and, Bool.and_false, Bool.false_and, Bool.or_true, Bool.true_or, Bool.or_false, Bool.false_or, Bool.not_true, Bool.not_false, beq_self_eq_true, reduceCtorEq, Int.le_refl, Nat.add_zero, and_self, and_true, true_and, or_true, true_or, if_true, if_false, Nat.le_refl, Bool.and_self, eq_self, Bool.not_false, Bool.not_true, d1, m1, d2, m2, m3, w1, w2, d3]
      · have d2 : decide (((4294967296 * r + n : Nat) : Int) < ((q * y0 : Nat) : Int)) = false := decide_eq_false (by omega)
        have hle := quot_ge hv0 (fun h => hc (by have := hgt.2 h; rw [Nat.mul_comm r] at this; exact this))
        have hQq : (u * 4294967296 + n) / v = q := Nat.le_antisymm hQ hle
        rw [hQq, b115_1_run]
        simp only [go_sem, ↓reduceIte, Nat.reduceAdd, Nat.reduceSub, Nat.reduceMul, Nat.reduceEqDiff, Nat.reduceLT, Nat.reduceShiftRight, Nat.reduceAnd, Nat.reduceBNe, Nat.reduceLeDiff, Nat.reduceBEq, Nat.testBit, Nat.zero_lt_one, Int.reduceToNat, Int.reduceNeg, Int.reduceLE, Int.reduceLT, Int.reduceEq, decide_true, decide_false, Bool.and_true, Bool.true_and, Bool.and_false, Bool.false_and, Bool.or_true, Bool.true_or, Bool.or_false, Bool.false_or, Bool.not_true, Bool.not_false, beq_self_eq_true, reduceCtorEq, Int.le_refl, Nat.add_zero, and_self, and_true, true_and, or_true, true_or, if_true, if_false, Nat.le_refl, Bool.and_self, eq_self, Bool.not_false, Bool.not_true, d1, m1, m2, m3, d2]
        exact ⟨_, rfl, rfl, rfl, rfl, rfl, rfl, rfl, rfl, rfl⟩

end Go.Proofs.Ytpanbfainilmpaa.Ev.N
end
section
/- A double word divided by a word: the whole. -/
set_option linter.unusedVariables false
set_option linter.unusedSimpArgs false
set_option maxRecDepth 100000
set_option maxHeartbeats 4000000
namespace Go.Proofs.Ytpanbfainilmpaa.Ev.N
open Go Go.Proofs.Ytpanbfainilmpaa.Ev

theorem two_steps {U u v n1 n0 β : Nat} (hv : 0 < v) (hU : U = (u * β + n1) * β + n0) : U / v = (u * β + n1) / v * β + ((u * β + n1) % v * β + n0) / v ∧ U % v = ((u * β + n1) % v * β + n0) % v := by
  have e : U = v * ((u * β + n1) / v * β) + ((u * β + n1) % v * β + n0) := by
    have := Nat.div_add_mod (u * β + n1) v
    rw [hU]
    conv => lhs; rw [← this]
    rw [Nat.add_mul, Nat.mul_assoc, Nat.add_assoc]
  constructor
  · rw [e, Nat.mul_add_div hv]
  · rw [e, Nat.mul_add_mod]
theorem norm_bits {y : Nat} (hy : 0 < y) (hyB : y < B64) : nbits y ≤ 64 ∧ 0 < nbits y ∧ y * 2 ^ (64 - nbits y) < B64 ∧ 9223372036854775808 ≤ y * 2 ^ (64 - nbits y) := by
  have h1 := nbits_64 hyB
  have h2 : 0 < nbits y := by unfold nbits; rw [if_neg (by omega)]; omega
  have h3 : 2 ^ (nbits y - 1) ≤ y := by
    have : nbits y = y.log2 + 1 := if_neg (by omega)
    rw [this, Nat.add_sub_cancel]
    exact Nat.log2_self_le (by omega)
  refine ⟨h1, h2, ?_, ?_⟩
  · have := Nat.mul_lt_mul_of_pos_right (nbits_lt y) (show 0 < 2 ^ (64 - nbits y) from Nat.pow_pos (by decide))
    rw [← Nat.pow_add, show nbits y + (64 - nbits y) = 64 by omega] at this
    exact this
  · have := Nat.mul_le_mul_right (2 ^ (64 - nbits y)) h3
    rw [← Nat.pow_add, show nbits y - 1 + (64 - nbits y) = 63 by omega] at this
    exact this
theorem wrap_round {x n W r : Nat} (h : x * 4294967296 + n = W + r) (hr : r < B64) : IntKind.u64.wrap (IntKind.u64.wrap (IntKind.u64.wrap ((x : Int) * 4294967296) + (n : Int)) - IntKind.u64.wrap (W : Int)) = (r : Int) := by
  show (((((x : Int) * 4294967296) % 18446744073709551616 + (n : Int)) % 18446744073709551616 - (W : Int) % 18446744073709551616) % 18446744073709551616) = (r : Int)
  rw [show B64 = 18446744073709551616 from rfl] at hr
  omega
theorem Div115 {hi lo y : Nat} (hy : 0 < y) (hh : hi < y) (hlo : lo < B64) (hyB : y < B64) : (KL AA XX).call 115 [(PV.one (D.sc (Value.int IntKind.u64 ((hi : Nat))))), (PV.one (D.sc (Value.int IntKind.u64 ((lo : Nat))))), (PV.one (D.sc (Value.int IntKind.u64 ((y : Nat)))))] = some [(PV.one (D.sc (Value.int IntKind.u64 (((hi * B64 + lo) / y : Nat))))), (PV.one (D.sc (Value.int IntKind.u64 (((hi * B64 + lo) % y : Nat)))))] := by
  have hB : B64 = 18446744073709551616 := rfl
  have d1 : decide (((y : Nat) : Int) = 0) = false := decide_eq_false (by omega)
  have d2 : decide (((y : Nat) : Int) ≤ ((hi : Nat) : Int)) = false := decide_eq_false (by omega)
  rw [c115]
  by_cases h0 : hi = 0
  · subst h0
    have d3 : (((y : Nat) : Int) = 0) = False := eq_false (by omega)
    have e1 : ((lo : Int)).tdiv (y : Int) = ((lo / y : Nat) : Int) := by rw [Int.tdiv_eq_ediv_of_nonneg (by omega), Int.natCast_ediv]
    have e2 : ((lo : Int)).tmod (y : Int) = ((lo % y : Nat) : Int) := by rw [Int.tmod_eq_emod_of_nonneg (by omega), Int.natCast_emod]
    have w : IntKind.u64.wrap (((lo / y : Nat) : Int)) = ((lo / y : Nat) : Int) := wrap_u64_lt (Nat.lt_of_le_of_lt (Nat.div_le_self _ _) hlo)
    have d2' : decide (((y : Nat) : Int) ≤ 0) = false := decide_eq_false (by omega)
    rw [Nat.zero_mul, Nat.zero_add]
    simp only [go_sem, ↓reduceIte, Nat.reduceAdd, Nat.reduceSub, Nat.reduceMul, Nat.reduceEqDiff, Nat.reduceLT, Nat.reduceShiftRight, Nat.reduceAnd, Nat.reduceBNe, Nat.reduceLeDiff, Nat.reduceBEq, Nat.testBit, Nat.zero_lt_one, Int.reduceToNat, Int.reduceNeg, Int.reduceLE, Int.reduceLT, Int.reduceEq, decide_true, decide_false, Bool.and_true, Bool.true_and, Bool.and_false, Bool.false_and, Bool.or_true, Bool.true_or, Bool.or_false, Bool.false_or, Bool.not_true, Bool.not_false, beq_self_eq_true, reduceCtorEq, Int.le_refl, Nat.add_zero, and_self, and_true, true_and, or_true, true_or, if_true, if_false, Nat.le_refl, Bool.and_self, eq_self, Bool.not_false, Bool.not_true, show ((0 : Nat) : Int) = 0 from rfl, d1, d2', d3, e1, e2, w]
  · have d3 : decide (((hi : Nat) : Int) = 0) = false := decide_eq_false (by omega)
    obtain ⟨hk1, hk2, hv1, hv2⟩ := norm_bits hy hyB
    have l := Lead116 hyB
    obtain ⟨s, hs⟩ : ∃ s, 64 - nbits y = s := ⟨_, rfl⟩
    rw [hs] at hv1 hv2 l
    have hs64 : s < 64 := by omega
    obtain ⟨v, hv⟩ : ∃ v, y * 2 ^ s = v := ⟨_, rfl⟩
    rw [hv] at hv1 hv2
    have hp : 0 < 2 ^ s := Nat.pow_pos (by decide)
    have hv0 : 0 < v := by omega
    -- the double word, moved up
    have hlo2 : lo * 2 ^ s / 18446744073709551616 = lo / 2 ^ (64 - s) := by
      rw [show 18446744073709551616 = 2 ^ (64 - s) * 2 ^ s by rw [← Nat.pow_add, show 64 - s + s = 64 by omega], Nat.mul_div_mul_right _ _ hp]
    have hsplit := Nat.div_add_mod (lo * 2 ^ s) 18446744073709551616
    rw [hlo2] at hsplit
    obtain ⟨n10, hn10⟩ : ∃ n, lo * 2 ^ s % 18446744073709551616 = n := ⟨_, rfl⟩
    have hn10l : n10 < 18446744073709551616 := by rw [← hn10]; exact Nat.mod_lt _ (by decide)
    obtain ⟨top, htop⟩ : ∃ t, lo / 2 ^ (64 - s) = t := ⟨_, rfl⟩
    rw [hn10, htop] at hsplit
    have htl : top < 2 ^ s := by
      rw [← htop, Nat.div_lt_iff_lt_mul (Nat.pow_pos (by decide)), ← Nat.pow_add, show s + (64 - s) = 64 by omega]
      exact hlo
    obtain ⟨u, hu⟩ : ∃ u, hi * 2 ^ s + top = u := ⟨_, rfl⟩
    have hU : (hi * B64 + lo) * 2 ^ s = u * 18446744073709551616 + n10 := by
      rw [Nat.add_mul, ← hsplit, ← hu, hB, Nat.add_mul, Nat.mul_assoc, Nat.mul_comm _ (2 ^ s), ← Nat.mul_assoc]
      omega
    have huv : u < v := by
      rw [← hu, ← hv]
      have : (hi + 1) * 2 ^ s ≤ y * 2 ^ s := Nat.mul_le_mul_right _ hh
      rw [Nat.add_mul, Nat.one_mul] at this
      omega
    have hyd := Nat.div_add_mod v 4294967296
    have hnd := Nat.div_add_mod n10 4294967296
    have hy0 : v % 4294967296 < 4294967296 := Nat.mod_lt _ (by decide)
    have hn0 : n10 % 4294967296 < 4294967296 := Nat.mod_lt _ (by decide)
    have hy1 : 0 < v / 4294967296 := by omega
    have hy1b : 4294967296 ≤ 2 * (v / 4294967296) := by omega
    have hy1l : v / 4294967296 < 4294967296 := by omega
    have hn1 : n10 / 4294967296 < 4294967296 := by omega
    have hvd : v = v / 4294967296 * 4294967296 + v % 4294967296 := by omega
    obtain ⟨g1, g2, g3⟩ := guess_first (u := u) (n := n10 / 4294967296) hy1 hvd hy0 hy1b huv hn1
    have r1 := Nat.mod_lt (u * 4294967296 + n10 / 4294967296) hv0
    obtain ⟨k1, k2, k3⟩ := guess_first (u := (u * 4294967296 + n10 / 4294967296) % v) (n := n10 % 4294967296) hy1 hvd hy0 hy1b r1 hn0
    obtain ⟨t1, t2⟩ := two_steps (U := (hi * B64 + lo) * 2 ^ s) (u := u) (v := v) (n1 := n10 / 4294967296) (n0 := n10 % 4294967296) (β := 4294967296) hv0 (by rw [hU]; omega)
    have r2 := Nat.mod_lt ((u * 4294967296 + n10 / 4294967296) % v * 4294967296 + n10 % 4294967296) hv0
    rw [← hv, Nat.mul_div_mul_right _ _ hp, hv] at t1
    rw [← hv, Nat.mul_mod_mul_right, hv] at t2
    have hq := hyd
    obtain ⟨y1, hy1e⟩ : ∃ x, v / 4294967296 = x := ⟨_, rfl⟩
    obtain ⟨y0, hy0e⟩ : ∃ x, v % 4294967296 = x := ⟨_, rfl⟩
    obtain ⟨n1, hn1e⟩ : ∃ x, n10 / 4294967296 = x := ⟨_, rfl⟩
    obtain ⟨n0, hn0e⟩ : ∃ x, n10 % 4294967296 = x := ⟨_, rfl⟩
    rw [hy1e, hy0e] at hvd
    rw [hy1e] at hy1 hy1b hy1l g1 g2 k1 k2
    rw [hy0e] at hy0
    rw [hn1e] at hn1 g2 g3 k1 k2 k3 r1 r2 t1 t2
    rw [hn0e] at hn0 k2 k3 r2 t1 t2
    have dq1 := Nat.div_add_mod (u * 4294967296 + n1) v
    have rd := Nat.mod_lt u hy1
    have L0 := fun (X : Nat) => div115_0 (s := s) (X := X) (Y := 0) hy1 hvd hy0 hy1b hy1l hn1 g3 (u / y1) (u / y1) (u % y1) (Nat.le_refl _) (by rw [Nat.mul_comm]; exact Nat.div_add_mod u y1) g2 g1 (by omega)
    obtain ⟨Q1, hQ1⟩ : ∃ q, (u * 4294967296 + n1) / v = q := ⟨_, rfl⟩
    obtain ⟨w2, hw2⟩ : ∃ q, (u * 4294967296 + n1) % v = q := ⟨_, rfl⟩
    rw [hQ1, hw2] at dq1
    rw [hQ1] at L0 t1 g3
    rw [hw2] at k1 k2 k3 r1 r2 t1 t2
    have rd2 := Nat.mod_lt w2 hy1
    have dq2 := Nat.div_add_mod (w2 * 4294967296 + n0) v
    have L1 := div115_1 (s := s) (X := Q1) (Y := 0) hy1 hvd hy0 hy1b hy1l hn0 k3 (w2 / y1) (w2 / y1) (w2 % y1) (Nat.le_refl _) (by rw [Nat.mul_comm]; exact Nat.div_add_mod w2 y1) k2 k1 (by omega)
    obtain ⟨Q0, hQ0⟩ : ∃ q, (w2 * 4294967296 + n0) / v = q := ⟨_, rfl⟩
    obtain ⟨w3, hw3⟩ : ∃ q, (w2 * 4294967296 + n0) % v = q := ⟨_, rfl⟩
    rw [hQ0, hw3] at dq2
    rw [hQ0] at L1 t1 k3
    rw [hw3] at t2 r2
    obtain ⟨F0, a0, a1, a2, a3, a4, a5, a6, a7, a8⟩ := L0 n0
    obtain ⟨F1, b0, b1, b2, b3, b4, b5, b6, b7, b8⟩ := L1
    have hres : w3 / 2 ^ s = (hi * B64 + lo) % y := by rw [← t2, Nat.mul_div_cancel _ hp]
    -- words
    have ws : IntKind.u64.wrap ((s : Nat) : Int) = ((s : Nat) : Int) := wrap_u64_lt (Nat.lt_trans hs64 (by decide))
    have q0 : ((0 : Int) ≤ ((s : Nat) : Int)) = True := eq_true (by omega)
    have m64 := min64 hs64
    have wv : IntKind.u64.wrap ((y : Int) * 2 ^ s) = ((v : Nat) : Int) := by
      rw [show (y : Int) * 2 ^ s = ((y * 2 ^ s : Nat) : Int) by norm_cast, hv]; exact wrap_u64_lt hv1
    have whi : IntKind.u64.wrap ((hi : Int) * 2 ^ s) = ((2 ^ s * hi : Nat) : Int) := by
      rw [show (hi : Int) * 2 ^ s = ((2 ^ s * hi : Nat) : Int) by rw [Nat.mul_comm]; norm_cast]
      exact wrap_u64_lt (by rw [Nat.mul_comm]; omega)
    have w64s : IntKind.u64.wrap (64 - ((s : Nat) : Int)) = ((64 - s : Nat) : Int) := by
      rw [show (64 : Int) - ((s : Nat) : Int) = ((64 - s : Nat) : Int) by omega]
      exact wrap_u64_lt (by rw [hB]; omega)
    have q0' : ((0 : Int) ≤ ((64 - s : Nat) : Int)) = True := eq_true (by omega)
    have m64' : min (64 - s) 64 = 64 - s := by omega
    have wor : borI .u64 ((2 ^ s * hi : Nat) : Int) ((top : Nat) : Int) = ((u : Nat) : Int) := by
      rw [borI_u (by rw [Nat.mul_comm]; omega) (by omega), or_low s htl, Nat.mul_comm, hu]
    have wlo : IntKind.u64.wrap ((lo : Int) * 2 ^ s) = ((n10 : Nat) : Int) := by
      rw [show (lo : Int) * 2 ^ s = ((lo * 2 ^ s : Nat) : Int) by norm_cast, wrap_u64, hB, hn10]
    have dz : (((y1 : Nat) : Int) = 0) = False := eq_false (by omega)
    have eq1 : ((u : Int)).tdiv (y1 : Int) = ((u / y1 : Nat) : Int) := by rw [Int.tdiv_eq_ediv_of_nonneg (by omega), Int.natCast_ediv]
    have weq1 : IntKind.u64.wrap (((u / y1 : Nat) : Int)) = ((u / y1 : Nat) : Int) := wrap_u64_lt (by rw [hB]; omega)
    have hud := Nat.div_add_mod u y1
    have wm1 : IntKind.u64.wrap (((u / y1 : Nat) : Int) * (y1 : Int)) = ((u / y1 * y1 : Nat) : Int) := wrap_mul (by rw [Nat.mul_comm]; omega)
    have wr1 : IntKind.u64.wrap ((u : Int) - ((u / y1 * y1 : Nat) : Int)) = ((u % y1 : Nat) : Int) := by
      rw [show (u : Int) - ((u / y1 * y1 : Nat) : Int) = ((u % y1 : Nat) : Int) by rw [Nat.mul_comm]; omega]
      exact wrap_u64_lt (by rw [hB]; omega)
    have eq2 : ((w2 : Int)).tdiv (y1 : Int) = ((w2 / y1 : Nat) : Int) := by rw [Int.tdiv_eq_ediv_of_nonneg (by omega), Int.natCast_ediv]
    have weq2 : IntKind.u64.wrap (((w2 / y1 : Nat) : Int)) = ((w2 / y1 : Nat) : Int) := wrap_u64_lt (by rw [hB]; omega)
    have hwd := Nat.div_add_mod w2 y1
    have wm2 : IntKind.u64.wrap (((w2 / y1 : Nat) : Int) * (y1 : Int)) = ((w2 / y1 * y1 : Nat) : Int) := wrap_mul (by rw [Nat.mul_comm]; omega)
    have wr2 : IntKind.u64.wrap ((w2 : Int) - ((w2 / y1 * y1 : Nat) : Int)) = ((w2 % y1 : Nat) : Int) := by
      rw [show (w2 : Int) - ((w2 / y1 * y1 : Nat) : Int) = ((w2 % y1 : Nat) : Int) by rw [Nat.mul_comm]; omega]
      exact wrap_u64_lt (by rw [hB]; omega)
    have f1 := wrap_round (x := u) (n := n1) (W := Q1 * v) (r := w2) (by rw [Nat.mul_comm Q1]; omega) (by omega)
    have f2 := wrap_round (x := w2) (n := n0) (W := Q0 * v) (r := w3) (by rw [Nat.mul_comm Q0]; omega) (by omega)
    rw [Int.natCast_mul] at f1 f2
    have f3 : IntKind.u64.wrap (IntKind.u64.wrap ((Q1 : Int) * 4294967296) + (Q0 : Int)) = ((Q1 * 4294967296 + Q0 : Nat) : Int) := by
      rw [show (Q1 : Int) * 4294967296 = ((Q1 * 4294967296 : Nat) : Int) by omega, wrap_u64_lt (by rw [hB]; omega)]
      exact wrap_add (by rw [hB]; omega)
    have hsh : ∀ z : Nat, z / 2 ^ 32 = z / 4294967296 := fun z => rfl
    rw [t1]
    simp only [go_sem, ↓reduceIte, Nat.reduceAdd, Nat.reduceSub, Nat.reduceMul, Nat.reduceEqDiff, Nat.reduceLT, Nat.reduceShiftRight, Nat.reduceAnd, Nat.reduceBNe, Nat.reduceLeDiff, Nat.reduceBEq, Nat.testBit, Nat.zero_lt_one, Int.reduceToNat, Int.reduceNeg, Int.reduceLE, Int.reduceLT, Int.reduceEq, decide_true, decide_false, Bool.and_true, Bool.true_and, Bool.and_false, Bool.false_and, Bool.or_true, Bool.true_or, Bool.or_false, Bool.false_or, Bool.not_true, Bool.not_false, beq_self_eq_true, reduceCtorEq, Int.le_refl, Nat.add_zero, and_self, and_true, true_and, or_true, true_or, if_true, if_false, Nat.le_refl, Bool.and_self, eq_self, Bool.not_false, Bool.not_true, d1, d2, d3, l, ws, q0, q0', m64, m64', min32, Int.toNat_natCast, wv, whi, w64s, shr_n, hsh, htop, bin_orI, wor, wlo, bin_andI, bandI_m32, hy1e, hy0e, hn1e, hn0e, dz, eq1, weq1, wm1, wr1]
    rw [a0]
    simp only [go_sem, ↓reduceIte, Nat.reduceAdd, Nat.reduceSub, Nat.reduceMul, Nat.reduceEqDiff, Nat.reduceLT, Nat.reduceShiftRight, Nat.reduceAnd, Nat.reduceBNe, Nat.reduceLeDiff, Nat.reduceBEq, Nat.testBit, Nat.zero_lt_one, Int.reduceToNat, Int.reduceNeg, Int.reduceLE, Int.reduceLT, Int.reduceEq, decide_true, decide_false, Bool.and_true, Bool.true_and, Bool.and_false, Bool.false_and, Bool.or_true, Bool.true_or, Bool.or_false, Bool.false_or, Bool.not_true, Bool.not_false, beq_self_eq_true, reduceCtorEq, Int.le_refl, Nat.add_zero, and_self, and_true, true_and, or_true, true_or, if_true, if_false, Nat.le_refl, Bool.and_self, eq_self, Bool.not_false, Bool.not_true, a1, a2, a3, a4, a5, a6, a7, a8, f1, dz, eq2, weq2, wm2, wr2]
    rw [b0]
    simp only [go_sem, ↓reduceIte, Nat.reduceAdd, Nat.reduceSub, Nat.reduceMul, Nat.reduceEqDiff, Nat.reduceLT, Nat.reduceShiftRight, Nat.reduceAnd, Nat.reduceBNe, Nat.reduceLeDiff, Nat.reduceBEq, Nat.testBit, Nat.zero_lt_one, Int.reduceToNat, Int.reduceNeg, Int.reduceLE, Int.reduceLT, Int.reduceEq, decide_true, decide_false, Bool.and_true, Bool.true_and, Bool.and_false, Bool.false_and, Bool.or_true, Bool.true_or, Bool.or_false, Bool.false_or, Bool.not_true, Bool.not_false, beq_self_eq_true, reduceCtorEq, Int.le_refl, Nat.add_zero, and_self, and_true, true_and, or_true, true_or, if_true, if_false, Nat.le_refl, Bool.and_self, eq_self, Bool.not_false, Bool.not_true, b1, b2, b3, b4, b5, b6, b7, b8, f2, f3, q0, m64, Int.toNat_natCast, shr_n, hres]
end Go.Proofs.Ytpanbfainilmpaa.Ev.N
end
section
/- Calls in the caller's memory: words; a number moved up. -/
set_option linter.unusedVariables false
set_option linter.unusedSimpArgs false
set_option maxRecDepth 100000
set_option maxHeartbeats 4000000
namespace Go.Proofs.Ytpanbfainilmpaa.Ev.N
open Go Go.Proofs.Ytpanbfainilmpaa.Ev

def icallQ (nx : Nat) (rs : List Nat) : Option (AV × Hp × Nat) → Option Re
  | some q => if ((q.1.ids ++ q.2.1.flatMap fun e => e.2.ids).all fun i => rs.contains i || decide (nx ≤ i)) = true then
      some ⟨q.1, rs.map (fun i => (i, q.2.1.get i)) ++ (q.2.1.filter fun e => nx ≤ e.1).map (fun e => (e.1, q.2.1.get e.1)), rs, q.2.2⟩ else none
  | none => none
theorem evOp_icall (K : Or) (dr : Bool) (f : Fr) (h : Hp) (nx g : Nat) (args : List AO) : evOp K dr f h nx (.icall g args) = icallQ nx (h.reach ((args.map (AO.ev f)).flatMap AV.ids)) (K.icall g (args.map (AO.ev f)) (h.cut (h.reach ((args.map (AO.ev f)).flatMap AV.ids))) nx) := by
  show doICall K h nx g (args.map (AO.ev f)) = _
  unfold doICall
  dsimp only
  generalize K.icall g (args.map (AO.ev f)) (h.cut (h.reach ((args.map (AO.ev f)).flatMap AV.ids))) nx = o
  cases o <;> rfl
theorem icallQ_some (nx : Nat) (rs : List Nat) (v : AV) (h : Hp) (m : Nat) : icallQ nx rs (some (v, h, m)) = if ((v.ids ++ h.flatMap fun e => e.2.ids).all fun i => rs.contains i || decide (nx ≤ i)) = true then
      some ⟨v, rs.map (fun i => (i, h.get i)) ++ (h.filter fun e => nx ≤ e.1).map (fun e => (e.1, h.get e.1)), rs, m⟩ else none := rfl
theorem ids_w (L : List Nat) : (L.map w64).flatMap C.ids = [] := by
  rw [List.flatMap_map, List.flatMap_eq_nil_iff]
  intro x _; rfl
theorem reach_eq (h : Hp) (ids : List Nat) : Hp.reach h ids = ids ++ ids.flatMap fun i => match h.get i with | some l => l.ids | none => [] := rfl
theorem cut_eq (h : Hp) (ids : List Nat) : Hp.cut h ids = h.filter fun e => ids.contains e.1 := rfl

theorem shl_or {x s : Nat} (hx : x < B64) (hs : s < 64) : IntKind.u64.wrap ((x : Int) * 2 ^ s) = ((x * 2 ^ s % B64 : Nat) : Int) := by
  rw [show (x : Int) * 2 ^ s = ((x * 2 ^ s : Nat) : Int) by norm_cast, wrap_u64]
/-- One limb moved up: what stays, what goes over. -/
theorem shift_step {x c s : Nat} (hx : x < B64) (hs : s < 64) (hc : c < 2 ^ s) : (c ||| x * 2 ^ s % B64) = (x * 2 ^ s + c) % B64 ∧ x / 2 / 2 ^ (63 - s) = (x * 2 ^ s + c) / B64 ∧ x / 2 / 2 ^ (63 - s) < 2 ^ s := by
  have hp : 0 < 2 ^ s := Nat.pow_pos (by decide)
  have e1 : B64 = 2 ^ s * 2 ^ (64 - s) := by rw [← Nat.pow_add, show s + (64 - s) = 64 by omega]; rfl
  have e2 : x / 2 / 2 ^ (63 - s) = x / 2 ^ (64 - s) := by
    rw [Nat.div_div_eq_div_mul, show 2 * 2 ^ (63 - s) = 2 ^ (64 - s) by rw [← Nat.pow_succ']; congr 1; omega]
  have e3 : x * 2 ^ s % B64 = 2 ^ s * (x % 2 ^ (64 - s)) := by rw [e1, Nat.mul_comm x, Nat.mul_mod_mul_left]
  have hm := Nat.mod_lt x (Nat.pow_pos (n := 64 - s) (show 0 < 2 by decide))
  have hd := Nat.div_add_mod x (2 ^ (64 - s))
  have hsum : x * 2 ^ s + c = B64 * (x / 2 ^ (64 - s)) + (2 ^ s * (x % 2 ^ (64 - s)) + c) := by
    conv => lhs; rw [← hd, Nat.add_mul, Nat.mul_right_comm, Nat.mul_comm (2 ^ (64 - s)) (2 ^ s), ← e1]
    rw [Nat.mul_comm (x % 2 ^ (64 - s))]; omega
  have hlt : 2 ^ s * (x % 2 ^ (64 - s)) + c < B64 := by
    rw [e1]
    have : 2 ^ s * (x % 2 ^ (64 - s) + 1) ≤ 2 ^ s * 2 ^ (64 - s) := Nat.mul_le_mul_left _ hm
    rw [Nat.mul_add] at this; omega
  refine ⟨?_, ?_, ?_⟩
  · rw [e3, Nat.or_comm, or_low s hc, hsum, Nat.mul_add_mod, Nat.mod_eq_of_lt hlt]
  · rw [e2, hsum, Nat.mul_add_div B_pos, Nat.div_eq_of_lt hlt, Nat.add_zero]
  · rw [e2, Nat.div_lt_iff_lt_mul (Nat.pow_pos (by decide)), ← Nat.pow_add, show s + (64 - s) = 64 by omega]
    exact hx

/-- The carry out of the lowest k limbs, moved up. -/
def scry (A s k : Nat) : Nat := (A % B64 ^ k * 2 ^ s) / B64 ^ k
theorem scry_lt (A s k : Nat) : scry A s k < 2 ^ s := by
  unfold scry
  rw [Nat.div_lt_iff_lt_mul (Bp_pos k), Nat.mul_comm]
  exact Nat.mul_lt_mul_of_pos_left (Nat.mod_lt _ (Bp_pos k)) (Nat.pow_pos (by decide))
theorem scry_sum (A s k : Nat) : (A % B64 ^ (k + 1) * 2 ^ s) / B64 ^ k = A / B64 ^ k % B64 * 2 ^ s + scry A s k := by
  rw [Nat.mod_pow_succ, Nat.add_mul, Nat.mul_assoc, Nat.add_mul_div_left _ _ (Bp_pos k), Nat.add_comm]; rfl
theorem scry_succ (A s k : Nat) : scry A s (k + 1) = (A / B64 ^ k % B64 * 2 ^ s + scry A s k) / B64 := by
  rw [← scry_sum, Nat.div_div_eq_div_mul, ← Nat.pow_succ]; rfl
theorem shift_digit (A s k : Nat) : (A * 2 ^ s) / B64 ^ k % B64 = (A / B64 ^ k % B64 * 2 ^ s + scry A s k) % B64 := by
  rw [← scry_sum]
  have h1 : A * 2 ^ s = A % B64 ^ (k + 1) * 2 ^ s + B64 ^ k * (B64 * (A / B64 ^ (k + 1) * 2 ^ s)) := by
    conv => lhs; rw [← Nat.mod_add_div A (B64 ^ (k + 1)), Nat.add_mul]
    rw [← Nat.mul_assoc, ← Nat.pow_succ, Nat.succ_eq_add_one, Nat.mul_assoc]
  conv => lhs; rw [h1]
  rw [Nat.add_mul_div_left _ _ (Bp_pos k), Nat.add_mul_mod_self_left]
/-- The lowest k limbs of what is moved up, the carry, noughts. -/
def shl (N A s k : Nat) : List Nat := digs k (A * 2 ^ s) ++ scry A s k :: List.replicate (N - k - 1) 0
end Go.Proofs.Ytpanbfainilmpaa.Ev.N
end
section
/- A number moved up by fewer than 64 bits, in the caller's memory. -/
set_option linter.unusedVariables false
set_option linter.unusedSimpArgs false
set_option maxRecDepth 100000
set_option maxHeartbeats 4000000
namespace Go.Proofs.Ytpanbfainilmpaa.Ev.N
open Go Go.Proofs.Ytpanbfainilmpaa.Ev

theorem up_step {a : List Nat} (ha : Limbs a) {s i : Nat} (hs : s < 64) (hi : i < a.length) :
    (digs (a.length + 1) (val a % B64 ^ i * 2 ^ s))[i]'(by rw [digs_len]; omega) = scry (val a) s i ∧
    ((digs (a.length + 1) (val a % B64 ^ i * 2 ^ s)).set i (scry (val a) s i ||| a[i] * 2 ^ s % B64)).set (i + 1) (a[i] / 2 / 2 ^ (63 - s)) = digs (a.length + 1) (val a % B64 ^ (i + 1) * 2 ^ s) := by
  have hx := ha.get hi
  have hc := scry_lt (val a) s i
  have h2s : 2 ^ s < B64 := by rw [B_eq]; exact Nat.pow_lt_pow_right (by decide) hs
  obtain ⟨t1, t2, t3⟩ := shift_step hx hs hc
  have hlt : val a % B64 ^ i * 2 ^ s < B64 ^ i * 2 ^ s := Nat.mul_lt_mul_of_pos_right (Nat.mod_lt _ (Bp_pos i)) (Nat.pow_pos (by decide))
  have hle : B64 ^ i * 2 ^ s ≤ B64 ^ (i + 1) := by rw [Nat.pow_succ]; exact Nat.mul_le_mul_left _ (by omega)
  have hN : B64 ^ (i + 1) ≤ B64 ^ (a.length + 1) := Nat.pow_le_pow_right B_pos (by omega)
  have e0 : (digs (a.length + 1) (val a % B64 ^ i * 2 ^ s))[i]'(by rw [digs_len]; omega) = scry (val a) s i := by
    rw [digs_get]
    show scry (val a) s i % B64 = _
    exact Nat.mod_eq_of_lt (Nat.lt_trans hc h2s)
  refine ⟨e0, ?_⟩
  have hvd : val (digs (a.length + 1) (val a % B64 ^ i * 2 ^ s)) = val a % B64 ^ i * 2 ^ s := by
    rw [val_digs, Nat.mod_eq_of_lt (Nat.lt_of_lt_of_le hlt (Nat.le_trans hle hN))]
  have il : i < (digs (a.length + 1) (val a % B64 ^ i * 2 ^ s)).length := by rw [digs_len]; omega
  have v1 := val_set il (scry (val a) s i ||| a[i] * 2 ^ s % B64)
  rw [e0, hvd] at v1
  have l1 : Limbs ((digs (a.length + 1) (val a % B64 ^ i * 2 ^ s)).set i (scry (val a) s i ||| a[i] * 2 ^ s % B64)) := (digs_limbs _ _).set (by rw [t1]; exact Nat.mod_lt _ B_pos) _
  have il2 : i + 1 < ((digs (a.length + 1) (val a % B64 ^ i * 2 ^ s)).set i (scry (val a) s i ||| a[i] * 2 ^ s % B64)).length := by rw [List.length_set, digs_len]; omega
  have v2 := val_set il2 (a[i] / 2 / 2 ^ (63 - s))
  have e1 : ((digs (a.length + 1) (val a % B64 ^ i * 2 ^ s)).set i (scry (val a) s i ||| a[i] * 2 ^ s % B64))[i + 1] = 0 := by
    rw [List.getElem_set_ne (by omega), digs_get, Nat.div_eq_of_lt (Nat.lt_of_lt_of_le hlt hle)]; rfl
  rw [e1, Nat.mul_zero, Nat.add_zero] at v2
  have hv : val (((digs (a.length + 1) (val a % B64 ^ i * 2 ^ s)).set i (scry (val a) s i ||| a[i] * 2 ^ s % B64)).set (i + 1) (a[i] / 2 / 2 ^ (63 - s))) = val a % B64 ^ (i + 1) * 2 ^ s := by
    have hm : val a % B64 ^ (i + 1) = val a % B64 ^ i + B64 ^ i * a[i] := by rw [Nat.mod_pow_succ, ← limb_eq ha, limb_get hi]
    have hd := Nat.div_add_mod (a[i] * 2 ^ s + scry (val a) s i) B64
    rw [← t1, ← t2] at hd
    rw [v2, hm, Nat.add_mul, Nat.mul_assoc (B64 ^ i)]
    have e3 : B64 ^ (i + 1) * (a[i] / 2 / 2 ^ (63 - s)) + B64 ^ i * (scry (val a) s i ||| a[i] * 2 ^ s % B64) = B64 ^ i * (a[i] * 2 ^ s) + B64 ^ i * scry (val a) s i := by
      rw [Nat.pow_succ, Nat.mul_assoc, ← Nat.mul_add, ← Nat.mul_add, hd]
    omega
  have h := digs_val (l1.set (Nat.lt_trans t3 h2s) (i + 1))
  rw [List.length_set, List.length_set, digs_len, hv] at h
  exact h.symm

theorem Up117_2 {a : List Nat} (ha : Limbs a) (la : a.length ≤ 900000) {s : Nat} (hs : s < 64) : (KL AA XX).icall 117 [(AV.c (C.d (D.sl (List.map n64 (a))))), (AV.c (C.d (D.sc (Value.int IntKind.i64 ((s : Nat))))))] [] 2 = some (.ref 3 0 (a.length + 1), [(2, .tok 0 0), (3, .arr ((digs (a.length + 1) (val a * 2 ^ s)).map w64))], 4) := by
  obtain ⟨N, hN⟩ : ∃ N, a.length + 1 = N := ⟨_, rfl⟩
  have go := iter (F := fun (i : Nat) => loopR AA XX [1, 5, 12, 13, 14] 4 b117_0 (RUN AA XX b117_0 ⟨[(1, (AV.c (C.d (D.sc (Value.int IntKind.i64 ((s : Nat))))))), (5, .ref 3 0 N), (12, (AV.c (C.d (D.sl (List.map n64 (a)))))), (13, (AV.c (C.d (D.sc (Value.int IntKind.i64 (a.length)))))), (14, (AV.c (C.d (D.sc (Value.int IntKind.i64 (i))))))], [(2, .tok 0 0), (3, .arr ((digs N (val a % B64 ^ i * 2 ^ s)).map w64))], 4⟩)) (Nat.zero_le a.length) fun i _ hi => by
    obtain ⟨e0, e1⟩ := up_step ha hs hi
    have hlt := ltT hi
    have hg := getn hi
    have hw := wrap_succ i (by omega)
    have hx := ha.get hi
    have il : i < (digs N (val a % B64 ^ i * 2 ^ s)).length := by rw [digs_len]; omega
    have hgc := getc il
    have hdl := digs_len N (val a % B64 ^ i * 2 ^ s)
    have q0 : ((0 : Int) ≤ ((s : Nat) : Int)) = True := eq_true (by omega)
    have m64 := min64 hs
    have w1 := shl_or hx hs
    have hc := scry_lt (val a) s i
    have h2s : 2 ^ s < B64 := by rw [B_eq]; exact Nat.pow_lt_pow_right (by decide) hs
    have w2 : borI .u64 ((scry (val a) s i : Nat) : Int) ((a[i] * 2 ^ s % B64 : Nat) : Int) = ((scry (val a) s i ||| a[i] * 2 ^ s % B64 : Nat) : Int) := borI_u (by omega) (Nat.mod_lt _ B_pos)
    have w3 : IntKind.i64.wrap (63 - ((s : Nat) : Int)) = ((63 - s : Nat) : Int) := by rw [wrap_i64 _ (by omega) (by omega)]; omega
    have q0' : ((0 : Int) ≤ ((63 - s : Nat) : Int)) = True := eq_true (by omega)
    have m63 : min (63 - s) 64 = 63 - s := by omega
    have hsh : ∀ z : Nat, z / 2 ^ 1 = z / 2 := fun z => by rw [Nat.pow_one]
    have q1 : ((i : Int) < (N : Int)) = True := eq_true (by omega)
    have q2 : (i < N) = True := eq_true (by omega)
    have q3 : (((i + 1 : Nat) : Int) < (N : Int)) = True := eq_true (by omega)
    have q4 : (i + 1 < N) = True := eq_true (by omega)
    subst hN
    rw [e0] at hgc
    show loopR _ _ _ _ _ (RUN _ _ _ _) = _
    rw [b117_0_run]
    simp only [go_sem, ↓reduceIte, Nat.reduceAdd, Nat.reduceSub, Nat.reduceMul, Nat.reduceEqDiff, Nat.reduceLT, Nat.reduceShiftRight, Nat.reduceAnd, Nat.reduceBNe, Nat.reduceLeDiff, Nat.reduceBEq, Nat.testBit, Nat.zero_lt_one, Int.reduceToNat, Int.reduceNeg, Int.reduceLE, Int.reduceLT, Int.reduceEq, decide_true, decide_false, Bool.and_true, Bool.true_and, Bool.and_false, Bool.false_and, Bool.or_true, Bool.true_or, Bool.or_false, Bool.false_or, Bool.not_true, Bool.not_false, beq_self_eq_true, reduceCtorEq, Int.le_refl, Nat.add_zero, and_self, and_true, true_and, or_true, true_or, if_true, if_false, Nat.le_refl, Bool.and_self, eq_self, Bool.not_false, Bool.not_true, hlt, hg, hw, hgc, q0, q0', m64, m63, min1, w1, w2, w3, bin_orI, shr_n, hsh, Int.toNat_natCast, q1, q2, q3, q4, lenc, List.length_set, hdl, setc, e1, oldc, Nat.mul_one]
  have hA : val a % B64 ^ a.length = val a := Nat.mod_eq_of_lt (val_lt ha)
  have hz0 : digs N 0 = List.replicate N 0 := digs_zero N
  simp only [Nat.pow_zero, Nat.mod_one, Nat.zero_mul, hz0, hA, show ((0 : Nat) : Int) = 0 from rfl] at go
  have w0 : IntKind.i64.wrap ((a.length : Int) + 1) = (N : Int) := by rw [← hN]; exact wrap_succ _ (by omega)
  have q0 : ((0 : Int) ≤ (N : Int)) = True := eq_true (by omega)
  have q1 : ((N : Int) * ((8 : Nat) : Int) ≤ (maxBytes : Int)) = True := by
    have h1 : maxBytes = 140737488355328 := rfl
    rw [h1]; exact eq_true (by omega)
  have hz := zeroc N
  rw [ICALL_def AA XX (fn := a117) rfl [(AV.c (C.d (D.sl (List.map n64 (a))))), (AV.c (C.d (D.sc (Value.int IntKind.i64 ((s : Nat))))))] [] 2 rfl, hN]
  simp only [a117, go_sem, ↓reduceIte, Nat.reduceAdd, Nat.reduceSub, Nat.reduceMul, Nat.reduceEqDiff, Nat.reduceLT, Nat.reduceShiftRight, Nat.reduceAnd, Nat.reduceBNe, Nat.reduceLeDiff, Nat.reduceBEq, Nat.testBit, Nat.zero_lt_one, Int.reduceToNat, Int.reduceNeg, Int.reduceLE, Int.reduceLT, Int.reduceEq, decide_true, decide_false, Bool.and_true, Bool.true_and, Bool.and_false, Bool.false_and, Bool.or_true, Bool.true_or, Bool.or_false, Bool.false_or, Bool.not_true, Bool.not_false, beq_self_eq_true, reduceCtorEq, Int.le_refl, Nat.add_zero, and_self, and_true, true_and, or_true, true_or, if_true, if_false, Nat.le_refl, Bool.and_self, eq_self, Bool.not_false, Bool.not_true, w0, q0, q1, hz, oldc, Int.toNat_natCast, List.length_cons, List.length_nil]
  rw [go, b117_0_run]
  simp only [go_sem, ↓reduceIte, Nat.reduceAdd, Nat.reduceSub, Nat.reduceMul, Nat.reduceEqDiff, Nat.reduceLT, Nat.reduceShiftRight, Nat.reduceAnd, Nat.reduceBNe, Nat.reduceLeDiff, Nat.reduceBEq, Nat.testBit, Nat.zero_lt_one, Int.reduceToNat, Int.reduceNeg, Int.reduceLE, Int.reduceLT, Int.reduceEq, decide_true, decide_false, Bool.and_true, Bool.true_and, Bool.and_false, Bool.false_and, Bool.or_true, Bool.true_or, Bool.or_false, Bool.false_or, Bool.not_true, Bool.not_false, beq_self_eq_true, reduceCtorEq, Int.le_refl, Nat.add_zero, and_self, and_true, true_and, or_true, true_or, if_true, if_false, Nat.le_refl, Bool.and_self, eq_self, Bool.not_false, Bool.not_true, Int.lt_irrefl, oldc]
  rfl

theorem Up117_4 {a : List Nat} (ha : Limbs a) (la : a.length ≤ 900000) {s : Nat} (hs : s < 64) : (KL AA XX).icall 117 [(AV.c (C.d (D.sl (List.map n64 (a))))), (AV.c (C.d (D.sc (Value.int IntKind.i64 ((s : Nat))))))] [] 4 = some (.ref 5 0 (a.length + 1), [(4, .tok 0 0), (5, .arr ((digs (a.length + 1) (val a * 2 ^ s)).map w64))], 6) := by
  obtain ⟨N, hN⟩ : ∃ N, a.length + 1 = N := ⟨_, rfl⟩
  have go := iter (F := fun (i : Nat) => loopR AA XX [1, 5, 12, 13, 14] 6 b117_0 (RUN AA XX b117_0 ⟨[(1, (AV.c (C.d (D.sc (Value.int IntKind.i64 ((s : Nat))))))), (5, .ref 5 0 N), (12, (AV.c (C.d (D.sl (List.map n64 (a)))))), (13, (AV.c (C.d (D.sc (Value.int IntKind.i64 (a.length)))))), (14, (AV.c (C.d (D.sc (Value.int IntKind.i64 (i))))))], [(4, .tok 0 0), (5, .arr ((digs N (val a % B64 ^ i * 2 ^ s)).map w64))], 6⟩)) (Nat.zero_le a.length) fun i _ hi => by
    obtain ⟨e0, e1⟩ := up_step ha hs hi
    have hlt := ltT hi
    have hg := getn hi
    have hw := wrap_succ i (by omega)
    have hx := ha.get hi
    have il : i < (digs N (val a % B64 ^ i * 2 ^ s)).length := by rw [digs_len]; omega
    have hgc := getc il
    have hdl := digs_len N (val a % B64 ^ i * 2 ^ s)
    have q0 : ((0 : Int) ≤ ((s : Nat) : Int)) = True := eq_true (by omega)
    have m64 := min64 hs
    have w1 := shl_or hx hs
    have hc := scry_lt (val a) s i
    have h2s : 2 ^ s < B64 := by rw [B_eq]; exact Nat.pow_lt_pow_right (by decide) hs
    have w2 : borI .u64 ((scry (val a) s i : Nat) : Int) ((a[i] * 2 ^ s % B64 : Nat) : Int) = ((scry (val a) s i ||| a[i] * 2 ^ s % B64 : Nat) : Int) := borI_u (by omega) (Nat.mod_lt _ B_pos)
    have w3 : IntKind.i64.wrap (63 - ((s : Nat) : Int)) = ((63 - s : Nat) : Int) := by rw [wrap_i64 _ (by omega) (by omega)]; omega
    have q0' : ((0 : Int) ≤ ((63 - s : Nat) : Int)) = True := eq_true (by omega)
    have m63 : min (63 - s) 64 = 63 - s := by omega
    have hsh : ∀ z : Nat, z / 2 ^ 1 = z / 2 := fun z => by rw [Nat.pow_one]
    have q1 : ((i : Int) < (N : Int)) = True := eq_true (by omega)
    have q2 : (i < N) = True := eq_true (by omega)
    have q3 : (((i + 1 : Nat) : Int) < (N : Int)) = True := eq_true (by omega)
    have q4 : (i + 1 < N) = True := eq_true (by omega)
    subst hN
    rw [e0] at hgc
    show loopR _ _ _ _ _ (RUN _ _ _ _) = _
    rw [b117_0_run]
    simp only [go_sem, ↓reduceIte, Nat.reduceAdd, Nat.reduceSub, Nat.reduceMul, Nat.reduceEqDiff, Nat.reduceLT, Nat.reduceShiftRight, Nat.reduceAnd, Nat.reduceBNe, Nat.reduceLeDiff, Nat.reduceBEq, Nat.testBit, Nat.zero_lt_one, Int.reduceToNat, Int.reduceNeg, Int.reduceLE, Int.reduceLT, Int.reduceEq, decide_true, decide_false, Bool.and_true, Bool.true_and, Bool.and_false, Bool.false_and, Bool.or_true, Bool.true_or, Bool.or_false, Bool.false_or, Bool.not_true, Bool.not_false, beq_self_eq_true, reduceCtorEq, Int.le_refl, Nat.add_zero, and_self, and_true, true_and, or_true, true_or, if_true, if_false, Nat.le_refl, Bool.and_self, eq_self, Bool.not_false, Bool.not_true, hlt, hg, hw, hgc, q0, q0', m64, m63, min1, w1, w2, w3, bin_orI, shr_n, hsh, Int.toNat_natCast, q1, q2, q3, q4, lenc, List.length_set, hdl, setc, e1, oldc, Nat.mul_one]
  have hA : val a % B64 ^ a.length = val a := Nat.mod_eq_of_lt (val_lt ha)
  have hz0 : digs N 0 = List.replicate N 0 := digs_zero N
  simp only [Nat.pow_zero, Nat.mod_one, Nat.zero_mul, hz0, hA, show ((0 : Nat) : Int) = 0 from rfl] at go
  have w0 : IntKind.i64.wrap ((a.length : Int) + 1) = (N : Int) := by rw [← hN]; exact wrap_succ _ (by omega)
  have q0 : ((0 : Int) ≤ (N : Int)) = True := eq_true (by omega)
  have q1 : ((N : Int) * ((8 : Nat) : Int) ≤ (maxBytes : Int)) = True := by
    have h1 : maxBytes = 140737488355328 := rfl
    rw [h1]; exact eq_true (by omega)
  have hz := zeroc N
  rw [ICALL_def AA XX (fn := a117) rfl [(AV.c (C.d (D.sl (List.map n64 (a))))), (AV.c (C.d (D.sc (Value.int IntKind.i64 ((s : Nat))))))] [] 4 rfl, hN]
  simp only [a117, go_sem, ↓reduceIte, Nat.reduceAdd, Nat.reduceSub, Nat.reduceMul, Nat.reduceEqDiff, Nat.reduceLT, Nat.reduceShiftRight, Nat.reduceAnd, Nat.reduceBNe, Nat.reduceLeDiff, Nat.reduceBEq, Nat.testBit, Nat.zero_lt_one, Int.reduceToNat, Int.reduceNeg, Int.reduceLE, Int.reduceLT, Int.reduceEq, decide_true, decide_false, Bool.and_true, Bool.true_and, Bool.and_false, Bool.false_and, Bool.or_true, Bool.true_or, Bool.or_false, Bool.false_or, Bool.not_true, Bool.not_false, beq_self_eq_true, reduceCtorEq, Int.le_refl, Nat.add_zero, and_self, and_true, true_and, or_true, true_or, if_true, if_false, Nat.le_refl, Bool.and_self, eq_self, Bool.not_false, Bool.not_true, w0, q0, q1, hz, oldc, Int.toNat_natCast, List.length_cons, List.length_nil]
  rw [go, b117_0_run]
  simp only [go_sem, ↓reduceIte, Nat.reduceAdd, Nat.reduceSub, Nat.reduceMul, Nat.reduceEqDiff, Nat.reduceLT, Nat.reduceShiftRight, Nat.reduceAnd, Nat.reduceBNe, Nat.reduceLeDiff, Nat.reduceBEq, Nat.testBit, Nat.zero_lt_one, Int.reduceToNat, Int.reduceNeg, Int.reduceLE, Int.reduceLT, Int.reduceEq, decide_true, decide_false, Bool.and_true, Bool.true_and, Bool.and_false, Bool.false_and, Bool.or_true, Bool.true_or, Bool.or_false, Bool.false_or, Bool.not_true, Bool.not_false, beq_self_eq_true, reduceCtorEq, Int.le_refl, Nat.add_zero, and_self, and_true, true_and, or_true, true_or, if_true, if_false, Nat.le_refl, Bool.and_self, eq_self, Bool.not_false, Bool.not_true, Int.lt_irrefl, oldc]
  rfl
end Go.Proofs.Ytpanbfainilmpaa.Ev.N
end
section
/- A number moved down by fewer than 64 bits. -/
set_option linter.unusedVariables false
set_option linter.unusedSimpArgs false
set_option maxRecDepth 100000
set_option maxHeartbeats 4000000
namespace Go.Proofs.Ytpanbfainilmpaa.Ev.N
open Go Go.Proofs.Ytpanbfainilmpaa.Ev

theorem down_digit {a : List Nat} (ha : Limbs a) {s i : Nat} (hs : s < 64) : (val a / 2 ^ s) / B64 ^ i % B64 = limb a i / 2 ^ s + 2 ^ (64 - s) * (limb a (i + 1) % 2 ^ s) := by
  have hp : 0 < 2 ^ s := Nat.pow_pos (by decide)
  have hq : 0 < 2 ^ (64 - s) := Nat.pow_pos (by decide)
  have e1 : B64 = 2 ^ s * 2 ^ (64 - s) := by rw [← Nat.pow_add, show s + (64 - s) = 64 by omega]; rfl
  have hd := Nat.div_add_mod (val a / B64 ^ i) B64
  have h1 : (val a / 2 ^ s) / B64 ^ i = limb a i / 2 ^ s + 2 ^ (64 - s) * (val a / B64 ^ (i + 1)) := by
    rw [Nat.div_div_eq_div_mul, Nat.mul_comm (2 ^ s), ← Nat.div_div_eq_div_mul]
    conv => lhs; rw [← hd, Nat.div_div_eq_div_mul, ← Nat.pow_succ, ← limb_eq ha]
    rw [Nat.succ_eq_add_one]
    conv => lhs; rw [e1]
    rw [Nat.mul_assoc, Nat.add_comm, Nat.add_mul_div_left _ _ hp, ← e1]
  have hx := limb_lt ha i
  have hx2 : limb a i / 2 ^ s < 2 ^ (64 - s) := by rw [Nat.div_lt_iff_lt_mul hp, Nat.mul_comm, ← e1]; exact hx
  have h2 : val a / B64 ^ (i + 1) % 2 ^ s = limb a (i + 1) % 2 ^ s := by
    rw [limb_eq ha, Nat.mod_mod_of_dvd]
    rw [e1]; exact Nat.dvd_mul_right _ _
  have hd2 := Nat.div_add_mod (val a / B64 ^ (i + 1)) (2 ^ s)
  have hm := Nat.mod_lt (val a / B64 ^ (i + 1)) hp
  rw [h1]
  have e3 : limb a i / 2 ^ s + 2 ^ (64 - s) * (val a / B64 ^ (i + 1)) = B64 * (val a / B64 ^ (i + 1) / 2 ^ s) + (limb a i / 2 ^ s + 2 ^ (64 - s) * (val a / B64 ^ (i + 1) % 2 ^ s)) := by
    conv => lhs; rw [← hd2, Nat.mul_add, ← Nat.mul_assoc, Nat.mul_comm (2 ^ (64 - s)) (2 ^ s), ← e1]
    omega
  have hlt : limb a i / 2 ^ s + 2 ^ (64 - s) * (val a / B64 ^ (i + 1) % 2 ^ s) < B64 := by
    have : 2 ^ (64 - s) * (val a / B64 ^ (i + 1) % 2 ^ s + 1) ≤ 2 ^ (64 - s) * 2 ^ s := Nat.mul_le_mul_left _ hm
    rw [Nat.mul_add, Nat.mul_comm (2 ^ (64 - s)) (2 ^ s), ← e1] at this
    omega
  rw [e3, Nat.mul_add_mod, Nat.mod_eq_of_lt hlt, h2]
/-- One limb moved down. -/
theorem down_or {x y s : Nat} (hx : x < B64) (hy : y < B64) (hs : s < 64) : (x / 2 ^ s ||| y * 2 % B64 * 2 ^ (63 - s) % B64) = x / 2 ^ s + 2 ^ (64 - s) * (y % 2 ^ s) := by
  have hp : 0 < 2 ^ s := Nat.pow_pos (by decide)
  have e1 : B64 = 2 ^ (64 - s) * 2 ^ s := by rw [← Nat.pow_add, show 64 - s + s = 64 by omega]; rfl
  have e2 : y * 2 % B64 * 2 ^ (63 - s) % B64 = 2 ^ (64 - s) * (y % 2 ^ s) := by
    rw [Nat.mod_mul_mod, Nat.mul_assoc, ← Nat.pow_succ', show (63 - s).succ = 64 - s by omega, Nat.mul_comm y, e1, Nat.mul_mod_mul_left]
  have hx2 : x / 2 ^ s < 2 ^ (64 - s) := by rw [Nat.div_lt_iff_lt_mul hp, ← e1]; exact hx
  rw [e2, Nat.or_comm, or_low _ hx2]; omega
theorem low_set {N X i d : Nat} (hi : i < N) (hd : d = X / B64 ^ i % B64) : (digs N (X % B64 ^ i)).set i d = digs N (X % B64 ^ (i + 1)) ∧ (digs N (X % B64 ^ i))[i]'(by rw [digs_len]; exact hi) = 0 := by
  have hz : (digs N (X % B64 ^ i))[i]'(by rw [digs_len]; exact hi) = 0 := by
    rw [digs_get, Nat.div_eq_of_lt (Nat.mod_lt _ (Bp_pos i))]; rfl
  refine ⟨?_, hz⟩
  have hle : B64 ^ i ≤ B64 ^ N := Nat.pow_le_pow_right B_pos (by omega)
  have v := val_set (l := digs N (X % B64 ^ i)) (by rw [digs_len]; exact hi) d
  rw [hz, val_digs, Nat.mod_eq_of_lt (Nat.lt_of_lt_of_le (Nat.mod_lt _ (Bp_pos i)) hle), Nat.mul_zero, Nat.add_zero, hd, ← Nat.mod_pow_succ] at v
  rw [hd]
  exact digs_set hi (Nat.mod_lt _ B_pos) v
theorem set_set {L : List Nat} (i x y : Nat) : (L.set i x).set i y = L.set i y := List.set_set ..
theorem Back119 {a : List Nat} (ha : Limbs a) (la : a.length ≤ 900000) {s : Nat} (hs : s < 64) : (KL AA XX).call 119 [(PV.one (D.sl (List.map n64 (a)))), (PV.one (D.sc (Value.int IntKind.i64 ((s : Nat)))))] = some [(PV.one (D.sl (List.map n64 (dig (val a / 2 ^ s)))))] := by
  obtain ⟨N, hN⟩ : ∃ N, a.length = N := ⟨_, rfl⟩
  have go := iter (F := fun (i : Nat) => loopR AA XX [0, 1, 5, 11, 12] 2 b119_0 (RUN AA XX b119_0 ⟨[(0, (AV.c (C.d (D.sl (List.map n64 (a)))))), (1, (AV.c (C.d (D.sc (Value.int IntKind.i64 ((s : Nat))))))), (5, .ref 1 0 N), (11, (AV.c (C.d (D.sc (Value.int IntKind.i64 (N)))))), (12, (AV.c (C.d (D.sc (Value.int IntKind.i64 (i))))))], [(0, .tok 0 0), (1, .arr ((digs N (val a / 2 ^ s % B64 ^ i)).map w64))], 2⟩)) (Nat.zero_le N) fun i _ hiN => by
    have hi : i < a.length := by omega
    have hlt : decide ((i : Int) < (N : Int)) = true := ltT hiN
    have hg := getn hi
    have hw := wrap_succ i (by omega)
    have hx := ha.get hi
    have q0 : ((0 : Int) ≤ ((s : Nat) : Int)) = True := eq_true (by omega)
    have m64 := min64 hs
    have q1 : ((i : Int) < (N : Int)) = True := eq_true (by omega)
    have q2 : (i < N) = True := eq_true (by omega)
    have hdg := down_digit ha (s := s) (i := i) hs
    rw [limb_get hi] at hdg
    have hdl := digs_len N (val a / 2 ^ s % B64 ^ i)
    show loopR _ _ _ _ _ (RUN _ _ _ _) = _
    rw [b119_0_run]
    by_cases hi1 : i + 1 < a.length
    · have hlt1 : decide (((i + 1 : Nat) : Int) < (a.length : Int)) = true := ltT hi1
      have hg1 := getn hi1
      have hy := ha.get hi1
      rw [limb_get hi1] at hdg
      have hor := down_or hx hy hs
      rw [← hdg] at hor
      obtain ⟨s1, s2⟩ := low_set (X := val a / 2 ^ s) (d := a[i] / 2 ^ s ||| a[i + 1] * 2 % B64 * 2 ^ (63 - s) % B64) hiN hor
      have hgc : ((digs N (val a / 2 ^ s % B64 ^ i)).set i (a[i] / 2 ^ s))[i]? = some (a[i] / 2 ^ s) := by
        rw [List.getElem?_set_self (by omega)]
      have hgc2 : (((digs N (val a / 2 ^ s % B64 ^ i)).set i (a[i] / 2 ^ s)).map w64)[i]? = some (C.d (D.sc (.int .u64 ((a[i] / 2 ^ s : Nat) : Int)))) := by
        rw [List.getElem?_map, hgc]; rfl
      have w1 : IntKind.u64.wrap ((a[i + 1] : Int) * 2 ^ 1) = ((a[i + 1] * 2 % B64 : Nat) : Int) := shl_or hy (by omega)
      have w2 : IntKind.u64.wrap (((a[i + 1] * 2 % B64 : Nat) : Int) * 2 ^ (63 - s)) = ((a[i + 1] * 2 % B64 * 2 ^ (63 - s) % B64 : Nat) : Int) := shl_or (Nat.mod_lt _ B_pos) (by omega)
      have w3 : IntKind.i64.wrap (63 - ((s : Nat) : Int)) = ((63 - s : Nat) : Int) := by rw [wrap_i64 _ (by omega) (by omega)]; omega
      have q0' : ((0 : Int) ≤ ((63 - s : Nat) : Int)) = True := eq_true (by omega)
      have m63 : min (63 - s) 64 = 63 - s := by omega
      have w4 : borI .u64 ((a[i] / 2 ^ s : Nat) : Int) ((a[i + 1] * 2 % B64 * 2 ^ (63 - s) % B64 : Nat) : Int) = ((a[i] / 2 ^ s ||| a[i + 1] * 2 % B64 * 2 ^ (63 - s) % B64 : Nat) : Int) := borI_u (Nat.lt_of_le_of_lt (Nat.div_le_self _ _) hx) (Nat.mod_lt _ B_pos)
      simp only [go_sem, ↓reduceIte, Nat.reduceAdd, Nat.reduceSub, Nat.reduceMul, Nat.reduceEqDiff, Nat.reduceLT, Nat.reduceShiftRight, Nat.reduceAnd, Nat.reduceBNe, Nat.reduceLeDiff, Nat.reduceBEq, Nat.testBit, Nat.zero_lt_one, Int.reduceToNat, Int.reduceNeg, Int.reduceLE, Int.reduceLT, Int.reduceEq, decide_true, decide_false, Bool.and_true, Bool.true_and, Bool.and_false, Bool.false_and, Bool.or_true, Bool.true_or, Bool.or_false, Bool.false_or, Bool.not_true, Bool.not_false, beq_self_eq_true, reduceCtorEq, Int.le_refl, Nat.add_zero, and_self, and_true, true_and, or_true, true_or, if_true, if_false, Nat.le_refl, Bool.and_self, eq_self, Bool.not_false, Bool.not_true, hlt, hlt1, hg, hg1, hw, q0, q0', m64, m63, min1, w1, w2, w3, w4, bin_orI, shr_n, Int.toNat_natCast, q1, q2, lenc, List.length_set, hdl, setc, hgc2, set_set, s1, oldc, Nat.mul_one]
    · have hlt1 : decide (((i + 1 : Nat) : Int) < (a.length : Int)) = false := ltF (by omega)
      rw [limb_none (by omega), Nat.zero_mod, Nat.mul_zero, Nat.add_zero] at hdg
      obtain ⟨s1, s2⟩ := low_set (X := val a / 2 ^ s) (d := a[i] / 2 ^ s) hiN hdg.symm
      simp only [go_sem, ↓reduceIte, Nat.reduceAdd, Nat.reduceSub, Nat.reduceMul, Nat.reduceEqDiff, Nat.reduceLT, Nat.reduceShiftRight, Nat.reduceAnd, Nat.reduceBNe, Nat.reduceLeDiff, Nat.reduceBEq, Nat.testBit, Nat.zero_lt_one, Int.reduceToNat, Int.reduceNeg, Int.reduceLE, Int.reduceLT, Int.reduceEq, decide_true, decide_false, Bool.and_true, Bool.true_and, Bool.and_false, Bool.false_and, Bool.or_true, Bool.true_or, Bool.or_false, Bool.false_or, Bool.not_true, Bool.not_false, beq_self_eq_true, reduceCtorEq, Int.le_refl, Nat.add_zero, and_self, and_true, true_and, or_true, true_or, if_true, if_false, Nat.le_refl, Bool.and_self, eq_self, Bool.not_false, Bool.not_true, hlt, hlt1, hg, hw, q0, m64, shr_n, Int.toNat_natCast, q1, q2, lenc, hdl, setc, s1, oldc, Nat.mul_one]
  have hA : val a / 2 ^ s % B64 ^ N = val a / 2 ^ s := Nat.mod_eq_of_lt (Nat.lt_of_le_of_lt (Nat.div_le_self _ _) (by rw [← hN]; exact val_lt ha))
  have hz0 : digs N 0 = List.replicate N 0 := digs_zero N
  simp only [Nat.pow_zero, Nat.mod_one, hz0, hA, show ((0 : Nat) : Int) = 0 from rfl] at go
  have q0 : ((0 : Int) ≤ (N : Int)) = True := eq_true (by omega)
  have q1 : ((N : Int) * ((8 : Nat) : Int) ≤ (maxBytes : Int)) = True := by
    have h1 : maxBytes = 140737488355328 := rfl
    rw [h1]; exact eq_true (by omega)
  have hz := zeroc N
  have t := Trim68 (digs_limbs N (val a / 2 ^ s)) (by rw [digs_len]; omega)
  rw [val_digs, hA] at t
  have ch := chunk_w (digs N (val a / 2 ^ s))
  rw [digs_len] at ch
  have hdl := digs_len N (val a / 2 ^ s)
  have q2 : (0 + N * 1 ≤ N) = True := eq_true (by omega)
  rw [c119]
  simp only [go_sem, ↓reduceIte, Nat.reduceAdd, Nat.reduceSub, Nat.reduceMul, Nat.reduceEqDiff, Nat.reduceLT, Nat.reduceShiftRight, Nat.reduceAnd, Nat.reduceBNe, Nat.reduceLeDiff, Nat.reduceBEq, Nat.testBit, Nat.zero_lt_one, Int.reduceToNat, Int.reduceNeg, Int.reduceLE, Int.reduceLT, Int.reduceEq, decide_true, decide_false, Bool.and_true, Bool.true_and, Bool.and_false, Bool.false_and, Bool.or_true, Bool.true_or, Bool.or_false, Bool.false_or, Bool.not_true, Bool.not_false, beq_self_eq_true, reduceCtorEq, Int.le_refl, Nat.add_zero, and_self, and_true, true_and, or_true, true_or, if_true, if_false, Nat.le_refl, Bool.and_self, eq_self, Bool.not_false, Bool.not_true, hN, q0, q1, hz, oldc, Int.toNat_natCast, List.length_cons, List.length_nil]
  rw [go, b119_0_run]
  cases hf : PV.flat (.one (.sl (List.map n64 (dig (val a / 2 ^ s))))) <;>
    simp only [go_sem, ↓reduceIte, Nat.reduceAdd, Nat.reduceSub, Nat.reduceMul, Nat.reduceEqDiff, Nat.reduceLT, Nat.reduceShiftRight, Nat.reduceAnd, Nat.reduceBNe, Nat.reduceLeDiff, Nat.reduceBEq, Nat.testBit, Nat.zero_lt_one, Int.reduceToNat, Int.reduceNeg, Int.reduceLE, Int.reduceLT, Int.reduceEq, decide_true, decide_false, Bool.and_true, Bool.true_and, Bool.and_false, Bool.false_and, Bool.or_true, Bool.true_or, Bool.or_false, Bool.false_or, Bool.not_true, Bool.not_false, beq_self_eq_true, reduceCtorEq, Int.le_refl, Nat.add_zero, and_self, and_true, true_and, or_true, true_or, if_true, if_false, Nat.le_refl, Bool.and_self, eq_self, Bool.not_false, Bool.not_true, Int.lt_irrefl, oldc, lenc, hdl, q2, List.drop_zero, ch, t, Nat.mul_one, hf, Bool.false_eq_true]
end Go.Proofs.Ytpanbfainilmpaa.Ev.N
end
section
/- Windows of an own array: less, plus. -/
set_option linter.unusedVariables false
set_option linter.unusedSimpArgs false
set_option maxRecDepth 100000
set_option maxHeartbeats 4000000
namespace Go.Proofs.Ytpanbfainilmpaa.Ev.N
open Go Go.Proofs.Ytpanbfainilmpaa.Ev

/-- The lowest k limbs from off on are T's. -/
def win (U : List Nat) (off k T : Nat) : List Nat := U.take off ++ digs k T ++ U.drop (off + k)
theorem win_zero (U : List Nat) (off T : Nat) : win U off 0 T = U := by
  unfold win
  rw [show digs 0 T = [] from rfl, List.append_nil, Nat.add_zero, List.take_append_drop]
theorem win_len {U : List Nat} {off k T : Nat} (h : off + k ≤ U.length) : (win U off k T).length = U.length := by
  unfold win
  rw [List.length_append, List.length_append, List.length_take, digs_len, List.length_drop]; omega
theorem win_limbs {U : List Nat} (h : Limbs U) (off k T : Nat) : Limbs (win U off k T) := ((h.take _).append (digs_limbs _ _)).append (h.drop _)
theorem win_get {U : List Nat} {off k T j : Nat} (h : off + k ≤ j) (hj : j < U.length) : (win U off k T)[j]'(by rw [win_len (by omega)]; exact hj) = U[j] := by
  unfold win
  rw [List.getElem_append_right (by rw [List.length_append, List.length_take, digs_len]; omega)]
  simp only [List.getElem_drop, List.length_append, List.length_take, digs_len]
  congr 1; omega
theorem win_set {U : List Nat} {off k T d : Nat} (h : off + k < U.length) (hd : d = T / B64 ^ k % B64) : (win U off k T).set (off + k) d = win U off (k + 1) T := by
  unfold win
  have hl : (U.take off ++ digs k T).length = off + k := by rw [List.length_append, List.length_take, digs_len]; omega
  rw [List.set_append, if_neg (by rw [hl]; omega), hl, Nat.sub_self, List.drop_eq_getElem_cons h, List.set_cons_zero, digs_succ, ← hd]
  simp [Nat.add_assoc]
/-- The worth of k limbs from off on. -/
def wv (U : List Nat) (off k : Nat) : Nat := val ((U.drop off).take k)
theorem wv_limb {U : List Nat} (hU : Limbs U) {off k i : Nat} (hi : i < k) (h : off + i < U.length) : U[off + i] = wv U off k / B64 ^ i % B64 := by
  unfold wv
  have hl : Limbs ((U.drop off).take k) := (hU.drop _).take _
  rw [← limb_eq hl, limb_get (by rw [List.length_take, List.length_drop]; omega)]
  simp
/-- The carry of a number times a word. -/
def mcry (q D k : Nat) : Nat := (q * (D % B64 ^ k)) / B64 ^ k
theorem mcry_zero (q D : Nat) : mcry q D 0 = 0 := by simp [mcry, Nat.mod_one]
theorem mcry_lt {q : Nat} (hq : q < B64) (D k : Nat) : mcry q D k < B64 := by
  unfold mcry
  rw [Nat.div_lt_iff_lt_mul (Bp_pos k)]
  rcases Nat.eq_zero_or_pos q with h | h
  · subst h; rw [Nat.zero_mul]; exact Nat.mul_pos B_pos (Bp_pos k)
  · exact Nat.mul_lt_mul_of_lt_of_le hq (Nat.le_of_lt (Nat.mod_lt _ (Bp_pos k))) (Bp_pos k)
theorem mcry_sum (q D k : Nat) : (q * (D % B64 ^ (k + 1))) / B64 ^ k = q * (D / B64 ^ k % B64) + mcry q D k := by
  rw [Nat.mod_pow_succ, Nat.mul_add, Nat.mul_left_comm, Nat.add_mul_div_left _ _ (Bp_pos k), Nat.add_comm]; rfl
theorem mcry_succ (q D k : Nat) : mcry q D (k + 1) = (q * (D / B64 ^ k % B64) + mcry q D k) / B64 := by
  rw [← mcry_sum, Nat.div_div_eq_div_mul, ← Nat.pow_succ]; rfl
theorem mul_digit (q D k : Nat) : (q * D) / B64 ^ k % B64 = (q * (D / B64 ^ k % B64) + mcry q D k) % B64 := by
  rw [← mcry_sum]
  have h1 : q * D = q * (D % B64 ^ (k + 1)) + B64 ^ k * (B64 * (q * (D / B64 ^ (k + 1)))) := by
    conv => lhs; rw [← Nat.mod_add_div D (B64 ^ (k + 1)), Nat.mul_add]
    rw [← Nat.mul_assoc (B64 ^ k), ← Nat.pow_succ, Nat.succ_eq_add_one, Nat.mul_left_comm]
  conv => lhs; rw [h1]
  rw [Nat.add_mul_div_left _ _ (Bp_pos k), Nat.add_mul_mod_self_left]
theorem mcry_top {q D n : Nat} (hD : D < B64 ^ n) : mcry q D n = (q * D) / B64 ^ n := by
  unfold mcry
  rw [Nat.mod_eq_of_lt hD]
end Go.Proofs.Ytpanbfainilmpaa.Ev.N
end
section
/- less and plus, in the caller's memory. -/
set_option linter.unusedVariables false
set_option linter.unusedSimpArgs false
set_option maxRecDepth 100000
set_option maxHeartbeats 4000000
namespace Go.Proofs.Ytpanbfainilmpaa.Ev.N
open Go Go.Proofs.Ytpanbfainilmpaa.Ev

theorem vtake {V : List Nat} (hV : Limbs V) {n k : Nat} (hk : k < n) (hn : n ≤ V.length) : V[k] = val (V.take n) / B64 ^ k % B64 := by
  have h := limb_eq (hV.take n) k
  rw [limb_get (by rw [List.length_take]; omega)] at h
  rw [← h]; simp
theorem Less126 {U V : List Nat} (hU : Limbs U) (hV : Limbs V) {n off q : Nat} (hn : n ≤ V.length) (ho : off + n < U.length) (hb : U.length ≤ 1000000) (hbv : V.length ≤ 1000000) (hq : q < B64) :
    (KL AA XX).icall 126 [.ref 3 off (n + 1), .ref 5 0 n, (AV.c (C.d (D.sc (Value.int IntKind.u64 ((q : Nat))))))] [(3, .arr (U.map w64)), (5, .arr (V.map w64))] 7 =
      some ((AV.c (C.d (D.sc (Value.bool (decide (wv U off (n + 1) < q * val (V.take n))))))), [(3, .arr ((win U off (n + 1) (wv U off (n + 1) + B64 ^ (n + 1) - q * val (V.take n))).map w64)), (5, .arr (V.map w64))], 7) := by
  obtain ⟨Z, hZ⟩ : ∃ Z, val (V.take n) = Z := ⟨_, rfl⟩
  obtain ⟨W, hW⟩ : ∃ W, wv U off (n + 1) = W := ⟨_, rfl⟩
  have hZl : Z < B64 ^ n := by
    have := val_lt (hV.take n)
    rw [List.length_take, Nat.min_eq_left hn, hZ] at this
    exact this
  have hP : q * Z < B64 ^ (n + 1) := by
    rw [Nat.pow_succ, Nat.mul_comm (B64 ^ n)]
    exact Nat.mul_lt_mul'' hq hZl
  obtain ⟨T, hT⟩ : ∃ T, W + B64 ^ (n + 1) - q * Z = T := ⟨_, rfl⟩
  rw [hZ, hW, hT]
  have go := iter (F := fun (k : Nat) => loopR AA XX [0, 1, 2, 7, 8, 14, 15, 16] 7 b126_0 (RUN AA XX b126_0 ⟨[(0, .ref 3 off (n + 1)), (1, .ref 5 0 n), (2, (AV.c (C.d (D.sc (Value.int IntKind.u64 ((q : Nat))))))), (7, (AV.c (C.d (D.sc (Value.int IntKind.u64 ((mcry q Z k : Nat))))))), (8, (AV.c (C.d (D.sc (Value.int IntKind.u64 ((bor W (q * Z) k : Nat))))))), (14, .ref 5 0 n), (15, (AV.c (C.d (D.sc (Value.int IntKind.i64 (n)))))), (16, (AV.c (C.d (D.sc (Value.int IntKind.i64 (k))))))], [(3, .arr ((win U off k T).map w64)), (5, .arr (V.map w64))], 7⟩)) (Nat.zero_le n) fun k _ hk => by
    have hlt := ltT hk
    have hw := wrap_succ k (by omega)
    have hkl : off + k < U.length := by omega
    have hwl : (win U off k T).length = U.length := win_len (by omega)
    have hg := getc (L := win U off k T) (i := off + k) (by omega)
    rw [win_get (Nat.le_refl _) hkl] at hg
    have hgv := getc (L := V) (i := k) (by omega)
    have hx := wv_limb hU (off := off) (k := n + 1) (i := k) (by omega) hkl
    rw [hW] at hx
    have hy := vtake hV hk hn
    rw [hZ] at hy
    have hyl := hV.get (show k < V.length by omega)
    have m := Mul120 hq hyl
    obtain ⟨s1, _, _, _, _⟩ := mul_step hq hyl (mcry_lt hq Z k) B_pos
    have a1 := Add100 (q * V[k] % B64) (mcry q Z k) (c := 0) (Nat.zero_le _)
    rw [Nat.add_zero] at a1
    have e1 : (q * V[k] % B64 + mcry q Z k) % B64 = (q * Z) / B64 ^ k % B64 := by rw [mul_digit, hy, Nat.mod_add_mod]
    have e2 : q * V[k] / B64 + (q * V[k] % B64 + mcry q Z k) / B64 = mcry q Z (k + 1) := by
      rw [mcry_succ, ← hy]
      have hd := Nat.div_add_mod (q * V[k]) B64
      conv => rhs; rw [← hd, Nat.add_assoc, Nat.mul_add_div B_pos]
    have w1 := wrap_add s1
    rw [e2] at w1
    rw [e1] at a1
    have c103 := Sub103 U[off + k] ((q * Z) / B64 ^ k % B64) (bor_le W (q * Z) k)
    have hs := dif_digit W (q * Z) k (n + 1) (by omega) hP
    have hc := bor_succ W (q * Z) k
    rw [hT, ← hx] at hs
    rw [← hx] at hc
    rw [← hs, ← hc] at c103
    have ws := win_set (T := T) hkl rfl
    have q1 : ((k : Int) < ((n + 1 : Nat) : Int)) = True := eq_true (by omega)
    have q2 : (off + k < U.length) = True := eq_true hkl
    have q3 : ((k : Int) < (n : Int)) = True := eq_true (by omega)
    have q4 : (k < V.length) = True := eq_true (by omega)
    simp only [show ((0 : Nat) : Int) = 0 from rfl] at a1
    show loopR _ _ _ _ _ (RUN _ _ _ _) = _
    rw [b126_0_run]
    simp only [go_sem, ↓reduceIte, Nat.reduceAdd, Nat.reduceSub, Nat.reduceMul, Nat.reduceEqDiff, Nat.reduceLT, Nat.reduceShiftRight, Nat.reduceAnd, Nat.reduceBNe, Nat.reduceLeDiff, Nat.reduceBEq, Nat.testBit, Nat.zero_lt_one, Int.reduceToNat, Int.reduceNeg, Int.reduceLE, Int.reduceLT, Int.reduceEq, decide_true, decide_false, Bool.and_true, Bool.true_and, Bool.and_false, Bool.false_and, Bool.or_true, Bool.true_or, Bool.or_false, Bool.false_or, Bool.not_true, Bool.not_false, beq_self_eq_true, reduceCtorEq, Int.le_refl, Nat.add_zero, and_self, and_true, true_and, or_true, true_or, if_true, if_false, Nat.le_refl, Bool.and_self, eq_self, Bool.not_false, Bool.not_true, hlt, hw, hg, hgv, m, a1, w1, c103, q1, q2, q3, q4, lenc, hwl, setc, ws, oldc, Nat.mul_one]
  simp only [win_zero, mcry_zero, bor_zero, show ((0 : Nat) : Int) = 0 from rfl] at go
  have hkl : off + n < U.length := ho
  have hwl : (win U off n T).length = U.length := win_len (by omega)
  have hg := getc (L := win U off n T) (i := off + n) (by omega)
  rw [win_get (Nat.le_refl _) hkl] at hg
  have hx := wv_limb hU (off := off) (k := n + 1) (i := n) (by omega) hkl
  rw [hW] at hx
  have hWl : W < B64 ^ (n + 1) := by
    rw [← hW]
    have := val_lt ((hU.drop off).take (n + 1))
    rw [List.length_take, List.length_drop, Nat.min_eq_left (by omega)] at this
    exact this
  have ht : mcry q Z n = (q * Z) / B64 ^ n % B64 := by
    rw [mcry_top hZl, Nat.mod_eq_of_lt]
    rw [Nat.div_lt_iff_lt_mul (Bp_pos n), Nat.mul_comm B64, ← Nat.pow_succ]
    exact hP
  have c103 := Sub103 U[off + n] (mcry q Z n) (bor_le W (q * Z) n)
  rw [ht] at c103
  have hs := dif_digit W (q * Z) n (n + 1) (by omega) hP
  have hc := bor_succ W (q * Z) n
  rw [hT, ← hx] at hs
  rw [← hx] at hc
  rw [← hs, ← hc] at c103
  have ws := win_set (T := T) hkl rfl
  have hbor : bor W (q * Z) (n + 1) = if W < q * Z then 1 else 0 := by
    unfold bor
    rw [Nat.mod_eq_of_lt hWl, Nat.mod_eq_of_lt hP]
  rw [← ht] at c103
  have q1 : ((n : Int) < ((n + 1 : Nat) : Int)) = True := eq_true (by omega)
  have q2 : (off + n < U.length) = True := eq_true hkl
  rw [ICALL_def AA XX (fn := a126) rfl [.ref 3 off (n + 1), .ref 5 0 n, (AV.c (C.d (D.sc (Value.int IntKind.u64 ((q : Nat))))))] _ 7 rfl]
  simp only [a126, go_sem, ↓reduceIte, Nat.reduceAdd, Nat.reduceSub, Nat.reduceMul, Nat.reduceEqDiff, Nat.reduceLT, Nat.reduceShiftRight, Nat.reduceAnd, Nat.reduceBNe, Nat.reduceLeDiff, Nat.reduceBEq, Nat.testBit, Nat.zero_lt_one, Int.reduceToNat, Int.reduceNeg, Int.reduceLE, Int.reduceLT, Int.reduceEq, decide_true, decide_false, Bool.and_true, Bool.true_and, Bool.and_false, Bool.false_and, Bool.or_true, Bool.true_or, Bool.or_false, Bool.false_or, Bool.not_true, Bool.not_false, beq_self_eq_true, reduceCtorEq, Int.le_refl, Nat.add_zero, and_self, and_true, true_and, or_true, true_or, if_true, if_false, Nat.le_refl, Bool.and_self, eq_self, Bool.not_false, Bool.not_true, oldc]
  rw [go, b126_0_run]
  by_cases hlt : W < q * Z
  · rw [if_pos hlt] at hbor
    rw [hbor] at c103
    have d1 : decide (W < q * Z) = true := decide_eq_true hlt
    simp only [show ((1 : Nat) : Int) = 1 from rfl] at c103
    rw [d1]
    simp only [go_sem, ↓reduceIte, Nat.reduceAdd, Nat.reduceSub, Nat.reduceMul, Nat.reduceEqDiff, Nat.reduceLT, Nat.reduceShiftRight, Nat.reduceAnd, Nat.reduceBNe, Nat.reduceLeDiff, Nat.reduceBEq, Nat.testBit, Nat.zero_lt_one, Int.reduceToNat, Int.reduceNeg, Int.reduceLE, Int.reduceLT, Int.reduceEq, decide_true, decide_false, Bool.and_true, Bool.true_and, Bool.and_false, Bool.false_and, Bool.or_true, Bool.true_or, Bool.or_false, Bool.false_or, Bool.not_true, Bool.not_false, beq_self_eq_true, reduceCtorEq, Int.le_refl, Nat.add_zero, and_self, and_true, true_and, or_true, true_or, if_true, if_false, Nat.le_refl, Bool.and_self, eq_self, Bool.not_false, Bool.not_true, Int.lt_irrefl, hg, c103, q1, q2, lenc, hwl, setc, ws, oldc, Nat.mul_one]
    rfl
  · rw [if_neg hlt] at hbor
    rw [hbor] at c103
    have d1 : decide (W < q * Z) = false := decide_eq_false hlt
    simp only [show ((0 : Nat) : Int) = 0 from rfl] at c103
    rw [d1]
    simp only [go_sem, ↓reduceIte, Nat.reduceAdd, Nat.reduceSub, Nat.reduceMul, Nat.reduceEqDiff, Nat.reduceLT, Nat.reduceShiftRight, Nat.reduceAnd, Nat.reduceBNe, Nat.reduceLeDiff, Nat.reduceBEq, Nat.testBit, Nat.zero_lt_one, Int.reduceToNat, Int.reduceNeg, Int.reduceLE, Int.reduceLT, Int.reduceEq, decide_true, decide_false, Bool.and_true, Bool.true_and, Bool.and_false, Bool.false_and, Bool.or_true, Bool.true_or, Bool.or_false, Bool.false_or, Bool.not_true, Bool.not_false, beq_self_eq_true, reduceCtorEq, Int.le_refl, Nat.add_zero, and_self, and_true, true_and, or_true, true_or, if_true, if_false, Nat.le_refl, Bool.and_self, eq_self, Bool.not_false, Bool.not_true, Int.lt_irrefl, hg, c103, q1, q2, lenc, hwl, setc, ws, oldc, Nat.mul_one]
    rfl
theorem Plus127 {U V : List Nat} (hU : Limbs U) (hV : Limbs V) {n off : Nat} (hn : n ≤ V.length) (ho : off + n < U.length) (hb : U.length ≤ 1000000) (hbv : V.length ≤ 1000000) :
    (KL AA XX).icall 127 [.ref 3 off (n + 1), .ref 5 0 n] [(3, .arr (U.map w64)), (5, .arr (V.map w64))] 7 =
      some ((AV.c (C.d (D.sc (Value.bool (decide (B64 ^ (n + 1) ≤ wv U off (n + 1) + val (V.take n))))))), [(3, .arr ((win U off (n + 1) (wv U off (n + 1) + val (V.take n))).map w64)), (5, .arr (V.map w64))], 7) := by
  obtain ⟨Z, hZ⟩ : ∃ Z, val (V.take n) = Z := ⟨_, rfl⟩
  obtain ⟨W, hW⟩ : ∃ W, wv U off (n + 1) = W := ⟨_, rfl⟩
  have hZl : Z < B64 ^ n := by
    have := val_lt (hV.take n)
    rw [List.length_take, Nat.min_eq_left hn, hZ] at this
    exact this
  rw [hZ, hW]
  have go := iter (F := fun (k : Nat) => loopR AA XX [0, 1, 5, 8, 9, 10] 7 b127_0 (RUN AA XX b127_0 ⟨[(0, .ref 3 off (n + 1)), (1, .ref 5 0 n), (5, (AV.c (C.d (D.sc (Value.int IntKind.u64 ((cry W Z k : Nat))))))), (8, .ref 5 0 n), (9, (AV.c (C.d (D.sc (Value.int IntKind.i64 (n)))))), (10, (AV.c (C.d (D.sc (Value.int IntKind.i64 (k))))))], [(3, .arr ((win U off k (W + Z)).map w64)), (5, .arr (V.map w64))], 7⟩)) (Nat.zero_le n) fun k _ hk => by
    have hlt := ltT hk
    have hw := wrap_succ k (by omega)
    have hkl : off + k < U.length := by omega
    have hwl : (win U off k (W + Z)).length = U.length := win_len (by omega)
    have hg := getc (L := win U off k (W + Z)) (i := off + k) (by omega)
    rw [win_get (Nat.le_refl _) hkl] at hg
    have hgv := getc (L := V) (i := k) (by omega)
    have hx := wv_limb hU (off := off) (k := n + 1) (i := k) (by omega) hkl
    rw [hW] at hx
    have hy := vtake hV hk hn
    rw [hZ] at hy
    have c100 := Add100 U[off + k] V[k] (cry_le W Z k)
    have hs := sum_digit W Z k
    have hc := cry_succ W Z k
    rw [← hx, ← hy] at hs hc
    rw [← hs, ← hc] at c100
    have ws := win_set (T := W + Z) hkl rfl
    have q1 : ((k : Int) < ((n + 1 : Nat) : Int)) = True := eq_true (by omega)
    have q2 : (off + k < U.length) = True := eq_true hkl
    have q3 : ((k : Int) < (n : Int)) = True := eq_true (by omega)
    have q4 : (k < V.length) = True := eq_true (by omega)
    show loopR _ _ _ _ _ (RUN _ _ _ _) = _
    rw [b127_0_run]
    simp only [go_sem, ↓reduceIte, Nat.reduceAdd, Nat.reduceSub, Nat.reduceMul, Nat.reduceEqDiff, Nat.reduceLT, Nat.reduceShiftRight, Nat.reduceAnd, Nat.reduceBNe, Nat.reduceLeDiff, Nat.reduceBEq, Nat.testBit, Nat.zero_lt_one, Int.reduceToNat, Int.reduceNeg, Int.reduceLE, Int.reduceLT, Int.reduceEq, decide_true, decide_false, Bool.and_true, Bool.true_and, Bool.and_false, Bool.false_and, Bool.or_true, Bool.true_or, Bool.or_false, Bool.false_or, Bool.not_true, Bool.not_false, beq_self_eq_true, reduceCtorEq, Int.le_refl, Nat.add_zero, and_self, and_true, true_and, or_true, true_or, if_true, if_false, Nat.le_refl, Bool.and_self, eq_self, Bool.not_false, Bool.not_true, hlt, hw, hg, hgv, c100, q1, q2, q3, q4, lenc, hwl, setc, ws, oldc, Nat.mul_one]
  simp only [win_zero, cry_zero, show ((0 : Nat) : Int) = 0 from rfl] at go
  have hkl : off + n < U.length := ho
  have hwl : (win U off n (W + Z)).length = U.length := win_len (by omega)
  have hg := getc (L := win U off n (W + Z)) (i := off + n) (by omega)
  rw [win_get (Nat.le_refl _) hkl] at hg
  have hx := wv_limb hU (off := off) (k := n + 1) (i := n) (by omega) hkl
  rw [hW] at hx
  have hWl : W < B64 ^ (n + 1) := by
    rw [← hW]
    have := val_lt ((hU.drop off).take (n + 1))
    rw [List.length_take, List.length_drop, Nat.min_eq_left (by omega)] at this
    exact this
  have hZ0 : Z / B64 ^ n % B64 = 0 := by rw [Nat.div_eq_of_lt hZl]; rfl
  have c100 := Add100 U[off + n] (cry W Z n) (c := 0) (Nat.zero_le _)
  have hs := sum_digit W Z n
  have hc := cry_succ W Z n
  rw [hZ0, ← hx, Nat.add_zero] at hs
  rw [hZ0, ← hx, Nat.add_zero U[off + n]] at hc
  rw [Nat.add_zero (U[off + n] + cry W Z n), ← hs, ← hc] at c100
  have ws := win_set (T := W + Z) hkl rfl
  have hcr : cry W Z (n + 1) = (W + Z) / B64 ^ (n + 1) := by
    unfold cry
    rw [Nat.mod_eq_of_lt hWl, Nat.mod_eq_of_lt (Nat.lt_trans hZl (Nat.pow_lt_pow_right (by decide) (by omega)))]
  have hle := cry_le W Z (n + 1)
  have q1 : ((n : Int) < ((n + 1 : Nat) : Int)) = True := eq_true (by omega)
  have q2 : (off + n < U.length) = True := eq_true hkl
  rw [ICALL_def AA XX (fn := a127) rfl [.ref 3 off (n + 1), .ref 5 0 n] _ 7 rfl]
  simp only [a127, go_sem, ↓reduceIte, Nat.reduceAdd, Nat.reduceSub, Nat.reduceMul, Nat.reduceEqDiff, Nat.reduceLT, Nat.reduceShiftRight, Nat.reduceAnd, Nat.reduceBNe, Nat.reduceLeDiff, Nat.reduceBEq, Nat.testBit, Nat.zero_lt_one, Int.reduceToNat, Int.reduceNeg, Int.reduceLE, Int.reduceLT, Int.reduceEq, decide_true, decide_false, Bool.and_true, Bool.true_and, Bool.and_false, Bool.false_and, Bool.or_true, Bool.true_or, Bool.or_false, Bool.false_or, Bool.not_true, Bool.not_false, beq_self_eq_true, reduceCtorEq, Int.le_refl, Nat.add_zero, and_self, and_true, true_and, or_true, true_or, if_true, if_false, Nat.le_refl, Bool.and_self, eq_self, Bool.not_false, Bool.not_true, oldc]
  rw [go, b127_0_run]
  simp only [show ((0 : Nat) : Int) = 0 from rfl] at c100
  by_cases hlt : B64 ^ (n + 1) ≤ W + Z
  · have h1 : cry W Z (n + 1) = 1 := by
      have : 0 < (W + Z) / B64 ^ (n + 1) := Nat.div_pos hlt (Bp_pos _)
      omega
    rw [h1] at c100
    have d1 : decide (B64 ^ (n + 1) ≤ W + Z) = true := decide_eq_true hlt
    simp only [show ((1 : Nat) : Int) = 1 from rfl] at c100
    rw [d1]
    simp only [go_sem, ↓reduceIte, Nat.reduceAdd, Nat.reduceSub, Nat.reduceMul, Nat.reduceEqDiff, Nat.reduceLT, Nat.reduceShiftRight, Nat.reduceAnd, Nat.reduceBNe, Nat.reduceLeDiff, Nat.reduceBEq, Nat.testBit, Nat.zero_lt_one, Int.reduceToNat, Int.reduceNeg, Int.reduceLE, Int.reduceLT, Int.reduceEq, decide_true, decide_false, Bool.and_true, Bool.true_and, Bool.and_false, Bool.false_and, Bool.or_true, Bool.true_or, Bool.or_false, Bool.false_or, Bool.not_true, Bool.not_false, beq_self_eq_true, reduceCtorEq, Int.le_refl, Nat.add_zero, and_self, and_true, true_and, or_true, true_or, if_true, if_false, Nat.le_refl, Bool.and_self, eq_self, Bool.not_false, Bool.not_true, Int.lt_irrefl, hg, c100, q1, q2, lenc, hwl, setc, ws, oldc, Nat.mul_one]
    rfl
  · have h1 : cry W Z (n + 1) = 0 := by rw [hcr]; exact Nat.div_eq_of_lt (by omega)
    rw [h1] at c100
    have d1 : decide (B64 ^ (n + 1) ≤ W + Z) = false := decide_eq_false hlt
    simp only [show ((0 : Nat) : Int) = 0 from rfl] at c100
    rw [d1]
    simp only [go_sem, ↓reduceIte, Nat.reduceAdd, Nat.reduceSub, Nat.reduceMul, Nat.reduceEqDiff, Nat.reduceLT, Nat.reduceShiftRight, Nat.reduceAnd, Nat.reduceBNe, Nat.reduceLeDiff, Nat.reduceBEq, Nat.testBit, Nat.zero_lt_one, Int.reduceToNat, Int.reduceNeg, Int.reduceLE, Int.reduceLT, Int.reduceEq, decide_true, decide_false, Bool.and_true, Bool.true_and, Bool.and_false, Bool.false_and, Bool.or_true, Bool.true_or, Bool.or_false, Bool.false_or, Bool.not_true, Bool.not_false, beq_self_eq_true, reduceCtorEq, Int.le_refl, Nat.add_zero, and_self, and_true, true_and, or_true, true_or, if_true, if_false, Nat.le_refl, Bool.and_self, eq_self, Bool.not_false, Bool.not_true, Int.lt_irrefl, hg, c100, q1, q2, lenc, hwl, setc, ws, oldc, Nat.mul_one]
    rfl
end Go.Proofs.Ytpanbfainilmpaa.Ev.N
end
section
/- guess: how often v goes into the top of u. -/
set_option linter.unusedVariables false
set_option linter.unusedSimpArgs false
set_option maxRecDepth 100000
set_option maxHeartbeats 4000000
namespace Go.Proofs.Ytpanbfainilmpaa.Ev.N
open Go Go.Proofs.Ytpanbfainilmpaa.Ev

theorem wv_win {U : List Nat} {off k T : Nat} (h : off + k ≤ U.length) : wv (win U off k T) off k = T % B64 ^ k := by
  unfold wv win
  rw [List.append_assoc, List.drop_append_of_le_length (by rw [List.length_take]; omega)]
  rw [show (U.take off).drop off = [] by rw [List.drop_eq_nil_of_le (by rw [List.length_take]; omega)], List.nil_append, List.take_append_of_le_length (by rw [digs_len]; exact Nat.le_refl _), List.take_of_length_le (by rw [digs_len]; exact Nat.le_refl _), val_digs]
theorem win_win {U : List Nat} {off k T T' : Nat} (h : off + k ≤ U.length) : win (win U off k T) off k T' = win U off k T' := by
  unfold win
  have h1 : (U.take off ++ digs k T ++ U.drop (off + k)).take off = U.take off := by
    rw [List.append_assoc, List.take_append_of_le_length (by rw [List.length_take]; omega), List.take_take, Nat.min_self]
  have h2 : (U.take off ++ digs k T ++ U.drop (off + k)).drop (off + k) = U.drop (off + k) := by
    rw [List.drop_append_of_le_length (by rw [List.length_append, List.length_take, digs_len]; omega), List.drop_eq_nil_of_le (by rw [List.length_append, List.length_take, digs_len]; omega), List.nil_append]
  rw [h1, h2]
theorem win_congr {U : List Nat} {off k T T' : Nat} (h : T % B64 ^ k = T' % B64 ^ k) : win U off k T = win U off k T' := by
  unfold win
  rw [digs_congr h]

section
variable {U V : List Nat} {n off : Nat}
/-- Adding back, until it goes over. -/
theorem addback (hU : Limbs U) (hV : Limbs V) (hn : n ≤ V.length) (ho : off + n < U.length) (hb : U.length ≤ 1000000) (hbv : V.length ≤ 1000000) (hD : 0 < val (V.take n)) (W : Nat) (hWl : W < B64 ^ (n + 1)) :
    ∀ (m t : Nat), t = W / val (V.take n) + 1 + m → t < B64 → t * val (V.take n) ≤ W + B64 ^ (n + 1) → ∃ F', blockR 2 (loopR AA XX [0, 1, 6, 11] 7 b118_1 (RUN AA XX b118_1 ⟨[(0, .ref 3 off (n + 1)), (1, .ref 5 0 n), (6, (AV.c (C.d (D.sc (Value.int IntKind.u64 ((t : Nat))))))), (11, (AV.c (C.d (D.sc (Value.bool (false))))))], [(3, .arr ((win U off (n + 1) (W + B64 ^ (n + 1) - t * val (V.take n))).map w64)), (5, .arr (V.map w64))], 7⟩)) =
      some (.norm, ⟨F', [(3, .arr ((win U off (n + 1) (W % val (V.take n))).map w64)), (5, .arr (V.map w64))], 7⟩) ∧ F'.get 6 = (AV.c (C.d (D.sc (Value.int IntKind.u64 ((W / val (V.take n) : Nat)))))) := by
  obtain ⟨Z, hZ⟩ : ∃ Z, val (V.take n) = Z := ⟨_, rfl⟩
  rw [hZ] at hD ⊢
  have hdm := Nat.div_add_mod W Z
  have hml := Nat.mod_lt W hD
  obtain ⟨Q, hQ⟩ : ∃ Q, W / Z = Q := ⟨_, rfl⟩
  obtain ⟨R, hR⟩ : ∃ R, W % Z = R := ⟨_, rfl⟩
  rw [hQ, hR] at hdm
  rw [hR] at hml
  rw [hQ, hR]
  intro m
  induction m with
  | zero =>
    intro t ht htB hle
    have hp := Plus127 (win_limbs hU off (n + 1) (W + B64 ^ (n + 1) - t * Z)) hV hn (by rw [win_len (by omega)]; exact ho) (by rw [win_len (by omega)]; exact hb) hbv
    rw [wv_win (by omega), win_win (by omega), hZ] at hp
    have ht' : t * Z = Z * (Q) + Z := by rw [ht, Nat.add_zero, Nat.add_mul, Nat.one_mul, Nat.mul_comm]
    have hlt : W + B64 ^ (n + 1) - t * Z < B64 ^ (n + 1) := by omega
    rw [Nat.mod_eq_of_lt hlt] at hp
    have hs : W + B64 ^ (n + 1) - t * Z + Z = R + B64 ^ (n + 1) := by omega
    rw [hs] at hp
    have d1 : decide (B64 ^ (n + 1) ≤ R + B64 ^ (n + 1)) = true := decide_eq_true (by omega)
    have hwc : win U off (n + 1) (R + B64 ^ (n + 1)) = win U off (n + 1) (R) := win_congr (by rw [Nat.add_mod_right])
    rw [d1, hwc] at hp
    have w1 : IntKind.u64.wrap ((t : Int) - 1) = ((Q : Nat) : Int) := by
      rw [show (t : Int) - 1 = ((Q : Nat) : Int) by omega]
      exact wrap_u64_lt (by omega)
    have r1 : (3 = 5) = False := eq_false (by decide)
    rw [b118_1_run]
    simp only [go_sem, ↓reduceIte, Nat.reduceAdd, Nat.reduceSub, Nat.reduceMul, Nat.reduceEqDiff, Nat.reduceLT, Nat.reduceShiftRight, Nat.reduceAnd, Nat.reduceBNe, Nat.reduceLeDiff, Nat.reduceBEq, Nat.testBit, Nat.zero_lt_one, Int.reduceToNat, Int.reduceNeg, Int.reduceLE, Int.reduceLT, Int.reduceEq, decide_true, decide_false, Bool.and_true, Bool.true_and, Bool.and_false, Bool.false_and, Bool.or_true, Bool.true_or, Bool.or_false, Bool.false_or, Bool.not_true, Bool.not_false, beq_self_eq_true, reduceCtorEq, Int.le_refl, Nat.add_zero, and_self, and_true, true_and, or_true, true_or, if_true, if_false, Nat.le_refl, Bool.and_self, eq_self, Bool.not_false, Bool.not_true, w1, evOp_icall, reach_eq, cut_eq, ids_w, List.filter_cons, List.filter_nil, hp, icallQ_some, oldc]
    rw [b118_1_run]
    simp only [go_sem, ↓reduceIte, Nat.reduceAdd, Nat.reduceSub, Nat.reduceMul, Nat.reduceEqDiff, Nat.reduceLT, Nat.reduceShiftRight, Nat.reduceAnd, Nat.reduceBNe, Nat.reduceLeDiff, Nat.reduceBEq, Nat.testBit, Nat.zero_lt_one, Int.reduceToNat, Int.reduceNeg, Int.reduceLE, Int.reduceLT, Int.reduceEq, decide_true, decide_false, Bool.and_true, Bool.true_and, Bool.and_false, Bool.false_and, Bool.or_true, Bool.true_or, Bool.or_false, Bool.false_or, Bool.not_true, Bool.not_false, beq_self_eq_true, reduceCtorEq, Int.le_refl, Nat.add_zero, and_self, and_true, true_and, or_true, true_or, if_true, if_false, Nat.le_refl, Bool.and_self, eq_self, Bool.not_false, Bool.not_true, oldc]
    exact ⟨_, rfl, rfl⟩
  | succ m ih =>
    intro t ht htB hle
    have hp := Plus127 (win_limbs hU off (n + 1) (W + B64 ^ (n + 1) - t * Z)) hV hn (by rw [win_len (by omega)]; exact ho) (by rw [win_len (by omega)]; exact hb) hbv
    rw [wv_win (by omega), win_win (by omega), hZ] at hp
    have ht' : t * Z = (t - 1) * Z + Z := by
      conv => lhs; rw [show t = t - 1 + 1 by omega, Nat.add_mul, Nat.one_mul]
    have hge : (Q + 1) * Z ≤ (t - 1) * Z := Nat.mul_le_mul_right _ (by omega)
    rw [Nat.add_mul, Nat.one_mul, Nat.mul_comm (Q)] at hge
    have hlt : W + B64 ^ (n + 1) - t * Z < B64 ^ (n + 1) := by omega
    rw [Nat.mod_eq_of_lt hlt] at hp
    have hs : W + B64 ^ (n + 1) - t * Z + Z = W + B64 ^ (n + 1) - (t - 1) * Z := by omega
    rw [hs] at hp
    have d1 : decide (B64 ^ (n + 1) ≤ W + B64 ^ (n + 1) - (t - 1) * Z) = false := decide_eq_false (by omega)
    rw [d1] at hp
    have w1 : IntKind.u64.wrap ((t : Int) - 1) = ((t - 1 : Nat) : Int) := by
      rw [show (t : Int) - 1 = ((t - 1 : Nat) : Int) by omega]
      exact wrap_u64_lt (by omega)
    obtain ⟨F', g1, g2⟩ := ih (t - 1) (by omega) (by omega) (by omega)
    refine ⟨F', ?_, g2⟩
    rw [← g1, b118_1_run]
    simp only [go_sem, ↓reduceIte, Nat.reduceAdd, Nat.reduceSub, Nat.reduceMul, Nat.reduceEqDiff, Nat.reduceLT, Nat.reduceShiftRight, Nat.reduceAnd, Nat.reduceBNe, Nat.reduceLeDiff, Nat.reduceBEq, Nat.testBit, Nat.zero_lt_one, Int.reduceToNat, Int.reduceNeg, Int.reduceLE, Int.reduceLT, Int.reduceEq, decide_true, decide_false, Bool.and_true, Bool.true_and, Bool.and_false, Bool.false_and, Bool.or_true, Bool.true_or, Bool.or_false, Bool.false_or, Bool.not_true, Bool.not_false, beq_self_eq_true, reduceCtorEq, Int.le_refl, Nat.add_zero, and_self, and_true, true_and, or_true, true_or, if_true, if_false, Nat.le_refl, Bool.and_self, eq_self, Bool.not_false, Bool.not_true, w1, evOp_icall, reach_eq, cut_eq, ids_w, List.filter_cons, List.filter_nil, hp, icallQ_some, oldc]
end
end Go.Proofs.Ytpanbfainilmpaa.Ev.N
end
section
/- guess: the whole. -/
set_option linter.unusedVariables false
set_option linter.unusedSimpArgs false
set_option maxRecDepth 100000
set_option maxHeartbeats 4000000
namespace Go.Proofs.Ytpanbfainilmpaa.Ev.N
open Go Go.Proofs.Ytpanbfainilmpaa.Ev

theorem guess_loop {U V : List Nat} (hU : Limbs U) (hV : Limbs V) {k off Q N : Nat} (hn : k + 2 ≤ V.length) (ho : off + (k + 2) < U.length) (hb : U.length ≤ 1000000) (hbv : V.length ≤ 1000000)
    (gd : ∀ q r, q * V[k + 1] + r = N → r * B64 + U[off + k] < q * V[k] → Q < q) :
    ∀ (m q r : Nat), q ≤ m → q * V[k + 1] + r = N → Q ≤ q → q < B64 → r < B64 → ∃ F' q', blockR 0 (loopR AA XX [0, 1, 5, 6, 7] 7 b118_0 (RUN AA XX b118_0 ⟨[(0, .ref 3 off (k + 3)), (1, .ref 5 0 (k + 2)), (5, (AV.c (C.d (D.sc (Value.int IntKind.i64 ((k + 2 : Nat))))))), (6, (AV.c (C.d (D.sc (Value.int IntKind.u64 ((q : Nat))))))), (7, (AV.c (C.d (D.sc (Value.int IntKind.u64 ((r : Nat)))))))], [(3, .arr (U.map w64)), (5, .arr (V.map w64))], 7⟩)) =
      some (.norm, ⟨F', [(3, .arr (U.map w64)), (5, .arr (V.map w64))], 7⟩) ∧ Q ≤ q' ∧ q' < B64 ∧ F'.get 0 = .ref 3 off (k + 3) ∧ F'.get 1 = .ref 5 0 (k + 2) ∧ F'.get 6 = (AV.c (C.d (D.sc (Value.int IntKind.u64 ((q' : Nat)))))) := by
  have hB : B64 = 18446744073709551616 := rfl
  have hv0 := hV.get (show k < V.length by omega)
  have hv1 := hV.get (show k + 1 < V.length by omega)
  have hu0 := hU.get (show off + k < U.length by omega)
  have e2 : IntKind.i64.wrap (((k + 2 : Nat) : Int) - 2) = (k : Int) := by rw [wrap_i64 _ (by omega) (by omega)]; omega
  have e1 : IntKind.i64.wrap (((k + 2 : Nat) : Int) - 1) = ((k + 1 : Nat) : Int) := by rw [wrap_i64 _ (by omega) (by omega)]; omega
  have gv0 := getc (L := V) (i := k) (by omega)
  have gv1 := getc (L := V) (i := k + 1) (by omega)
  have gu0 := getc (L := U) (i := off + k) (by omega)
  have q1 : ((k : Int) < ((k + 2 : Nat) : Int)) = True := eq_true (by omega)
  have q2 : (((k + 1 : Nat) : Int) < ((k + 2 : Nat) : Int)) = True := eq_true (by omega)
  have q3 : ((k : Int) < ((k + 3 : Nat) : Int)) = True := eq_true (by omega)
  have p1 : (k < V.length) = True := eq_true (by omega)
  have p2 : (k + 1 < V.length) = True := eq_true (by omega)
  have p3 : (off + k < U.length) = True := eq_true (by omega)
  intro m
  induction m with
  | zero =>
    intro q r hm hq hQ hqB hr
    obtain rfl : q = 0 := by omega
    have mu := Mul120 (x := 0) (y := V[k]) (by omega) hv0
    rw [Nat.zero_mul, Nat.zero_div, Nat.zero_mod] at mu
    rw [b118_0_run]
    simp only [show ((0 : Nat) : Int) = 0 from rfl] at mu
    by_cases hr0 : r = 0
    · subst hr0
      have d2 : decide ((0 : Int) ≤ (U[off + k] : Int)) = true := decide_eq_true (by omega)
      simp only [go_sem, ↓reduceIte, Nat.reduceAdd, Nat.reduceSub, Nat.reduceMul, Nat.reduceEqDiff, Nat.reduceLT, Nat.reduceShiftRight, Nat.reduceAnd, Nat.reduceBNe, Nat.reduceLeDiff, Nat.reduceBEq, Nat.testBit, Nat.zero_lt_one, Int.reduceToNat, Int.reduceNeg, Int.reduceLE, Int.reduceLT, Int.reduceEq, decide_true, decide_false, Bool.and_true, Bool.true_and, Bool.and_false, Bool.false_and, Bool.or_true, Bool.true_or, Bool.or_false, Bool.false_or, Bool.not_true, Bool.not_false, beq_self_eq_true, reduceCtorEq, Int.le_refl, Nat.add_zero, and_self, and_true, true_and, or_true, true_or, if_true, if_false, Nat.le_refl, Bool.and_self, eq_self, Bool.not_false, Bool.not_true, show ((0 : Nat) : Int) = 0 from rfl, e2, gv0, gu0, mu, d2, q1, q3, p1, p3, lenc, Nat.mul_one, Int.lt_irrefl]
      exact ⟨_, 0, rfl, hQ, by omega, rfl, rfl, rfl⟩
    · have d1 : decide ((0 : Int) < (r : Int)) = true := decide_eq_true (by omega)
      simp only [go_sem, ↓reduceIte, Nat.reduceAdd, Nat.reduceSub, Nat.reduceMul, Nat.reduceEqDiff, Nat.reduceLT, Nat.reduceShiftRight, Nat.reduceAnd, Nat.reduceBNe, Nat.reduceLeDiff, Nat.reduceBEq, Nat.testBit, Nat.zero_lt_one, Int.reduceToNat, Int.reduceNeg, Int.reduceLE, Int.reduceLT, Int.reduceEq, decide_true, decide_false, Bool.and_true, Bool.true_and, Bool.and_false, Bool.false_and, Bool.or_true, Bool.true_or, Bool.or_false, Bool.false_or, Bool.not_true, Bool.not_false, beq_self_eq_true, reduceCtorEq, Int.le_refl, Nat.add_zero, and_self, and_true, true_and, or_true, true_or, if_true, if_false, Nat.le_refl, Bool.and_self, eq_self, Bool.not_false, Bool.not_true, show ((0 : Nat) : Int) = 0 from rfl, e2, gv0, gu0, mu, d1, q1, q3, p1, p3, lenc, Nat.mul_one]
      exact ⟨_, 0, rfl, hQ, by omega, rfl, rfl, rfl⟩
  | succ m ih =>
    intro q r hm hq hQ hqB hr
    have mu := Mul120 hqB hv0
    have hdm := Nat.div_add_mod (q * V[k]) B64
    have hml := Nat.mod_lt (q * V[k]) B_pos
    obtain ⟨hi, hhi⟩ : ∃ x, q * V[k] / B64 = x := ⟨_, rfl⟩
    obtain ⟨lo, hlo⟩ : ∃ x, q * V[k] % B64 = x := ⟨_, rfl⟩
    rw [hhi, hlo] at mu hdm
    rw [hlo] at hml
    rw [b118_0_run]
    by_cases c1 : hi < r
    · have d1 : decide ((hi : Int) < (r : Int)) = true := decide_eq_true (by omega)
      simp only [go_sem, ↓reduceIte, Nat.reduceAdd, Nat.reduceSub, Nat.reduceMul, Nat.reduceEqDiff, Nat.reduceLT, Nat.reduceShiftRight, Nat.reduceAnd, Nat.reduceBNe, Nat.reduceLeDiff, Nat.reduceBEq, Nat.testBit, Nat.zero_lt_one, Int.reduceToNat, Int.reduceNeg, Int.reduceLE, Int.reduceLT, Int.reduceEq, decide_true, decide_false, Bool.and_true, Bool.true_and, Bool.and_false, Bool.false_and, Bool.or_true, Bool.true_or, Bool.or_false, Bool.false_or, Bool.not_true, Bool.not_false, beq_self_eq_true, reduceCtorEq, Int.le_refl, Nat.add_zero, and_self, and_true, true_and, or_true, true_or, if_true, if_false, Nat.le_refl, Bool.and_self, eq_self, Bool.not_false, Bool.not_true, e2, gv0, gu0, mu, d1, q1, q3, p1, p3, lenc, Nat.mul_one]
      exact ⟨_, q, rfl, hQ, hqB, rfl, rfl, rfl⟩
    · have d1 : decide ((hi : Int) < (r : Int)) = false := decide_eq_false (by omega)
      have turn : r * B64 + U[off + k] < q * V[k] → ∃ F' q', blockR 0 (loopR AA XX [0, 1, 5, 6, 7] 7 b118_0 (RUN AA XX b118_0 ⟨[(0, .ref 3 off (k + 3)), (1, .ref 5 0 (k + 2)), (5, (AV.c (C.d (D.sc (Value.int IntKind.i64 ((k + 2 : Nat))))))), (6, (AV.c (C.d (D.sc (Value.int IntKind.u64 ((q : Nat))))))), (7, (AV.c (C.d (D.sc (Value.int IntKind.u64 ((r : Nat)))))))], [(3, .arr (U.map w64)), (5, .arr (V.map w64))], 7⟩)) =
      some (.norm, ⟨F', [(3, .arr (U.map w64)), (5, .arr (V.map w64))], 7⟩) ∧ Q ≤ q' ∧ q' < B64 ∧ F'.get 0 = .ref 3 off (k + 3) ∧ F'.get 1 = .ref 5 0 (k + 2) ∧ F'.get 6 = (AV.c (C.d (D.sc (Value.int IntKind.u64 ((q' : Nat)))))) := by
        intro hgt
        have hlt := gd q r hq hgt
        have w1 : IntKind.u64.wrap ((q : Int) - 1) = ((q - 1 : Nat) : Int) := by
          rw [show (q : Int) - 1 = ((q - 1 : Nat) : Int) by omega]
          exact wrap_u64_lt (by omega)
        have hq' : (q - 1) * V[k + 1] + (r + V[k + 1]) = N := by
          rw [← hq]
          conv => rhs; rw [show q = q - 1 + 1 by omega, Nat.add_mul, Nat.one_mul]
          omega
        have w2 : IntKind.u64.wrap ((r : Int) + (V[k + 1] : Int)) = (((r + V[k + 1]) % B64 : Nat) : Int) := by
          rw [← Int.natCast_add, wrap_u64]
        have d2 : decide ((hi : Int) = (r : Int)) = false ∨ (decide ((hi : Int) = (r : Int)) = true ∧ decide ((lo : Int) ≤ (U[off + k] : Int)) = false) := by
          by_cases h : hi = r
          · subst h
            refine .inr ⟨decide_eq_true rfl, decide_eq_false ?_⟩
            rw [← hdm, Nat.mul_comm] at hgt
            omega
          · exact .inl (decide_eq_false (by omega))
        rw [b118_0_run]
        by_cases hov : r + V[k + 1] < B64
        · rw [Nat.mod_eq_of_lt hov] at w2
          have d3 : decide (((r + V[k + 1] : Nat) : Int) < (r : Int)) = false := decide_eq_false (by omega)
          obtain ⟨F', q', g1, g2⟩ := ih (q - 1) (r + V[k + 1]) (by omega) hq' (by omega) (by omega) hov
          refine ⟨F', q', ?_, g2⟩
          rw [← g1]
          rcases d2 with d2 | ⟨d2, d4⟩
          · simp only [go_sem, ↓reduceIte, Nat.reduceAdd, Nat.reduceSub, Nat.reduceMul, Nat.reduceEqDiff, Nat.reduceLT, Nat.reduceShiftRight, Nat.reduceAnd, Nat.reduceBNe, Nat.reduceLeDiff, Nat.reduceBEq, Nat.testBit, Nat.zero_lt_one, Int.reduceToNat, Int.reduceNeg, Int.reduceLE, Int.reduceLT, Int.reduceEq, decide_true, decide_false, Bool.and_true, Bool.true_and, Bool.and_false, Bool.false_and, Bool.or_true, Bool.true_or, Bool.or_false, Bool.false_or, Bool.not_true, Bool.not_false, beq_self_eq_true, reduceCtorEq, Int.le_refl, Nat.add_zero, and_self, and_true, true_and, or_true, true_or, if_true, if_false, Nat.le_refl, Bool.and_self, eq_self, Bool.not_false, Bool.not_true, e2, e1, gv0, gv1, gu0, mu, d1, d2, d3, w1, w2, q1, q2, q3, p1, p2, p3, lenc, oldc, Nat.mul_one]
          · simp only [go_sem, ↓reduceIte, Nat.reduceAdd, Nat.reduceSub, Nat.reduceMul, Nat.reduceEqDiff, Nat.reduceLT, Nat.reduceShiftRight, Nat.reduceAnd, Nat.reduceBNe, Nat.reduceLeDiff, Nat.reduceBEq, Nat.testBit, Nat.zero_lt_one, Int.reduceToNat, Int.reduceNeg, Int.reduceLE, Int.reduceLT, Int.reduceEq, decide_true, decide_false, Bool.and_true, Bool.true_and, Bool.and_false, Bool.false_and, Bool.or_true, Bool.true_or, Bool.or_false, Bool.false_or, Bool.not_true, Bool.not_false, beq_self_eq_true, reduceCtorEq, Int.le_refl, Nat.add_zero, and_self, and_true, true_and, or_true, true_or, if_true, if_false, Nat.le_refl, Bool.and_self, eq_self, Bool.not_false, Bool.not_true, e2, e1, gv0, gv1, gu0, mu, d1, d2, d4, d3, w1, w2, q1, q2, q3, p1, p2, p3, lenc, oldc, Nat.mul_one]
        · have d3 : decide ((((r + V[k + 1]) % B64 : Nat) : Int) < (r : Int)) = true := decide_eq_true (by rw [hB] at hov hr hv1 ⊢; omega)
          rcases d2 with d2 | ⟨d2, d4⟩
          · simp only [go_sem, ↓reduceIte, Nat.reduceAdd, Nat.reduceSub, Nat.reduceMul, Nat.reduceEqDiff, Nat.reduceLT, Nat.reduceShiftRight, Nat.reduceAnd, Nat.reduceBNe, Nat.reduceLeDiff, Nat.reduceBEq, Nat.testBit, Nat.zero_lt_one, Int.reduceToNat, Int.reduceNeg, Int.reduceLE, Int.reduceLT, Int.reduceEq, decide_true, decide_false, Bool.and_true, Bool.true_and, Bool.and_false, Bool.false_and, Bool.or_true, Bool.true_or, Bool.or_false, Bool.false_or, Bool.not_true, Bool.not_false, beq_self_eq_true, reduceCtorEq, Int.le_refl, Nat.add_zero, and_self, and_true, true_and, or_true, true_or, if_true, if_false, Nat.le_refl, Bool.and_self, eq_self, Bool.not_false, Bool.not_true, e2, e1, gv0, gv1, gu0, mu, d1, d2, d3, w1, w2, q1, q2, q3, p1, p2, p3, lenc, oldc, Nat.mul_one]
            exact ⟨_, q - 1, rfl, by omega, by omega, rfl, rfl, rfl⟩
          · simp only [go_sem, ↓reduceIte, Nat.reduceAdd, Nat.reduceSub, Nat.reduceMul, Nat.reduceEqDiff, Nat.reduceLT, Nat.reduceShiftRight, Nat.reduceAnd, Nat.reduceBNe, Nat.reduceLeDiff, Nat.reduceBEq, Nat.testBit, Nat.zero_lt_one, Int.reduceToNat, Int.reduceNeg, Int.reduceLE, Int.reduceLT, Int.reduceEq, decide_true, decide_false, Bool.and_true, Bool.true_and, Bool.and_false, Bool.false_and, Bool.or_true, Bool.true_or, Bool.or_false, Bool.false_or, Bool.not_true, Bool.not_false, beq_self_eq_true, reduceCtorEq, Int.le_refl, Nat.add_zero, and_self, and_true, true_and, or_true, true_or, if_true, if_false, Nat.le_refl, Bool.and_self, eq_self, Bool.not_false, Bool.not_true, e2, e1, gv0, gv1, gu0, mu, d1, d2, d4, d3, w1, w2, q1, q2, q3, p1, p2, p3, lenc, oldc, Nat.mul_one]
            exact ⟨_, q - 1, rfl, by omega, by omega, rfl, rfl, rfl⟩
      rw [← b118_0_run]
      by_cases c2 : hi = r
      · subst c2
        by_cases c3 : lo ≤ U[off + k]
        · have d2 : decide ((hi : Int) = (hi : Int)) = true := decide_eq_true rfl
          have d4 : decide ((lo : Int) ≤ (U[off + k] : Int)) = true := decide_eq_true (by omega)
          rw [b118_0_run]
          simp only [go_sem, ↓reduceIte, Nat.reduceAdd, Nat.reduceSub, Nat.reduceMul, Nat.reduceEqDiff, Nat.reduceLT, Nat.reduceShiftRight, Nat.reduceAnd, Nat.reduceBNe, Nat.reduceLeDiff, Nat.reduceBEq, Nat.testBit, Nat.zero_lt_one, Int.reduceToNat, Int.reduceNeg, Int.reduceLE, Int.reduceLT, Int.reduceEq, decide_true, decide_false, Bool.and_true, Bool.true_and, Bool.and_false, Bool.false_and, Bool.or_true, Bool.true_or, Bool.or_false, Bool.false_or, Bool.not_true, Bool.not_false, beq_self_eq_true, reduceCtorEq, Int.le_refl, Nat.add_zero, and_self, and_true, true_and, or_true, true_or, if_true, if_false, Nat.le_refl, Bool.and_self, eq_self, Bool.not_false, Bool.not_true, e2, gv0, gu0, mu, d1, d2, d4, q1, q3, p1, p3, lenc, Nat.mul_one, Int.lt_irrefl]
          exact ⟨_, q, rfl, hQ, hqB, rfl, rfl, rfl⟩
        · exact turn (by rw [← hdm, Nat.mul_comm]; omega)
      · have : (r + 1) * B64 ≤ hi * B64 := Nat.mul_le_mul_right _ (by omega)
        rw [Nat.add_mul, Nat.one_mul] at this
        exact turn (by rw [← hdm, Nat.mul_comm B64 hi]; omega)

theorem Guess118 {U V : List Nat} (hU : Limbs U) (hV : Limbs V) {k off : Nat} (hn : k + 2 ≤ V.length) (ho : off + (k + 2) < U.length) (hb : U.length ≤ 1000000) (hbv : V.length ≤ 1000000)
    (hD : 0 < val (V.take (k + 2))) (hQ : wv U off (k + 3) / val (V.take (k + 2)) < B64) :
    (KL AA XX).icall 118 [.ref 3 off (k + 3), .ref 5 0 (k + 2)] [(3, .arr (U.map w64)), (5, .arr (V.map w64))] 7 =
      some ((AV.c (C.d (D.sc (Value.int IntKind.u64 ((wv U off (k + 3) / val (V.take (k + 2)) : Nat)))))), [(3, .arr ((win U off (k + 3) (wv U off (k + 3) % val (V.take (k + 2)))).map w64)), (5, .arr (V.map w64))], 7) := by
  have hB : B64 = 18446744073709551616 := rfl
  have hless := fun q hq => Less126 (q := q) hU hV (n := k + 2) hn ho hb hbv hq
  have hadd := addback hU hV (n := k + 2) hn ho hb hbv hD
  have hWl : wv U off (k + 3) < B64 ^ (k + 3) := by
    have := val_lt ((hU.drop off).take (k + 3))
    rw [List.length_take, List.length_drop, Nat.min_eq_left (by omega)] at this
    exact this
  have hDl : val (V.take (k + 2)) < B64 ^ (k + 2) := by
    have := val_lt (hV.take (k + 2))
    rw [List.length_take, Nat.min_eq_left hn] at this
    exact this
  -- the top limbs
  have hu2 := wv_limb hU (off := off) (k := k + 3) (i := k + 2) (by omega) (by omega)
  have hu1 := wv_limb hU (off := off) (k := k + 3) (i := k + 1) (by omega) (by omega)
  have hu0 := wv_limb hU (off := off) (k := k + 3) (i := k) (by omega) (by omega)
  have hv1 := vtake hV (n := k + 2) (k := k + 1) (by omega) hn
  have hv0 := vtake hV (n := k + 2) (k := k) (by omega) hn
  obtain ⟨W, hW⟩ : ∃ W, wv U off (k + 3) = W := ⟨_, rfl⟩
  obtain ⟨Z, hZ⟩ : ∃ Z, val (V.take (k + 2)) = Z := ⟨_, rfl⟩
  have hless' : ∀ q, q < B64 → (KL AA XX).icall 126 [.ref 3 off (k + 3), .ref 5 0 (k + 2), (AV.c (C.d (D.sc (Value.int IntKind.u64 ((q : Nat))))))] [(3, .arr (U.map w64)), (5, .arr (V.map w64))] 7 =
      some ((AV.c (C.d (D.sc (Value.bool (decide (W < q * Z)))))), [(3, .arr ((win U off (k + 3) (W + B64 ^ (k + 3) - q * Z)).map w64)), (5, .arr (V.map w64))], 7) := by
    intro q hq
    have := hless q hq
    rw [hW, hZ] at this
    exact this
  rw [hZ] at hadd hD hDl hQ hv1 hv0 ⊢
  rw [hW] at hu2 hu1 hu0 hWl hQ ⊢
  have hadd' := hadd W hWl
  clear hless hadd
  have split3 : W = ((U[off + (k + 2)] * B64 + U[off + (k + 1)]) * B64 + U[off + k]) * B64 ^ k + W % B64 ^ k := by
    have f0 := Nat.div_add_mod W (B64 ^ k)
    have f1 := Nat.div_add_mod (W / B64 ^ k) B64
    have f2 := Nat.div_add_mod (W / B64 ^ (k + 1)) B64
    rw [Nat.div_div_eq_div_mul, ← Nat.pow_succ, Nat.succ_eq_add_one, ← hu0] at f1
    rw [Nat.div_div_eq_div_mul, ← Nat.pow_succ, Nat.succ_eq_add_one, ← hu1] at f2
    have h3 : W / B64 ^ (k + 1 + 1) = U[off + (k + 2)] := by
      rw [hu2, Nat.mod_eq_of_lt]
      rw [Nat.div_lt_iff_lt_mul (Bp_pos _), Nat.mul_comm, ← Nat.pow_succ]
      exact hWl
    rw [h3] at f2
    rw [Nat.mul_comm U[off + (k + 2)], f2, Nat.mul_comm (W / B64 ^ (k + 1)), f1, Nat.mul_comm (W / B64 ^ k), f0]
  have splitv : Z = (V[k + 1] * B64 + V[k]) * B64 ^ k + Z % B64 ^ k := by
    have f0 := Nat.div_add_mod Z (B64 ^ k)
    have f1 := Nat.div_add_mod (Z / B64 ^ k) B64
    rw [Nat.div_div_eq_div_mul, ← Nat.pow_succ, Nat.succ_eq_add_one, ← hv0] at f1
    have h3 : Z / B64 ^ (k + 1) = V[k + 1] := by
      rw [hv1, Nat.mod_eq_of_lt]
      rw [Nat.div_lt_iff_lt_mul (Bp_pos _), Nat.mul_comm, ← Nat.pow_succ]
      exact hDl
    rw [h3] at f1
    rw [Nat.mul_comm V[k + 1], f1, Nat.mul_comm (Z / B64 ^ k), f0]
  have gd : ∀ q r, q * V[k + 1] + r = U[off + (k + 2)] * B64 + U[off + (k + 1)] → r * B64 + U[off + k] < q * V[k] → W / Z < q := fun q r hq hgt =>
    quot_le hD (guess_down split3 (Nat.mod_lt _ (Bp_pos k)) splitv hq hgt)
  have end1 : ∀ q, ¬ W < q * Z → W / Z ≤ q → q < B64 → q = W / Z ∧ win U off (k + 3) (W + B64 ^ (k + 3) - q * Z) = win U off (k + 3) (W % Z) := by
    intro q h1 h2 h3
    have h4 := quot_ge hD h1
    have h5 : q = W / Z := Nat.le_antisymm h4 h2
    refine ⟨h5, win_congr ?_⟩
    have hdm := Nat.div_add_mod W Z
    rw [h5, Nat.mul_comm, show W + B64 ^ (k + 3) - Z * (W / Z) = W % Z + B64 ^ (k + 3) by omega, Nat.add_mod_right]
  have bnd : ∀ q, q < B64 → q * Z ≤ W + B64 ^ (k + 3) := by
    intro q hq
    have h1 : q * Z ≤ B64 * B64 ^ (k + 2) := Nat.mul_le_mul (Nat.le_of_lt hq) (Nat.le_of_lt hDl)
    rw [Nat.mul_comm B64, ← Nat.pow_succ] at h1
    exact Nat.le_trans h1 (Nat.le_add_left _ _)
  have e1 : IntKind.i64.wrap (((k + 2 : Nat) : Int) - 1) = ((k + 1 : Nat) : Int) := by rw [wrap_i64 _ (by omega) (by omega)]; omega
  have gv1 := getc (L := V) (i := k + 1) (by omega)
  have gu2 := getc (L := U) (i := off + (k + 2)) (by omega)
  have gu1 := getc (L := U) (i := off + (k + 1)) (by omega)
  have q1 : (((k + 2 : Nat) : Int) < ((k + 3 : Nat) : Int)) = True := eq_true (by omega)
  have q2 : (((k + 1 : Nat) : Int) < ((k + 2 : Nat) : Int)) = True := eq_true (by omega)
  have q3 : (((k + 1 : Nat) : Int) < ((k + 3 : Nat) : Int)) = True := eq_true (by omega)
  have p1 : (off + (k + 2) < U.length) = True := eq_true (by omega)
  have p2 : (k + 1 < V.length) = True := eq_true (by omega)
  have p3 : (off + (k + 1) < U.length) = True := eq_true (by omega)
  have hu2l := hU.get (show off + (k + 2) < U.length by omega)
  have hu1l := hU.get (show off + (k + 1) < U.length by omega)
  have hv1l := hV.get (show k + 1 < V.length by omega)
  rw [ICALL_def AA XX (fn := a118) rfl [.ref 3 off (k + 3), .ref 5 0 (k + 2)] _ 7 rfl]
  by_cases hlt : U[off + (k + 2)] < V[k + 1]
  · have d1 : decide ((U[off + (k + 2)] : Int) < (V[k + 1] : Int)) = true := decide_eq_true (by omega)
    have hdv := Div115 (hi := U[off + (k + 2)]) (lo := U[off + (k + 1)]) (y := V[k + 1]) (by omega) hlt hu1l hv1l
    have hdm := Nat.div_add_mod (U[off + (k + 2)] * B64 + U[off + (k + 1)]) V[k + 1]
    have hml := Nat.mod_lt (U[off + (k + 2)] * B64 + U[off + (k + 1)]) (show 0 < V[k + 1] by omega)
    have hqB : (U[off + (k + 2)] * B64 + U[off + (k + 1)]) / V[k + 1] < B64 := by
      rw [Nat.div_lt_iff_lt_mul (by omega)]
      have : (U[off + (k + 2)] + 1) * B64 ≤ V[k + 1] * B64 := Nat.mul_le_mul_right _ hlt
      rw [Nat.add_mul, Nat.one_mul] at this
      rw [Nat.mul_comm B64]; omega
    have hQq : W / Z ≤ (U[off + (k + 2)] * B64 + U[off + (k + 1)]) / V[k + 1] := by
      refine guess_top (C := B64 * B64 ^ k) (p := U[off + k] * B64 ^ k + W % B64 ^ k) (d := V[k] * B64 ^ k + Z % B64 ^ k) (by omega) ?_ ?_ ?_ hD
      · conv => lhs; rw [split3, Nat.add_mul, Nat.mul_assoc, Nat.add_assoc]
      · have h1 := hU.get (show off + k < U.length by omega)
        have h2 := Nat.mod_lt W (Bp_pos k)
        have : (U[off + k] + 1) * B64 ^ k ≤ B64 * B64 ^ k := Nat.mul_le_mul_right _ h1
        rw [Nat.add_mul, Nat.one_mul] at this
        omega
      · conv => lhs; rw [splitv, Nat.add_mul, Nat.mul_assoc, Nat.add_assoc]
    obtain ⟨F', q', g1, g2, g3, g4, g5, g6⟩ := guess_loop hU hV hn ho hb hbv (Q := W / Z) (N := U[off + (k + 2)] * B64 + U[off + (k + 1)]) gd _ _ _ (Nat.le_refl _) (by rw [Nat.mul_comm]; exact hdm) hQq hqB (by omega)
    have hl := hless' q' g3
    simp only [a118, go_sem, ↓reduceIte, Nat.reduceAdd, Nat.reduceSub, Nat.reduceMul, Nat.reduceEqDiff, Nat.reduceLT, Nat.reduceShiftRight, Nat.reduceAnd, Nat.reduceBNe, Nat.reduceLeDiff, Nat.reduceBEq, Nat.testBit, Nat.zero_lt_one, Int.reduceToNat, Int.reduceNeg, Int.reduceLE, Int.reduceLT, Int.reduceEq, decide_true, decide_false, Bool.and_true, Bool.true_and, Bool.and_false, Bool.false_and, Bool.or_true, Bool.true_or, Bool.or_false, Bool.false_or, Bool.not_true, Bool.not_false, beq_self_eq_true, reduceCtorEq, Int.le_refl, Nat.add_zero, and_self, and_true, true_and, or_true, true_or, if_true, if_false, Nat.le_refl, Bool.and_self, eq_self, Bool.not_false, Bool.not_true, oldc, e1, gv1, gu2, gu1, d1, hdv, q1, q2, q3, p1, p2, p3, lenc, Nat.mul_one, show ((0 : Nat) : Int) = 0 from rfl]
    rw [g1]
    by_cases hg : W < q' * Z
    · have d2 : decide (W < q' * Z) = true := decide_eq_true hg
      rw [d2] at hl
      obtain ⟨F2, f1, f2⟩ := hadd' (q' - (W / Z) - 1) q' (by have := quot_le hD hg; omega) g3 (bnd q' g3)
      simp only [go_sem, ↓reduceIte, Nat.reduceAdd, Nat.reduceSub, Nat.reduceMul, Nat.reduceEqDiff, Nat.reduceLT, Nat.reduceShiftRight, Nat.reduceAnd, Nat.reduceBNe, Nat.reduceLeDiff, Nat.reduceBEq, Nat.testBit, Nat.zero_lt_one, Int.reduceToNat, Int.reduceNeg, Int.reduceLE, Int.reduceLT, Int.reduceEq, decide_true, decide_false, Bool.and_true, Bool.true_and, Bool.and_false, Bool.false_and, Bool.or_true, Bool.true_or, Bool.or_false, Bool.false_or, Bool.not_true, Bool.not_false, beq_self_eq_true, reduceCtorEq, Int.le_refl, Nat.add_zero, and_self, and_true, true_and, or_true, true_or, if_true, if_false, Nat.le_refl, Bool.and_self, eq_self, Bool.not_false, Bool.not_true, g4, g5, g6, evOp_icall, reach_eq, cut_eq, ids_w, List.filter_cons, List.filter_nil, hl, icallQ_some, oldc]
      rw [f1]
      simp only [go_sem, ↓reduceIte, Nat.reduceAdd, Nat.reduceSub, Nat.reduceMul, Nat.reduceEqDiff, Nat.reduceLT, Nat.reduceShiftRight, Nat.reduceAnd, Nat.reduceBNe, Nat.reduceLeDiff, Nat.reduceBEq, Nat.testBit, Nat.zero_lt_one, Int.reduceToNat, Int.reduceNeg, Int.reduceLE, Int.reduceLT, Int.reduceEq, decide_true, decide_false, Bool.and_true, Bool.true_and, Bool.and_false, Bool.false_and, Bool.or_true, Bool.true_or, Bool.or_false, Bool.false_or, Bool.not_true, Bool.not_false, beq_self_eq_true, reduceCtorEq, Int.le_refl, Nat.add_zero, and_self, and_true, true_and, or_true, true_or, if_true, if_false, Nat.le_refl, Bool.and_self, eq_self, Bool.not_false, Bool.not_true, f2]
      rfl
    · have d2 : decide (W < q' * Z) = false := decide_eq_false hg
      obtain ⟨h1, h2⟩ := end1 q' hg g2 g3
      rw [d2, h2] at hl
      simp only [go_sem, ↓reduceIte, Nat.reduceAdd, Nat.reduceSub, Nat.reduceMul, Nat.reduceEqDiff, Nat.reduceLT, Nat.reduceShiftRight, Nat.reduceAnd, Nat.reduceBNe, Nat.reduceLeDiff, Nat.reduceBEq, Nat.testBit, Nat.zero_lt_one, Int.reduceToNat, Int.reduceNeg, Int.reduceLE, Int.reduceLT, Int.reduceEq, decide_true, decide_false, Bool.and_true, Bool.true_and, Bool.and_false, Bool.false_and, Bool.or_true, Bool.true_or, Bool.or_false, Bool.false_or, Bool.not_true, Bool.not_false, beq_self_eq_true, reduceCtorEq, Int.le_refl, Nat.add_zero, and_self, and_true, true_and, or_true, true_or, if_true, if_false, Nat.le_refl, Bool.and_self, eq_self, Bool.not_false, Bool.not_true, g4, g5, g6, evOp_icall, reach_eq, cut_eq, ids_w, List.filter_cons, List.filter_nil, hl, icallQ_some, oldc]
      rw [h1]
      rfl
  · have d1 : decide ((U[off + (k + 2)] : Int) < (V[k + 1] : Int)) = false := decide_eq_false (by omega)
    have hl := hless' 18446744073709551615 (by rw [hB]; omega)
    simp only [castL] at hl
    by_cases hg : W < 18446744073709551615 * Z
    · have d2 : decide (W < 18446744073709551615 * Z) = true := decide_eq_true hg
      rw [d2] at hl
      obtain ⟨F2, f1, f2⟩ := hadd' (18446744073709551615 - (W / Z) - 1) 18446744073709551615 (by have := quot_le hD hg; omega) (by rw [hB]; omega) (bnd _ (by rw [hB]; omega))
      simp only [castL] at f1
      simp only [a118, go_sem, ↓reduceIte, Nat.reduceAdd, Nat.reduceSub, Nat.reduceMul, Nat.reduceEqDiff, Nat.reduceLT, Nat.reduceShiftRight, Nat.reduceAnd, Nat.reduceBNe, Nat.reduceLeDiff, Nat.reduceBEq, Nat.testBit, Nat.zero_lt_one, Int.reduceToNat, Int.reduceNeg, Int.reduceLE, Int.reduceLT, Int.reduceEq, decide_true, decide_false, Bool.and_true, Bool.true_and, Bool.and_false, Bool.false_and, Bool.or_true, Bool.true_or, Bool.or_false, Bool.false_or, Bool.not_true, Bool.not_false, beq_self_eq_true, reduceCtorEq, Int.le_refl, Nat.add_zero, and_self, and_true, true_and, or_true, true_or, if_true, if_false, Nat.le_refl, Bool.and_self, eq_self, Bool.not_false, Bool.not_true, oldc, e1, gv1, gu2, d1, q1, q2, p1, p2, lenc, Nat.mul_one, evOp_icall, reach_eq, cut_eq, ids_w, List.filter_cons, List.filter_nil, hl, icallQ_some]
      rw [f1]
      simp only [go_sem, ↓reduceIte, Nat.reduceAdd, Nat.reduceSub, Nat.reduceMul, Nat.reduceEqDiff, Nat.reduceLT, Nat.reduceShiftRight, Nat.reduceAnd, Nat.reduceBNe, Nat.reduceLeDiff, Nat.reduceBEq, Nat.testBit, Nat.zero_lt_one, Int.reduceToNat, Int.reduceNeg, Int.reduceLE, Int.reduceLT, Int.reduceEq, decide_true, decide_false, Bool.and_true, Bool.true_and, Bool.and_false, Bool.false_and, Bool.or_true, Bool.true_or, Bool.or_false, Bool.false_or, Bool.not_true, Bool.not_false, beq_self_eq_true, reduceCtorEq, Int.le_refl, Nat.add_zero, and_self, and_true, true_and, or_true, true_or, if_true, if_false, Nat.le_refl, Bool.and_self, eq_self, Bool.not_false, Bool.not_true, f2]
      rfl
    · have d2 : decide (W < 18446744073709551615 * Z) = false := decide_eq_false hg
      obtain ⟨h1, h2⟩ := end1 18446744073709551615 hg (by rw [hB] at hQ; omega) (by rw [hB]; omega)
      rw [d2, h2] at hl
      simp only [a118, go_sem, ↓reduceIte, Nat.reduceAdd, Nat.reduceSub, Nat.reduceMul, Nat.reduceEqDiff, Nat.reduceLT, Nat.reduceShiftRight, Nat.reduceAnd, Nat.reduceBNe, Nat.reduceLeDiff, Nat.reduceBEq, Nat.testBit, Nat.zero_lt_one, Int.reduceToNat, Int.reduceNeg, Int.reduceLE, Int.reduceLT, Int.reduceEq, decide_true, decide_false, Bool.and_true, Bool.true_and, Bool.and_false, Bool.false_and, Bool.or_true, Bool.true_or, Bool.or_false, Bool.false_or, Bool.not_true, Bool.not_false, beq_self_eq_true, reduceCtorEq, Int.le_refl, Nat.add_zero, and_self, and_true, true_and, or_true, true_or, if_true, if_false, Nat.le_refl, Bool.and_self, eq_self, Bool.not_false, Bool.not_true, oldc, e1, gv1, gu2, d1, q1, q2, p1, p2, lenc, Nat.mul_one, evOp_icall, reach_eq, cut_eq, ids_w, List.filter_cons, List.filter_nil, hl, icallQ_some]
      rw [← h1]
      rfl
end Go.Proofs.Ytpanbfainilmpaa.Ev.N
end
section
/- Divide: by one limb. -/
set_option linter.unusedVariables false
set_option linter.unusedSimpArgs false
set_option maxRecDepth 100000
set_option maxHeartbeats 4000000
namespace Go.Proofs.Ytpanbfainilmpaa.Ev.N
open Go Go.Proofs.Ytpanbfainilmpaa.Ev

theorem short_step {a : List Nat} (ha : Limbs a) (la : a.length ≤ 100000) {y : Nat} (hy : 0 < y) (hyB : y < B64) (j : Nat) (hj : j < a.length) :
    loopR AA XX [0, 1, 8, 9, 10] 3 b83_0 (RUN AA XX b83_0 ⟨[(0, (AV.c (C.d (D.sl (List.map n64 (a)))))), (1, (AV.c (C.d (D.sl (List.map n64 ([y])))))), (8, .ref 2 0 a.length), (9, (AV.c (C.d (D.sc (Value.int IntKind.u64 ((val a / B64 ^ (j + 1) % y : Nat))))))), (10, (AV.c (C.d (D.sc (Value.int IntKind.i64 (j))))))], [(0, .tok 0 0), (1, .tok 0 0), (2, .arr ((digs a.length (val a / B64 ^ (j + 1) / y * B64 ^ (j + 1))).map w64))], 3⟩) =
    loopR AA XX [0, 1, 8, 9, 10] 3 b83_0 (RUN AA XX b83_0 ⟨[(0, (AV.c (C.d (D.sl (List.map n64 (a)))))), (1, (AV.c (C.d (D.sl (List.map n64 ([y])))))), (8, .ref 2 0 a.length), (9, (AV.c (C.d (D.sc (Value.int IntKind.u64 ((val a / B64 ^ j % y : Nat))))))), (10, (AV.c (C.d (D.sc (Value.int IntKind.i64 ((j : Int) - 1))))))], [(0, .tok 0 0), (1, .tok 0 0), (2, .arr ((digs a.length (val a / B64 ^ j / y * B64 ^ j)).map w64))], 3⟩) := by
  obtain ⟨_, s2, s3, s4⟩ := place_step (val a) y j hy
  have hx : a[j] = val a / B64 ^ j % B64 := by rw [← limb_eq ha, limb_get hj]
  rw [← hx] at s2 s3 s4
  have hr := Nat.mod_lt (val a / B64 ^ (j + 1)) hy
  have hdv := Div115 (lo := a[j]) hy hr (ha.get hj) hyB
  rw [← s3] at hdv
  have hqs : val a / B64 ^ (j + 1) / y * B64 ^ (j + 1) < B64 ^ a.length :=
    Nat.lt_of_le_of_lt (Nat.le_trans (Nat.mul_le_mul_right _ (Nat.div_le_self _ _)) (Nat.div_mul_le_self _ _)) (val_lt ha)
  obtain ⟨t1, _⟩ := quot_set hj s4 hqs
  rw [← s2] at t1
  have hg := getn hj
  have hw := wrap_i64_pred j (by omega)
  have d0 : decide ((0 : Int) ≤ (j : Int)) = true := decide_eq_true (by omega)
  have q1 : ((j : Int) < (a.length : Int)) = True := eq_true (by omega)
  have q2 : (j < a.length) = True := eq_true hj
  have hdl := digs_len a.length (val a / B64 ^ (j + 1) / y * B64 ^ (j + 1))
  rw [b83_0_run]
  simp only [go_sem, ↓reduceIte, Nat.reduceAdd, Nat.reduceSub, Nat.reduceMul, Nat.reduceEqDiff, Nat.reduceLT, Nat.reduceShiftRight, Nat.reduceAnd, Nat.reduceBNe, Nat.reduceLeDiff, Nat.reduceBEq, Nat.testBit, Nat.zero_lt_one, Int.reduceToNat, Int.reduceNeg, Int.reduceLE, Int.reduceLT, Int.reduceEq, decide_true, decide_false, Bool.and_true, Bool.true_and, Bool.and_false, Bool.false_and, Bool.or_true, Bool.true_or, Bool.or_false, Bool.false_or, Bool.not_true, Bool.not_false, beq_self_eq_true, reduceCtorEq, Int.le_refl, Nat.add_zero, and_self, and_true, true_and, or_true, true_or, if_true, if_false, Nat.le_refl, Bool.and_self, eq_self, Bool.not_false, Bool.not_true, d0, hg, hdv, hw, q1, q2, lenc, hdl, setc, t1, oldc, Nat.mul_one, n64]
end Go.Proofs.Ytpanbfainilmpaa.Ev.N
end
section
/- Divide: Knuth's loop. -/
set_option linter.unusedVariables false
set_option linter.unusedSimpArgs false
set_option maxRecDepth 100000
set_option maxHeartbeats 4000000
namespace Go.Proofs.Ytpanbfainilmpaa.Ev.N
open Go Go.Proofs.Ytpanbfainilmpaa.Ev

theorem val_win {U : List Nat} {off k T : Nat} (h : off + k ≤ U.length) : val (win U off k T) = val (U.take off) + B64 ^ off * (T % B64 ^ k) + B64 ^ (off + k) * val (U.drop (off + k)) := by
  unfold win
  rw [val_append, val_append, val_digs, List.length_append, List.length_take, digs_len, Nat.min_eq_left (by omega)]
theorem wv_eq {U : List Nat} (hU : Limbs U) {off k : Nat} (h : off + k ≤ U.length) : wv U off k = val U / B64 ^ off % B64 ^ k := by
  unfold wv
  rw [val_take (hU.drop off) (by rw [List.length_drop]; omega), val_drop hU (by omega)]
/-- The window of what is left, mended. -/
theorem win_rem {N n U0 Z j : Nat} (hZ : 0 < Z) (hZn : Z < B64 ^ n) (hj : j + n + 1 ≤ N) :
    wv (digs N (rem U0 Z (j + 1))) j (n + 1) = U0 / B64 ^ (j + 1) % Z * B64 + U0 / B64 ^ j % B64 ∧
    win (digs N (rem U0 Z (j + 1))) j (n + 1) ((U0 / B64 ^ (j + 1) % Z * B64 + U0 / B64 ^ j % B64) % Z) = digs N (rem U0 Z j) := by
  have hl : rem U0 Z (j + 1) < B64 ^ (n + (j + 1)) := rem_lt hZ hZn
  have hN : B64 ^ (n + (j + 1)) ≤ B64 ^ N := Nat.pow_le_pow_right B_pos (by omega)
  have hv : val (digs N (rem U0 Z (j + 1))) = rem U0 Z (j + 1) := by rw [val_digs, Nat.mod_eq_of_lt (by omega)]
  have hw : rem U0 Z (j + 1) / B64 ^ j < B64 ^ (n + 1) := by
    rw [Nat.div_lt_iff_lt_mul (Bp_pos j), ← Nat.pow_add, show n + 1 + j = n + (j + 1) by omega]; exact hl
  constructor
  · rw [wv_eq (digs_limbs _ _) (by rw [digs_len]; omega), hv, Nat.mod_eq_of_lt hw, rem_div _ _ _ hZ]
  · obtain ⟨_, _, s3, _⟩ := place_step U0 Z j hZ
    rw [← s3]
    have hz0 : rem U0 Z (j + 1) / B64 ^ (j + (n + 1)) = 0 := Nat.div_eq_of_lt (by rw [show j + (n + 1) = n + (j + 1) by omega]; exact hl)
    have hval : val (win (digs N (rem U0 Z (j + 1))) j (n + 1) (U0 / B64 ^ j % Z)) = rem U0 Z j := by
      rw [val_win (by rw [digs_len]; omega), val_take (digs_limbs _ _) (by rw [digs_len]; omega), val_drop (digs_limbs _ _) (by rw [digs_len]; omega), hv, rem_mod, hz0, Nat.mul_zero, Nat.add_zero]
      have h1 := Nat.mod_lt (U0 / B64 ^ j) hZ
      have h2 : B64 ^ n ≤ B64 ^ (n + 1) := Nat.pow_le_pow_right B_pos (by omega)
      rw [Nat.mod_eq_of_lt (a := U0 / B64 ^ j % Z) (by omega)]
      unfold rem
      rw [Nat.mul_comm, Nat.add_comm]
    have h := digs_val (win_limbs (digs_limbs N (rem U0 Z (j + 1))) j (n + 1) (U0 / B64 ^ j % Z))
    rw [win_len (by rw [digs_len]; omega), digs_len, hval] at h
    exact h.symm

theorem knuth_step {N M k s U0 Z : Nat} {V : List Nat} (hV : Limbs V) (hVl : V.length = k + 3) (hVv : val (V.take (k + 2)) = Z) (hZ : 0 < Z) (hZn : Z < B64 ^ (k + 2)) (hNM : N = M + (k + 2)) (hN : N ≤ 200000) (hQ : U0 / Z < B64 ^ M) (hsM : s < 64) (j : Nat) (hj : j < M) :
    loopR AA XX [7, 11, 12, 13, 14, 15] 7 b83_1 (RUN AA XX b83_1 ⟨[(7, (AV.c (C.d (D.sc (Value.int IntKind.i64 ((k + 2 : Nat))))))), (11, (AV.c (C.d (D.sc (Value.int IntKind.i64 ((s : Nat))))))), (12, .ref 3 0 N), (13, .ref 5 0 (k + 2)), (14, .ref 6 0 M), (15, (AV.c (C.d (D.sc (Value.int IntKind.i64 (j))))))], [(0, .tok 0 0), (1, .tok 0 0), (2, .tok 0 0), (3, .arr ((digs N (rem U0 Z (j + 1))).map w64)), (4, .tok 0 0), (5, .arr (V.map w64)), (6, .arr ((digs M (U0 / B64 ^ (j + 1) / Z * B64 ^ (j + 1))).map w64))], 7⟩) =
    loopR AA XX [7, 11, 12, 13, 14, 15] 7 b83_1 (RUN AA XX b83_1 ⟨[(7, (AV.c (C.d (D.sc (Value.int IntKind.i64 ((k + 2 : Nat))))))), (11, (AV.c (C.d (D.sc (Value.int IntKind.i64 ((s : Nat))))))), (12, .ref 3 0 N), (13, .ref 5 0 (k + 2)), (14, .ref 6 0 M), (15, (AV.c (C.d (D.sc (Value.int IntKind.i64 ((j : Int) - 1))))))], [(0, .tok 0 0), (1, .tok 0 0), (2, .tok 0 0), (3, .arr ((digs N (rem U0 Z j)).map w64)), (4, .tok 0 0), (5, .arr (V.map w64)), (6, .arr ((digs M (U0 / B64 ^ j / Z * B64 ^ j)).map w64))], 7⟩) := by
  obtain ⟨w1, w2⟩ := win_rem (N := N) (n := k + 2) (U0 := U0) (j := j) hZ hZn (by omega)
  obtain ⟨_, s2, s3, s4⟩ := place_step U0 Z j hZ
  have hU := digs_limbs N (rem U0 Z (j + 1))
  have hdl := digs_len N (rem U0 Z (j + 1))
  have g := Guess118 hU hV (k := k) (off := j) (by omega) (by omega) (by omega) (by omega) (by rw [hVv]; exact hZ) (by rw [hVv, w1]; exact s4)
  rw [hVv, w1, w2] at g
  have hqs : U0 / B64 ^ (j + 1) / Z * B64 ^ (j + 1) < B64 ^ M := by
    refine Nat.lt_of_le_of_lt ?_ hQ
    rw [Nat.div_div_eq_div_mul, Nat.mul_comm (B64 ^ (j + 1)), ← Nat.div_div_eq_div_mul]
    exact Nat.div_mul_le_self _ _
  obtain ⟨t1, _⟩ := quot_set hj s4 hqs
  rw [← s2] at t1
  have hdq := digs_len M (U0 / B64 ^ (j + 1) / Z * B64 ^ (j + 1))
  have hw := wrap_i64_pred j (by omega)
  have d0 : decide ((0 : Int) ≤ (j : Int)) = true := decide_eq_true (by omega)
  have a1 := wrap_iadd (a := j) (b := k + 2) (by omega)
  have a2 := wrap_succ (j + (k + 2)) (by omega)
  have b1 : ((j : Int) ≤ ((j + (k + 2) + 1 : Nat) : Int)) = True := eq_true (by omega)
  have b2 : (((j + (k + 2) + 1 : Nat) : Int) ≤ (N : Int)) = True := eq_true (by omega)
  have b3 : (((j + (k + 2) + 1 : Nat) : Int) - (j : Int)).toNat = k + 3 := by omega
  have q1 : ((j : Int) < (M : Int)) = True := eq_true (by omega)
  have q2 : (j < M) = True := eq_true hj
  rw [b83_1_run]
  simp only [go_sem, ↓reduceIte, Nat.reduceAdd, Nat.reduceSub, Nat.reduceMul, Nat.reduceEqDiff, Nat.reduceLT, Nat.reduceShiftRight, Nat.reduceAnd, Nat.reduceBNe, Nat.reduceLeDiff, Nat.reduceBEq, Nat.testBit, Nat.zero_lt_one, Int.reduceToNat, Int.reduceNeg, Int.reduceLE, Int.reduceLT, Int.reduceEq, decide_true, decide_false, Bool.and_true, Bool.true_and, Bool.and_false, Bool.false_and, Bool.or_true, Bool.true_or, Bool.or_false, Bool.false_or, Bool.not_true, Bool.not_false, beq_self_eq_true, reduceCtorEq, Int.le_refl, Nat.add_zero, and_self, and_true, true_and, or_true, true_or, if_true, if_false, Nat.le_refl, Bool.and_self, eq_self, Bool.not_false, Bool.not_true, d0, a1, a2, hw, b1, b2, b3, q1, q2, evOp_icall, reach_eq, cut_eq, ids_w, List.filter_cons, List.filter_nil, g, icallQ_some, oldc, lenc, hdl, hdq, setc, t1, Nat.mul_one, Nat.zero_add]
end Go.Proofs.Ytpanbfainilmpaa.Ev.N
end
section
/- Divide: the whole. -/
set_option linter.unusedVariables false
set_option linter.unusedSimpArgs false
set_option maxRecDepth 100000
set_option maxHeartbeats 4000000
namespace Go.Proofs.Ytpanbfainilmpaa.Ev.N
open Go Go.Proofs.Ytpanbfainilmpaa.Ev

section
variable {a b : List Nat} (ha : Limbs a) (hb : Limbs b) (la : a.length ≤ 90000) (lb : b.length ≤ 90000)
include ha hb la lb
theorem div83_small (h : val b = 0 ∨ val a < val b) : (KL AA XX).call 83 [(PV.one (D.sl (List.map n64 (a)))), (PV.one (D.sl (List.map n64 (b))))] = some (divV (val a) (val b)) := by
  have t1 := Trim68 ha (by omega)
  have t2 := Trim68 hb (by omega)
  have hla : (dig (val a)).length ≤ 90000 := Nat.le_trans (dlen' (val_lt ha)) la
  have hlb : (dig (val b)).length ≤ 90000 := Nat.le_trans (dlen' (val_lt hb)) lb
  rw [c83]
  by_cases h0 : val b = 0
  · have hd : divV (val a) (val b) = [nl [], nl [], .one (.sc (.bool false))] := if_pos h0
    rw [h0] at t2
    rw [hd]
    simp only [go_sem, ↓reduceIte, Nat.reduceAdd, Nat.reduceSub, Nat.reduceMul, Nat.reduceEqDiff, Nat.reduceLT, Nat.reduceShiftRight, Nat.reduceAnd, Nat.reduceBNe, Nat.reduceLeDiff, Nat.reduceBEq, Nat.testBit, Nat.zero_lt_one, Int.reduceToNat, Int.reduceNeg, Int.reduceLE, Int.reduceLT, Int.reduceEq, decide_true, decide_false, Bool.and_true, Bool.true_and, Bool.and_false, Bool.false_and, Bool.or_true, Bool.true_or, Bool.or_false, Bool.false_or, Bool.not_true, Bool.not_false, beq_self_eq_true, reduceCtorEq, Int.le_refl, Nat.add_zero, and_self, and_true, true_and, or_true, true_or, if_true, if_false, Nat.le_refl, Bool.and_self, eq_self, Bool.not_false, Bool.not_true, t1, t2, dig_zero, List.map_nil, show ((0 : Nat) : Int) = 0 from rfl, nl]
  · have hlt : val a < val b := by rcases h with h | h; exact absurd h h0; exact h
    have hd : divV (val a) (val b) = [nl (dig (val a / val b)), nl (dig (val a % val b)), .one (.sc (.bool true))] := if_neg h0
    rw [Nat.div_eq_of_lt hlt, Nat.mod_eq_of_lt hlt, dig_zero] at hd
    have d0 : decide ((((dig (val b)).length : Nat) : Int) = 0) = false := decide_eq_false (by rw [dig_len, nlen_pos h0]; omega)
    have c := Cmp67 (dig_limbs (val a)) (dig_limbs (val b)) (by omega) (by omega)
    rw [val_dig, val_dig, show cmpI (val a) (val b) = -1 from if_pos hlt] at c
    rw [hd]
    simp only [go_sem, ↓reduceIte, Nat.reduceAdd, Nat.reduceSub, Nat.reduceMul, Nat.reduceEqDiff, Nat.reduceLT, Nat.reduceShiftRight, Nat.reduceAnd, Nat.reduceBNe, Nat.reduceLeDiff, Nat.reduceBEq, Nat.testBit, Nat.zero_lt_one, Int.reduceToNat, Int.reduceNeg, Int.reduceLE, Int.reduceLT, Int.reduceEq, decide_true, decide_false, Bool.and_true, Bool.true_and, Bool.and_false, Bool.false_and, Bool.or_true, Bool.true_or, Bool.or_false, Bool.false_or, Bool.not_true, Bool.not_false, beq_self_eq_true, reduceCtorEq, Int.le_refl, Nat.add_zero, and_self, and_true, true_and, or_true, true_or, if_true, if_false, Nat.le_refl, Bool.and_self, eq_self, Bool.not_false, Bool.not_true, t1, t2, d0, c, List.map_nil, nl]
theorem div83_short (hge : val b ≤ val a) (hn : nlen (val b) = 1) : (KL AA XX).call 83 [(PV.one (D.sl (List.map n64 (a)))), (PV.one (D.sl (List.map n64 (b))))] = some (divV (val a) (val b)) := by
  have t1 := Trim68 ha (by omega)
  have t2 := Trim68 hb (by omega)
  have hla : (dig (val a)).length ≤ 90000 := Nat.le_trans (dlen' (val_lt ha)) la
  have h0 : val b ≠ 0 := by intro e; rw [e] at hn; simp [nlen] at hn
  have hB1 : val b < B64 := by have := lt_nlen (val b); rw [hn, Nat.pow_one] at this; exact this
  have hdb : dig (val b) = [val b] := by
    unfold dig
    rw [hn]
    simp [digs, Nat.mod_eq_of_lt hB1]
  have hd : divV (val a) (val b) = [nl (dig (val a / val b)), nl (dig (val a % val b)), .one (.sc (.bool true))] := if_neg h0
  have c := Cmp67 (dig_limbs (val a)) (dig_limbs (val b)) (by omega) (by rw [hdb]; simp)
  rw [val_dig, val_dig] at c
  have dc : decide (cmpI (val a) (val b) < 0) = false := by
    unfold cmpI; rw [if_neg (by omega)]; split <;> rfl
  rw [hdb] at c t2
  obtain ⟨L, hL⟩ : ∃ L, dig (val a) = L := ⟨_, rfl⟩
  have hLl : Limbs L := by rw [← hL]; exact dig_limbs _
  have hLv : val L = val a := by rw [← hL, val_dig]
  rw [hL] at t1 c hla
  have go := iter (F := fun (j : Nat) => loopR AA XX [0, 1, 8, 9, 10] 3 b83_0 (RUN AA XX b83_0 ⟨[(0, (AV.c (C.d (D.sl (List.map n64 (L)))))), (1, (AV.c (C.d (D.sl (List.map n64 ([val b])))))), (8, .ref 2 0 L.length), (9, (AV.c (C.d (D.sc (Value.int IntKind.u64 ((val L / B64 ^ j % val b : Nat))))))), (10, (AV.c (C.d (D.sc (Value.int IntKind.i64 ((j : Int) - 1))))))], [(0, .tok 0 0), (1, .tok 0 0), (2, .arr ((digs L.length (val L / B64 ^ j / val b * B64 ^ j)).map w64))], 3⟩)) (Nat.zero_le L.length) fun j _ hj => by
    have := short_step hLl (by omega) (Nat.pos_of_ne_zero h0) hB1 j hj
    have e1 : ((j + 1 : Nat) : Int) - 1 = (j : Int) := by omega
    show loopR _ _ _ _ _ (RUN _ _ _ _) = loopR _ _ _ _ _ (RUN _ _ _ _)
    rw [e1]
    exact this.symm
  have hz : val L / B64 ^ L.length = 0 := Nat.div_eq_of_lt (val_lt hLl)
  rw [hLv] at hz
  simp only [hz, Nat.zero_mod, Nat.zero_div, Nat.zero_mul, digs_zero, Nat.pow_zero, Nat.div_one, Nat.mul_one, hLv, show ((0 : Nat) : Int) = 0 from rfl, List.map_cons, List.map_nil] at go
  simp only [List.map_cons, List.map_nil] at c t2
  have q0 : ((0 : Int) ≤ (L.length : Int)) = True := eq_true (by omega)
  have q1 : ((L.length : Int) * ((8 : Nat) : Int) ≤ (maxBytes : Int)) = True := by
    have h1 : maxBytes = 140737488355328 := rfl
    rw [h1]; exact eq_true (by omega)
  have hzc := zeroc L.length
  have hw := wrap_i64_pred L.length (by omega)
  have q2 : (0 + L.length * 1 ≤ L.length) = True := eq_true (by omega)
  have t3 := Trim68 (digs_limbs L.length (val a / val b)) (by rw [digs_len]; omega)
  rw [val_digs, Nat.mod_eq_of_lt (Nat.lt_of_le_of_lt (Nat.div_le_self _ _) (by rw [← hLv]; exact val_lt hLl))] at t3
  have ch := chunk_w (digs L.length (val a / val b))
  rw [digs_len] at ch
  have hdl := digs_len L.length (val a / val b)
  have lr : Limbs [val a % val b] := Limbs.cons (Nat.lt_trans (Nat.mod_lt _ (Nat.pos_of_ne_zero h0)) hB1) Limbs.nil
  have t4 := Trim68 lr (by simp)
  rw [show val [val a % val b] = val a % val b by simp [val]] at t4
  rw [show List.map n64 [val a % val b] = [[D.sc (Value.int .u64 ((val a % val b : Nat) : Int))]] from rfl] at t4
  rw [hd, c83]
  simp only [go_sem, ↓reduceIte, Nat.reduceAdd, Nat.reduceSub, Nat.reduceMul, Nat.reduceEqDiff, Nat.reduceLT, Nat.reduceShiftRight, Nat.reduceAnd, Nat.reduceBNe, Nat.reduceLeDiff, Nat.reduceBEq, Nat.testBit, Nat.zero_lt_one, Int.reduceToNat, Int.reduceNeg, Int.reduceLE, Int.reduceLT, Int.reduceEq, decide_true, decide_false, Bool.and_true, Bool.true_and, Bool.and_false, Bool.false_and, Bool.or_true, Bool.true_or, Bool.or_false, Bool.false_or, Bool.not_true, Bool.not_false, beq_self_eq_true, reduceCtorEq, Int.le_refl, Nat.add_zero, and_self, and_true, true_and, or_true, true_or, if_true, if_false, Nat.le_refl, Bool.and_self, eq_self, Bool.not_false, Bool.not_true, t1, t2, c, dc, q0, q1, hzc, oldc, hw, Int.toNat_natCast, List.length_cons, List.length_nil, show ((1 : Nat) : Int) = 1 from rfl]
  rw [← go, b83_0_run]
  have dm : decide ((0 : Int) ≤ 0 - 1) = false := rfl
  cases hf : PV.flat (.one (.sl (List.map n64 (dig (val a / val b))))) <;>
    simp only [go_sem, ↓reduceIte, Nat.reduceAdd, Nat.reduceSub, Nat.reduceMul, Nat.reduceEqDiff, Nat.reduceLT, Nat.reduceShiftRight, Nat.reduceAnd, Nat.reduceBNe, Nat.reduceLeDiff, Nat.reduceBEq, Nat.testBit, Nat.zero_lt_one, Int.reduceToNat, Int.reduceNeg, Int.reduceLE, Int.reduceLT, Int.reduceEq, decide_true, decide_false, Bool.and_true, Bool.true_and, Bool.and_false, Bool.false_and, Bool.or_true, Bool.true_or, Bool.or_false, Bool.false_or, Bool.not_true, Bool.not_false, beq_self_eq_true, reduceCtorEq, Int.le_refl, Nat.add_zero, and_self, and_true, true_and, or_true, true_or, if_true, if_false, Nat.le_refl, Bool.and_self, eq_self, Bool.not_false, Bool.not_true, dm, oldc, lenc, hdl, q2, List.drop_zero, ch, t3, t4, Nat.mul_one, hf, Bool.false_eq_true, nl]
omit ha hb la lb in
theorem chunk_take : ∀ (n : Nat) (L : List Nat), n ≤ L.length → chunk 1 n ((L.map w64).map C.toD) = (L.take n).map n64
  | 0, L, _ => rfl
  | n + 1, [], h => by simp at h
  | n + 1, x :: L, h => by
    have := chunk_take n L (by simpa using h)
    simp only [chunk, List.map_cons, List.take_succ_cons, List.take_zero, List.drop_succ_cons, List.drop_zero, this]
    rfl
theorem div83_long (hge : val b ≤ val a) {k : Nat} (hn : nlen (val b) = k + 2) : (KL AA XX).call 83 [(PV.one (D.sl (List.map n64 (a)))), (PV.one (D.sl (List.map n64 (b))))] = some (divV (val a) (val b)) := by
  have t1 := Trim68 ha (by omega)
  have t2 := Trim68 hb (by omega)
  have hla : (dig (val a)).length ≤ 90000 := Nat.le_trans (dlen' (val_lt ha)) la
  have h0 : val b ≠ 0 := by intro e; rw [e] at hn; simp [nlen] at hn
  have hd : divV (val a) (val b) = [nl (dig (val a / val b)), nl (dig (val a % val b)), .one (.sc (.bool true))] := if_neg h0
  have hlb : (dig (val b)).length = k + 2 := by rw [dig_len, hn]
  have hkb : k + 2 ≤ 90000 := by rw [← hlb]; exact Nat.le_trans (dlen' (val_lt hb)) lb
  have c := Cmp67 (dig_limbs (val a)) (dig_limbs (val b)) (by omega) (by omega)
  rw [val_dig, val_dig] at c
  have dc : decide (cmpI (val a) (val b) < 0) = false := by
    unfold cmpI; rw [if_neg (by omega)]; split <;> rfl
  have hab : k + 2 ≤ (dig (val a)).length := by rw [dig_len, ← hn]; exact nlen_mono hge
  have hAL := lt_nlen (val a)
  rw [← dig_len] at hAL
  have hDlo := le_nlen h0
  have hDhi := lt_nlen (val b)
  rw [hn] at hDlo hDhi
  obtain ⟨A, hA⟩ : ∃ A, val a = A := ⟨_, rfl⟩
  obtain ⟨E, hD⟩ : ∃ E, val b = E := ⟨_, rfl⟩
  have hLl := dig_limbs (val a)
  have hMl := dig_limbs (val b)
  have hLv := val_dig (val a)
  have hMv := val_dig (val b)
  rw [hA] at t1 c dc hge hd hla hab hAL hLl hLv
  rw [hD] at t2 c dc hge hd h0 hlb hDlo hDhi hMl hMv
  rw [hA, hD]
  obtain ⟨L, hL⟩ : ∃ L, dig A = L := ⟨_, rfl⟩
  obtain ⟨M, hM⟩ : ∃ M, dig E = M := ⟨_, rfl⟩
  rw [hL] at t1 c hla hab hAL hLl hLv
  rw [hM] at t2 c hlb hMl hMv
  -- the top limb
  have hy : M[k + 1] = E / B64 ^ (k + 1) := by
    rw [← limb_get (show k + 1 < M.length by omega), limb_eq hMl, hMv, Nat.mod_eq_of_lt]
    rw [Nat.div_lt_iff_lt_mul (Bp_pos _), Nat.mul_comm, ← Nat.pow_succ]; exact hDhi
  have hy0 : 0 < M[k + 1] := by rw [hy]; exact Nat.div_pos hDlo (Bp_pos _)
  have hyB : M[k + 1] < B64 := hMl.get (by omega)
  obtain ⟨nb1, nb2, nb3, nb4⟩ := norm_bits hy0 hyB
  have lead := Lead116 hyB
  have hyp := nbits_lt M[k + 1]
  obtain ⟨s, hs⟩ : ∃ s, 64 - nbits M[k + 1] = s := ⟨_, rfl⟩
  rw [hs] at lead
  have hs64 : s < 64 := by omega
  have hZn : E * 2 ^ s < B64 ^ (k + 2) := by
    have e1 := Nat.div_add_mod E (B64 ^ (k + 1))
    have e2 := Nat.mod_lt E (Bp_pos (k + 1))
    rw [← hy] at e1
    have h1 : E < B64 ^ (k + 1) * (M[k + 1] + 1) := by rw [Nat.mul_add, Nat.mul_one]; omega
    have h2 : (M[k + 1] + 1) * 2 ^ s ≤ B64 := by
      have : (M[k + 1] + 1) * 2 ^ s ≤ 2 ^ nbits M[k + 1] * 2 ^ s := Nat.mul_le_mul_right _ hyp
      rw [← Nat.pow_add, show nbits M[k + 1] + s = 64 by omega, ← B_eq] at this
      exact this
    have h3 : E * 2 ^ s < B64 ^ (k + 1) * (M[k + 1] + 1) * 2 ^ s := Nat.mul_lt_mul_of_pos_right h1 (Nat.pow_pos (by decide))
    rw [Nat.mul_assoc] at h3
    have h4 : B64 ^ (k + 1) * ((M[k + 1] + 1) * 2 ^ s) ≤ B64 ^ (k + 1) * B64 := Nat.mul_le_mul_left _ h2
    rw [← Nat.pow_succ] at h4
    exact Nat.lt_of_lt_of_le h3 h4
  have hZ0 : 0 < E * 2 ^ s := Nat.mul_pos (Nat.pos_of_ne_zero h0) (Nat.pow_pos (by decide))
  have u1 := Up117_2 hLl (by omega) hs64
  have u2 := Up117_4 hMl (by omega) hs64
  rw [hLv] at u1
  rw [hMv, hlb] at u2
  obtain ⟨N, hN⟩ : ∃ N, L.length = N := ⟨_, rfl⟩
  rw [hN] at u1 hla hab hAL
  obtain ⟨m, hm⟩ : ∃ m, N + 1 = m + (k + 2) := ⟨N + 1 - (k + 2), by omega⟩
  rw [hm] at u1
  have hqd : A * 2 ^ s / (E * 2 ^ s) = A / E := Nat.mul_div_mul_right _ _ (Nat.pow_pos (by decide))
  have hqm : A * 2 ^ s % (E * 2 ^ s) = A % E * 2 ^ s := Nat.mul_mod_mul_right _ _ _
  have hQ : A * 2 ^ s / (E * 2 ^ s) < B64 ^ m := by
    rw [hqd, Nat.div_lt_iff_lt_mul (Nat.pos_of_ne_zero h0)]
    have h1 : B64 ^ (k + 1) * B64 ^ m ≤ E * B64 ^ m := Nat.mul_le_mul_right _ hDlo
    rw [← Nat.pow_add, show k + 1 + m = N by omega] at h1
    rw [Nat.mul_comm]
    exact Nat.lt_of_lt_of_le hAL h1
  have hV := digs_limbs (k + 2 + 1) (E * 2 ^ s)
  have hVl := digs_len (k + 2 + 1) (E * 2 ^ s)
  have hVv : val ((digs (k + 2 + 1) (E * 2 ^ s)).take (k + 2)) = E * 2 ^ s := by
    rw [val_take hV (by omega), val_digs, Nat.mod_mod_of_dvd _ (Nat.pow_dvd_pow _ (by omega)), Nat.mod_eq_of_lt hZn]
  have go := iter (F := fun (j : Nat) => loopR AA XX [7, 11, 12, 13, 14, 15] 7 b83_1 (RUN AA XX b83_1 ⟨[(7, (AV.c (C.d (D.sc (Value.int IntKind.i64 ((k + 2 : Nat))))))), (11, (AV.c (C.d (D.sc (Value.int IntKind.i64 ((s : Nat))))))), (12, .ref 3 0 (m + (k + 2))), (13, .ref 5 0 (k + 2)), (14, .ref 6 0 m), (15, (AV.c (C.d (D.sc (Value.int IntKind.i64 ((j : Int) - 1))))))], [(0, .tok 0 0), (1, .tok 0 0), (2, .tok 0 0), (3, .arr ((digs (m + (k + 2)) (rem (A * 2 ^ s) (E * 2 ^ s) j)).map w64)), (4, .tok 0 0), (5, .arr ((digs (k + 2 + 1) (E * 2 ^ s)).map w64)), (6, .arr ((digs m (A * 2 ^ s / B64 ^ j / (E * 2 ^ s) * B64 ^ j)).map w64))], 7⟩)) (Nat.zero_le m) fun j _ hj => by
    have := knuth_step hV hVl hVv hZ0 hZn rfl (by omega) hQ hs64 j hj
    have e1 : ((j + 1 : Nat) : Int) - 1 = (j : Int) := by omega
    show loopR _ _ _ _ _ (RUN _ _ _ _) = loopR _ _ _ _ _ (RUN _ _ _ _)
    rw [e1]
    exact this.symm
  have hz : A * 2 ^ s / B64 ^ m / (E * 2 ^ s) = 0 := by
    rw [Nat.div_div_eq_div_mul, Nat.mul_comm (B64 ^ m), ← Nat.div_div_eq_div_mul]; exact Nat.div_eq_of_lt hQ
  have hrm : rem (A * 2 ^ s) (E * 2 ^ s) m = A * 2 ^ s := by
    unfold rem
    have h1 : A * 2 ^ s / B64 ^ m < E * 2 ^ s := by
      rw [Nat.div_lt_iff_lt_mul (Bp_pos m), Nat.mul_comm (E * 2 ^ s), ← Nat.div_lt_iff_lt_mul hZ0]; exact hQ
    rw [Nat.mod_eq_of_lt h1, Nat.mul_comm]
    exact Nat.div_add_mod _ _
  have hr0 : rem (A * 2 ^ s) (E * 2 ^ s) 0 = A % E * 2 ^ s := by
    unfold rem
    rw [Nat.pow_zero, Nat.div_one, Nat.mul_one, Nat.mod_one, Nat.add_zero, hqm]
  simp only [hz, hrm, hr0, Nat.zero_mul, digs_zero, Nat.pow_zero, Nat.div_one, Nat.mul_one, hqd, show ((0 : Nat) : Int) = 0 from rfl] at go
  have d0 : decide (((k + 2 : Nat) : Int) = 0) = false := decide_eq_false (by omega)
  have d1 : decide (((k + 2 : Nat) : Int) = 1) = false := decide_eq_false (by omega)
  have e1 : IntKind.i64.wrap (((k + 2 : Nat) : Int) - 1) = ((k + 1 : Nat) : Int) := by rw [wrap_i64 _ (by omega) (by omega)]; omega
  have e2 : IntKind.i64.wrap (((m + (k + 2) : Nat) : Int) - ((k + 2 : Nat) : Int)) = (m : Int) := by rw [wrap_i64 _ (by omega) (by omega)]; omega
  have gm := getn (l := M) (i := k + 1) (by omega)
  have q1 : (((k + 1 : Nat) : Int) < (M.length : Int)) = True := eq_true (by omega)
  have hw := wrap_i64_pred m (by omega)
  have q3 : ((0 : Int) ≤ (m : Int)) = True := eq_true (by omega)
  have q4 : ((m : Int) * ((8 : Nat) : Int) ≤ (maxBytes : Int)) = True := by
    have h1 : maxBytes = 140737488355328 := rfl
    rw [h1]; exact eq_true (by omega)
  have hzc := zeroc m
  have t3 := Trim68 (digs_limbs m (A / E)) (by rw [digs_len]; omega)
  rw [val_digs, Nat.mod_eq_of_lt (by rw [← hqd]; exact hQ)] at t3
  have ch := chunk_w (digs m (A / E))
  rw [digs_len] at ch
  have hdl := digs_len m (A / E)
  have hdl3 := digs_len (m + (k + 2)) (A % E * 2 ^ s)
  rw [hd, c83]
  have b1 : (((k + 2 : Nat) : Int) ≤ ((k + 2 + 1 : Nat) : Int)) = True := eq_true (by omega)
  simp only [go_sem, ↓reduceIte, Nat.reduceAdd, Nat.reduceSub, Nat.reduceMul, Nat.reduceEqDiff, Nat.reduceLT, Nat.reduceShiftRight, Nat.reduceAnd, Nat.reduceBNe, Nat.reduceLeDiff, Nat.reduceBEq, Nat.testBit, Nat.zero_lt_one, Int.reduceToNat, Int.reduceNeg, Int.reduceLE, Int.reduceLT, Int.reduceEq, decide_true, decide_false, Bool.and_true, Bool.true_and, Bool.and_false, Bool.false_and, Bool.or_true, Bool.true_or, Bool.or_false, Bool.false_or, Bool.not_true, Bool.not_false, beq_self_eq_true, reduceCtorEq, Int.le_refl, Nat.add_zero, and_self, and_true, true_and, or_true, true_or, if_true, if_false, Nat.le_refl, Bool.and_self, eq_self, Bool.not_false, Bool.not_true, b1, Int.sub_zero, t1, t2, c, dc, d0, d1, hlb, e1, e2, gm, q1, lead, hs, u1, u2, q3, q4, hw, hzc, oldc, lenc, Int.toNat_natCast, evOp_icall, reach_eq, cut_eq, ids_w, List.filter_cons, List.filter_nil, icallQ_some]
  rw [← go, b83_1_run]
  have dm : decide ((0 : Int) ≤ 0 - 1) = false := rfl
  have q5 : (0 + m * 1 ≤ m) = True := eq_true (by omega)
  have q6 : (k + 2 ≤ m + (k + 2)) = True := eq_true (by omega)
  have b5 : (((k + 2 : Nat) : Int) ≤ ((m + (k + 2) : Nat) : Int)) = True := eq_true (by omega)
  have ck := chunk_take (k + 2) (digs (m + (k + 2)) (A % E * 2 ^ s)) (by omega)
  have hrl : A % E * 2 ^ s < B64 ^ (k + 2) := by
    rw [← hqm]; exact Nat.lt_trans (Nat.mod_lt _ hZ0) hZn
  have t4 := Back119 ((digs_limbs (m + (k + 2)) (A % E * 2 ^ s)).take (k + 2)) (by rw [List.length_take, digs_len]; omega) hs64
  rw [val_take (digs_limbs _ _) (by omega), val_digs, Nat.mod_mod_of_dvd _ (Nat.pow_dvd_pow _ (by omega)), Nat.mod_eq_of_lt hrl, Nat.mul_div_cancel _ (Nat.pow_pos (by decide))] at t4
  cases hf : PV.flat (.one (.sl (List.map n64 (dig (A / E))))) <;> cases hf2 : PV.flat (.one (.sl (List.map n64 (dig (A % E))))) <;>
    simp only [go_sem, ↓reduceIte, Nat.reduceAdd, Nat.reduceSub, Nat.reduceMul, Nat.reduceEqDiff, Nat.reduceLT, Nat.reduceShiftRight, Nat.reduceAnd, Nat.reduceBNe, Nat.reduceLeDiff, Nat.reduceBEq, Nat.testBit, Nat.zero_lt_one, Int.reduceToNat, Int.reduceNeg, Int.reduceLE, Int.reduceLT, Int.reduceEq, decide_true, decide_false, Bool.and_true, Bool.true_and, Bool.and_false, Bool.false_and, Bool.or_true, Bool.true_or, Bool.or_false, Bool.false_or, Bool.not_true, Bool.not_false, beq_self_eq_true, reduceCtorEq, Int.le_refl, Nat.add_zero, and_self, and_true, true_and, or_true, true_or, if_true, if_false, Nat.le_refl, Bool.and_self, eq_self, Bool.not_false, Bool.not_true, dm, oldc, lenc, hdl, hdl3, q5, q6, b5, Int.sub_zero, Int.toNat_natCast, List.drop_zero, ch, ck, t3, t4, Nat.mul_one, hf, hf2, Bool.false_eq_true, nl]
theorem Divide83 : (KL AA XX).call 83 [(PV.one (D.sl (List.map n64 (a)))), (PV.one (D.sl (List.map n64 (b))))] = some (divV (val a) (val b)) := by
  by_cases h0 : val b = 0
  · exact div83_small ha hb la lb (.inl h0)
  · by_cases hlt : val a < val b
    · exact div83_small ha hb la lb (.inr hlt)
    · have hp := nlen_pos h0
      rcases Nat.lt_or_ge (nlen (val b)) 2 with h | h
      · exact div83_short ha hb la lb (by omega) (by omega)
      · exact div83_long ha hb la lb (by omega) (k := nlen (val b) - 2) (by omega)
end
end Go.Proofs.Ytpanbfainilmpaa.Ev.N
end
section
/- The documents' examples of the numbers' chapters, reckoned by the kernel. -/
set_option linter.unusedVariables false
set_option linter.unusedSimpArgs false
set_option maxRecDepth 100000
namespace Go.Proofs.Ytpanbfainilmpaa.Ev.N
open Go Go.Proofs.Ytpanbfainilmpaa.Ev
theorem awake_of {k n : Nat} (h : (mkK AA XX n).call k [] = some [.one (.sc (.bool true))]) : (KL AA XX).call k [] = some [.one (.sc (.bool true))] := (KL_call AA XX).2 ⟨n, h⟩
theorem awake62 : (KL AA XX).call 62 [] = some [.one (.sc (.bool true))] := awake_of (n := 200) (by kernel_rfl)
theorem awake82 : (KL AA XX).call 82 [] = some [.one (.sc (.bool true))] := awake_of (n := 300) (by kernel_rfl)
end Go.Proofs.Ytpanbfainilmpaa.Ev.N
end
section
/- The laws of chapter 01 in the evaluator: they answer true. -/
set_option linter.unusedVariables false
set_option linter.unusedSimpArgs false
set_option maxRecDepth 100000
set_option maxHeartbeats 4000000
namespace Go.Proofs.Ytpanbfainilmpaa.Ev.N
open Go Go.Proofs.Ytpanbfainilmpaa.Ev

theorem Equal65 (l : List Nat) (hl : l.length ≤ 10000000) : (KL AA XX).call 65 [(PV.one (D.sl (List.map n64 (l)))), (PV.one (D.sl (List.map n64 (l))))] = some [(PV.one (D.sc (Value.bool (true))))] := by
  have go := iter (F := fun (i : Nat) => loopR AA XX [0, 1, 5] 0 b65_0 (RUN AA XX b65_0 ⟨[(0, (AV.c (C.d (D.sl (List.map n64 (l)))))), (1, (AV.c (C.d (D.sl (List.map n64 (l)))))), (5, (AV.c (C.d (D.sc (Value.int IntKind.i64 (i))))))], [], 0⟩)) (Nat.zero_le l.length) fun i _ hi => by
    have hlt := ltT hi
    have hw := wrap_succ i (by omega)
    have hg := getn hi
    have d : decide (((l[i] : Nat) : Int) = ((l[i] : Nat) : Int)) = true := decide_eq_true rfl
    show loopR _ _ _ _ _ (RUN _ _ _ _) = _
    rw [b65_0_run]
    simp only [go_sem, ↓reduceIte, Nat.reduceAdd, Nat.reduceSub, Nat.reduceMul, Nat.reduceEqDiff, Nat.reduceLT, Nat.reduceShiftRight, Nat.reduceAnd, Nat.reduceBNe, Nat.reduceLeDiff, Nat.reduceBEq, Nat.testBit, Nat.zero_lt_one, Int.reduceToNat, Int.reduceNeg, Int.reduceLE, Int.reduceLT, Int.reduceEq, decide_true, decide_false, Bool.and_true, Bool.true_and, Bool.and_false, Bool.false_and, Bool.or_true, Bool.true_or, Bool.or_false, Bool.false_or, Bool.not_true, Bool.not_false, beq_self_eq_true, reduceCtorEq, Int.le_refl, Nat.add_zero, and_self, and_true, true_and, or_true, true_or, if_true, if_false, Nat.le_refl, Bool.and_self, eq_self, Bool.not_false, Bool.not_true, hlt, hw, hg, d]
  simp only [show ((0 : Nat) : Int) = 0 from rfl] at go
  have d : decide (((l.length : Nat) : Int) = ((l.length : Nat) : Int)) = true := decide_eq_true rfl
  rw [c65]
  simp only [go_sem, ↓reduceIte, Nat.reduceAdd, Nat.reduceSub, Nat.reduceMul, Nat.reduceEqDiff, Nat.reduceLT, Nat.reduceShiftRight, Nat.reduceAnd, Nat.reduceBNe, Nat.reduceLeDiff, Nat.reduceBEq, Nat.testBit, Nat.zero_lt_one, Int.reduceToNat, Int.reduceNeg, Int.reduceLE, Int.reduceLT, Int.reduceEq, decide_true, decide_false, Bool.and_true, Bool.true_and, Bool.and_false, Bool.false_and, Bool.or_true, Bool.true_or, Bool.or_false, Bool.false_or, Bool.not_true, Bool.not_false, beq_self_eq_true, reduceCtorEq, Int.le_refl, Nat.add_zero, and_self, and_true, true_and, or_true, true_or, if_true, if_false, Nat.le_refl, Bool.and_self, eq_self, Bool.not_false, Bool.not_true, d]
  rw [go, b65_0_run]
  simp only [go_sem, ↓reduceIte, Nat.reduceAdd, Nat.reduceSub, Nat.reduceMul, Nat.reduceEqDiff, Nat.reduceLT, Nat.reduceShiftRight, Nat.reduceAnd, Nat.reduceBNe, Nat.reduceLeDiff, Nat.reduceBEq, Nat.testBit, Nat.zero_lt_one, Int.reduceToNat, Int.reduceNeg, Int.reduceLE, Int.reduceLT, Int.reduceEq, decide_true, decide_false, Bool.and_true, Bool.true_and, Bool.and_false, Bool.false_and, Bool.or_true, Bool.true_or, Bool.or_false, Bool.false_or, Bool.not_true, Bool.not_false, beq_self_eq_true, reduceCtorEq, Int.le_refl, Nat.add_zero, and_self, and_true, true_and, or_true, true_or, if_true, if_false, Nat.le_refl, Bool.and_self, eq_self, Bool.not_false, Bool.not_true, Int.lt_irrefl]

theorem Equal85 (l : List Nat) (hl : l.length ≤ 10000000) : (KL AA XX).call 85 [(PV.one (D.sl (List.map n64 (l)))), (PV.one (D.sl (List.map n64 (l))))] = some [(PV.one (D.sc (Value.bool (true))))] := by
  have go := iter (F := fun (i : Nat) => loopR AA XX [0, 1, 5] 0 b85_0 (RUN AA XX b85_0 ⟨[(0, (AV.c (C.d (D.sl (List.map n64 (l)))))), (1, (AV.c (C.d (D.sl (List.map n64 (l)))))), (5, (AV.c (C.d (D.sc (Value.int IntKind.i64 (i))))))], [], 0⟩)) (Nat.zero_le l.length) fun i _ hi => by
    have hlt := ltT hi
    have hw := wrap_succ i (by omega)
    have hg := getn hi
    have d : decide (((l[i] : Nat) : Int) = ((l[i] : Nat) : Int)) = true := decide_eq_true rfl
    show loopR _ _ _ _ _ (RUN _ _ _ _) = _
    rw [b85_0_run]
    simp only [go_sem, ↓reduceIte, Nat.reduceAdd, Nat.reduceSub, Nat.reduceMul, Nat.reduceEqDiff, Nat.reduceLT, Nat.reduceShiftRight, Nat.reduceAnd, Nat.reduceBNe, Nat.reduceLeDiff, Nat.reduceBEq, Nat.testBit, Nat.zero_lt_one, Int.reduceToNat, Int.reduceNeg, Int.reduceLE, Int.reduceLT, Int.reduceEq, decide_true, decide_false, Bool.and_true, Bool.true_and, Bool.and_false, Bool.false_and, Bool.or_true, Bool.true_or, Bool.or_false, Bool.false_or, Bool.not_true, Bool.not_false, beq_self_eq_true, reduceCtorEq, Int.le_refl, Nat.add_zero, and_self, and_true, true_and, or_true, true_or, if_true, if_false, Nat.le_refl, Bool.and_self, eq_self, Bool.not_false, Bool.not_true, hlt, hw, hg, d]
  simp only [show ((0 : Nat) : Int) = 0 from rfl] at go
  have d : decide (((l.length : Nat) : Int) = ((l.length : Nat) : Int)) = true := decide_eq_true rfl
  rw [c85]
  simp only [go_sem, ↓reduceIte, Nat.reduceAdd, Nat.reduceSub, Nat.reduceMul, Nat.reduceEqDiff, Nat.reduceLT, Nat.reduceShiftRight, Nat.reduceAnd, Nat.reduceBNe, Nat.reduceLeDiff, Nat.reduceBEq, Nat.testBit, Nat.zero_lt_one, Int.reduceToNat, Int.reduceNeg, Int.reduceLE, Int.reduceLT, Int.reduceEq, decide_true, decide_false, Bool.and_true, Bool.true_and, Bool.and_false, Bool.false_and, Bool.or_true, Bool.true_or, Bool.or_false, Bool.false_or, Bool.not_true, Bool.not_false, beq_self_eq_true, reduceCtorEq, Int.le_refl, Nat.add_zero, and_self, and_true, true_and, or_true, true_or, if_true, if_false, Nat.le_refl, Bool.and_self, eq_self, Bool.not_false, Bool.not_true, d]
  rw [go, b85_0_run]
  simp only [go_sem, ↓reduceIte, Nat.reduceAdd, Nat.reduceSub, Nat.reduceMul, Nat.reduceEqDiff, Nat.reduceLT, Nat.reduceShiftRight, Nat.reduceAnd, Nat.reduceBNe, Nat.reduceLeDiff, Nat.reduceBEq, Nat.testBit, Nat.zero_lt_one, Int.reduceToNat, Int.reduceNeg, Int.reduceLE, Int.reduceLT, Int.reduceEq, decide_true, decide_false, Bool.and_true, Bool.true_and, Bool.and_false, Bool.false_and, Bool.or_true, Bool.true_or, Bool.or_false, Bool.false_or, Bool.not_true, Bool.not_false, beq_self_eq_true, reduceCtorEq, Int.le_refl, Nat.add_zero, and_self, and_true, true_and, or_true, true_or, if_true, if_false, Nat.le_refl, Bool.and_self, eq_self, Bool.not_false, Bool.not_true, Int.lt_irrefl]

theorem Small61 (a b : List Nat) : (KL AA XX).call 61 [(PV.one (D.sl (List.map n64 (a)))), (PV.one (D.sl (List.map n64 (b))))] = some [(PV.one (D.sc (Value.bool (decide (a.length ≤ 50 ∧ b.length ≤ 50)))))] := by
  rw [c61]
  by_cases h1 : a.length ≤ 50
  · have d1 : decide ((a.length : Int) ≤ 50) = true := decide_eq_true (by omega)
    by_cases h2 : b.length ≤ 50
    · have d2 : decide ((b.length : Int) ≤ 50) = true := decide_eq_true (by omega)
      simp only [go_sem, ↓reduceIte, Nat.reduceAdd, Nat.reduceSub, Nat.reduceMul, Nat.reduceEqDiff, Nat.reduceLT, Nat.reduceShiftRight, Nat.reduceAnd, Nat.reduceBNe, Nat.reduceLeDiff, Nat.reduceBEq, Nat.testBit, Nat.zero_lt_one, Int.reduceToNat, Int.reduceNeg, Int.reduceLE, Int.reduceLT, Int.reduceEq, decide_true, decide_false, Bool.and_true, Bool.true_and, Bool.and_false, Bool.false_and, Bool.or_true, Bool.true_or, Bool.or_false, Bool.false_or, Bool.not_true, Bool.not_false, beq_self_eq_true, reduceCtorEq, Int.le_refl, Nat.add_zero, and_self, and_true, true_and, or_true, true_or, if_true, if_false, Nat.le_refl, Bool.and_self, eq_self, Bool.not_false, Bool.not_true, d1, d2, h1, h2]
    · have d2 : decide ((b.length : Int) ≤ 50) = false := decide_eq_false (by omega)
      simp only [go_sem, ↓reduceIte, Nat.reduceAdd, Nat.reduceSub, Nat.reduceMul, Nat.reduceEqDiff, Nat.reduceLT, Nat.reduceShiftRight, Nat.reduceAnd, Nat.reduceBNe, Nat.reduceLeDiff, Nat.reduceBEq, Nat.testBit, Nat.zero_lt_one, Int.reduceToNat, Int.reduceNeg, Int.reduceLE, Int.reduceLT, Int.reduceEq, decide_true, decide_false, Bool.and_true, Bool.true_and, Bool.and_false, Bool.false_and, Bool.or_true, Bool.true_or, Bool.or_false, Bool.false_or, Bool.not_true, Bool.not_false, beq_self_eq_true, reduceCtorEq, Int.le_refl, Nat.add_zero, and_self, and_true, true_and, or_true, true_or, if_true, if_false, Nat.le_refl, Bool.and_self, eq_self, Bool.not_false, Bool.not_true, d1, d2, h1, h2, and_false]
  · have d1 : decide ((a.length : Int) ≤ 50) = false := decide_eq_false (by omega)
    simp only [go_sem, ↓reduceIte, Nat.reduceAdd, Nat.reduceSub, Nat.reduceMul, Nat.reduceEqDiff, Nat.reduceLT, Nat.reduceShiftRight, Nat.reduceAnd, Nat.reduceBNe, Nat.reduceLeDiff, Nat.reduceBEq, Nat.testBit, Nat.zero_lt_one, Int.reduceToNat, Int.reduceNeg, Int.reduceLE, Int.reduceLT, Int.reduceEq, decide_true, decide_false, Bool.and_true, Bool.true_and, Bool.and_false, Bool.false_and, Bool.or_true, Bool.true_or, Bool.or_false, Bool.false_or, Bool.not_true, Bool.not_false, beq_self_eq_true, reduceCtorEq, Int.le_refl, Nat.add_zero, and_self, and_true, true_and, or_true, true_or, if_true, if_false, Nat.le_refl, Bool.and_self, eq_self, Bool.not_false, Bool.not_true, d1, h1, false_and]
theorem nbits_lim {n k : Nat} (h : n < B64 ^ k) : nbits n ≤ 64 * k := by rw [nbits_le, ← Bp_eq]; exact h
theorem dlen {n k : Nat} (h : n < B64 ^ k) : (dig n).length ≤ k := by rw [dig_len]; exact nlen_le.2 h
theorem vlt {l : List Nat} (h : Limbs l) {k : Nat} (hk : l.length ≤ k) : val l < B64 ^ k := Nat.lt_of_lt_of_le (val_lt h) (Nat.pow_le_pow_right B_pos hk)
theorem add_lt {a b k : Nat} (ha : a < B64 ^ k) (hb : b < B64 ^ k) : a + b < B64 ^ (k + 1) := by
  have : 2 * B64 ^ k ≤ B64 * B64 ^ k := Nat.mul_le_mul_right _ (by decide)
  rw [Nat.pow_succ, Nat.mul_comm]; omega

theorem nat15 {a b : List Nat} (ha : Limbs a) (hb : Limbs b) : (KL AA XX).call 15 [(PV.one (D.sl (List.map n64 (a)))), (PV.one (D.sl (List.map n64 (b))))] = some [(PV.one (D.sc (Value.bool (true))))] := by
  have s61 := Small61 a b
  rw [c15]
  by_cases h : a.length ≤ 50 ∧ b.length ≤ 50
  · obtain ⟨la, lb⟩ := h
    have hA := vlt ha la
    have hB := vlt hb lb
    have f1 := Sub63 ha hb (by omega) (by omega)
    have f2 := Sub64 ha hb (by omega) (by omega)
    have f3 := Add66 ha hb (by omega) (by omega)
    have f4 := Add59 ha hb (by omega) (by omega)
    have f5 := Cmp67 ha hb (by omega) (by omega)
    have f6 := Compare60 ha hb (by omega) (by omega)
    have f7 := Trim68 ha (by omega)
    have f8 := Trim69 ha (by omega)
    have e1 := Equal65 (dig (val a + val b)) (Nat.le_trans (dlen (add_lt hA hB)) (by omega))
    have e2 := Equal65 (dig (val a)) (Nat.le_trans (dlen hA) (by omega))
    have d1 : decide (cmpI (val a) (val b) = cmpI (val a) (val b)) = true := decide_eq_true rfl
    have d0 : decide (a.length ≤ 50 ∧ b.length ≤ 50) = true := decide_eq_true ⟨la, lb⟩
    unfold subV at f1 f2
    by_cases hle : val b ≤ val a
    · rw [if_pos hle] at f1 f2
      have e3 := Equal65 (dig (val a - val b)) (Nat.le_trans (dlen (Nat.lt_of_le_of_lt (Nat.sub_le _ _) hA)) (by omega))
      simp only [go_sem, ↓reduceIte, Nat.reduceAdd, Nat.reduceSub, Nat.reduceMul, Nat.reduceEqDiff, Nat.reduceLT, Nat.reduceShiftRight, Nat.reduceAnd, Nat.reduceBNe, Nat.reduceLeDiff, Nat.reduceBEq, Nat.testBit, Nat.zero_lt_one, Int.reduceToNat, Int.reduceNeg, Int.reduceLE, Int.reduceLT, Int.reduceEq, decide_true, decide_false, Bool.and_true, Bool.true_and, Bool.and_false, Bool.false_and, Bool.or_true, Bool.true_or, Bool.or_false, Bool.false_or, Bool.not_true, Bool.not_false, beq_self_eq_true, reduceCtorEq, Int.le_refl, Nat.add_zero, and_self, and_true, true_and, or_true, true_or, if_true, if_false, Nat.le_refl, Bool.and_self, eq_self, Bool.not_false, Bool.not_true, s61, d0, awake62, f1, f2, f3, f4, f5, f6, f7, f8, e1, e2, e3, d1, nl]
    · rw [if_neg hle] at f1 f2
      have e3 := Equal65 [] (by simp)
      simp only [List.map_nil] at e3
      simp only [go_sem, ↓reduceIte, Nat.reduceAdd, Nat.reduceSub, Nat.reduceMul, Nat.reduceEqDiff, Nat.reduceLT, Nat.reduceShiftRight, Nat.reduceAnd, Nat.reduceBNe, Nat.reduceLeDiff, Nat.reduceBEq, Nat.testBit, Nat.zero_lt_one, Int.reduceToNat, Int.reduceNeg, Int.reduceLE, Int.reduceLT, Int.reduceEq, decide_true, decide_false, Bool.and_true, Bool.true_and, Bool.and_false, Bool.false_and, Bool.or_true, Bool.true_or, Bool.or_false, Bool.false_or, Bool.not_true, Bool.not_false, beq_self_eq_true, reduceCtorEq, Int.le_refl, Nat.add_zero, and_self, and_true, true_and, or_true, true_or, if_true, if_false, Nat.le_refl, Bool.and_self, eq_self, Bool.not_false, Bool.not_true, s61, d0, awake62, f1, f2, f3, f4, f5, f6, f7, f8, e1, e2, e3, d1, nl]
  · have d0 : decide (a.length ≤ 50 ∧ b.length ≤ 50) = false := decide_eq_false h
    simp only [go_sem, ↓reduceIte, Nat.reduceAdd, Nat.reduceSub, Nat.reduceMul, Nat.reduceEqDiff, Nat.reduceLT, Nat.reduceShiftRight, Nat.reduceAnd, Nat.reduceBNe, Nat.reduceLeDiff, Nat.reduceBEq, Nat.testBit, Nat.zero_lt_one, Int.reduceToNat, Int.reduceNeg, Int.reduceLE, Int.reduceLT, Int.reduceEq, decide_true, decide_false, Bool.and_true, Bool.true_and, Bool.and_false, Bool.false_and, Bool.or_true, Bool.true_or, Bool.or_false, Bool.false_or, Bool.not_true, Bool.not_false, beq_self_eq_true, reduceCtorEq, Int.le_refl, Nat.add_zero, and_self, and_true, true_and, or_true, true_or, if_true, if_false, Nat.le_refl, Bool.and_self, eq_self, Bool.not_false, Bool.not_true, s61, d0, awake62]
theorem nat16 {a : List Nat} (ha : Limbs a) (i : Int) (hi : (Lit.int .i64 i).wf = true) : (KL AA XX).call 16 [(PV.one (D.sl (List.map n64 (a)))), (PV.one (D.sc (Value.int IntKind.i64 (i))))] = some [(PV.one (D.sc (Value.bool (true))))] := by
  have s61 := Small61 a []
  simp only [List.map_nil] at s61
  rw [c16]
  by_cases h : a.length ≤ 50
  · have d0 : decide (a.length ≤ 50 ∧ ([] : List Nat).length ≤ 50) = true := decide_eq_true ⟨h, by simp⟩
    have hA := vlt ha h
    have f1 := Bits70 ha (by omega)
    have f2 := Bits56 ha (by omega)
    have f3 := Bit71 ha (by omega) i hi
    have f4 := Bit72 ha (by omega) i hi
    have f5 := Double73 ha (by omega) i
    have f6 := Double74 ha (by omega) i
    have hc := b2_le i
    have e1 := Equal65 (dig (2 * val a + b2 i)) (Nat.le_trans (dlen (k := 51) (by
      have : 2 * B64 ^ 50 ≤ B64 * B64 ^ 50 := Nat.mul_le_mul_right _ (by decide)
      rw [Nat.pow_succ, Nat.mul_comm (B64 ^ 50)]; omega)) (by omega))
    have d1 : decide (((nbits (val a) : Nat) : Int) = ((nbits (val a) : Nat) : Int)) = true := decide_eq_true rfl
    have d2 : decide (((bitN (val a) i : Nat) : Int) = ((bitN (val a) i : Nat) : Int)) = true := decide_eq_true rfl
    rw [d0] at s61
    simp only [go_sem, ↓reduceIte, Nat.reduceAdd, Nat.reduceSub, Nat.reduceMul, Nat.reduceEqDiff, Nat.reduceLT, Nat.reduceShiftRight, Nat.reduceAnd, Nat.reduceBNe, Nat.reduceLeDiff, Nat.reduceBEq, Nat.testBit, Nat.zero_lt_one, Int.reduceToNat, Int.reduceNeg, Int.reduceLE, Int.reduceLT, Int.reduceEq, decide_true, decide_false, Bool.and_true, Bool.true_and, Bool.and_false, Bool.false_and, Bool.or_true, Bool.true_or, Bool.or_false, Bool.false_or, Bool.not_true, Bool.not_false, beq_self_eq_true, reduceCtorEq, Int.le_refl, Nat.add_zero, and_self, and_true, true_and, or_true, true_or, if_true, if_false, Nat.le_refl, Bool.and_self, eq_self, Bool.not_false, Bool.not_true, s61, awake62, f1, f2, f3, f4, f5, f6, e1, d1, d2]
  · have d0 : decide (a.length ≤ 50 ∧ ([] : List Nat).length ≤ 50) = false := decide_eq_false fun h' => h h'.1
    rw [d0] at s61
    simp only [go_sem, ↓reduceIte, Nat.reduceAdd, Nat.reduceSub, Nat.reduceMul, Nat.reduceEqDiff, Nat.reduceLT, Nat.reduceShiftRight, Nat.reduceAnd, Nat.reduceBNe, Nat.reduceLeDiff, Nat.reduceBEq, Nat.testBit, Nat.zero_lt_one, Int.reduceToNat, Int.reduceNeg, Int.reduceLE, Int.reduceLT, Int.reduceEq, decide_true, decide_false, Bool.and_true, Bool.true_and, Bool.and_false, Bool.false_and, Bool.or_true, Bool.true_or, Bool.or_false, Bool.false_or, Bool.not_true, Bool.not_false, beq_self_eq_true, reduceCtorEq, Int.le_refl, Nat.add_zero, and_self, and_true, true_and, or_true, true_or, if_true, if_false, Nat.le_refl, Bool.and_self, eq_self, Bool.not_false, Bool.not_true, s61, awake62]
theorem nat17 {a b c : List Nat} (ha : Limbs a) (hb : Limbs b) (hc : Limbs c) (lc : c.length ≤ 1000000000000000) : (KL AA XX).call 17 [(PV.one (D.sl (List.map n64 (a)))), (PV.one (D.sl (List.map n64 (b)))), (PV.one (D.sl (List.map n64 (c))))] = some [(PV.one (D.sc (Value.bool (true))))] := by
  have s61 := Small61 a b
  rw [c17]
  by_cases h : a.length ≤ 50 ∧ b.length ≤ 50
  · have d0 : decide (a.length ≤ 50 ∧ b.length ≤ 50) = true := decide_eq_true h
    obtain ⟨la, lb⟩ := h
    by_cases h50 : c.length ≤ 50
    · have d9 : decide ((50 : Int) < (c.length : Int)) = false := decide_eq_false (by omega)
      have hA := vlt ha la
      have hB := vlt hb lb
      have hC := vlt hc h50
      have hAB := add_lt hA hB
      have hBC := add_lt hB hC
      have lAB := dlen hAB
      have lBC := dlen hBC
      have f1 := Add66 ha hb (by omega) (by omega)
      have f2 := Add66 hb ha (by omega) (by omega)
      have f3 := Add66 (dig_limbs (val a + val b)) hc (by omega) (by omega)
      have f4 := Add66 hb hc (by omega) (by omega)
      have f5 := Add66 ha (dig_limbs (val b + val c)) (by omega) (by omega)
      have f6 := Sub63 (dig_limbs (val a + val b)) hb (by omega) (by omega)
      have f7 := Sub63 ha hb (by omega) (by omega)
      have f8 := Cmp67 ha hb (by omega) (by omega)
      have f9 := Trim68 ha (by omega)
      rw [val_dig] at f3 f5 f6
      rw [Nat.add_comm (val b) (val a)] at f2
      rw [← Nat.add_assoc] at f5
      have e6 : subV (val a + val b) (val b) = [nl (dig (val a)), .one (.sc (.bool true))] := by
        unfold subV; rw [if_pos (by omega), Nat.add_sub_cancel]
      rw [e6] at f6
      have hABC : val a + val b + val c < B64 ^ 52 := add_lt hAB (Nat.lt_of_lt_of_le hC (Nat.pow_le_pow_right B_pos (by omega)))
      have e1 := Equal65 (dig (val a + val b)) (by omega)
      have e2 := Equal65 (dig (val a + val b + val c)) (Nat.le_trans (dlen hABC) (by omega))
      have e3 := Equal65 (dig (val a)) (Nat.le_trans (dlen hA) (by omega))
      unfold subV at f7
      by_cases hle : val b ≤ val a
      · rw [if_pos hle] at f7
        have dc : decide ((0 : Int) ≤ cmpI (val a) (val b)) = true := by
          unfold cmpI; rw [if_neg (by omega)]; split <;> rfl
        have f10 := Add66 (dig_limbs (val a - val b)) hb (Nat.le_trans (dlen (Nat.lt_of_le_of_lt (Nat.sub_le _ _) hA)) (by omega)) (by omega)
        rw [val_dig, Nat.sub_add_cancel hle] at f10
        simp only [go_sem, ↓reduceIte, Nat.reduceAdd, Nat.reduceSub, Nat.reduceMul, Nat.reduceEqDiff, Nat.reduceLT, Nat.reduceShiftRight, Nat.reduceAnd, Nat.reduceBNe, Nat.reduceLeDiff, Nat.reduceBEq, Nat.testBit, Nat.zero_lt_one, Int.reduceToNat, Int.reduceNeg, Int.reduceLE, Int.reduceLT, Int.reduceEq, decide_true, decide_false, Bool.and_true, Bool.true_and, Bool.and_false, Bool.false_and, Bool.or_true, Bool.true_or, Bool.or_false, Bool.false_or, Bool.not_true, Bool.not_false, beq_self_eq_true, reduceCtorEq, Int.le_refl, Nat.add_zero, and_self, and_true, true_and, or_true, true_or, if_true, if_false, Nat.le_refl, Bool.and_self, eq_self, Bool.not_false, Bool.not_true, s61, d0, d9, awake62, f1, f2, f3, f4, f5, f6, f7, f8, f9, f10, e1, e2, e3, dc, nl]
      · rw [if_neg hle] at f7
        have dc : decide ((0 : Int) ≤ cmpI (val a) (val b)) = false := by
          unfold cmpI; rw [if_pos (by omega)]; rfl
        simp only [go_sem, ↓reduceIte, Nat.reduceAdd, Nat.reduceSub, Nat.reduceMul, Nat.reduceEqDiff, Nat.reduceLT, Nat.reduceShiftRight, Nat.reduceAnd, Nat.reduceBNe, Nat.reduceLeDiff, Nat.reduceBEq, Nat.testBit, Nat.zero_lt_one, Int.reduceToNat, Int.reduceNeg, Int.reduceLE, Int.reduceLT, Int.reduceEq, decide_true, decide_false, Bool.and_true, Bool.true_and, Bool.and_false, Bool.false_and, Bool.or_true, Bool.true_or, Bool.or_false, Bool.false_or, Bool.not_true, Bool.not_false, beq_self_eq_true, reduceCtorEq, Int.le_refl, Nat.add_zero, and_self, and_true, true_and, or_true, true_or, if_true, if_false, Nat.le_refl, Bool.and_self, eq_self, Bool.not_false, Bool.not_true, s61, d0, d9, awake62, f1, f2, f3, f4, f5, f6, f7, f8, f9, e1, e2, e3, dc, nl]
    · have d9 : decide ((50 : Int) < (c.length : Int)) = true := decide_eq_true (by omega)
      simp only [go_sem, ↓reduceIte, Nat.reduceAdd, Nat.reduceSub, Nat.reduceMul, Nat.reduceEqDiff, Nat.reduceLT, Nat.reduceShiftRight, Nat.reduceAnd, Nat.reduceBNe, Nat.reduceLeDiff, Nat.reduceBEq, Nat.testBit, Nat.zero_lt_one, Int.reduceToNat, Int.reduceNeg, Int.reduceLE, Int.reduceLT, Int.reduceEq, decide_true, decide_false, Bool.and_true, Bool.true_and, Bool.and_false, Bool.false_and, Bool.or_true, Bool.true_or, Bool.or_false, Bool.false_or, Bool.not_true, Bool.not_false, beq_self_eq_true, reduceCtorEq, Int.le_refl, Nat.add_zero, and_self, and_true, true_and, or_true, true_or, if_true, if_false, Nat.le_refl, Bool.and_self, eq_self, Bool.not_false, Bool.not_true, s61, d0, d9, awake62]
  · have d0 : decide (a.length ≤ 50 ∧ b.length ≤ 50) = false := decide_eq_false h
    simp only [go_sem, ↓reduceIte, Nat.reduceAdd, Nat.reduceSub, Nat.reduceMul, Nat.reduceEqDiff, Nat.reduceLT, Nat.reduceShiftRight, Nat.reduceAnd, Nat.reduceBNe, Nat.reduceLeDiff, Nat.reduceBEq, Nat.testBit, Nat.zero_lt_one, Int.reduceToNat, Int.reduceNeg, Int.reduceLE, Int.reduceLT, Int.reduceEq, decide_true, decide_false, Bool.and_true, Bool.true_and, Bool.and_false, Bool.false_and, Bool.or_true, Bool.true_or, Bool.or_false, Bool.false_or, Bool.not_true, Bool.not_false, beq_self_eq_true, reduceCtorEq, Int.le_refl, Nat.add_zero, and_self, and_true, true_and, or_true, true_or, if_true, if_false, Nat.le_refl, Bool.and_self, eq_self, Bool.not_false, Bool.not_true, s61, d0, awake62]
theorem nat19 {a : List Nat} (ha : Limbs a) : (KL AA XX).call 19 [(PV.one (D.sl (List.map n64 (a))))] = some [(PV.one (D.sc (Value.bool (true))))] := by
  have s61 := Small61 a []
  simp only [List.map_nil] at s61
  rw [c19]
  by_cases h : a.length ≤ 50
  · have d0 : decide (a.length ≤ 50 ∧ ([] : List Nat).length ≤ 50) = true := decide_eq_true ⟨h, by simp⟩
    have hA := vlt ha h
    rw [d0] at s61
    have f1 := Double73 ha (by omega) 0
    have f2 := Double73 ha (by omega) 1
    rw [show b2 0 = 0 from rfl, Nat.add_zero] at f1
    rw [show b2 1 = 1 from rfl] at f2
    have hD : 2 * val a < B64 ^ 51 := by rw [Nat.two_mul]; exact add_lt hA hA
    have hE : 2 * val a + 1 < B64 ^ 52 := add_lt hD (Nat.one_lt_pow (by decide) (by decide))
    have f3 := Add66 ha ha (by omega) (by omega)
    rw [← Nat.two_mul] at f3
    have l1 : Limbs [1] := Limbs.cons (by decide) Limbs.nil
    have f4 := Add66 (dig_limbs (2 * val a)) l1 (Nat.le_trans (dlen hD) (by omega)) (by simp)
    rw [val_dig, show val [1] = 1 from rfl] at f4
    simp only [List.map_cons, List.map_nil, n64, show ((1 : Nat) : Int) = 1 from rfl] at f4
    have f5 := Bits70 ha (by omega)
    have f6 := Bits70 (dig_limbs (2 * val a)) (Nat.le_trans (dlen hD) (by omega))
    have f7 := Bit71 (dig_limbs (2 * val a + 1)) (Nat.le_trans (dlen hE) (by omega)) 0 rfl
    have hb : bitN (val (dig (2 * val a + 1))) 0 = 1 := by
      rw [val_dig]
      show (if (0 : Int) < 0 then 0 else (2 * val a + 1) / 2 ^ (0 : Int).toNat % 2) = 1
      rw [if_neg (by omega), show (0 : Int).toNat = 0 from rfl, Nat.pow_zero, Nat.div_one]
      omega
    rw [hb] at f7
    rw [val_dig] at f6
    have e1 := Equal65 (dig (2 * val a)) (Nat.le_trans (dlen hD) (by omega))
    have e2 := Equal65 (dig (2 * val a + 1)) (Nat.le_trans (dlen hE) (by omega))
    have hb3 := nbits_lim hA
    by_cases hz : val a = 0
    · have hn : nbits (val a) = 0 := by rw [hz]; rfl
      have hn2 : nbits (2 * val a) = 0 := by rw [hz]; rfl
      rw [hn] at f5
      rw [hn2] at f6
      simp only [go_sem, ↓reduceIte, Nat.reduceAdd, Nat.reduceSub, Nat.reduceMul, Nat.reduceEqDiff, Nat.reduceLT, Nat.reduceShiftRight, Nat.reduceAnd, Nat.reduceBNe, Nat.reduceLeDiff, Nat.reduceBEq, Nat.testBit, Nat.zero_lt_one, Int.reduceToNat, Int.reduceNeg, Int.reduceLE, Int.reduceLT, Int.reduceEq, decide_true, decide_false, Bool.and_true, Bool.true_and, Bool.and_false, Bool.false_and, Bool.or_true, Bool.true_or, Bool.or_false, Bool.false_or, Bool.not_true, Bool.not_false, beq_self_eq_true, reduceCtorEq, Int.le_refl, Nat.add_zero, and_self, and_true, true_and, or_true, true_or, if_true, if_false, Nat.le_refl, Bool.and_self, eq_self, Bool.not_false, Bool.not_true, s61, awake62, f1, f2, f3, f4, f5, f6, f7, e1, e2, show ((0 : Nat) : Int) = 0 from rfl, show ((1 : Nat) : Int) = 1 from rfl, Int.lt_irrefl]
    · have hn2 : nbits (2 * val a) = nbits (val a) + 1 := by
        have := nbits_shift (n := 2 * val a) (s := 1) (by omega)
        rw [this, show 2 * val a / 2 ^ 1 = val a by omega]; omega
      have hp : 0 < nbits (val a) := by unfold nbits; rw [if_neg hz]; omega
      have d1 : decide ((0 : Int) < ((nbits (val a) : Nat) : Int)) = true := decide_eq_true (by omega)
      have hw := wrap_succ (nbits (val a)) (by omega)
      rw [hn2] at f6
      have d2 : decide (((nbits (val a) + 1 : Nat) : Int) = ((nbits (val a) + 1 : Nat) : Int)) = true := decide_eq_true rfl
      simp only [go_sem, ↓reduceIte, Nat.reduceAdd, Nat.reduceSub, Nat.reduceMul, Nat.reduceEqDiff, Nat.reduceLT, Nat.reduceShiftRight, Nat.reduceAnd, Nat.reduceBNe, Nat.reduceLeDiff, Nat.reduceBEq, Nat.testBit, Nat.zero_lt_one, Int.reduceToNat, Int.reduceNeg, Int.reduceLE, Int.reduceLT, Int.reduceEq, decide_true, decide_false, Bool.and_true, Bool.true_and, Bool.and_false, Bool.false_and, Bool.or_true, Bool.true_or, Bool.or_false, Bool.false_or, Bool.not_true, Bool.not_false, beq_self_eq_true, reduceCtorEq, Int.le_refl, Nat.add_zero, and_self, and_true, true_and, or_true, true_or, if_true, if_false, Nat.le_refl, Bool.and_self, eq_self, Bool.not_false, Bool.not_true, s61, awake62, f1, f2, f3, f4, f5, f6, f7, e1, e2, d1, hw, d2, show ((1 : Nat) : Int) = 1 from rfl]
  · have d0 : decide (a.length ≤ 50 ∧ ([] : List Nat).length ≤ 50) = false := decide_eq_false fun h' => h h'.1
    rw [d0] at s61
    simp only [go_sem, ↓reduceIte, Nat.reduceAdd, Nat.reduceSub, Nat.reduceMul, Nat.reduceEqDiff, Nat.reduceLT, Nat.reduceShiftRight, Nat.reduceAnd, Nat.reduceBNe, Nat.reduceLeDiff, Nat.reduceBEq, Nat.testBit, Nat.zero_lt_one, Int.reduceToNat, Int.reduceNeg, Int.reduceLE, Int.reduceLT, Int.reduceEq, decide_true, decide_false, Bool.and_true, Bool.true_and, Bool.and_false, Bool.false_and, Bool.or_true, Bool.true_or, Bool.or_false, Bool.false_or, Bool.not_true, Bool.not_false, beq_self_eq_true, reduceCtorEq, Int.le_refl, Nat.add_zero, and_self, and_true, true_and, or_true, true_or, if_true, if_false, Nat.le_refl, Bool.and_self, eq_self, Bool.not_false, Bool.not_true, s61, awake62]
end Go.Proofs.Ytpanbfainilmpaa.Ev.N
end
section
/- The laws of chapter 02 in the evaluator, and as they are claimed. -/
set_option linter.unusedVariables false
set_option linter.unusedSimpArgs false
set_option maxRecDepth 100000
set_option maxHeartbeats 4000000
namespace Go.Proofs.Ytpanbfainilmpaa.Ev.N
open Go Go.Proofs.Ytpanbfainilmpaa.Ev

theorem mul_lt {a b j k : Nat} (ha : a < B64 ^ j) (hb : b < B64 ^ k) : a * b < B64 ^ (j + k) := by
  rw [Nat.pow_add]
  rcases Nat.eq_zero_or_pos b with h | h
  · subst h; rw [Nat.mul_zero]; exact Nat.mul_pos (Bp_pos _) (Bp_pos _)
  · exact Nat.mul_lt_mul_of_lt_of_le ha (Nat.le_of_lt hb) (Bp_pos _)
theorem pow_up {a j k : Nat} (ha : a < B64 ^ j) (h : j ≤ k) : a < B64 ^ k := Nat.lt_of_lt_of_le ha (Nat.pow_le_pow_right B_pos h)
theorem cmp_lt {a b : Nat} (h : a < b) : cmpI a b = -1 := if_pos h
theorem dig_one : dig 1 = [1] := by decide

theorem long22 {a b : List Nat} (ha : Limbs a) (hb : Limbs b) : (KL AA XX).call 22 [(PV.one (D.sl (List.map n64 (a)))), (PV.one (D.sl (List.map n64 (b))))] = some [(PV.one (D.sc (Value.bool (true))))] := by
  rw [c22]
  by_cases h1 : a.length ≤ 12
  · have d1 : decide ((12 : Int) < (a.length : Int)) = false := decide_eq_false (by omega)
    by_cases h2 : b.length ≤ 12
    · have d2 : decide ((12 : Int) < (b.length : Int)) = false := decide_eq_false (by omega)
      have hA := vlt ha h1
      have hB := vlt hb h2
      have f1 := Divide83 ha hb (by omega) (by omega)
      have f2 := Divide84 ha hb (by omega) (by omega)
      have f3 := Mul86 ha hb (by omega) (by omega)
      have f4 := Mul87 ha hb (by omega) (by omega)
      have e1 := Equal85 (dig (val a * val b)) (Nat.le_trans (dlen (mul_lt hA hB)) (by omega))
      by_cases h0 : val b = 0
      · have e2 := Equal85 [] (by simp)
        simp only [List.map_nil] at e2
        rw [divV, if_pos h0] at f1 f2
        simp only [go_sem, ↓reduceIte, Nat.reduceAdd, Nat.reduceSub, Nat.reduceMul, Nat.reduceEqDiff, Nat.reduceLT, Nat.reduceShiftRight, Nat.reduceAnd, Nat.reduceBNe, Nat.reduceLeDiff, Nat.reduceBEq, Nat.testBit, Nat.zero_lt_one, Int.reduceToNat, Int.reduceNeg, Int.reduceLE, Int.reduceLT, Int.reduceEq, decide_true, decide_false, Bool.and_true, Bool.true_and, Bool.and_false, Bool.false_and, Bool.or_true, Bool.true_or, Bool.or_false, Bool.false_or, Bool.not_true, Bool.not_false, beq_self_eq_true, reduceCtorEq, Int.le_refl, Nat.add_zero, and_self, and_true, true_and, or_true, true_or, if_true, if_false, Nat.le_refl, Bool.and_self, eq_self, Bool.not_false, Bool.not_true, d1, d2, awake82, f1, f2, f3, f4, e1, e2, nl, List.map_nil]
      · have e2 := Equal85 (dig (val a / val b)) (Nat.le_trans (dlen (Nat.lt_of_le_of_lt (Nat.div_le_self _ _) hA)) (by omega))
        have e3 := Equal85 (dig (val a % val b)) (Nat.le_trans (dlen (Nat.lt_of_le_of_lt (Nat.mod_le _ _) hA)) (by omega))
        rw [divV, if_neg h0] at f1 f2
        simp only [go_sem, ↓reduceIte, Nat.reduceAdd, Nat.reduceSub, Nat.reduceMul, Nat.reduceEqDiff, Nat.reduceLT, Nat.reduceShiftRight, Nat.reduceAnd, Nat.reduceBNe, Nat.reduceLeDiff, Nat.reduceBEq, Nat.testBit, Nat.zero_lt_one, Int.reduceToNat, Int.reduceNeg, Int.reduceLE, Int.reduceLT, Int.reduceEq, decide_true, decide_false, Bool.and_true, Bool.true_and, Bool.and_false, Bool.false_and, Bool.or_true, Bool.true_or, Bool.or_false, Bool.false_or, Bool.not_true, Bool.not_false, beq_self_eq_true, reduceCtorEq, Int.le_refl, Nat.add_zero, and_self, and_true, true_and, or_true, true_or, if_true, if_false, Nat.le_refl, Bool.and_self, eq_self, Bool.not_false, Bool.not_true, d1, d2, awake82, f1, f2, f3, f4, e1, e2, e3, nl]
    · have d2 : decide ((12 : Int) < (b.length : Int)) = true := decide_eq_true (by omega)
      simp only [go_sem, ↓reduceIte, Nat.reduceAdd, Nat.reduceSub, Nat.reduceMul, Nat.reduceEqDiff, Nat.reduceLT, Nat.reduceShiftRight, Nat.reduceAnd, Nat.reduceBNe, Nat.reduceLeDiff, Nat.reduceBEq, Nat.testBit, Nat.zero_lt_one, Int.reduceToNat, Int.reduceNeg, Int.reduceLE, Int.reduceLT, Int.reduceEq, decide_true, decide_false, Bool.and_true, Bool.true_and, Bool.and_false, Bool.false_and, Bool.or_true, Bool.true_or, Bool.or_false, Bool.false_or, Bool.not_true, Bool.not_false, beq_self_eq_true, reduceCtorEq, Int.le_refl, Nat.add_zero, and_self, and_true, true_and, or_true, true_or, if_true, if_false, Nat.le_refl, Bool.and_self, eq_self, Bool.not_false, Bool.not_true, d1, d2, awake82]
  · have d1 : decide ((12 : Int) < (a.length : Int)) = true := decide_eq_true (by omega)
    simp only [go_sem, ↓reduceIte, Nat.reduceAdd, Nat.reduceSub, Nat.reduceMul, Nat.reduceEqDiff, Nat.reduceLT, Nat.reduceShiftRight, Nat.reduceAnd, Nat.reduceBNe, Nat.reduceLeDiff, Nat.reduceBEq, Nat.testBit, Nat.zero_lt_one, Int.reduceToNat, Int.reduceNeg, Int.reduceLE, Int.reduceLT, Int.reduceEq, decide_true, decide_false, Bool.and_true, Bool.true_and, Bool.and_false, Bool.false_and, Bool.or_true, Bool.true_or, Bool.or_false, Bool.false_or, Bool.not_true, Bool.not_false, beq_self_eq_true, reduceCtorEq, Int.le_refl, Nat.add_zero, and_self, and_true, true_and, or_true, true_or, if_true, if_false, Nat.le_refl, Bool.and_self, eq_self, Bool.not_false, Bool.not_true, d1, awake82]

theorem long23 {a b : List Nat} (ha : Limbs a) (hb : Limbs b) : (KL AA XX).call 23 [(PV.one (D.sl (List.map n64 (a)))), (PV.one (D.sl (List.map n64 (b))))] = some [(PV.one (D.sc (Value.bool (true))))] := by
  rw [c23]
  by_cases h1 : a.length ≤ 60
  · have d1 : decide ((60 : Int) < (a.length : Int)) = false := decide_eq_false (by omega)
    by_cases h2 : b.length ≤ 60
    · have d2 : decide ((60 : Int) < (b.length : Int)) = false := decide_eq_false (by omega)
      have hA := vlt ha h1
      have hB := vlt hb h2
      have f1 := Divide83 ha hb (by omega) (by omega)
      by_cases h0 : val b = 0
      · rw [divV, if_pos h0] at f1
        have f2 := Bits56 hb (by omega)
        rw [h0, show nbits 0 = 0 from rfl] at f2
        simp only [go_sem, ↓reduceIte, Nat.reduceAdd, Nat.reduceSub, Nat.reduceMul, Nat.reduceEqDiff, Nat.reduceLT, Nat.reduceShiftRight, Nat.reduceAnd, Nat.reduceBNe, Nat.reduceLeDiff, Nat.reduceBEq, Nat.testBit, Nat.zero_lt_one, Int.reduceToNat, Int.reduceNeg, Int.reduceLE, Int.reduceLT, Int.reduceEq, decide_true, decide_false, Bool.and_true, Bool.true_and, Bool.and_false, Bool.false_and, Bool.or_true, Bool.true_or, Bool.or_false, Bool.false_or, Bool.not_true, Bool.not_false, beq_self_eq_true, reduceCtorEq, Int.le_refl, Nat.add_zero, and_self, and_true, true_and, or_true, true_or, if_true, if_false, Nat.le_refl, Bool.and_self, eq_self, Bool.not_false, Bool.not_true, d1, d2, awake82, f1, f2, nl, List.map_nil, show ((0 : Nat) : Int) = 0 from rfl]
      · rw [divV, if_neg h0] at f1
        have lq : (dig (val a / val b)).length ≤ 60 := dlen (Nat.lt_of_le_of_lt (Nat.div_le_self _ _) hA)
        have lr : (dig (val a % val b)).length ≤ 60 := dlen (Nat.lt_of_le_of_lt (Nat.mod_le _ _) hA)
        have f2 := Compare60 (dig_limbs (val a % val b)) hb (by omega) (by omega)
        rw [val_dig, cmp_lt (Nat.mod_lt _ (Nat.pos_of_ne_zero h0))] at f2
        have f3 := Mul86 (dig_limbs (val a / val b)) hb (by omega) (by omega)
        rw [val_dig] at f3
        have lp : (dig (val a / val b * val b)).length ≤ 60 := dlen (Nat.lt_of_le_of_lt (Nat.div_mul_le_self _ _) hA)
        have f4 := Add59 (dig_limbs (val a / val b * val b)) (dig_limbs (val a % val b)) (by omega) (by omega)
        rw [val_dig, val_dig, Nat.mul_comm, Nat.div_add_mod] at f4
        rw [Nat.mul_comm] at f3
        have f5 := Same57 (dig_limbs (val a)) ha (Nat.le_trans (dlen hA) (by omega)) (by omega)
        rw [val_dig, decide_eq_true rfl] at f5
        simp only [go_sem, ↓reduceIte, Nat.reduceAdd, Nat.reduceSub, Nat.reduceMul, Nat.reduceEqDiff, Nat.reduceLT, Nat.reduceShiftRight, Nat.reduceAnd, Nat.reduceBNe, Nat.reduceLeDiff, Nat.reduceBEq, Nat.testBit, Nat.zero_lt_one, Int.reduceToNat, Int.reduceNeg, Int.reduceLE, Int.reduceLT, Int.reduceEq, decide_true, decide_false, Bool.and_true, Bool.true_and, Bool.and_false, Bool.false_and, Bool.or_true, Bool.true_or, Bool.or_false, Bool.false_or, Bool.not_true, Bool.not_false, beq_self_eq_true, reduceCtorEq, Int.le_refl, Nat.add_zero, and_self, and_true, true_and, or_true, true_or, if_true, if_false, Nat.le_refl, Bool.and_self, eq_self, Bool.not_false, Bool.not_true, d1, d2, awake82, f1, f2, f3, f4, f5, nl]
    · have d2 : decide ((60 : Int) < (b.length : Int)) = true := decide_eq_true (by omega)
      simp only [go_sem, ↓reduceIte, Nat.reduceAdd, Nat.reduceSub, Nat.reduceMul, Nat.reduceEqDiff, Nat.reduceLT, Nat.reduceShiftRight, Nat.reduceAnd, Nat.reduceBNe, Nat.reduceLeDiff, Nat.reduceBEq, Nat.testBit, Nat.zero_lt_one, Int.reduceToNat, Int.reduceNeg, Int.reduceLE, Int.reduceLT, Int.reduceEq, decide_true, decide_false, Bool.and_true, Bool.true_and, Bool.and_false, Bool.false_and, Bool.or_true, Bool.true_or, Bool.or_false, Bool.false_or, Bool.not_true, Bool.not_false, beq_self_eq_true, reduceCtorEq, Int.le_refl, Nat.add_zero, and_self, and_true, true_and, or_true, true_or, if_true, if_false, Nat.le_refl, Bool.and_self, eq_self, Bool.not_false, Bool.not_true, d1, d2, awake82]
  · have d1 : decide ((60 : Int) < (a.length : Int)) = true := decide_eq_true (by omega)
    simp only [go_sem, ↓reduceIte, Nat.reduceAdd, Nat.reduceSub, Nat.reduceMul, Nat.reduceEqDiff, Nat.reduceLT, Nat.reduceShiftRight, Nat.reduceAnd, Nat.reduceBNe, Nat.reduceLeDiff, Nat.reduceBEq, Nat.testBit, Nat.zero_lt_one, Int.reduceToNat, Int.reduceNeg, Int.reduceLE, Int.reduceLT, Int.reduceEq, decide_true, decide_false, Bool.and_true, Bool.true_and, Bool.and_false, Bool.false_and, Bool.or_true, Bool.true_or, Bool.or_false, Bool.false_or, Bool.not_true, Bool.not_false, beq_self_eq_true, reduceCtorEq, Int.le_refl, Nat.add_zero, and_self, and_true, true_and, or_true, true_or, if_true, if_false, Nat.le_refl, Bool.and_self, eq_self, Bool.not_false, Bool.not_true, d1, awake82]

theorem long24 {a b c : List Nat} (ha : Limbs a) (hb : Limbs b) (hc : Limbs c) : (KL AA XX).call 24 [(PV.one (D.sl (List.map n64 (a)))), (PV.one (D.sl (List.map n64 (b)))), (PV.one (D.sl (List.map n64 (c))))] = some [(PV.one (D.sc (Value.bool (true))))] := by
  rw [c24]
  by_cases h1 : a.length ≤ 30
  · have d1 : decide ((30 : Int) < (a.length : Int)) = false := decide_eq_false (by omega)
    by_cases h2 : b.length ≤ 30
    · have d2 : decide ((30 : Int) < (b.length : Int)) = false := decide_eq_false (by omega)
      by_cases h3 : c.length ≤ 30
      · have d3 : decide ((30 : Int) < (c.length : Int)) = false := decide_eq_false (by omega)
        have hA := vlt ha h1
        have hB := vlt hb h2
        have hC := vlt hc h3
        have f0 := Compare60 hc hb (by omega) (by omega)
        by_cases hlt : val c < val b
        · rw [cmp_lt hlt] at f0
          have hp : 0 < val b := Nat.lt_of_le_of_lt (Nat.zero_le _) hlt
          have f1 := Mul86 ha hb (by omega) (by omega)
          have hAB := mul_lt hA hB
          have lp := dlen hAB
          have f2 := Add59 (dig_limbs (val a * val b)) hc (by omega) (by omega)
          rw [val_dig] at f2
          have ls := dlen (add_lt hAB (pow_up hC (show 30 ≤ 30 + 30 by omega)))
          have f3 := Divide83 (dig_limbs (val a * val b + val c)) hb (by omega) (by omega)
          rw [val_dig, divV, if_neg (by omega), Nat.mul_comm, Nat.mul_add_div hp, Nat.div_eq_of_lt hlt, Nat.add_zero, Nat.mul_add_mod, Nat.mod_eq_of_lt hlt] at f3
          rw [Nat.mul_comm] at f1 f2
          have f4 := Same57 (dig_limbs (val a)) ha (Nat.le_trans (dlen hA) (by omega)) (by omega)
          rw [val_dig, decide_eq_true rfl] at f4
          have f5 := Same57 (dig_limbs (val c)) hc (Nat.le_trans (dlen hC) (by omega)) (by omega)
          rw [val_dig, decide_eq_true rfl] at f5
          simp only [go_sem, ↓reduceIte, Nat.reduceAdd, Nat.reduceSub, Nat.reduceMul, Nat.reduceEqDiff, Nat.reduceLT, Nat.reduceShiftRight, Nat.reduceAnd, Nat.reduceBNe, Nat.reduceLeDiff, Nat.reduceBEq, Nat.testBit, Nat.zero_lt_one, Int.reduceToNat, Int.reduceNeg, Int.reduceLE, Int.reduceLT, Int.reduceEq, decide_true, decide_false, Bool.and_true, Bool.true_and, Bool.and_false, Bool.false_and, Bool.or_true, Bool.true_or, Bool.or_false, Bool.false_or, Bool.not_true, Bool.not_false, beq_self_eq_true, reduceCtorEq, Int.le_refl, Nat.add_zero, and_self, and_true, true_and, or_true, true_or, if_true, if_false, Nat.le_refl, Bool.and_self, eq_self, Bool.not_false, Bool.not_true, d1, d2, d3, awake82, f0, f1, f2, f3, f4, f5, nl]
        · have dc : decide ((0 : Int) ≤ cmpI (val c) (val b)) = true := by
            unfold cmpI; rw [if_neg hlt]; split <;> rfl
          simp only [go_sem, ↓reduceIte, Nat.reduceAdd, Nat.reduceSub, Nat.reduceMul, Nat.reduceEqDiff, Nat.reduceLT, Nat.reduceShiftRight, Nat.reduceAnd, Nat.reduceBNe, Nat.reduceLeDiff, Nat.reduceBEq, Nat.testBit, Nat.zero_lt_one, Int.reduceToNat, Int.reduceNeg, Int.reduceLE, Int.reduceLT, Int.reduceEq, decide_true, decide_false, Bool.and_true, Bool.true_and, Bool.and_false, Bool.false_and, Bool.or_true, Bool.true_or, Bool.or_false, Bool.false_or, Bool.not_true, Bool.not_false, beq_self_eq_true, reduceCtorEq, Int.le_refl, Nat.add_zero, and_self, and_true, true_and, or_true, true_or, if_true, if_false, Nat.le_refl, Bool.and_self, eq_self, Bool.not_false, Bool.not_true, d1, d2, d3, dc, awake82, f0]
      · have d3 : decide ((30 : Int) < (c.length : Int)) = true := decide_eq_true (by omega)
        simp only [go_sem, ↓reduceIte, Nat.reduceAdd, Nat.reduceSub, Nat.reduceMul, Nat.reduceEqDiff, Nat.reduceLT, Nat.reduceShiftRight, Nat.reduceAnd, Nat.reduceBNe, Nat.reduceLeDiff, Nat.reduceBEq, Nat.testBit, Nat.zero_lt_one, Int.reduceToNat, Int.reduceNeg, Int.reduceLE, Int.reduceLT, Int.reduceEq, decide_true, decide_false, Bool.and_true, Bool.true_and, Bool.and_false, Bool.false_and, Bool.or_true, Bool.true_or, Bool.or_false, Bool.false_or, Bool.not_true, Bool.not_false, beq_self_eq_true, reduceCtorEq, Int.le_refl, Nat.add_zero, and_self, and_true, true_and, or_true, true_or, if_true, if_false, Nat.le_refl, Bool.and_self, eq_self, Bool.not_false, Bool.not_true, d1, d2, d3, awake82]
    · have d2 : decide ((30 : Int) < (b.length : Int)) = true := decide_eq_true (by omega)
      simp only [go_sem, ↓reduceIte, Nat.reduceAdd, Nat.reduceSub, Nat.reduceMul, Nat.reduceEqDiff, Nat.reduceLT, Nat.reduceShiftRight, Nat.reduceAnd, Nat.reduceBNe, Nat.reduceLeDiff, Nat.reduceBEq, Nat.testBit, Nat.zero_lt_one, Int.reduceToNat, Int.reduceNeg, Int.reduceLE, Int.reduceLT, Int.reduceEq, decide_true, decide_false, Bool.and_true, Bool.true_and, Bool.and_false, Bool.false_and, Bool.or_true, Bool.true_or, Bool.or_false, Bool.false_or, Bool.not_true, Bool.not_false, beq_self_eq_true, reduceCtorEq, Int.le_refl, Nat.add_zero, and_self, and_true, true_and, or_true, true_or, if_true, if_false, Nat.le_refl, Bool.and_self, eq_self, Bool.not_false, Bool.not_true, d1, d2, awake82]
  · have d1 : decide ((30 : Int) < (a.length : Int)) = true := decide_eq_true (by omega)
    simp only [go_sem, ↓reduceIte, Nat.reduceAdd, Nat.reduceSub, Nat.reduceMul, Nat.reduceEqDiff, Nat.reduceLT, Nat.reduceShiftRight, Nat.reduceAnd, Nat.reduceBNe, Nat.reduceLeDiff, Nat.reduceBEq, Nat.testBit, Nat.zero_lt_one, Int.reduceToNat, Int.reduceNeg, Int.reduceLE, Int.reduceLT, Int.reduceEq, decide_true, decide_false, Bool.and_true, Bool.true_and, Bool.and_false, Bool.false_and, Bool.or_true, Bool.true_or, Bool.or_false, Bool.false_or, Bool.not_true, Bool.not_false, beq_self_eq_true, reduceCtorEq, Int.le_refl, Nat.add_zero, and_self, and_true, true_and, or_true, true_or, if_true, if_false, Nat.le_refl, Bool.and_self, eq_self, Bool.not_false, Bool.not_true, d1, awake82]

theorem long25 {a b c : List Nat} (ha : Limbs a) (hb : Limbs b) (hc : Limbs c) : (KL AA XX).call 25 [(PV.one (D.sl (List.map n64 (a)))), (PV.one (D.sl (List.map n64 (b)))), (PV.one (D.sl (List.map n64 (c))))] = some [(PV.one (D.sc (Value.bool (true))))] := by
  rw [c25]
  by_cases h1 : a.length ≤ 30
  · have d1 : decide ((30 : Int) < (a.length : Int)) = false := decide_eq_false (by omega)
    by_cases h2 : b.length ≤ 30
    · have d2 : decide ((30 : Int) < (b.length : Int)) = false := decide_eq_false (by omega)
      by_cases h3 : c.length ≤ 30
      · have d3 : decide ((30 : Int) < (c.length : Int)) = false := decide_eq_false (by omega)
        have hA := vlt ha h1
        have hB := vlt hb h2
        have hC := vlt hc h3
        have hAB := mul_lt hA hB
        have hBC := mul_lt hB hC
        have lAB := dlen hAB
        have lBC := dlen hBC
        have hS := add_lt hA hB
        have lS := dlen hS
        have hCA := mul_lt hC hA
        have hCB := mul_lt hC hB
        have lCA := dlen hCA
        have lCB := dlen hCB
        have f1 := Mul86 ha hb (by omega) (by omega)
        have f2 := Mul86 hb ha (by omega) (by omega)
        rw [Nat.mul_comm] at f2
        have f3 := Mul86 (dig_limbs (val a * val b)) hc (by omega) (by omega)
        have f4 := Mul86 hb hc (by omega) (by omega)
        have f5 := Mul86 ha (dig_limbs (val b * val c)) (by omega) (by omega)
        rw [val_dig] at f3 f5
        rw [← Nat.mul_assoc] at f5
        have f6 := Add59 ha hb (by omega) (by omega)
        have f7 := Mul86 hc (dig_limbs (val a + val b)) (by omega) (by omega)
        rw [val_dig, Nat.mul_add] at f7
        have f8 := Mul86 hc ha (by omega) (by omega)
        have f9 := Mul86 hc hb (by omega) (by omega)
        have f10 := Add59 (dig_limbs (val c * val a)) (dig_limbs (val c * val b)) (by omega) (by omega)
        rw [val_dig, val_dig] at f10
        have l1 : Limbs [1] := Limbs.cons (by decide) Limbs.nil
        have f11 := Mul86 ha l1 (by omega) (by simp)
        rw [show val [1] = 1 from rfl, Nat.mul_one] at f11
        simp only [List.map_cons, List.map_nil, n64, show ((1 : Nat) : Int) = 1 from rfl] at f11
        have f12 := Trim69 ha (by omega)
        have f13 := Mul86 ha Limbs.nil (by omega) (by simp)
        rw [show val [] = 0 from rfl, Nat.mul_zero, dig_zero] at f13
        simp only [List.map_nil] at f13
        have e1 := Equal85 (dig (val a * val b)) (by omega)
        have e2 := Equal85 (dig (val a * val b * val c)) (Nat.le_trans (dlen (mul_lt hAB hC)) (by omega))
        have e3 := Equal85 (dig (val c * val a + val c * val b)) (Nat.le_trans (dlen (add_lt hCA hCB)) (by omega))
        have e4 := Equal85 (dig (val a)) (Nat.le_trans (dlen hA) (by omega))
        simp only [go_sem, ↓reduceIte, Nat.reduceAdd, Nat.reduceSub, Nat.reduceMul, Nat.reduceEqDiff, Nat.reduceLT, Nat.reduceShiftRight, Nat.reduceAnd, Nat.reduceBNe, Nat.reduceLeDiff, Nat.reduceBEq, Nat.testBit, Nat.zero_lt_one, Int.reduceToNat, Int.reduceNeg, Int.reduceLE, Int.reduceLT, Int.reduceEq, decide_true, decide_false, Bool.and_true, Bool.true_and, Bool.and_false, Bool.false_and, Bool.or_true, Bool.true_or, Bool.or_false, Bool.false_or, Bool.not_true, Bool.not_false, beq_self_eq_true, reduceCtorEq, Int.le_refl, Nat.add_zero, and_self, and_true, true_and, or_true, true_or, if_true, if_false, Nat.le_refl, Bool.and_self, eq_self, Bool.not_false, Bool.not_true, d1, d2, d3, awake82, f1, f2, f3, f4, f5, f6, f7, f8, f9, f10, f11, f12, f13, e1, e2, e3, e4, nl, List.length_nil, show ((0 : Nat) : Int) = 0 from rfl]
      · have d3 : decide ((30 : Int) < (c.length : Int)) = true := decide_eq_true (by omega)
        simp only [go_sem, ↓reduceIte, Nat.reduceAdd, Nat.reduceSub, Nat.reduceMul, Nat.reduceEqDiff, Nat.reduceLT, Nat.reduceShiftRight, Nat.reduceAnd, Nat.reduceBNe, Nat.reduceLeDiff, Nat.reduceBEq, Nat.testBit, Nat.zero_lt_one, Int.reduceToNat, Int.reduceNeg, Int.reduceLE, Int.reduceLT, Int.reduceEq, decide_true, decide_false, Bool.and_true, Bool.true_and, Bool.and_false, Bool.false_and, Bool.or_true, Bool.true_or, Bool.or_false, Bool.false_or, Bool.not_true, Bool.not_false, beq_self_eq_true, reduceCtorEq, Int.le_refl, Nat.add_zero, and_self, and_true, true_and, or_true, true_or, if_true, if_false, Nat.le_refl, Bool.and_self, eq_self, Bool.not_false, Bool.not_true, d1, d2, d3, awake82]
    · have d2 : decide ((30 : Int) < (b.length : Int)) = true := decide_eq_true (by omega)
      simp only [go_sem, ↓reduceIte, Nat.reduceAdd, Nat.reduceSub, Nat.reduceMul, Nat.reduceEqDiff, Nat.reduceLT, Nat.reduceShiftRight, Nat.reduceAnd, Nat.reduceBNe, Nat.reduceLeDiff, Nat.reduceBEq, Nat.testBit, Nat.zero_lt_one, Int.reduceToNat, Int.reduceNeg, Int.reduceLE, Int.reduceLT, Int.reduceEq, decide_true, decide_false, Bool.and_true, Bool.true_and, Bool.and_false, Bool.false_and, Bool.or_true, Bool.true_or, Bool.or_false, Bool.false_or, Bool.not_true, Bool.not_false, beq_self_eq_true, reduceCtorEq, Int.le_refl, Nat.add_zero, and_self, and_true, true_and, or_true, true_or, if_true, if_false, Nat.le_refl, Bool.and_self, eq_self, Bool.not_false, Bool.not_true, d1, d2, awake82]
  · have d1 : decide ((30 : Int) < (a.length : Int)) = true := decide_eq_true (by omega)
    simp only [go_sem, ↓reduceIte, Nat.reduceAdd, Nat.reduceSub, Nat.reduceMul, Nat.reduceEqDiff, Nat.reduceLT, Nat.reduceShiftRight, Nat.reduceAnd, Nat.reduceBNe, Nat.reduceLeDiff, Nat.reduceBEq, Nat.testBit, Nat.zero_lt_one, Int.reduceToNat, Int.reduceNeg, Int.reduceLE, Int.reduceLT, Int.reduceEq, decide_true, decide_false, Bool.and_true, Bool.true_and, Bool.and_false, Bool.false_and, Bool.or_true, Bool.true_or, Bool.or_false, Bool.false_or, Bool.not_true, Bool.not_false, beq_self_eq_true, reduceCtorEq, Int.le_refl, Nat.add_zero, and_self, and_true, true_and, or_true, true_or, if_true, if_false, Nat.le_refl, Bool.and_self, eq_self, Bool.not_false, Bool.not_true, d1, awake82]
theorem dig_mulB {n : Nat} (h : n ≠ 0) : dig (n * B64) = 0 :: dig n := by
  have hv : val (0 :: dig n) = n * B64 := by rw [val, val_dig, Nat.zero_add, Nat.mul_comm]
  rw [← hv]
  refine dig_val (Limbs.cons B_pos (dig_limbs n)) fun hl => ?_
  have hp : 0 < (dig n).length := by rw [dig_len, nlen_pos h]; omega
  have ht := dig_top hp
  simp only [List.length_cons, Nat.add_sub_cancel]
  rw [List.getElem_cons, dif_neg (by omega)]
  exact ht

theorem long26 {a : List Nat} (ha : Limbs a) : (KL AA XX).call 26 [(PV.one (D.sl (List.map n64 (a))))] = some [(PV.one (D.sc (Value.bool (true))))] := by
  rw [c26]
  by_cases h1 : a.length ≤ 60
  · have d1 : decide ((60 : Int) < (a.length : Int)) = false := decide_eq_false (by omega)
    have hA := vlt ha h1
    have l2 : Limbs [0, 1] := Limbs.cons (by decide) (Limbs.cons (by decide) Limbs.nil)
    have f1 := Trim69 ha (by omega)
    have f2 := Mul86 ha l2 (by omega) (by simp)
    have f3 := Divide83 ha l2 (by omega) (by simp)
    rw [show val [0, 1] = B64 from rfl] at f2 f3
    rw [divV, if_neg (by decide)] at f3
    simp only [List.map_cons, List.map_nil, n64, show ((1 : Nat) : Int) = 1 from rfl, show ((0 : Nat) : Int) = 0 from rfl] at f2 f3
    by_cases h0 : val a = 0
    · rw [h0, dig_zero, List.map_nil] at f1
      rw [h0, Nat.zero_mul, dig_zero, List.map_nil] at f2
      rw [h0, Nat.zero_div, Nat.zero_mod, dig_zero] at f3
      simp only [go_sem, ↓reduceIte, Nat.reduceAdd, Nat.reduceSub, Nat.reduceMul, Nat.reduceEqDiff, Nat.reduceLT, Nat.reduceShiftRight, Nat.reduceAnd, Nat.reduceBNe, Nat.reduceLeDiff, Nat.reduceBEq, Nat.testBit, Nat.zero_lt_one, Int.reduceToNat, Int.reduceNeg, Int.reduceLE, Int.reduceLT, Int.reduceEq, decide_true, decide_false, Bool.and_true, Bool.true_and, Bool.and_false, Bool.false_and, Bool.or_true, Bool.true_or, Bool.or_false, Bool.false_or, Bool.not_true, Bool.not_false, beq_self_eq_true, reduceCtorEq, Int.le_refl, Nat.add_zero, and_self, and_true, true_and, or_true, true_or, if_true, if_false, Nat.le_refl, Bool.and_self, eq_self, Bool.not_false, Bool.not_true, d1, awake82, f1, f2, f3, nl, List.map_nil, List.length_nil, show ((0 : Nat) : Int) = 0 from rfl]
    · rw [dig_mulB h0] at f2
      have lA := dlen hA
      have hp : 0 < (dig (val a)).length := by rw [dig_len, nlen_pos h0]; omega
      have d2 : decide ((((dig (val a)).length : Nat) : Int) = 0) = false := decide_eq_false (by omega)
      have e1 := Equal85 (0 :: dig (val a)) (by simp; omega)
      have f4 := Trim69 ((dig_limbs (val a)).drop 1) (by rw [List.length_drop]; omega)
      rw [val_drop (dig_limbs _) (by omega), val_dig, Nat.pow_one] at f4
      have f5 := Trim69 ((dig_limbs (val a)).take 1) (by rw [List.length_take]; omega)
      rw [val_take (dig_limbs _) (by omega), val_dig, Nat.pow_one] at f5
      have e2 := Equal85 (dig (val a / B64)) (Nat.le_trans (dlen (Nat.lt_of_le_of_lt (Nat.div_le_self _ _) hA)) (by omega))
      have e3 := Equal85 (dig (val a % B64)) (Nat.le_trans (dlen (Nat.lt_of_le_of_lt (Nat.mod_le _ _) hA)) (by omega))
      have mb := mbk (show 1 + (dig (val a)).length ≤ 10000000 by omega) (Nat.le_refl _) (show 8 ≤ 1000 by omega)
      have b1 : ((1 : Int) ≤ (((dig (val a)).length : Nat) : Int)) = True := eq_true (by omega)
      rw [show List.map n64 (0 :: dig (val a)) = [D.sc (Value.int .u64 0)] :: List.map n64 (dig (val a)) from rfl] at f2 e1
      simp only [go_sem, ↓reduceIte, Nat.reduceAdd, Nat.reduceSub, Nat.reduceMul, Nat.reduceEqDiff, Nat.reduceLT, Nat.reduceShiftRight, Nat.reduceAnd, Nat.reduceBNe, Nat.reduceLeDiff, Nat.reduceBEq, Nat.testBit, Nat.zero_lt_one, Int.reduceToNat, Int.reduceNeg, Int.reduceLE, Int.reduceLT, Int.reduceEq, decide_true, decide_false, Bool.and_true, Bool.true_and, Bool.and_false, Bool.false_and, Bool.or_true, Bool.true_or, Bool.or_false, Bool.false_or, Bool.not_true, Bool.not_false, beq_self_eq_true, reduceCtorEq, Int.le_refl, Nat.add_zero, and_self, and_true, true_and, or_true, true_or, if_true, if_false, Nat.le_refl, Bool.and_self, eq_self, Bool.not_false, Bool.not_true, d1, d2, awake82, f1, f2, f3, f4, f5, e1, e2, e3, mb, all64, b1, dr64, tk64, Int.sub_zero, nl]
  · have d1 : decide ((60 : Int) < (a.length : Int)) = true := decide_eq_true (by omega)
    simp only [go_sem, ↓reduceIte, Nat.reduceAdd, Nat.reduceSub, Nat.reduceMul, Nat.reduceEqDiff, Nat.reduceLT, Nat.reduceShiftRight, Nat.reduceAnd, Nat.reduceBNe, Nat.reduceLeDiff, Nat.reduceBEq, Nat.testBit, Nat.zero_lt_one, Int.reduceToNat, Int.reduceNeg, Int.reduceLE, Int.reduceLT, Int.reduceEq, decide_true, decide_false, Bool.and_true, Bool.true_and, Bool.and_false, Bool.false_and, Bool.or_true, Bool.true_or, Bool.or_false, Bool.false_or, Bool.not_true, Bool.not_false, beq_self_eq_true, reduceCtorEq, Int.le_refl, Nat.add_zero, and_self, and_true, true_and, or_true, true_or, if_true, if_false, Nat.le_refl, Bool.and_self, eq_self, Bool.not_false, Bool.not_true, d1, awake82]
end Go.Proofs.Ytpanbfainilmpaa.Ev.N
end
section
/- The functions' texts are the program's. -/
set_option linter.unusedVariables false
set_option linter.unusedSimpArgs false
set_option maxRecDepth 100000
namespace Go.Proofs.Ytpanbfainilmpaa.Ev.N
open Go.Proofs Go.Proofs.Ytpanbfainilmpaa.Ev
def NI : Nat → Bool := fun f => f == 117 || f == 118 || f == 121 || f == 126 || f == 127
def Ent (f : Nat) (a : AFunc) : Prop := ∃ fn, Try.prog.funcs[f]? = some fn ∧ a.bare = compF Try.prog NI fn ∧ a.body.cl = true ∧ okF Try.prog fn = true
theorem e10 : Ent 10 a10 := ⟨Try.f10, by kernel_rfl, by kernel_rfl, by kernel_rfl, by kernel_rfl⟩
theorem e13 : Ent 13 a13 := ⟨Try.f13, by kernel_rfl, by kernel_rfl, by kernel_rfl, by kernel_rfl⟩
theorem e15 : Ent 15 a15 := ⟨Try.f15, by kernel_rfl, by kernel_rfl, by kernel_rfl, by kernel_rfl⟩
theorem e16 : Ent 16 a16 := ⟨Try.f16, by kernel_rfl, by kernel_rfl, by kernel_rfl, by kernel_rfl⟩
theorem e17 : Ent 17 a17 := ⟨Try.f17, by kernel_rfl, by kernel_rfl, by kernel_rfl, by kernel_rfl⟩
theorem e18 : Ent 18 a18 := ⟨Try.f18, by kernel_rfl, by kernel_rfl, by kernel_rfl, by kernel_rfl⟩
theorem e19 : Ent 19 a19 := ⟨Try.f19, by kernel_rfl, by kernel_rfl, by kernel_rfl, by kernel_rfl⟩
theorem e22 : Ent 22 a22 := ⟨Try.f22, by kernel_rfl, by kernel_rfl, by kernel_rfl, by kernel_rfl⟩
theorem e23 : Ent 23 a23 := ⟨Try.f23, by kernel_rfl, by kernel_rfl, by kernel_rfl, by kernel_rfl⟩
theorem e24 : Ent 24 a24 := ⟨Try.f24, by kernel_rfl, by kernel_rfl, by kernel_rfl, by kernel_rfl⟩
theorem e25 : Ent 25 a25 := ⟨Try.f25, by kernel_rfl, by kernel_rfl, by kernel_rfl, by kernel_rfl⟩
theorem e26 : Ent 26 a26 := ⟨Try.f26, by kernel_rfl, by kernel_rfl, by kernel_rfl, by kernel_rfl⟩
theorem e27 : Ent 27 a27 := ⟨Try.f27, by kernel_rfl, by kernel_rfl, by kernel_rfl, by kernel_rfl⟩
theorem e28 : Ent 28 a28 := ⟨Try.f28, by kernel_rfl, by kernel_rfl, by kernel_rfl, by kernel_rfl⟩
theorem e29 : Ent 29 a29 := ⟨Try.f29, by kernel_rfl, by kernel_rfl, by kernel_rfl, by kernel_rfl⟩
theorem e52 : Ent 52 a52 := ⟨Try.f52, by kernel_rfl, by kernel_rfl, by kernel_rfl, by kernel_rfl⟩
theorem e53 : Ent 53 a53 := ⟨Try.f53, by kernel_rfl, by kernel_rfl, by kernel_rfl, by kernel_rfl⟩
theorem e54 : Ent 54 a54 := ⟨Try.f54, by kernel_rfl, by kernel_rfl, by kernel_rfl, by kernel_rfl⟩
theorem e55 : Ent 55 a55 := ⟨Try.f55, by kernel_rfl, by kernel_rfl, by kernel_rfl, by kernel_rfl⟩
theorem e56 : Ent 56 a56 := ⟨Try.f56, by kernel_rfl, by kernel_rfl, by kernel_rfl, by kernel_rfl⟩
theorem e57 : Ent 57 a57 := ⟨Try.f57, by kernel_rfl, by kernel_rfl, by kernel_rfl, by kernel_rfl⟩
theorem e58 : Ent 58 a58 := ⟨Try.f58, by kernel_rfl, by kernel_rfl, by kernel_rfl, by kernel_rfl⟩
theorem e59 : Ent 59 a59 := ⟨Try.f59, by kernel_rfl, by kernel_rfl, by kernel_rfl, by kernel_rfl⟩
theorem e60 : Ent 60 a60 := ⟨Try.f60, by kernel_rfl, by kernel_rfl, by kernel_rfl, by kernel_rfl⟩
theorem e61 : Ent 61 a61 := ⟨Try.f61, by kernel_rfl, by kernel_rfl, by kernel_rfl, by kernel_rfl⟩
theorem e62 : Ent 62 a62 := ⟨Try.f62, by kernel_rfl, by kernel_rfl, by kernel_rfl, by kernel_rfl⟩
theorem e64 : Ent 64 a64 := ⟨Try.f64, by kernel_rfl, by kernel_rfl, by kernel_rfl, by kernel_rfl⟩
theorem e65 : Ent 65 a65 := ⟨Try.f65, by kernel_rfl, by kernel_rfl, by kernel_rfl, by kernel_rfl⟩
theorem e68 : Ent 68 a68 := ⟨Try.f68, by kernel_rfl, by kernel_rfl, by kernel_rfl, by kernel_rfl⟩
theorem e69 : Ent 69 a69 := ⟨Try.f69, by kernel_rfl, by kernel_rfl, by kernel_rfl, by kernel_rfl⟩
theorem e70 : Ent 70 a70 := ⟨Try.f70, by kernel_rfl, by kernel_rfl, by kernel_rfl, by kernel_rfl⟩
theorem e71 : Ent 71 a71 := ⟨Try.f71, by kernel_rfl, by kernel_rfl, by kernel_rfl, by kernel_rfl⟩
theorem e72 : Ent 72 a72 := ⟨Try.f72, by kernel_rfl, by kernel_rfl, by kernel_rfl, by kernel_rfl⟩
theorem e73 : Ent 73 a73 := ⟨Try.f73, by kernel_rfl, by kernel_rfl, by kernel_rfl, by kernel_rfl⟩
theorem e74 : Ent 74 a74 := ⟨Try.f74, by kernel_rfl, by kernel_rfl, by kernel_rfl, by kernel_rfl⟩
theorem e82 : Ent 82 a82 := ⟨Try.f82, by kernel_rfl, by kernel_rfl, by kernel_rfl, by kernel_rfl⟩
theorem e83 : Ent 83 a83 := ⟨Try.f83, by kernel_rfl, by kernel_rfl, by kernel_rfl, by kernel_rfl⟩
theorem e84 : Ent 84 a84 := ⟨Try.f84, by kernel_rfl, by kernel_rfl, by kernel_rfl, by kernel_rfl⟩
theorem e85 : Ent 85 a85 := ⟨Try.f85, by kernel_rfl, by kernel_rfl, by kernel_rfl, by kernel_rfl⟩
theorem e86 : Ent 86 a86 := ⟨Try.f86, by kernel_rfl, by kernel_rfl, by kernel_rfl, by kernel_rfl⟩
theorem e87 : Ent 87 a87 := ⟨Try.f87, by kernel_rfl, by kernel_rfl, by kernel_rfl, by kernel_rfl⟩
theorem e88 : Ent 88 a88 := ⟨Try.f88, by kernel_rfl, by kernel_rfl, by kernel_rfl, by kernel_rfl⟩
theorem e89 : Ent 89 a89 := ⟨Try.f89, by kernel_rfl, by kernel_rfl, by kernel_rfl, by kernel_rfl⟩
theorem e90 : Ent 90 a90 := ⟨Try.f90, by kernel_rfl, by kernel_rfl, by kernel_rfl, by kernel_rfl⟩
theorem e94 : Ent 94 a94 := ⟨Try.f94, by kernel_rfl, by kernel_rfl, by kernel_rfl, by kernel_rfl⟩
theorem e95 : Ent 95 a95 := ⟨Try.f95, by kernel_rfl, by kernel_rfl, by kernel_rfl, by kernel_rfl⟩
theorem e96 : Ent 96 a96 := ⟨Try.f96, by kernel_rfl, by kernel_rfl, by kernel_rfl, by kernel_rfl⟩
theorem e97 : Ent 97 a97 := ⟨Try.f97, by kernel_rfl, by kernel_rfl, by kernel_rfl, by kernel_rfl⟩
theorem e98 : Ent 98 a98 := ⟨Try.f98, by kernel_rfl, by kernel_rfl, by kernel_rfl, by kernel_rfl⟩
theorem e99 : Ent 99 a99 := ⟨Try.f99, by kernel_rfl, by kernel_rfl, by kernel_rfl, by kernel_rfl⟩
theorem e101 : Ent 101 a101 := ⟨Try.f101, by kernel_rfl, by kernel_rfl, by kernel_rfl, by kernel_rfl⟩
theorem e104 : Ent 104 a104 := ⟨Try.f104, by kernel_rfl, by kernel_rfl, by kernel_rfl, by kernel_rfl⟩
theorem e115 : Ent 115 a115 := ⟨Try.f115, by kernel_rfl, by kernel_rfl, by kernel_rfl, by kernel_rfl⟩
theorem e116 : Ent 116 a116 := ⟨Try.f116, by kernel_rfl, by kernel_rfl, by kernel_rfl, by kernel_rfl⟩
theorem e117 : Ent 117 a117 := ⟨Try.f117, by kernel_rfl, by kernel_rfl, by kernel_rfl, by kernel_rfl⟩
theorem e118 : Ent 118 a118 := ⟨Try.f118, by kernel_rfl, by kernel_rfl, by kernel_rfl, by kernel_rfl⟩
theorem e119 : Ent 119 a119 := ⟨Try.f119, by kernel_rfl, by kernel_rfl, by kernel_rfl, by kernel_rfl⟩
theorem e120 : Ent 120 a120 := ⟨Try.f120, by kernel_rfl, by kernel_rfl, by kernel_rfl, by kernel_rfl⟩
theorem e121 : Ent 121 a121 := ⟨Try.f121, by kernel_rfl, by kernel_rfl, by kernel_rfl, by kernel_rfl⟩
theorem e123 : Ent 123 a123 := ⟨Try.f123, by kernel_rfl, by kernel_rfl, by kernel_rfl, by kernel_rfl⟩
theorem e126 : Ent 126 a126 := ⟨Try.f126, by kernel_rfl, by kernel_rfl, by kernel_rfl, by kernel_rfl⟩
theorem e127 : Ent 127 a127 := ⟨Try.f127, by kernel_rfl, by kernel_rfl, by kernel_rfl, by kernel_rfl⟩
theorem ents : ∀ f a, AA f = some a → Ent f a := by
  intro f fn' h
  unfold AA at h
  split at h
  · cases h; exact e10
  · cases h; exact e13
  · cases h; exact e15
  · cases h; exact e16
  · cases h; exact e17
  · cases h; exact e18
  · cases h; exact e19
  · cases h; exact e22
  · cases h; exact e23
  · cases h; exact e24
  · cases h; exact e25
  · cases h; exact e26
  · cases h; exact e27
  · cases h; exact e28
  · cases h; exact e29
  · cases h; exact e52
  · cases h; exact e53
  · cases h; exact e54
  · cases h; exact e55
  · cases h; exact e56
  · cases h; exact e57
  · cases h; exact e58
  · cases h; exact e59
  · cases h; exact e60
  · cases h; exact e61
  · cases h; exact e62
  · cases h; exact e64
  · cases h; exact e65
  · cases h; exact e68
  · cases h; exact e69
  · cases h; exact e70
  · cases h; exact e71
  · cases h; exact e72
  · cases h; exact e73
  · cases h; exact e74
  · cases h; exact e82
  · cases h; exact e83
  · cases h; exact e84
  · cases h; exact e85
  · cases h; exact e86
  · cases h; exact e87
  · cases h; exact e88
  · cases h; exact e89
  · cases h; exact e90
  · cases h; exact e94
  · cases h; exact e95
  · cases h; exact e96
  · cases h; exact e97
  · cases h; exact e98
  · cases h; exact e99
  · cases h; exact e101
  · cases h; exact e104
  · cases h; exact e115
  · cases h; exact e116
  · cases h; exact e117
  · cases h; exact e118
  · cases h; exact e119
  · cases h; exact e120
  · cases h; exact e121
  · cases h; exact e123
  · cases h; exact e126
  · cases h; exact e127
  · cases h
end Go.Proofs.Ytpanbfainilmpaa.Ev.N
end
section
/- Closed facts of the program that every claim of this seat asks, each proved alone. -/
set_option linter.unusedVariables false
set_option maxRecDepth 100000
set_option linter.unusedSimpArgs false
namespace Go.Proofs.Ytpanbfainilmpaa.Ev
open Go Go.Proofs
theorem words_app (w r : List Char) (h : ∀ c ∈ w, c ≠ Char.ofNat 32) : wordsSigns (w ++ Char.ofNat 32 :: r) = w :: wordsSigns r := by
  induction w with
  | nil => rfl
  | cons c w ih =>
    rw [List.cons_append, wordsSigns.eq_3 _ _ (fun he => h c (by simp) he), ih fun d hd => h d (by simp [hd])]
def io1 : List Nat := [104, 97, 114, 110, 101, 115, 115]
def io2 : List Nat := [50, 57, 98, 101, 100, 52, 53, 49, 53, 50, 52, 99, 99, 56, 100, 51, 98, 54, 49, 102, 101, 98, 48, 102, 100, 102, 100, 57, 98, 50, 51, 54, 102, 97, 97, 97, 100, 50, 50, 50, 48, 99, 49, 50, 101, 48, 52, 100, 55, 56, 57, 56, 101, 52, 49, 98, 102, 102, 54, 49, 56, 50, 100, 49]
def io3 : List Nat := [99, 117, 116]
def io4 : List Nat := [97, 116, 32, 108, 111, 100, 103, 101, 47, 108, 111, 100, 103, 101, 108, 97, 119, 49, 57, 46, 83, 116, 114, 101, 97, 109, 65, 100, 100, 115, 32, 108, 111, 100, 103, 101, 47, 108, 111, 100, 103, 101, 108, 97, 119, 49, 57, 46, 83, 116, 114, 101, 97, 109, 72, 111, 108, 100, 115, 32, 108, 111, 100, 103, 101, 47, 108, 111, 100, 103, 101, 108, 97, 119, 49, 57, 46, 83, 116, 114, 101, 97, 109, 79, 114, 100, 101, 114, 32, 108, 111, 100, 103, 101, 47, 108, 111, 100, 103, 101, 108, 97, 119, 49, 57, 46, 83, 116, 114, 101, 97, 109, 79, 110, 99, 101, 32, 108, 111, 100, 103, 101, 47, 108, 111, 100, 103, 101, 108, 97, 119, 49, 57, 46, 83, 116, 114, 101, 97, 109, 78, 101, 120, 116, 32, 108, 111, 100, 103, 101, 47, 108, 111, 100, 103, 101, 108, 97, 119, 50, 48, 46, 70, 108, 117, 115, 104, 85, 110, 105, 116, 101, 115, 32, 108, 111, 100, 103, 101, 47, 108, 111, 100, 103, 101, 108, 97, 119, 50, 48, 46, 70, 108, 117, 115, 104, 76, 97, 99, 107, 115, 32, 108, 111, 100, 103, 101, 47, 108, 111, 100, 103, 101, 108, 97, 119, 48, 52, 46, 77, 111, 100, 117, 108, 117, 115, 70, 101, 114, 109, 97, 116, 32, 108, 111, 100, 103, 101, 47, 108, 111, 100, 103, 101, 108, 97, 119, 50, 48, 46, 70, 108, 117, 115, 104, 76, 101, 118, 101, 108, 115, 32, 108, 111, 100, 103, 101, 47, 108, 111, 100, 103, 101, 108, 97, 119, 50, 48, 46, 70, 108, 117, 115, 104, 79, 114, 100, 101, 114, 32, 108, 111, 100, 103, 101, 47, 108, 111, 100, 103, 101, 108, 97, 119, 48, 52, 46, 77, 111, 100, 117, 108, 117, 115, 82, 105, 110, 103, 115, 32, 108, 111, 100, 103, 101, 47, 108, 111, 100, 103, 101, 108, 97, 119, 50, 48, 46, 70, 108, 117, 115, 104, 65, 103, 97, 105, 110, 32, 108, 111, 100, 103, 101, 47, 108, 111, 100, 103, 101, 108, 97, 119, 48, 49, 46, 78, 97, 116, 84, 101, 108, 108, 115, 32, 108, 111, 100, 103, 101, 47, 108, 111, 100, 103, 101, 108, 97, 119, 48, 49, 46, 78, 97, 116, 66, 105, 116, 115, 32, 108, 111, 100, 103, 101, 47, 108, 111, 100, 103, 101, 108, 97, 119, 48, 49, 46, 78, 97, 116, 65, 100, 100, 115, 32, 108, 111, 100, 103, 101, 47, 108, 111, 100, 103, 101, 108, 97, 119, 48, 49, 46, 78, 97, 116, 79, 114, 100, 101, 114, 32, 108, 111, 100, 103, 101, 47, 108, 111, 100, 103, 101, 108, 97, 119, 48, 49, 46, 78, 97, 116, 68, 111, 117, 98, 108, 101, 115, 32, 108, 111, 100, 103, 101, 47, 108, 111, 100, 103, 101, 108, 97, 119, 50, 53, 46, 84, 114, 97, 99, 101, 80, 97, 114, 116, 115, 32, 108, 111, 100, 103, 101, 47, 108, 111, 100, 103, 101, 108, 97, 119, 50, 53, 46, 84, 114, 97, 99, 101, 83, 101, 99, 114, 101, 116, 115, 32, 108, 111, 100, 103, 101, 47, 108, 111, 100, 103, 101, 108, 97, 119, 48, 50, 46, 76, 111, 110, 103, 84, 101, 108, 108, 115, 32, 108, 111, 100, 103, 101, 47, 108, 111, 100, 103, 101, 108, 97, 119, 48, 50, 46, 76, 111, 110, 103, 69, 117, 99, 108, 105, 100, 32, 108, 111, 100, 103, 101, 47, 108, 111, 100, 103, 101, 108, 97, 119, 48, 50, 46, 76, 111, 110, 103, 66, 97, 99, 107, 32, 108, 111, 100, 103, 101, 47, 108, 111, 100, 103, 101, 108, 97, 119, 48, 50, 46, 76, 111, 110, 103, 82, 105, 110, 103, 115, 32, 108, 111, 100, 103, 101, 47, 108, 111, 100, 103, 101, 108, 97, 119, 48, 50, 46, 76, 111, 110, 103, 76, 105, 109, 98, 115, 32, 108, 111, 100, 103, 101, 47, 108, 111, 100, 103, 101, 108, 97, 119, 48, 52, 46, 77, 111, 100, 117, 108, 117, 115, 84, 101, 108, 108, 115, 32, 108, 111, 100, 103, 101, 47, 108, 111, 100, 103, 101, 108, 97, 119, 48, 52, 46, 77, 111, 100, 117, 108, 117, 115, 80, 111, 119, 101, 114, 115, 32, 108, 111, 100, 103, 101, 47, 108, 111, 100, 103, 101, 108, 97, 119, 48, 52, 46, 77, 111, 100, 117, 108, 117, 115, 83, 116, 101, 112, 115]
def ch (l : List Nat) : List Char := l.map Char.ofNat
theorem ioS : Try.prog.initOrder = String.ofList (ch io1 ++ Char.ofNat 32 :: (ch io2 ++ Char.ofNat 32 :: (ch io3 ++ Char.ofNat 32 :: ch io4))) := by kernel_rfl
theorem ioL : wordsSigns Try.prog.initOrder.toList = ch io1 :: ch io2 :: ch io3 :: wordsSigns (ch io4) := by
  rw [ioS, String.toList_ofList, words_app _ _ (by decide), words_app _ _ (by decide), words_app _ _ (by decide)]
theorem ioB (R : List (List Char)) : behindMainWord (ch io1 :: ch io2 :: ch io3 :: R) = ch io3 :: R := by kernel_rfl
theorem ioT (R : List (List Char)) : stripLifts liftWords (ch io3 :: R) = ([], ch io3 :: R) := by kernel_rfl
theorem ioa1 : (ch io3 == "gc".toList) = false := by kernel_rfl
theorem ioa2 : (ch io3 == "spec".toList) = false := by kernel_rfl
theorem ioa3 : (ch io3 == "cut".toList) = true := by kernel_rfl
theorem ioa4 : (ch io3 == "carried".toList) = false := by kernel_rfl
theorem ioa5 : (some (ch io3) == some "cut".toList) = true := by kernel_rfl
theorem ioa6 : (some (ch io3) == some "carried".toList) = false := by kernel_rfl
theorem make_of (P : Program) (R : List (List Char)) (h : wordsSigns P.initOrder.toList = ch io1 :: ch io2 :: ch io3 :: R) : (P.make == some Make.cut) = true := by
  have : P.make = some Make.cut := by
    unfold Program.make
    rw [h, ioB]
    simp only [ioa1, ioa2, ioa3, Bool.false_or, Bool.true_or, Bool.or_false, if_true, Bool.false_eq_true, if_false]
  rw [this]; rfl
theorem lifts_of (P : Program) (R : List (List Char)) (h : wordsSigns P.initOrder.toList = ch io1 :: ch io2 :: ch io3 :: R) : (false == P.liftsFinal) = true := by
  have : P.liftsFinal = false := by
    unfold Program.liftsFinal Program.headLifts
    rw [h, ioB]
    simp only [ioT, ioa5, ioa6, List.head?_cons, Bool.false_and, Bool.false_or, if_true, List.contains_nil]
  rw [this]; rfl
theorem enter_of (P : Program) (R : List (List Char)) (h : wordsSigns P.initOrder.toList = ch io1 :: ch io2 :: ch io3 :: R) (b1 : P.laysLater = false) (b2 : P.bearsReflect = false) (b3 : P.doorFits [] = true) : P.mayEnter = true := by
  unfold Program.mayEnter
  rw [h, ioB]
  simp only [ioT, ioa1, ioa2, ioa4, ioa5, b1, b2, b3, List.head?_cons, List.contains_nil, Bool.false_and, Bool.false_or, Bool.not_false, Bool.or_true, Bool.and_true, Bool.true_and]
theorem lays : Try.prog.laysLater = false := by kernel_rfl
theorem bears : Try.prog.bearsReflect = false := by kernel_rfl
theorem door : Try.prog.doorFits [] = true := by kernel_rfl
theorem fMake : (Try.prog.make == some Make.cut) = true := make_of _ _ ioL
theorem fLifts : (false == Try.prog.liftsFinal) = true := lifts_of _ _ ioL
theorem fEnter : Try.prog.mayEnter = true := enter_of _ _ ioL lays bears door
theorem fLaid : laidOutB Try.prog = true := by kernel_rfl
theorem fMaps : mapsRowed Try.prog = true := by kernel_rfl
theorem fPlain : (true == Try.prog.plainKeys) = true := by kernel_rfl
theorem fHeard : Try.prog.stopsHeard = true := by kernel_rfl
theorem fOwn : ownKnob Try.prog.godebug = none := by kernel_rfl
theorem and_i {a b : Bool} (ha : a = true) (hb : b = true) : (a && b) = true := by rw [ha, hb]; rfl
end Go.Proofs.Ytpanbfainilmpaa.Ev
end
