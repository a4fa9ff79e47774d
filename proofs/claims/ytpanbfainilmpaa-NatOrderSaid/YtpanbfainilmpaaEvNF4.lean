/- Bits of numbers, and twice a number. -/
import Derived.Test.YtpanbfainilmpaaEvNF3
set_option linter.unusedVariables false
set_option linter.unusedSimpArgs false
set_option maxRecDepth 100000
set_option maxHeartbeats 2000000
namespace Go.Proofs.Ytpanbfainilmpaa.Ev.N
open Go Go.Proofs.Ytpanbfainilmpaa.Ev

theorem top_limb {l : List Nat} (h : Limbs l) {m : Nat} (hn : nlen (val l) = m + 1) : limb l m = val l / B64 ^ m := by
  rw [limb_eq h, Nat.mod_eq_of_lt]
  have := lt_nlen (val l)
  rw [hn, Nat.pow_succ, Nat.mul_comm] at this
  rw [Nat.div_lt_iff_lt_mul (Bp_pos m)]
  exact this
theorem nbits_limbs {l : List Nat} (h : Limbs l) {m : Nat} (hn : nlen (val l) = m + 1) : nbits (val l) = 64 * m + nbits (limb l m) := by
  have h0 : val l ≠ 0 := by
    intro e; rw [e] at hn; simp [nlen] at hn
  have h1 := le_nlen h0
  rw [hn, Nat.add_sub_cancel, Bp_eq] at h1
  rw [top_limb h hn, Bp_eq]
  exact nbits_shift h1
theorem nbits_zero : nbits 0 = 0 := rfl
theorem nbits_64 {x : Nat} (h : x < B64) : nbits x ≤ 64 := nbits_le.2 h
theorem Bits70 {l : List Nat} (h : Limbs l) (hl : l.length ≤ 1000000) : (KL AA XX).call 70 [(PV.one (D.sl (List.map n64 (l))))] = some [(PV.one (D.sc (Value.int IntKind.i64 ((nbits (val l) : Nat)))))] := by
  have hm := top_le h
  have go := iter (F := fun (i : Nat) => loopR AA XX [0, 3] 0 b70_0 (RUN AA XX b70_0 ⟨[(0, (AV.c (C.d (D.sl (List.map n64 (l)))))), (3, (AV.c (C.d (D.sc (Value.int IntKind.i64 ((i : Int) - 1))))))], [], 0⟩)) hm fun i hi1 hi2 => by
    have hz := top_zero h hi2 hi1
    have hg := getn hi2
    rw [hz] at hg
    have e1 : ((i + 1 : Nat) : Int) - 1 = (i : Int) := by omega
    have hw := wrap_i64_pred i (by omega)
    have h0 : decide ((0 : Int) ≤ (i : Int)) = true := decide_eq_true (by omega)
    refine Eq.symm ?_
    show loopR _ _ _ _ _ (RUN _ _ _ _) = _
    rw [e1, b70_0_run]
    simp only [go_sem, ↓reduceIte, Nat.reduceAdd, Nat.reduceSub, Nat.reduceMul, Nat.reduceEqDiff, Nat.reduceLT, Nat.reduceShiftRight, Nat.reduceAnd, Nat.reduceBNe, Nat.reduceLeDiff, Nat.reduceBEq, Nat.testBit, Nat.zero_lt_one, Int.reduceToNat, Int.reduceNeg, Int.reduceLE, Int.reduceLT, Int.reduceEq, decide_true, decide_false, Bool.and_true, Bool.true_and, Bool.and_false, Bool.false_and, Bool.or_true, Bool.true_or, Bool.or_false, Bool.false_or, Bool.not_true, Bool.not_false, beq_self_eq_true, reduceCtorEq, Int.le_refl, Nat.add_zero, and_self, and_true, true_and, or_true, true_or, if_true, if_false, Nat.le_refl, Bool.and_self, eq_self, Bool.not_false, Bool.not_true, hw, h0, hg, Int.natCast_zero]
  have hw := wrap_i64_pred l.length (by omega)
  rw [c70]
  simp only [go_sem, ↓reduceIte, Nat.reduceAdd, Nat.reduceSub, Nat.reduceMul, Nat.reduceEqDiff, Nat.reduceLT, Nat.reduceShiftRight, Nat.reduceAnd, Nat.reduceBNe, Nat.reduceLeDiff, Nat.reduceBEq, Nat.testBit, Nat.zero_lt_one, Int.reduceToNat, Int.reduceNeg, Int.reduceLE, Int.reduceLT, Int.reduceEq, decide_true, decide_false, Bool.and_true, Bool.true_and, Bool.and_false, Bool.false_and, Bool.or_true, Bool.true_or, Bool.or_false, Bool.false_or, Bool.not_true, Bool.not_false, beq_self_eq_true, reduceCtorEq, Int.le_refl, Nat.add_zero, and_self, and_true, true_and, or_true, true_or, if_true, if_false, Nat.le_refl, Bool.and_self, eq_self, Bool.not_false, Bool.not_true, hw]
  rw [← go, b70_0_run]
  rcases hn : nlen (val l) with _ | m
  · have e0 : val l = 0 := by
      by_cases h0 : val l = 0
      · exact h0
      · rw [nlen_pos h0] at hn; omega
    have d0 : decide ((0 : Int) ≤ 0 - 1) = false := rfl
    simp only [go_sem, ↓reduceIte, Nat.reduceAdd, Nat.reduceSub, Nat.reduceMul, Nat.reduceEqDiff, Nat.reduceLT, Nat.reduceShiftRight, Nat.reduceAnd, Nat.reduceBNe, Nat.reduceLeDiff, Nat.reduceBEq, Nat.testBit, Nat.zero_lt_one, Int.reduceToNat, Int.reduceNeg, Int.reduceLE, Int.reduceLT, Int.reduceEq, decide_true, decide_false, Bool.and_true, Bool.true_and, Bool.and_false, Bool.false_and, Bool.or_true, Bool.true_or, Bool.or_false, Bool.false_or, Bool.not_true, Bool.not_false, beq_self_eq_true, reduceCtorEq, Int.le_refl, Nat.add_zero, and_self, and_true, true_and, or_true, true_or, if_true, if_false, Nat.le_refl, Bool.and_self, eq_self, Bool.not_false, Bool.not_true, d0, e0, nbits_zero, show ((0 : Nat) : Int) = 0 from rfl]
  · have hml : m < l.length := by omega
    have hg := getn hml
    have hnz := top_not h hml hn
    have e1 : ((m + 1 : Nat) : Int) - 1 = (m : Int) := by omega
    have h0 : decide ((0 : Int) ≤ (m : Int)) = true := decide_eq_true (by omega)
    have h1 : decide (((l[m] : Nat) : Int) = 0) = false := decide_eq_false (by omega)
    have c99 := Len99 (h.get hml)
    have hb := nbits_limbs h hn
    rw [limb_get hml] at hb
    have h64 := nbits_64 (h.get hml)
    have w1 : IntKind.i64.wrap (64 * (m : Int)) = 64 * (m : Int) := wrap_i64 _ (by omega) (by omega)
    have w2 : IntKind.i64.wrap (64 * (m : Int) + ((nbits l[m] : Nat) : Int)) = ((64 * m + nbits l[m] : Nat) : Int) := by rw [wrap_i64 _ (by omega) (by omega)]; omega
    rw [hb]
    simp only [go_sem, ↓reduceIte, Nat.reduceAdd, Nat.reduceSub, Nat.reduceMul, Nat.reduceEqDiff, Nat.reduceLT, Nat.reduceShiftRight, Nat.reduceAnd, Nat.reduceBNe, Nat.reduceLeDiff, Nat.reduceBEq, Nat.testBit, Nat.zero_lt_one, Int.reduceToNat, Int.reduceNeg, Int.reduceLE, Int.reduceLT, Int.reduceEq, decide_true, decide_false, Bool.and_true, Bool.true_and, Bool.and_false, Bool.false_and, Bool.or_true, Bool.true_or, Bool.or_false, Bool.false_or, Bool.not_true, Bool.not_false, beq_self_eq_true, reduceCtorEq, Int.le_refl, Nat.add_zero, and_self, and_true, true_and, or_true, true_or, if_true, if_false, Nat.le_refl, Bool.and_self, eq_self, Bool.not_false, Bool.not_true, e1, h0, h1, hg, c99, w1, w2]
theorem Bits56 {l : List Nat} (h : Limbs l) (hl : l.length ≤ 1000000) : (KL AA XX).call 56 [(PV.one (D.sl (List.map n64 (l))))] = some [(PV.one (D.sc (Value.int IntKind.i64 ((nbits (val l) : Nat)))))] := by
  have t69 := Trim69 h hl
  have hd := dig_len (val l)
  have hm := top_le h
  rw [c56]
  by_cases h0 : val l = 0
  · have d0 : decide ((((dig (val l)).length : Nat) : Int) = 0) = true := decide_eq_true (by rw [h0]; rfl)
    rw [h0] at t69 d0 ⊢
    simp only [go_sem, ↓reduceIte, Nat.reduceAdd, Nat.reduceSub, Nat.reduceMul, Nat.reduceEqDiff, Nat.reduceLT, Nat.reduceShiftRight, Nat.reduceAnd, Nat.reduceBNe, Nat.reduceLeDiff, Nat.reduceBEq, Nat.testBit, Nat.zero_lt_one, Int.reduceToNat, Int.reduceNeg, Int.reduceLE, Int.reduceLT, Int.reduceEq, decide_true, decide_false, Bool.and_true, Bool.true_and, Bool.and_false, Bool.false_and, Bool.or_true, Bool.true_or, Bool.or_false, Bool.false_or, Bool.not_true, Bool.not_false, beq_self_eq_true, reduceCtorEq, Int.le_refl, Nat.add_zero, and_self, and_true, true_and, or_true, true_or, if_true, if_false, Nat.le_refl, Bool.and_self, eq_self, Bool.not_false, Bool.not_true, t69, d0, nbits_zero, show ((0 : Nat) : Int) = 0 from rfl]
  · have hp := nlen_pos h0
    have d0 : decide ((((dig (val l)).length : Nat) : Int) = 0) = false := decide_eq_false (by omega)
    obtain ⟨m, hn⟩ : ∃ m, nlen (val l) = m + 1 := ⟨_, hp⟩
    have hml : m < (dig (val l)).length := by omega
    have hg := getn hml
    have c99 := Len99 ((dig_limbs (val l)).get hml)
    have hb := nbits_limbs (dig_limbs (val l)) (m := m) (by rw [val_dig]; exact hn)
    rw [limb_get hml, val_dig] at hb
    have h64 := nbits_64 ((dig_limbs (val l)).get hml)
    have w0 : IntKind.i64.wrap ((((dig (val l)).length : Nat) : Int) - 1) = (m : Int) := by rw [wrap_i64 _ (by omega) (by omega)]; omega
    have w1 : IntKind.i64.wrap (64 * (m : Int)) = 64 * (m : Int) := wrap_i64 _ (by omega) (by omega)
    have w2 : IntKind.i64.wrap (64 * (m : Int) + ((nbits (dig (val l))[m] : Nat) : Int)) = ((64 * m + nbits (dig (val l))[m] : Nat) : Int) := by rw [wrap_i64 _ (by omega) (by omega)]; omega
    rw [hb]
    simp only [go_sem, ↓reduceIte, Nat.reduceAdd, Nat.reduceSub, Nat.reduceMul, Nat.reduceEqDiff, Nat.reduceLT, Nat.reduceShiftRight, Nat.reduceAnd, Nat.reduceBNe, Nat.reduceLeDiff, Nat.reduceBEq, Nat.testBit, Nat.zero_lt_one, Int.reduceToNat, Int.reduceNeg, Int.reduceLE, Int.reduceLT, Int.reduceEq, decide_true, decide_false, Bool.and_true, Bool.true_and, Bool.and_false, Bool.false_and, Bool.or_true, Bool.true_or, Bool.or_false, Bool.false_or, Bool.not_true, Bool.not_false, beq_self_eq_true, reduceCtorEq, Int.le_refl, Nat.add_zero, and_self, and_true, true_and, or_true, true_or, if_true, if_false, Nat.le_refl, Bool.and_self, eq_self, Bool.not_false, Bool.not_true, t69, d0, hg, c99, w0, w1, w2]

/-- A number's i-th bit. -/
def bitN (n : Nat) (i : Int) : Nat := if i < 0 then 0 else n / 2 ^ i.toNat % 2
theorem bitN_le (n : Nat) (i : Int) : bitN n i ≤ 1 := by unfold bitN; split <;> omega
theorem limb_bit {l : List Nat} (h : Limbs l) (k : Nat) : limb l (k / 64) / 2 ^ (k % 64) % 2 = val l / 2 ^ k % 2 := by
  rw [limb_eq h, Bp_eq, B_eq]
  have hr : k % 64 < 64 := Nat.mod_lt _ (by decide)
  have e : (2 : Nat) ^ 64 = 2 ^ (k % 64) * 2 ^ (64 - k % 64) := by rw [← Nat.pow_add]; congr 1; omega
  rw [e, Nat.mod_mul_right_div_self, Nat.div_div_eq_div_mul, ← Nat.pow_add, Nat.mod_mod_of_dvd]
  · congr 3; omega
  · have : 64 - k % 64 = (63 - k % 64) + 1 := by omega
    rw [this, Nat.pow_succ]
    exact Nat.dvd_mul_left _ _

theorem Bit71 {l : List Nat} (h : Limbs l) (hl : l.length ≤ 1000000) (i : Int) (hi : (Lit.int .i64 i).wf = true) : (KL AA XX).call 71 [(PV.one (D.sl (List.map n64 (l)))), (PV.one (D.sc (Value.int IntKind.i64 (i))))] = some [(PV.one (D.sc (Value.int IntKind.i64 ((bitN (val l) i : Nat)))))] := by
  have hir : -9223372036854775808 ≤ i ∧ i ≤ 9223372036854775807 := by
    simp only [Lit.wf, Bool.and_eq_true, decide_eq_true_eq] at hi
    exact hi
  rw [c71]
  by_cases h0 : i < 0
  · have d0 : decide (i < 0) = true := decide_eq_true h0
    have hb : bitN (val l) i = 0 := if_pos h0
    rw [hb]
    simp only [go_sem, ↓reduceIte, Nat.reduceAdd, Nat.reduceSub, Nat.reduceMul, Nat.reduceEqDiff, Nat.reduceLT, Nat.reduceShiftRight, Nat.reduceAnd, Nat.reduceBNe, Nat.reduceLeDiff, Nat.reduceBEq, Nat.testBit, Nat.zero_lt_one, Int.reduceToNat, Int.reduceNeg, Int.reduceLE, Int.reduceLT, Int.reduceEq, decide_true, decide_false, Bool.and_true, Bool.true_and, Bool.and_false, Bool.false_and, Bool.or_true, Bool.true_or, Bool.or_false, Bool.false_or, Bool.not_true, Bool.not_false, beq_self_eq_true, reduceCtorEq, Int.le_refl, Nat.add_zero, and_self, and_true, true_and, or_true, true_or, if_true, if_false, Nat.le_refl, Bool.and_self, eq_self, Bool.not_false, Bool.not_true, d0, show ((0 : Nat) : Int) = 0 from rfl]
  · have d0 : decide (i < 0) = false := decide_eq_false h0
    have hb : bitN (val l) i = val l / 2 ^ i.toNat % 2 := if_neg h0
    rw [hb]
    obtain ⟨k, rfl⟩ : ∃ k : Nat, i = (k : Int) := ⟨i.toNat, by omega⟩
    rw [Int.toNat_natCast]
    clear hb h0 hi
    have e1 : ((k : Int)).tdiv 64 = ((k / 64 : Nat) : Int) := by
      rw [Int.tdiv_eq_ediv_of_nonneg (by omega)]; omega
    have w1 : IntKind.i64.wrap (((k / 64 : Nat) : Int)) = ((k / 64 : Nat) : Int) := wrap_i64 _ (by omega) (by omega)
    have e2 : ((k : Int)).tmod 64 = ((k % 64 : Nat) : Int) := by
      rw [Int.tmod_eq_emod_of_nonneg (by omega)]; omega
    have hr : k % 64 < 64 := Nat.mod_lt _ (by decide)
    have q0 : ((0 : Int) ≤ ((k % 64 : Nat) : Int)) = True := eq_true (by omega)
    have m64 := min64 hr
    have hlb := limb_bit h k
    have w2 : IntKind.u64.wrap (((k % 64 : Nat) : Int)) = ((k % 64 : Nat) : Int) := wrap_u64_lt (Nat.lt_trans hr (by decide))
    have w4 : ∀ y : Nat, IntKind.i64.wrap (((y % 2 : Nat) : Int)) = ((y % 2 : Nat) : Int) := fun y => wrap_i64 _ (by omega) (by omega)
    by_cases hk : k / 64 < l.length
    · have d1 : decide ((l.length : Int) ≤ ((k / 64 : Nat) : Int)) = false := decide_eq_false (by omega)
      have hg := getn hk
      rw [← limb_get hk] at hg
      simp only [go_sem, ↓reduceIte, Nat.reduceAdd, Nat.reduceSub, Nat.reduceMul, Nat.reduceEqDiff, Nat.reduceLT, Nat.reduceShiftRight, Nat.reduceAnd, Nat.reduceBNe, Nat.reduceLeDiff, Nat.reduceBEq, Nat.testBit, Nat.zero_lt_one, Int.reduceToNat, Int.reduceNeg, Int.reduceLE, Int.reduceLT, Int.reduceEq, decide_true, decide_false, Bool.and_true, Bool.true_and, Bool.and_false, Bool.false_and, Bool.or_true, Bool.true_or, Bool.or_false, Bool.false_or, Bool.not_true, Bool.not_false, beq_self_eq_true, reduceCtorEq, Int.le_refl, Nat.add_zero, and_self, and_true, true_and, or_true, true_or, if_true, if_false, Nat.le_refl, Bool.and_self, eq_self, Bool.not_false, Bool.not_true, d0, e1, e2, w1, d1, hg, q0, Int.toNat_natCast, m64, shr_n, bin_andI, bandI_u1, w4, hlb]
    · have d1 : decide ((l.length : Int) ≤ ((k / 64 : Nat) : Int)) = true := decide_eq_true (by omega)
      rw [limb_none (by omega), Nat.zero_div, Nat.zero_mod] at hlb
      simp only [go_sem, ↓reduceIte, Nat.reduceAdd, Nat.reduceSub, Nat.reduceMul, Nat.reduceEqDiff, Nat.reduceLT, Nat.reduceShiftRight, Nat.reduceAnd, Nat.reduceBNe, Nat.reduceLeDiff, Nat.reduceBEq, Nat.testBit, Nat.zero_lt_one, Int.reduceToNat, Int.reduceNeg, Int.reduceLE, Int.reduceLT, Int.reduceEq, decide_true, decide_false, Bool.and_true, Bool.true_and, Bool.and_false, Bool.false_and, Bool.or_true, Bool.true_or, Bool.or_false, Bool.false_or, Bool.not_true, Bool.not_false, beq_self_eq_true, reduceCtorEq, Int.le_refl, Nat.add_zero, and_self, and_true, true_and, or_true, true_or, if_true, if_false, Nat.le_refl, Bool.and_self, eq_self, Bool.not_false, Bool.not_true, d0, e1, w1, d1, ← hlb, show ((0 : Nat) : Int) = 0 from rfl]

theorem Bit72 {l : List Nat} (h : Limbs l) (hl : l.length ≤ 1000000) (i : Int) (hi : (Lit.int .i64 i).wf = true) : (KL AA XX).call 72 [(PV.one (D.sl (List.map n64 (l)))), (PV.one (D.sc (Value.int IntKind.i64 (i))))] = some [(PV.one (D.sc (Value.int IntKind.i64 ((bitN (val l) i : Nat)))))] := by
  have hir : -9223372036854775808 ≤ i ∧ i ≤ 9223372036854775807 := by
    simp only [Lit.wf, Bool.and_eq_true, decide_eq_true_eq] at hi
    exact hi
  rw [c72]
  by_cases h0 : i < 0
  · have d0 : decide (i < 0) = true := decide_eq_true h0
    have hb : bitN (val l) i = 0 := if_pos h0
    rw [hb]
    simp only [go_sem, ↓reduceIte, Nat.reduceAdd, Nat.reduceSub, Nat.reduceMul, Nat.reduceEqDiff, Nat.reduceLT, Nat.reduceShiftRight, Nat.reduceAnd, Nat.reduceBNe, Nat.reduceLeDiff, Nat.reduceBEq, Nat.testBit, Nat.zero_lt_one, Int.reduceToNat, Int.reduceNeg, Int.reduceLE, Int.reduceLT, Int.reduceEq, decide_true, decide_false, Bool.and_true, Bool.true_and, Bool.and_false, Bool.false_and, Bool.or_true, Bool.true_or, Bool.or_false, Bool.false_or, Bool.not_true, Bool.not_false, beq_self_eq_true, reduceCtorEq, Int.le_refl, Nat.add_zero, and_self, and_true, true_and, or_true, true_or, if_true, if_false, Nat.le_refl, Bool.and_self, eq_self, Bool.not_false, Bool.not_true, d0, show ((0 : Nat) : Int) = 0 from rfl]
  · have d0 : decide (i < 0) = false := decide_eq_false h0
    have hb : bitN (val l) i = val l / 2 ^ i.toNat % 2 := if_neg h0
    rw [hb]
    obtain ⟨k, rfl⟩ : ∃ k : Nat, i = (k : Int) := ⟨i.toNat, by omega⟩
    rw [Int.toNat_natCast]
    clear hb h0 hi
    have e1 : ((k : Int)).tdiv 64 = ((k / 64 : Nat) : Int) := by
      rw [Int.tdiv_eq_ediv_of_nonneg (by omega)]; omega
    have w1 : IntKind.i64.wrap (((k / 64 : Nat) : Int)) = ((k / 64 : Nat) : Int) := wrap_i64 _ (by omega) (by omega)
    have e2 : ((k : Int)).tmod 64 = ((k % 64 : Nat) : Int) := by
      rw [Int.tmod_eq_emod_of_nonneg (by omega)]; omega
    have hr : k % 64 < 64 := Nat.mod_lt _ (by decide)
    have q0 : ((0 : Int) ≤ ((k % 64 : Nat) : Int)) = True := eq_true (by omega)
    have m64 := min64 hr
    have hlb := limb_bit h k
    have w2 : IntKind.u64.wrap (((k % 64 : Nat) : Int)) = ((k % 64 : Nat) : Int) := wrap_u64_lt (Nat.lt_trans hr (by decide))
    have w4 : ∀ y : Nat, IntKind.i64.wrap (((y % 2 : Nat) : Int)) = ((y % 2 : Nat) : Int) := fun y => wrap_i64 _ (by omega) (by omega)
    have l1 := Limb101 l (k / 64)
    simp only [go_sem, ↓reduceIte, Nat.reduceAdd, Nat.reduceSub, Nat.reduceMul, Nat.reduceEqDiff, Nat.reduceLT, Nat.reduceShiftRight, Nat.reduceAnd, Nat.reduceBNe, Nat.reduceLeDiff, Nat.reduceBEq, Nat.testBit, Nat.zero_lt_one, Int.reduceToNat, Int.reduceNeg, Int.reduceLE, Int.reduceLT, Int.reduceEq, decide_true, decide_false, Bool.and_true, Bool.true_and, Bool.and_false, Bool.false_and, Bool.or_true, Bool.true_or, Bool.or_false, Bool.false_or, Bool.not_true, Bool.not_false, beq_self_eq_true, reduceCtorEq, Int.le_refl, Nat.add_zero, and_self, and_true, true_and, or_true, true_or, if_true, if_false, Nat.le_refl, Bool.and_self, eq_self, Bool.not_false, Bool.not_true, d0, e1, e2, w1, w2, l1, q0, Int.toNat_natCast, m64, shr_n, bin_andI, bandI_u1, w4, hlb]

/-! ### twice a number, and a bit more -/
def b2 (i : Int) : Nat := (i % 2).toNat
theorem b2_le (i : Int) : b2 i ≤ 1 := by unfold b2; omega
theorem b2_eq (i : Int) : ((b2 i : Nat) : Int) = i % 2 := by unfold b2; omega
def dcry (a c i : Nat) : Nat := (2 * (a % B64 ^ i) + c) / B64 ^ i
theorem dcry_zero (a : Nat) {c : Nat} : dcry a c 0 = c := by simp [dcry, Nat.mod_one]
theorem dcry_le (a : Nat) {c : Nat} (hc : c ≤ 1) (i : Nat) : dcry a c i ≤ 1 := by
  have h1 := Nat.mod_lt a (Bp_pos i)
  unfold dcry
  rw [← Nat.lt_succ_iff, Nat.div_lt_iff_lt_mul (Bp_pos i)]
  omega
theorem dcry_sum (a c i : Nat) : (2 * (a % B64 ^ (i + 1)) + c) / B64 ^ i = 2 * (a / B64 ^ i % B64) + dcry a c i := by
  rw [Nat.mod_pow_succ]
  have : 2 * (a % B64 ^ i + B64 ^ i * (a / B64 ^ i % B64)) + c = 2 * (a % B64 ^ i) + c + B64 ^ i * (2 * (a / B64 ^ i % B64)) := by
    rw [Nat.mul_add, Nat.mul_left_comm]; omega
  rw [this, Nat.add_mul_div_left _ _ (Bp_pos i)]
  unfold dcry
  omega
theorem dcry_succ (a c i : Nat) : dcry a c (i + 1) = (2 * (a / B64 ^ i % B64) + dcry a c i) / B64 := by
  rw [← dcry_sum, Nat.div_div_eq_div_mul, ← Nat.pow_succ]
  rfl
theorem dbl_digit (a c i : Nat) : (2 * a + c) / B64 ^ i % B64 = (2 * (a / B64 ^ i % B64) + dcry a c i) % B64 := by
  rw [← dcry_sum]
  have h1 : 2 * a + c = 2 * (a % B64 ^ (i + 1)) + c + B64 ^ i * (B64 * (2 * (a / B64 ^ (i + 1)))) := by
    have e1 := Nat.mod_add_div a (B64 ^ (i + 1))
    rw [← Nat.mul_assoc, ← Nat.pow_succ, Nat.succ_eq_add_one, Nat.mul_left_comm]
    omega
  conv => lhs; rw [h1]
  rw [Nat.add_mul_div_left _ _ (Bp_pos i), Nat.add_mul_mod_self_left]
theorem dbl_digs {a c n : Nat} (ha : a < B64 ^ n) (hc : c ≤ 1) : digs n (2 * a + c) ++ [dcry a c n] = digs (n + 1) (2 * a + c) := by
  rw [digs_succ]
  congr 2
  unfold dcry
  rw [Nat.mod_eq_of_lt ha, Nat.mod_eq_of_lt]
  rw [Nat.div_lt_iff_lt_mul (Bp_pos n)]
  have : 2 * B64 ^ n ≤ B64 * B64 ^ n := Nat.mul_le_mul_right _ (by decide)
  omega
theorem dbl_val {a c n : Nat} (ha : a < B64 ^ n) (hc : c ≤ 1) : val (digs (n + 1) (2 * a + c)) = 2 * a + c := by
  rw [val_digs, Nat.mod_eq_of_lt]
  have : 2 * B64 ^ n ≤ B64 * B64 ^ n := Nat.mul_le_mul_right _ (by decide)
  rw [Nat.pow_succ, Nat.mul_comm (B64 ^ n)]
  omega
/-- A word shifted, and what comes in below. -/
theorem or_low {h c : Nat} (s : Nat) (hc : c < 2 ^ s) : (2 ^ s * h ||| c) = 2 ^ s * h + c := by
  have := Nat.shiftLeft_add_eq_or_of_lt hc h
  rw [Nat.shiftLeft_eq, Nat.mul_comm] at this
  exact this.symm
theorem dbl_or {x c : Nat} (hx : x < B64) (hc : c ≤ 1) : (2 * x % B64 ||| c) = (2 * x + c) % B64 := by
  have hB : B64 = 18446744073709551616 := rfl
  rw [hB] at hx ⊢
  have e : 2 * x % 18446744073709551616 = 2 ^ 1 * (x % 9223372036854775808) := by omega
  rw [e, or_low 1 (by omega)]
  omega
theorem dbl_cry {x c : Nat} (hx : x < B64) (hc : c ≤ 1) : (2 * x + c) / B64 = x / 2 ^ 63 := by
  have hB : B64 = 18446744073709551616 := rfl
  rw [hB] at hx ⊢
  omega
theorem shl1 (x : Nat) : IntKind.u64.wrap ((x : Int) * 2 ^ 1) = ((2 * x % B64 : Nat) : Int) := by
  have : (x : Int) * 2 ^ 1 = ((2 * x : Nat) : Int) := by omega
  rw [this, wrap_u64]

theorem Double73 {a : List Nat} (ha : Limbs a) (la : a.length ≤ 900000) (c : Int) : (KL AA XX).call 73 [(PV.one (D.sl (List.map n64 (a)))), (PV.one (D.sc (Value.int IntKind.i64 (c))))] = some [(PV.one (D.sl (List.map n64 (dig (2 * val a + b2 c)))))] := by
  have hc := b2_le c
  have hA := val_lt ha
  have go := iter (F := fun (i : Nat) => loopR AA XX [5, 6, 16, 17, 18] 2 b73_0 (RUN AA XX b73_0 ⟨[(5, (AV.c (C.gr 1 ((digs i (2 * val a + b2 c)).map n64)))), (6, (AV.c (C.d (D.sc (Value.int IntKind.u64 ((dcry (val a) (b2 c) i : Nat))))))), (16, (AV.c (C.d (D.sl (List.map n64 (a)))))), (17, (AV.c (C.d (D.sc (Value.int IntKind.i64 (a.length)))))), (18, (AV.c (C.d (D.sc (Value.int IntKind.i64 (i))))))], [(0, .tok 0 0), (1, .tok (digs i (2 * val a + b2 c)).length 1)], 2⟩)) (Nat.zero_le a.length) fun i _ hi => by
    have hlt := ltT hi
    have hw := wrap_succ i (by omega)
    have hg := getn hi
    rw [← limb_get hi] at hg
    have hx := limb_lt ha i
    have hd := dcry_le (val a) hc i
    have ho := dbl_or hx hd
    have hoc := dbl_cry hx hd
    have hs := dbl_digit (val a) (b2 c) i
    have hcs := dcry_succ (val a) (b2 c) i
    rw [← limb_eq ha] at hs hcs
    rw [← hs] at ho
    rw [← hcs] at hoc
    have h64 : borI .u64 ((2 * limb a i % B64 : Nat) : Int) ((dcry (val a) (b2 c) i : Nat) : Int) = (((2 * val a + b2 c) / B64 ^ i % B64 : Nat) : Int) := by
      rw [borI_u (Nat.mod_lt _ B_pos) (Nat.lt_of_le_of_lt hd (by decide)), ho]
    have hds : digs (i + 1) (2 * val a + b2 c) = digs i (2 * val a + b2 c) ++ [(2 * val a + b2 c) / B64 ^ i % B64] := digs_succ _ _
    have hdl := digs_len i (2 * val a + b2 c)
    have mb := mbk (show (digs i (2 * val a + b2 c)).length + 1 ≤ 10000000 by omega) (Nat.le_refl _) (show 8 ≤ 1000 by omega)
    show loopR _ _ _ _ _ (RUN _ _ _ _) = _
    rw [b73_0_run]
    simp only [go_sem, ↓reduceIte, Nat.reduceAdd, Nat.reduceSub, Nat.reduceMul, Nat.reduceEqDiff, Nat.reduceLT, Nat.reduceShiftRight, Nat.reduceAnd, Nat.reduceBNe, Nat.reduceLeDiff, Nat.reduceBEq, Nat.testBit, Nat.zero_lt_one, Int.reduceToNat, Int.reduceNeg, Int.reduceLE, Int.reduceLT, Int.reduceEq, decide_true, decide_false, Bool.and_true, Bool.true_and, Bool.and_false, Bool.false_and, Bool.or_true, Bool.true_or, Bool.or_false, Bool.false_or, Bool.not_true, Bool.not_false, beq_self_eq_true, reduceCtorEq, Int.le_refl, Nat.add_zero, and_self, and_true, true_and, or_true, true_or, if_true, if_false, Nat.le_refl, Bool.and_self, eq_self, Bool.not_false, Bool.not_true, hlt, hw, hg, min1, min63, bin_orI, shl1, shr_n, h64, ← hoc, hds, mb, tSok, tS1, List.length_append, List.map_append, n64]
  have e0 : digs 0 (2 * val a + b2 c) = [] := rfl
  simp only [e0, List.map_nil, List.length_nil, tS0, dcry_zero, show ((0 : Nat) : Int) = 0 from rfl] at go
  have hds := dbl_digs hA hc
  have hdv := dbl_val hA hc
  have t69 := Trim68 (digs_limbs (a.length + 1) (2 * val a + b2 c)) (by rw [digs_len]; omega)
  rw [hdv, ← hds, List.map_append] at t69
  simp only [List.map_cons, List.map_nil, n64] at t69
  have hdl := digs_len a.length (2 * val a + b2 c)
  have mb := mbk (show (digs a.length (2 * val a + b2 c)).length + 1 ≤ 10000000 by omega) (Nat.le_refl _) (show 8 ≤ 1000 by omega)
  have w2 : IntKind.u64.wrap (c % 2) = ((b2 c : Nat) : Int) := by
    rw [← b2_eq]; exact wrap_u64_lt (Nat.lt_of_le_of_lt hc (by decide))
  have w3 : IntKind.i64.wrap ((a.length : Int) + 1) = ((a.length + 1 : Nat) : Int) := wrap_succ _ (by omega)
  have q1 : ((0 : Int) ≤ ((a.length + 1 : Nat) : Int)) = True := eq_true (by omega)
  have q2 : (((a.length + 1 : Nat) : Int) * ((8 : Nat) : Int) ≤ (maxBytes : Int)) = True := by
    have h1 : maxBytes = 140737488355328 := rfl
    rw [h1]; exact eq_true (by omega)
  rw [c73]
  simp only [go_sem, ↓reduceIte, Nat.reduceAdd, Nat.reduceSub, Nat.reduceMul, Nat.reduceEqDiff, Nat.reduceLT, Nat.reduceShiftRight, Nat.reduceAnd, Nat.reduceBNe, Nat.reduceLeDiff, Nat.reduceBEq, Nat.testBit, Nat.zero_lt_one, Int.reduceToNat, Int.reduceNeg, Int.reduceLE, Int.reduceLT, Int.reduceEq, decide_true, decide_false, Bool.and_true, Bool.true_and, Bool.and_false, Bool.false_and, Bool.or_true, Bool.true_or, Bool.or_false, Bool.false_or, Bool.not_true, Bool.not_false, beq_self_eq_true, reduceCtorEq, Int.le_refl, Nat.add_zero, and_self, and_true, true_and, or_true, true_or, if_true, if_false, Nat.le_refl, Bool.and_self, eq_self, Bool.not_false, Bool.not_true, bin_andI, bandI_i1, w2, w3, q1, q2]
  rw [go, b73_0_run]
  simp only [go_sem, ↓reduceIte, Nat.reduceAdd, Nat.reduceSub, Nat.reduceMul, Nat.reduceEqDiff, Nat.reduceLT, Nat.reduceShiftRight, Nat.reduceAnd, Nat.reduceBNe, Nat.reduceLeDiff, Nat.reduceBEq, Nat.testBit, Nat.zero_lt_one, Int.reduceToNat, Int.reduceNeg, Int.reduceLE, Int.reduceLT, Int.reduceEq, decide_true, decide_false, Bool.and_true, Bool.true_and, Bool.and_false, Bool.false_and, Bool.or_true, Bool.true_or, Bool.or_false, Bool.false_or, Bool.not_true, Bool.not_false, beq_self_eq_true, reduceCtorEq, Int.le_refl, Nat.add_zero, and_self, and_true, true_and, or_true, true_or, if_true, if_false, Nat.le_refl, Bool.and_self, eq_self, Bool.not_false, Bool.not_true, Int.lt_irrefl, mb, tSok, t69]

theorem Double74 {a : List Nat} (ha : Limbs a) (la : a.length ≤ 900000) (c : Int) : (KL AA XX).call 74 [(PV.one (D.sl (List.map n64 (a)))), (PV.one (D.sc (Value.int IntKind.i64 (c))))] = some [(PV.one (D.sl (List.map n64 (dig (2 * val a + b2 c)))))] := by
  have hc := b2_le c
  have hA := val_lt ha
  have go := iter (F := fun (i : Nat) => loopR AA XX [0, 5, 6, 7] 2 b74_0 (RUN AA XX b74_0 ⟨[(0, (AV.c (C.d (D.sl (List.map n64 (a)))))), (5, (AV.c (C.gr 1 ((digs i (2 * val a + b2 c)).map n64)))), (6, (AV.c (C.d (D.sc (Value.int IntKind.u64 ((dcry (val a) (b2 c) i : Nat))))))), (7, (AV.c (C.d (D.sc (Value.int IntKind.i64 (i))))))], [(0, .tok 0 0), (1, .tok (digs i (2 * val a + b2 c)).length (tS (digs i (2 * val a + b2 c)).length 1))], 2⟩)) (Nat.zero_le a.length) fun i _ hi => by
    have hlt := ltT hi
    have hw := wrap_succ i (by omega)
    have hg := getn hi
    rw [← limb_get hi] at hg
    have hx := limb_lt ha i
    have hd := dcry_le (val a) hc i
    have ho := dbl_or hx hd
    have hoc := dbl_cry hx hd
    have hs := dbl_digit (val a) (b2 c) i
    have hcs := dcry_succ (val a) (b2 c) i
    rw [← limb_eq ha] at hs hcs
    rw [← hs] at ho
    rw [← hcs] at hoc
    have h64 : borI .u64 ((2 * limb a i % B64 : Nat) : Int) ((dcry (val a) (b2 c) i : Nat) : Int) = (((2 * val a + b2 c) / B64 ^ i % B64 : Nat) : Int) := by
      rw [borI_u (Nat.mod_lt _ B_pos) (Nat.lt_of_le_of_lt hd (by decide)), ho]
    have hds : digs (i + 1) (2 * val a + b2 c) = digs i (2 * val a + b2 c) ++ [(2 * val a + b2 c) / B64 ^ i % B64] := digs_succ _ _
    have hdl := digs_len i (2 * val a + b2 c)
    have mb := mbk (show (digs i (2 * val a + b2 c)).length + 1 ≤ 10000000 by omega) (Nat.le_refl _) (show 8 ≤ 1000 by omega)
    show loopR _ _ _ _ _ (RUN _ _ _ _) = _
    rw [b74_0_run]
    simp only [go_sem, ↓reduceIte, Nat.reduceAdd, Nat.reduceSub, Nat.reduceMul, Nat.reduceEqDiff, Nat.reduceLT, Nat.reduceShiftRight, Nat.reduceAnd, Nat.reduceBNe, Nat.reduceLeDiff, Nat.reduceBEq, Nat.testBit, Nat.zero_lt_one, Int.reduceToNat, Int.reduceNeg, Int.reduceLE, Int.reduceLT, Int.reduceEq, decide_true, decide_false, Bool.and_true, Bool.true_and, Bool.and_false, Bool.false_and, Bool.or_true, Bool.true_or, Bool.or_false, Bool.false_or, Bool.not_true, Bool.not_false, beq_self_eq_true, reduceCtorEq, Int.le_refl, Nat.add_zero, and_self, and_true, true_and, or_true, true_or, if_true, if_false, Nat.le_refl, Bool.and_self, eq_self, Bool.not_false, Bool.not_true, hlt, hw, hg, min1, min63, bin_orI, shl1, shr_n, h64, ← hoc, hds, mb, tSok, tS1, List.length_append, List.map_append, n64]
  have e0 : digs 0 (2 * val a + b2 c) = [] := rfl
  simp only [e0, List.map_nil, List.length_nil, tS0, dcry_zero, show ((0 : Nat) : Int) = 0 from rfl] at go
  have hds := dbl_digs hA hc
  have hdv := dbl_val hA hc
  have t69 := Trim69 (digs_limbs (a.length + 1) (2 * val a + b2 c)) (by rw [digs_len]; omega)
  rw [hdv, ← hds, List.map_append] at t69
  simp only [List.map_cons, List.map_nil, n64] at t69
  have hdl := digs_len a.length (2 * val a + b2 c)
  have mb := mbk (show (digs a.length (2 * val a + b2 c)).length + 1 ≤ 10000000 by omega) (Nat.le_refl _) (show 8 ≤ 1000 by omega)
  have w2 : IntKind.u64.wrap (c % 2) = ((b2 c : Nat) : Int) := by
    rw [← b2_eq]; exact wrap_u64_lt (Nat.lt_of_le_of_lt hc (by decide))
  have w3 : IntKind.i64.wrap ((a.length : Int) + 1) = ((a.length + 1 : Nat) : Int) := wrap_succ _ (by omega)
  have q1 : ((0 : Int) ≤ ((a.length + 1 : Nat) : Int)) = True := eq_true (by omega)
  have q2 : (((a.length + 1 : Nat) : Int) * ((8 : Nat) : Int) ≤ (maxBytes : Int)) = True := by
    have h1 : maxBytes = 140737488355328 := rfl
    rw [h1]; exact eq_true (by omega)
  rw [c74]
  simp only [go_sem, ↓reduceIte, Nat.reduceAdd, Nat.reduceSub, Nat.reduceMul, Nat.reduceEqDiff, Nat.reduceLT, Nat.reduceShiftRight, Nat.reduceAnd, Nat.reduceBNe, Nat.reduceLeDiff, Nat.reduceBEq, Nat.testBit, Nat.zero_lt_one, Int.reduceToNat, Int.reduceNeg, Int.reduceLE, Int.reduceLT, Int.reduceEq, decide_true, decide_false, Bool.and_true, Bool.true_and, Bool.and_false, Bool.false_and, Bool.or_true, Bool.true_or, Bool.or_false, Bool.false_or, Bool.not_true, Bool.not_false, beq_self_eq_true, reduceCtorEq, Int.le_refl, Nat.add_zero, and_self, and_true, true_and, or_true, true_or, if_true, if_false, Nat.le_refl, Bool.and_self, eq_self, Bool.not_false, Bool.not_true, bin_andI, bandI_i1, w2, w3, q1, q2]
  rw [go, b74_0_run]
  simp only [go_sem, ↓reduceIte, Nat.reduceAdd, Nat.reduceSub, Nat.reduceMul, Nat.reduceEqDiff, Nat.reduceLT, Nat.reduceShiftRight, Nat.reduceAnd, Nat.reduceBNe, Nat.reduceLeDiff, Nat.reduceBEq, Nat.testBit, Nat.zero_lt_one, Int.reduceToNat, Int.reduceNeg, Int.reduceLE, Int.reduceLT, Int.reduceEq, decide_true, decide_false, Bool.and_true, Bool.true_and, Bool.and_false, Bool.false_and, Bool.or_true, Bool.true_or, Bool.or_false, Bool.false_or, Bool.not_true, Bool.not_false, beq_self_eq_true, reduceCtorEq, Int.le_refl, Nat.add_zero, and_self, and_true, true_and, or_true, true_or, if_true, if_false, Nat.le_refl, Bool.and_self, eq_self, Bool.not_false, Bool.not_true, Int.lt_irrefl, mb, tSok, t69]
end Go.Proofs.Ytpanbfainilmpaa.Ev.N
