/- Bits: of a word, of a number. -/
import Derived.Test.YtpanbfainilmpaaEvNF2
set_option linter.unusedVariables false
set_option linter.unusedSimpArgs false
set_option maxRecDepth 100000
set_option maxHeartbeats 2000000
namespace Go.Proofs.Ytpanbfainilmpaa.Ev.N
open Go Go.Proofs.Ytpanbfainilmpaa.Ev

def nbits (n : Nat) : Nat := if n = 0 then 0 else n.log2 + 1
theorem nbits_le {n k : Nat} : nbits n ≤ k ↔ n < 2 ^ k := by
  by_cases h0 : n = 0
  · subst h0
    simp only [nbits, if_pos, Nat.zero_le, true_iff]
    exact Nat.pow_pos (by decide)
  · rw [nbits, if_neg h0, ← Nat.log2_lt h0]; omega
theorem nbits_of {n k : Nat} (h1 : 2 ^ k ≤ n) (h2 : n < 2 ^ (k + 1)) : nbits n = k + 1 := by
  have a := nbits_le.2 h2
  rcases Nat.lt_or_ge (nbits n) (k + 1) with h | h
  · have := nbits_le.1 (show nbits n ≤ k by omega); omega
  · omega
theorem nbits_shift {n s : Nat} (h : 2 ^ s ≤ n) : nbits n = s + nbits (n / 2 ^ s) := by
  have hp : 0 < 2 ^ s := Nat.pow_pos (by decide)
  have hq : 0 < n / 2 ^ s := Nat.div_pos h hp
  have hn : nbits (n / 2 ^ s) = (n / 2 ^ s).log2 + 1 := if_neg (by omega)
  rw [hn, ← Nat.add_assoc]
  have a := Nat.log2_self_le (show n / 2 ^ s ≠ 0 by omega)
  have b := Nat.lt_log2_self (n := n / 2 ^ s)
  refine nbits_of ?_ ?_
  · rw [Nat.pow_add, Nat.mul_comm]
    exact (Nat.le_div_iff_mul_le hp).1 a
  · rw [Nat.div_lt_iff_lt_mul hp] at b
    rw [Nat.add_assoc, Nat.pow_add, Nat.mul_comm]
    exact b
theorem shr_n (a s : Nat) : (a : Int).fdiv (2 ^ s) = ((a / 2 ^ s : Nat) : Int) := by
  rw [Int.fdiv_eq_ediv_of_nonneg _ (Int.le_of_lt (Int.pow_pos (by decide)))]
  norm_cast
def len8 : ByteArray := ⟨#[0, 1, 2, 2, 3, 3, 3, 3, 4, 4, 4, 4, 4, 4, 4, 4, 5, 5, 5, 5, 5, 5, 5, 5, 5, 5, 5, 5, 5, 5, 5, 5, 6, 6, 6, 6, 6, 6, 6, 6, 6, 6, 6, 6, 6, 6, 6, 6, 6, 6, 6, 6, 6, 6, 6, 6, 6, 6, 6, 6, 6, 6, 6, 6, 7, 7, 7, 7, 7, 7, 7, 7, 7, 7, 7, 7, 7, 7, 7, 7, 7, 7, 7, 7, 7, 7, 7, 7, 7, 7, 7, 7, 7, 7, 7, 7, 7, 7, 7, 7, 7, 7, 7, 7, 7, 7, 7, 7, 7, 7, 7, 7, 7, 7, 7, 7, 7, 7, 7, 7, 7, 7, 7, 7, 7, 7, 7, 7, 8, 8, 8, 8, 8, 8, 8, 8, 8, 8, 8, 8, 8, 8, 8, 8, 8, 8, 8, 8, 8, 8, 8, 8, 8, 8, 8, 8, 8, 8, 8, 8, 8, 8, 8, 8, 8, 8, 8, 8, 8, 8, 8, 8, 8, 8, 8, 8, 8, 8, 8, 8, 8, 8, 8, 8, 8, 8, 8, 8, 8, 8, 8, 8, 8, 8, 8, 8, 8, 8, 8, 8, 8, 8, 8, 8, 8, 8, 8, 8, 8, 8, 8, 8, 8, 8, 8, 8, 8, 8, 8, 8, 8, 8, 8, 8, 8, 8, 8, 8, 8, 8, 8, 8, 8, 8, 8, 8, 8, 8, 8, 8, 8, 8, 8, 8, 8, 8, 8, 8, 8, 8, 8, 8, 8, 8, 8, 8]⟩
theorem len8_get : ∀ i : Fin 256, (len8[i.val]?).map UInt8.toNat = some (nbits i.val) := by decide +kernel
theorem len8_at {i : Nat} (h : i < 256) : ∃ b : UInt8, len8[i]? = some b ∧ b.toNat = nbits i := by
  have := len8_get ⟨i, h⟩
  simp only at this
  obtain ⟨b, h1, h2⟩ := Option.map_eq_some_iff.1 this
  exact ⟨b, h1, h2⟩
theorem min32 : min 32 64 = 32 := rfl
theorem min16 : min 16 64 = 16 := rfl
theorem min8 : min 8 64 = 8 := rfl
theorem min1 : min 1 64 = 1 := rfl
theorem min63 : min 63 64 = 63 := rfl
theorem le_nat {a b : Nat} : (((a : Nat) : Int) ≤ (b : Int)) = (a ≤ b) := propext Int.ofNat_le
theorem Len99 {x : Nat} (hx : x < B64) : (KL AA XX).call 99 [(PV.one (D.sc (Value.int IntKind.u64 ((x : Nat)))))] = some [(PV.one (D.sc (Value.int IntKind.i64 ((nbits x : Nat)))))] := by
  have hB : B64 = 18446744073709551616 := rfl
  have bits : IntKind.u64.bits = 64 := rfl
  -- the halves
  obtain ⟨y, n1, hy, hn1, hy1⟩ : ∃ y n1 : Nat, y < 4294967296 ∧ n1 ≤ 32 ∧ (if decide ((4294967296 : Int) ≤ (x : Int)) = true then y = x / 2 ^ 32 ∧ n1 = 32 else y = x ∧ n1 = 0) := by
    by_cases h : 4294967296 ≤ x
    · exact ⟨x / 2 ^ 32, 32, by omega, by omega, by rw [if_pos (decide_eq_true (by omega))]; exact ⟨rfl, rfl⟩⟩
    · exact ⟨x, 0, by omega, by omega, by rw [if_neg (by simp; omega)]; exact ⟨rfl, rfl⟩⟩
  obtain ⟨z, n2, hz, hn2, hz1⟩ : ∃ z n2 : Nat, z < 65536 ∧ n2 ≤ 16 ∧ (if decide ((65536 : Int) ≤ (y : Int)) = true then z = y / 2 ^ 16 ∧ n2 = 16 else z = y ∧ n2 = 0) := by
    by_cases h : 65536 ≤ y
    · exact ⟨y / 2 ^ 16, 16, by omega, by omega, by rw [if_pos (decide_eq_true (by omega))]; exact ⟨rfl, rfl⟩⟩
    · exact ⟨y, 0, by omega, by omega, by rw [if_neg (by simp; omega)]; exact ⟨rfl, rfl⟩⟩
  obtain ⟨t, n3, ht, hn3, ht1⟩ : ∃ t n3 : Nat, t < 256 ∧ n3 ≤ 8 ∧ (if decide ((256 : Int) ≤ (z : Int)) = true then t = z / 2 ^ 8 ∧ n3 = 8 else t = z ∧ n3 = 0) := by
    by_cases h : 256 ≤ z
    · exact ⟨z / 2 ^ 8, 8, by omega, by omega, by rw [if_pos (decide_eq_true (by omega))]; exact ⟨rfl, rfl⟩⟩
    · exact ⟨z, 0, by omega, by omega, by rw [if_neg (by simp; omega)]; exact ⟨rfl, rfl⟩⟩
  obtain ⟨b, hb1, hb2⟩ := len8_at ht
  have hnb : nbits t ≤ 8 := nbits_le.2 (by omega)
  have hsum : nbits x = n1 + n2 + n3 + nbits t := by
    have e1 : nbits x = n1 + nbits y := by
      split at hy1
      · rename_i h
        obtain ⟨rfl, rfl⟩ := hy1
        exact nbits_shift (by have := of_decide_eq_true h; omega)
      · obtain ⟨rfl, rfl⟩ := hy1; omega
    have e2 : nbits y = n2 + nbits z := by
      split at hz1
      · rename_i h
        obtain ⟨rfl, rfl⟩ := hz1
        exact nbits_shift (by have := of_decide_eq_true h; omega)
      · obtain ⟨rfl, rfl⟩ := hz1; omega
    have e3 : nbits z = n3 + nbits t := by
      split at ht1
      · rename_i h
        obtain ⟨rfl, rfl⟩ := ht1
        exact nbits_shift (by have := of_decide_eq_true h; omega)
      · obtain ⟨rfl, rfl⟩ := ht1; omega
    omega
  have wb : IntKind.u8.wrap ((t : Nat) : Int) = (t : Int) := by
    show ((t : Int) % 256) = _
    omega
  have w8 : IntKind.i64.wrap ((b.toNat : Nat) : Int) = ((nbits t : Nat) : Int) := by rw [hb2]; exact wrap_i64 _ (by omega) (by omega)
  have w1 : IntKind.i64.wrap ((n1 : Int) + 16) = ((n1 + 16 : Nat) : Int) := by rw [wrap_i64 _ (by omega) (by omega)]; omega
  have w2 : IntKind.i64.wrap (((n1 + n2 : Nat) : Int) + 8) = ((n1 + n2 + 8 : Nat) : Int) := by rw [wrap_i64 _ (by omega) (by omega)]; omega
  have w3 : IntKind.i64.wrap (((n1 + n2 + n3 : Nat) : Int) + ((nbits t : Nat) : Int)) = ((n1 + n2 + n3 + nbits t : Nat) : Int) := by rw [wrap_i64 _ (by omega) (by omega)]; omega
  have q0 : ((0 : Int) ≤ (t : Int)) = True := eq_true (by omega)
  simp only [len8] at hb1
  rw [c99, hsum]
  clear hsum hnb hx
  have z32 : (32 : Int) = ((32 : Nat) : Int) := rfl
  have z0 : (0 : Int) = ((0 : Nat) : Int) := rfl
  cases h1 : decide ((4294967296 : Int) ≤ (x : Int)) <;> cases h2 : decide ((65536 : Int) ≤ (y : Int)) <;> cases h3 : decide ((256 : Int) ≤ (z : Int)) <;> (
    rw [h1] at hy1; rw [h2] at hz1; rw [h3] at ht1
    simp only [if_true, if_false, Bool.false_eq_true] at hy1 hz1 ht1
    obtain ⟨e1, rfl⟩ := hy1
    obtain ⟨e2, rfl⟩ := hz1
    obtain ⟨e3, rfl⟩ := ht1
    try simp only [← e1, ← e2, ← e3] at h1
    try simp only [← e2, ← e3] at h2
    try simp only [← e3] at h3
    simp only [Nat.add_zero, Nat.zero_add, Nat.reduceAdd, castL, show ((0 : Nat) : Int) = 0 from rfl] at w1 w2 w3 ⊢
    simp only [go_sem, ↓reduceIte, Nat.reduceAdd, Nat.reduceSub, Nat.reduceMul, Nat.reduceEqDiff, Nat.reduceLT, Nat.reduceShiftRight, Nat.reduceAnd, Nat.reduceBNe, Nat.reduceLeDiff, Nat.reduceBEq, Nat.testBit, Nat.zero_lt_one, Int.reduceToNat, Int.reduceNeg, Int.reduceLE, Int.reduceLT, Int.reduceEq, decide_true, decide_false, Bool.and_true, Bool.true_and, Bool.and_false, Bool.false_and, Bool.or_true, Bool.true_or, Bool.or_false, Bool.false_or, Bool.not_true, Bool.not_false, beq_self_eq_true, reduceCtorEq, Int.le_refl, Nat.add_zero, and_self, and_true, true_and, or_true, true_or, if_true, if_false, Nat.le_refl, Bool.and_self, eq_self, Bool.not_false, Bool.not_true, h1, bits, min32, min16, min8, shr_n, ← e1, h2, ← e2, h3, ← e3, evOp_sidx, sidxS_s, sidxB_some, wb, Int.toNat_natCast, hb1, q0, w8, w1, w2, w3, castL])
end Go.Proofs.Ytpanbfainilmpaa.Ev.N
