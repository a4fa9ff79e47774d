/- Sums, differences, comparing: limb by limb. -/
import Derived.Test.YtpanbfainilmpaaEvM0
set_option linter.unusedVariables false
set_option linter.unusedSimpArgs false
namespace Go.Proofs.Ytpanbfainilmpaa.Ev.N
open Go Go.Proofs.Ytpanbfainilmpaa.Ev

/-- The carry into place i. -/
def cry (a b i : Nat) : Nat := (a % B64 ^ i + b % B64 ^ i) / B64 ^ i
theorem cry_zero (a b : Nat) : cry a b 0 = 0 := by simp [cry, Nat.mod_one]
theorem cry_le (a b i : Nat) : cry a b i ≤ 1 := by
  have h1 := Nat.mod_lt a (Bp_pos i)
  have h2 := Nat.mod_lt b (Bp_pos i)
  unfold cry
  rw [← Nat.lt_succ_iff, Nat.div_lt_iff_lt_mul (Bp_pos i)]
  omega
theorem cry_sum (a b i : Nat) : (a % B64 ^ (i + 1) + b % B64 ^ (i + 1)) / B64 ^ i = a / B64 ^ i % B64 + b / B64 ^ i % B64 + cry a b i := by
  rw [Nat.mod_pow_succ, Nat.mod_pow_succ]
  have : a % B64 ^ i + B64 ^ i * (a / B64 ^ i % B64) + (b % B64 ^ i + B64 ^ i * (b / B64 ^ i % B64)) = a % B64 ^ i + b % B64 ^ i + B64 ^ i * (a / B64 ^ i % B64 + b / B64 ^ i % B64) := by
    rw [Nat.mul_add]; omega
  rw [this, Nat.add_mul_div_left _ _ (Bp_pos i)]
  unfold cry
  omega
theorem cry_succ (a b i : Nat) : cry a b (i + 1) = (a / B64 ^ i % B64 + b / B64 ^ i % B64 + cry a b i) / B64 := by
  rw [← cry_sum, Nat.div_div_eq_div_mul, ← Nat.pow_succ]
  rfl
theorem sum_digit (a b i : Nat) : (a + b) / B64 ^ i % B64 = (a / B64 ^ i % B64 + b / B64 ^ i % B64 + cry a b i) % B64 := by
  rw [← cry_sum]
  have h1 : a + b = a % B64 ^ (i + 1) + b % B64 ^ (i + 1) + B64 ^ i * (B64 * (a / B64 ^ (i + 1) + b / B64 ^ (i + 1))) := by
    have e1 := Nat.mod_add_div a (B64 ^ (i + 1))
    have e2 := Nat.mod_add_div b (B64 ^ (i + 1))
    rw [← Nat.mul_assoc, ← Nat.pow_succ, Nat.succ_eq_add_one, Nat.mul_add]
    omega
  conv => lhs; rw [h1]
  rw [Nat.add_mul_div_left _ _ (Bp_pos i), Nat.add_mul_mod_self_left]
theorem sum_digs {a b n : Nat} (ha : a < B64 ^ n) (hb : b < B64 ^ n) : digs n (a + b) ++ [cry a b n] = digs (n + 1) (a + b) := by
  rw [digs_succ]
  congr 2
  unfold cry
  rw [Nat.mod_eq_of_lt ha, Nat.mod_eq_of_lt hb, Nat.mod_eq_of_lt]
  rw [Nat.div_lt_iff_lt_mul (Bp_pos n)]
  have : 2 * B64 ^ n ≤ B64 * B64 ^ n := Nat.mul_le_mul_right _ (by decide)
  omega
theorem sum_val {a b n : Nat} (ha : a < B64 ^ n) (hb : b < B64 ^ n) : val (digs (n + 1) (a + b)) = a + b := by
  rw [val_digs, Nat.mod_eq_of_lt]
  have : 2 * B64 ^ n ≤ B64 * B64 ^ n := Nat.mul_le_mul_right _ (by decide)
  rw [Nat.pow_succ, Nat.mul_comm]
  omega

/-- The borrow out of place i. -/
def bor (a b i : Nat) : Nat := if a % B64 ^ i < b % B64 ^ i then 1 else 0
theorem bor_zero (a b : Nat) : bor a b 0 = 0 := by simp [bor, Nat.mod_one]
theorem bor_le (a b i : Nat) : bor a b i ≤ 1 := by unfold bor; split <;> omega
theorem bor_succ (a b i : Nat) : bor a b (i + 1) = if a / B64 ^ i % B64 < b / B64 ^ i % B64 + bor a b i then 1 else 0 := by
  unfold bor
  rw [Nat.mod_pow_succ, Nat.mod_pow_succ]
  have h1 := Nat.mod_lt a (Bp_pos i)
  have h2 := Nat.mod_lt b (Bp_pos i)
  generalize a % B64 ^ i = p at *
  generalize b % B64 ^ i = q at *
  generalize a / B64 ^ i % B64 = x
  generalize b / B64 ^ i % B64 = y
  generalize B64 ^ i = C at *
  rcases Nat.lt_trichotomy x y with h | h | h
  · have : C * (x + 1) ≤ C * y := Nat.mul_le_mul_left _ h
    rw [Nat.mul_add] at this
    rw [if_pos (by omega)]
    split <;> rw [if_pos (by omega)]
  · subst h
    by_cases hpq : p < q
    · rw [if_pos (by omega), if_pos hpq, if_pos (by omega)]
    · rw [if_neg (by omega), if_neg hpq, if_neg (by omega)]
  · have : C * (y + 1) ≤ C * x := Nat.mul_le_mul_left _ h
    rw [Nat.mul_add] at this
    rw [if_neg (by omega)]
    split <;> rw [if_neg (by omega)]
/-- The digits of a difference: from b + n places up it goes round. -/
theorem dif_mod (a b i : Nat) (n : Nat) (hi : i ≤ n) (hb : b < B64 ^ n) : (a + B64 ^ n - b) % B64 ^ i + b % B64 ^ i = a % B64 ^ i + B64 ^ i * bor a b i := by
  obtain ⟨d, rfl⟩ : ∃ d, n = i + d := ⟨n - i, by omega⟩
  have h1 := Nat.mod_lt a (Bp_pos i)
  have h2 := Nat.mod_lt b (Bp_pos i)
  have e1 := Nat.mod_add_div a (B64 ^ i)
  have e2 := Nat.mod_add_div b (B64 ^ i)
  have hq : b / B64 ^ i < B64 ^ d := by
    rw [Nat.div_lt_iff_lt_mul (Bp_pos i), Nat.mul_comm, ← Nat.pow_add]; exact hb
  unfold bor
  rw [Nat.pow_add] at hb ⊢
  generalize B64 ^ i = C at *
  generalize B64 ^ d = E at *
  generalize a / C = u at *
  generalize b / C = v at *
  by_cases hlt : a % C < b % C
  · rw [if_pos hlt]
    have : a + C * E - b = (a % C + C - b % C) + C * (u + E - v - 1) := by
      have : C * (u + E - v - 1) + C * v + C = C * u + C * E := by
        rw [← Nat.mul_add, ← Nat.mul_add, ← Nat.mul_add_one]
        congr 1; omega
      omega
    rw [this, Nat.add_mul_mod_self_left, Nat.mod_eq_of_lt (by omega)]
    omega
  · rw [if_neg hlt]
    have : a + C * E - b = (a % C - b % C) + C * (u + E - v) := by
      have : C * (u + E - v) + C * v = C * u + C * E := by
        rw [← Nat.mul_add, ← Nat.mul_add]
        congr 1; omega
      omega
    rw [this, Nat.add_mul_mod_self_left, Nat.mod_eq_of_lt (by omega)]
    omega
theorem dif_digit (a b i n : Nat) (hi : i < n) (hb : b < B64 ^ n) : (a + B64 ^ n - b) / B64 ^ i % B64 = (a / B64 ^ i % B64 + B64 - b / B64 ^ i % B64 - bor a b i) % B64 := by
  have h1 := dif_mod a b (i + 1) n hi hb
  have h0 := dif_mod a b i n (by omega) hb
  rw [bor_succ, Nat.mod_pow_succ, Nat.mod_pow_succ, Nat.mod_pow_succ, Nat.pow_succ] at h1
  have hx : a / B64 ^ i % B64 < B64 := Nat.mod_lt _ B_pos
  have hy : b / B64 ^ i % B64 < B64 := Nat.mod_lt _ B_pos
  have ht : (a + B64 ^ n - b) / B64 ^ i % B64 < B64 := Nat.mod_lt _ B_pos
  have hd := bor_le a b i
  have hC := Bp_pos i
  generalize (a + B64 ^ n - b) / B64 ^ i % B64 = t at *
  generalize a / B64 ^ i % B64 = x at *
  generalize b / B64 ^ i % B64 = y at *
  generalize bor a b i = d at *
  generalize (a + B64 ^ n - b) % B64 ^ i = t0 at *
  generalize a % B64 ^ i = p at *
  generalize b % B64 ^ i = q at *
  generalize B64 ^ i = C at *
  have key : C * t + C * y + C * d = C * x + C * (B64 * (if x < y + d then 1 else 0)) := by
    rw [← Nat.mul_assoc]; omega
  have key2 : t + y + d = x + B64 * (if x < y + d then 1 else 0) := by
    rw [← Nat.mul_add, ← Nat.mul_add, ← Nat.mul_add] at key
    exact Nat.eq_of_mul_eq_mul_left hC key
  clear key h1 h0
  have hB : B64 = 18446744073709551616 := rfl
  rw [hB] at hx hy ht key2 ⊢
  by_cases hlt : x < y + d
  · rw [if_pos hlt] at key2
    have e : x + 18446744073709551616 - y - d = t := by omega
    rw [e, Nat.mod_eq_of_lt ht]
  · rw [if_neg hlt] at key2
    have e : x + 18446744073709551616 - y - d = t + 18446744073709551616 := by omega
    rw [e, Nat.add_mod_right, Nat.mod_eq_of_lt ht]

theorem cmpI_self (a : Nat) : cmpI a a = 0 := by simp [cmpI]
/-- Two numbers that are the same from place i + 1 on, and not at place i. -/
theorem cmp_top {a b i : Nat} (h : a / B64 ^ (i + 1) = b / B64 ^ (i + 1)) (hne : a / B64 ^ i % B64 ≠ b / B64 ^ i % B64) : cmpI a b = if a / B64 ^ i % B64 < b / B64 ^ i % B64 then -1 else 1 := by
  have e1 := Nat.div_add_mod a (B64 ^ i)
  have e2 := Nat.div_add_mod b (B64 ^ i)
  have f1 := Nat.div_add_mod (a / B64 ^ i) B64
  have f2 := Nat.div_add_mod (b / B64 ^ i) B64
  rw [Nat.div_div_eq_div_mul, ← Nat.pow_succ] at f1 f2
  rw [h] at f1
  have h1 := Nat.mod_lt a (Bp_pos i)
  have h2 := Nat.mod_lt b (Bp_pos i)
  generalize a / B64 ^ i % B64 = x at *
  generalize b / B64 ^ i % B64 = y at *
  generalize b / B64 ^ (i + 1) = z at *
  rw [← f1] at e1
  rw [← f2] at e2
  generalize a % B64 ^ i = p at *
  generalize b % B64 ^ i = q at *
  generalize B64 ^ i = C at *
  rw [Nat.mul_add] at e1 e2
  unfold cmpI
  rcases Nat.lt_or_ge x y with hxy | hxy
  · have : C * (x + 1) ≤ C * y := Nat.mul_le_mul_left _ hxy
    rw [Nat.mul_add] at this
    rw [if_pos hxy, if_pos (by omega)]
  · have : C * (y + 1) ≤ C * x := Nat.mul_le_mul_left _ (by omega)
    rw [Nat.mul_add] at this
    rw [if_neg (show ¬ x < y by omega), if_neg (show ¬ a < b by omega), if_pos (show b < a by omega)]
theorem div_same {a b i : Nat} (h : a / B64 ^ (i + 1) = b / B64 ^ (i + 1)) (he : a / B64 ^ i % B64 = b / B64 ^ i % B64) : a / B64 ^ i = b / B64 ^ i := by
  have f1 := Nat.div_add_mod (a / B64 ^ i) B64
  have f2 := Nat.div_add_mod (b / B64 ^ i) B64
  rw [Nat.div_div_eq_div_mul, ← Nat.pow_succ] at f1 f2
  rw [← f1, ← f2, h, he]
end Go.Proofs.Ytpanbfainilmpaa.Ev.N
