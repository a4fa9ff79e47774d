/- Numbers as limbs, plainly. -/
import Derived.Test.YtpanbfainilmpaaEvX0
set_option linter.unusedVariables false
set_option linter.unusedSimpArgs false
namespace Go.Proofs.Ytpanbfainilmpaa.Ev.N
open Go Go.Proofs.Ytpanbfainilmpaa.Ev

theorem B_eq : B64 = 2 ^ 64 := rfl
theorem B_pos : 0 < B64 := by decide
theorem Bp_pos (k : Nat) : 0 < B64 ^ k := Nat.pow_pos B_pos
theorem Bp_eq (k : Nat) : B64 ^ k = 2 ^ (64 * k) := by rw [B_eq, Nat.pow_mul]
def Limbs (l : List Nat) : Prop := ∀ x ∈ l, x < B64
theorem Limbs.nil : Limbs [] := fun _ h => by cases h
theorem Limbs.cons {x : Nat} {l : List Nat} (hx : x < B64) (h : Limbs l) : Limbs (x :: l) := fun y hy => by
  rcases List.mem_cons.1 hy with rfl | hy
  · exact hx
  · exact h y hy
theorem Limbs.append {a b : List Nat} (h : Limbs a) (k : Limbs b) : Limbs (a ++ b) := fun y hy => by
  rcases List.mem_append.1 hy with hy | hy
  · exact h y hy
  · exact k y hy
theorem Limbs.take {a : List Nat} (h : Limbs a) (n : Nat) : Limbs (a.take n) := fun y hy => h y (List.mem_of_mem_take hy)
theorem Limbs.drop {a : List Nat} (h : Limbs a) (n : Nat) : Limbs (a.drop n) := fun y hy => h y (List.mem_of_mem_drop hy)
theorem Limbs.set {a : List Nat} (h : Limbs a) {x : Nat} (hx : x < B64) (n : Nat) : Limbs (a.set n x) := fun y hy => by
  rcases List.mem_or_eq_of_mem_set hy with hy | rfl
  · exact h y hy
  · exact hx
theorem Limbs.get {a : List Nat} (h : Limbs a) {i : Nat} (hi : i < a.length) : a[i] < B64 := h _ (List.getElem_mem hi)
theorem Limbs.rep (n : Nat) : Limbs (List.replicate n 0) := fun y hy => by rw [(List.mem_replicate.1 hy).2]; exact B_pos

theorem val_append (a b : List Nat) : val (a ++ b) = val a + B64 ^ a.length * val b := by
  induction a with
  | nil => simp [val]
  | cons x a ih =>
    simp only [List.cons_append, val, ih, List.length_cons, Nat.pow_succ, Nat.mul_add]
    rw [Nat.mul_comm (B64 ^ a.length) B64, Nat.mul_assoc]; omega
theorem val_lt {l : List Nat} (h : Limbs l) : val l < B64 ^ l.length := by
  induction l with
  | nil => simp [val]
  | cons x l ih =>
    have h1 := ih fun y hy => h y (by simp [hy])
    have h2 := h x (by simp)
    simp only [val, List.length_cons, Nat.pow_succ]
    have : B64 * (val l + 1) ≤ B64 ^ l.length * B64 := by rw [Nat.mul_comm (B64 ^ l.length)]; exact Nat.mul_le_mul_left _ h1
    rw [Nat.mul_add] at this
    omega
theorem val_rep (n : Nat) : val (List.replicate n 0) = 0 := by
  induction n with
  | zero => rfl
  | succ n ih => simp [List.replicate_succ, val, ih]
theorem val_zeros {l : List Nat} (h : ∀ x ∈ l, x = 0) : val l = 0 := by
  induction l with
  | nil => rfl
  | cons x l ih => rw [val, ih fun y hy => h y (by simp [hy]), h x (by simp), Nat.mul_zero]
theorem val_set {l : List Nat} {i : Nat} (h : i < l.length) (n : Nat) : val (l.set i n) + B64 ^ i * l[i] = val l + B64 ^ i * n := by
  have e1 : l = l.take i ++ l[i] :: l.drop (i + 1) := by
    rw [← List.drop_eq_getElem_cons h, List.take_append_drop]
  have e2 : l.set i n = l.take i ++ n :: l.drop (i + 1) := by
    rw [List.set_eq_take_append_cons_drop, if_pos h]
  have hl : (l.take i).length = i := by rw [List.length_take]; omega
  rw [e2]
  conv => rhs; rw [e1]
  simp only [val_append, val, hl, Nat.mul_add]
  omega
theorem val_take_drop (l : List Nat) {i : Nat} (h : i ≤ l.length) : val l = val (l.take i) + B64 ^ i * val (l.drop i) := by
  conv => lhs; rw [← List.take_append_drop i l, val_append]
  rw [List.length_take, Nat.min_eq_left h]
theorem val_take {l : List Nat} (hl : Limbs l) {i : Nat} (h : i ≤ l.length) : val (l.take i) = val l % B64 ^ i := by
  have h1 := val_lt (hl.take i)
  rw [List.length_take, Nat.min_eq_left h] at h1
  rw [val_take_drop l h, Nat.add_mul_mod_self_left, Nat.mod_eq_of_lt h1]
theorem val_drop {l : List Nat} (hl : Limbs l) {i : Nat} (h : i ≤ l.length) : val (l.drop i) = val l / B64 ^ i := by
  have h1 := val_lt (hl.take i)
  rw [List.length_take, Nat.min_eq_left h] at h1
  rw [val_take_drop l h, Nat.add_mul_div_left _ _ (Bp_pos i), Nat.div_eq_of_lt h1, Nat.zero_add]
/-- The i-th limb, nought beyond. -/
def limb (l : List Nat) (i : Nat) : Nat := (l[i]?).getD 0
theorem limb_lt {l : List Nat} (h : Limbs l) (i : Nat) : limb l i < B64 := by
  unfold limb
  by_cases hi : i < l.length
  · rw [List.getElem?_eq_getElem hi]; exact h.get hi
  · rw [List.getElem?_eq_none (by omega)]; exact B_pos
theorem limb_get {l : List Nat} {i : Nat} (hi : i < l.length) : limb l i = l[i] := by
  unfold limb
  rw [List.getElem?_eq_getElem hi]; rfl
theorem limb_none {l : List Nat} {i : Nat} (hi : l.length ≤ i) : limb l i = 0 := by
  unfold limb
  rw [List.getElem?_eq_none hi]; rfl
theorem limb_eq {l : List Nat} (h : Limbs l) (i : Nat) : limb l i = val l / B64 ^ i % B64 := by
  by_cases hi : i < l.length
  · rw [limb_get hi, ← val_drop h (Nat.le_of_lt hi), List.drop_eq_getElem_cons hi, val, Nat.add_mul_mod_self_left, Nat.mod_eq_of_lt (h.get hi)]
  · rw [limb_none (by omega)]
    have h1 := val_lt h
    have h2 : B64 ^ l.length ≤ B64 ^ i := Nat.pow_le_pow_right B_pos (by omega)
    rw [Nat.div_eq_of_lt (by omega)]; rfl

/-! ### digits -/
theorem digs_len (k n : Nat) : (digs k n).length = k := by simp [digs]
theorem digs_get (k n : Nat) {i : Nat} (h : i < (digs k n).length) : (digs k n)[i] = n / B64 ^ i % B64 := by simp [digs]
theorem digs_get? (k n : Nat) {i : Nat} (h : i < k) : (digs k n)[i]? = some (n / B64 ^ i % B64) := by simp [digs, h]
theorem digs_limbs (k n : Nat) : Limbs (digs k n) := by
  intro x hx
  simp only [digs, List.mem_map] at hx
  obtain ⟨j, _, rfl⟩ := hx
  exact Nat.mod_lt _ B_pos
theorem digs_succ (k n : Nat) : digs (k + 1) n = digs k n ++ [n / B64 ^ k % B64] := by
  unfold digs
  rw [List.range_succ, List.map_append]; rfl
theorem val_digs (k n : Nat) : val (digs k n) = n % B64 ^ k := by
  induction k with
  | zero => simp [digs, val, Nat.mod_one]
  | succ k ih =>
    rw [digs_succ, val_append, ih, digs_len, Nat.mod_pow_succ]
    simp [val]
theorem digs_val {l : List Nat} (h : Limbs l) : digs l.length (val l) = l := by
  apply List.ext_getElem
  · rw [digs_len]
  · intro i h1 h2
    rw [digs_get, ← limb_eq h, limb_get h2]
theorem digs_congr {k n m : Nat} (h : n % B64 ^ k = m % B64 ^ k) : digs k n = digs k m := by
  have h1 := digs_val (digs_limbs k n)
  have h2 := digs_val (digs_limbs k m)
  rw [digs_len, val_digs] at h1 h2
  rw [← h1, ← h2, h]
theorem nlen_pos {n : Nat} (h : n ≠ 0) : nlen n = n.log2 / 64 + 1 := if_neg h
theorem nlen_le {n k : Nat} : nlen n ≤ k ↔ n < B64 ^ k := by
  by_cases h0 : n = 0
  · subst h0
    simp only [nlen, if_pos, Nat.zero_le, true_iff]
    exact Bp_pos k
  · rw [nlen_pos h0, Bp_eq, ← Nat.log2_lt h0]
    omega
theorem lt_nlen (n : Nat) : n < B64 ^ nlen n := nlen_le.1 (Nat.le_refl _)
theorem le_nlen {n : Nat} (h : n ≠ 0) : B64 ^ (nlen n - 1) ≤ n := by
  rcases Nat.lt_or_ge n (B64 ^ (nlen n - 1)) with hlt | hge
  · have := nlen_le.2 hlt
    have hp := nlen_pos h
    omega
  · exact hge
theorem val_dig (n : Nat) : val (dig n) = n := by
  unfold dig
  rw [val_digs, Nat.mod_eq_of_lt (lt_nlen n)]
theorem dig_limbs (n : Nat) : Limbs (dig n) := digs_limbs _ _
theorem dig_len (n : Nat) : (dig n).length = nlen n := digs_len _ _
theorem dig_zero : dig 0 = [] := rfl
theorem dig_nil {n : Nat} : dig n = [] ↔ n = 0 := by
  constructor
  · intro h
    rw [← val_dig n, h]; rfl
  · rintro rfl; rfl
theorem dig_inj {n m : Nat} (h : dig n = dig m) : n = m := by rw [← val_dig n, h, val_dig]
/-- Limbs without a nought on top are a number's own. -/
theorem dig_val {l : List Nat} (h : Limbs l) (ht : ∀ (hl : 0 < l.length), l[l.length - 1] ≠ 0) : dig (val l) = l := by
  have hn : nlen (val l) = l.length := by
    rcases Nat.eq_zero_or_pos l.length with h0 | h0
    · have : l = [] := List.length_eq_zero_iff.1 h0
      subst this; rfl
    · have h1 : nlen (val l) ≤ l.length := nlen_le.2 (val_lt h)
      rcases Nat.lt_or_ge (nlen (val l)) l.length with h2 | h2
      · exfalso
        have h3 : val l < B64 ^ (l.length - 1) := nlen_le.1 (by omega)
        have h4 := limb_eq h (l.length - 1)
        rw [Nat.div_eq_of_lt h3, limb_get (by omega)] at h4
        exact ht h0 h4
      · omega
  unfold dig
  rw [hn, digs_val h]
theorem dig_top {n : Nat} (h : 0 < (dig n).length) : (dig n)[(dig n).length - 1] ≠ 0 := by
  have hn : n ≠ 0 := by
    intro e; subst e; simp [dig_zero] at h
  have h1 := le_nlen hn
  have h2 := lt_nlen n
  simp only [dig, digs_get, digs_len]
  have hp : nlen n = nlen n - 1 + 1 := by have := nlen_pos hn; omega
  rw [hp, Nat.pow_succ] at h2
  rw [Nat.mod_eq_of_lt (by rw [Nat.div_lt_iff_lt_mul (Bp_pos _), Nat.mul_comm]; exact h2)]
  have := Nat.div_pos h1 (Bp_pos _)
  omega
/-- What trimming leaves. -/
theorem trim_take {l : List Nat} (h : Limbs l) {n : Nat} (hn : n ≤ l.length) (hz : ∀ i (hi : i < l.length), n ≤ i → l[i] = 0) (ht : ∀ (hp : 0 < n), l[n - 1]'(by omega) ≠ 0) : l.take n = dig (val l) := by
  have e : val l = val (l.take n) := by
    rw [val_take_drop l hn, val_zeros (l := l.drop n), Nat.mul_zero, Nat.add_zero]
    intro x hx
    obtain ⟨i, hi, rfl⟩ := List.mem_iff_getElem.1 hx
    rw [List.getElem_drop]
    exact hz _ _ (by omega)
  rw [e, dig_val (h.take n)]
  intro hl
  have : (l.take n).length = n := by rw [List.length_take]; omega
  simp only [this, List.getElem_take]
  exact ht (by omega)
theorem nlen_mono {a b : Nat} (h : a ≤ b) : nlen a ≤ nlen b := nlen_le.2 (Nat.lt_of_le_of_lt h (lt_nlen b))
theorem un64_map {l : List Nat} (h : Limbs l) : un64 (l.map n64) = some l := by
  induction l with
  | nil => rfl
  | cons x l ih =>
    have hx := h x (by simp)
    have hb : B64 = 18446744073709551616 := rfl
    rw [List.map_cons, un64, if_pos ⟨by omega, by omega⟩, ih fun y hy => h y (by simp [hy])]
    simp
end Go.Proofs.Ytpanbfainilmpaa.Ev.N
