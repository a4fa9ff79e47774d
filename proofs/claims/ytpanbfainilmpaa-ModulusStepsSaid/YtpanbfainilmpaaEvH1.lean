/- Texts that were joined: EvM6, Ev3, Ev4, Ev5, Ev6, Ev7, Ev8, Ev9, Ev10, Ev11, Ev12, Ev13, Ev14, Ev15, Ev16, Ev17. -/
import Derived.KernelRfl
import Derived.Below
import Derived.Orders
import Derived.Test.YtpanbfainilmpaaEvH0
section
/- Powers' rests reckoned, and Fermat's small theorem of the primes that are asked for. -/
set_option linter.unusedVariables false
set_option linter.unusedSimpArgs false
namespace Go.Proofs.Ytpanbfainilmpaa.Ev.N
open Go Go.Proofs.Ytpanbfainilmpaa.Ev

/-- A power's rest, by squares. -/
def pm (M : Nat) : Nat → Nat → Nat → Nat
  | 0, _, _ => 1 % M
  | k + 1, a, e => if e = 0 then 1 % M else if e % 2 = 1 then a * pm M k (a * a % M) (e / 2) % M else pm M k (a * a % M) (e / 2)
theorem pm_eq (M : Nat) : ∀ (k a e : Nat), e < 2 ^ k → pm M k a e = a ^ e % M
  | 0, a, e, h => by
    obtain rfl : e = 0 := by rw [Nat.pow_zero] at h; omega
    rfl
  | k + 1, a, e, h => by
    unfold pm
    by_cases h0 : e = 0
    · rw [if_pos h0, h0, Nat.pow_zero]
    · rw [if_neg h0, pm_eq M k _ _ (by rw [Nat.pow_succ] at h; omega), ← Nat.pow_mod, ← Nat.pow_two, ← Nat.pow_mul]
      have hd := Nat.div_add_mod e 2
      by_cases h1 : e % 2 = 1
      · rw [if_pos h1, Nat.mul_mod_mod]
        conv => rhs; rw [← hd, h1, Nat.pow_succ, Nat.mul_comm]
      · rw [if_neg h1]
        conv => rhs; rw [← hd, show e % 2 = 0 by omega, Nat.add_zero]

/-- As many places as things, each thing at its own place: no place is empty. -/
theorem pigeon : ∀ (n : Nat) (f : Nat → Nat), (∀ i, i < n → f i < n) → (∀ i j, i < n → j < n → f i = f j → i = j) → ∀ y, y < n → ∃ i, i < n ∧ f i = y
  | 0, _, _, _, y, hy => absurd hy (Nat.not_lt_zero _)
  | n + 1, f, hf, hi, y, hy => by
    by_cases hyv : y = f n
    · exact ⟨n, Nat.lt_succ_self n, hyv.symm⟩
    · have hg : ∀ i, i < n → (if f i = n then f n else f i) < n := fun i hin => by
        have h1 := hf i (by omega)
        have h2 := hf n (by omega)
        split
        · rename_i he
          have : f n ≠ n := fun hn => by
            have := hi i n (by omega) (by omega) (by rw [he, hn])
            omega
          omega
        · omega
      have hgi : ∀ i j, i < n → j < n → (if f i = n then f n else f i) = (if f j = n then f n else f j) → i = j := fun i j h1 h2 he => by
        have k1 : f i ≠ f n := fun h => by have := hi i n (by omega) (by omega) h; omega
        have k2 : f j ≠ f n := fun h => by have := hi j n (by omega) (by omega) h; omega
        split at he <;> split at he
        · exact hi i j (by omega) (by omega) (by omega)
        · exact absurd he.symm k2
        · exact absurd he k1
        · exact hi i j (by omega) (by omega) he
      by_cases hyn : y = n
      · obtain ⟨i, h1, h2⟩ := pigeon n _ hg hgi (f n) (by
          have := hf n (by omega)
          omega)
        refine ⟨i, by omega, ?_⟩
        split at h2
        · rename_i he; rw [hyn]; exact he
        · have := hi i n (by omega) (by omega) h2; omega
      · obtain ⟨i, h1, h2⟩ := pigeon n _ hg hgi y (by omega)
        refine ⟨i, by omega, ?_⟩
        split at h2
        · exact absurd h2.symm hyv
        · exact h2

/-- A root whose powers are all that is not nought. -/
theorem root_fermat {p g : Nat} (hp : 1 < p) (h1 : g ^ (p - 1) % p = 1) (hord : ∀ d, 0 < d → d < p - 1 → g ^ d % p ≠ 1) (a : Nat) (ha : a % p ≠ 0) : a ^ (p - 1) % p = 1 := by
  have split : ∀ i, i ≤ p - 1 → (g ^ i % p) * (g ^ (p - 1 - i) % p) % p = 1 := fun i hi => by
    rw [← Nat.mul_mod, ← Nat.pow_add, show i + (p - 1 - i) = p - 1 by omega, h1]
  have hnz : ∀ i, i < p - 1 → g ^ i % p ≠ 0 := fun i hi h => by
    have := split i (by omega)
    rw [h, Nat.zero_mul, Nat.zero_mod] at this
    omega
  have hlt : ∀ i, g ^ i % p < p := fun i => Nat.mod_lt _ (by omega)
  have half : ∀ i j, i ≤ j → j < p - 1 → g ^ i % p = g ^ j % p → i = j := fun i j hij hj h => by
    rcases Nat.eq_or_lt_of_le hij with he | hl
    · exact he
    · exfalso
      have h2 := split i (by omega)
      rw [h, ← Nat.mul_mod, ← Nat.pow_add, show j + (p - 1 - i) = (p - 1) + (j - i) by omega, Nat.pow_add, Nat.mul_mod, h1, Nat.one_mul, Nat.mod_mod] at h2
      exact hord (j - i) (by omega) (by omega) h2
  obtain ⟨i, h2, h3⟩ := pigeon (p - 1) (fun i => g ^ i % p - 1) (fun i hi => by have := hlt i; show g ^ i % p - 1 < p - 1; omega)
    (fun i j hi hj h => by
      have h : g ^ i % p - 1 = g ^ j % p - 1 := h
      have h4 := hnz i hi
      have h5 := hnz j hj
      rcases Nat.le_total i j with hl | hl
      · exact half i j hl hj (by omega)
      · exact (half j i hl hi (by omega)).symm) (a % p - 1) (by have := Nat.mod_lt a (show 0 < p by omega); omega)
  have h3 : g ^ i % p - 1 = a % p - 1 := h3
  have h4 := hnz i h2
  have h5 : a % p = g ^ i % p := by omega
  rw [Nat.pow_mod, h5, ← Nat.pow_mod, ← Nat.pow_mul, Nat.mul_comm, Nat.pow_mul, Nat.pow_mod, h1, Nat.one_pow, Nat.mod_eq_of_lt hp]
def isP (q : Nat) : Bool := (List.range (q + 1)).all fun d => !decide (q % d = 0) || d == 1 || d == q
theorem isP_dvd {q d : Nat} (h : isP q = true) (hq : 0 < q) (hd : d ∣ q) : d = 1 ∨ d = q := by
  have hle := Nat.le_of_dvd hq hd
  unfold isP at h
  have := List.all_eq_true.1 h d (List.mem_range.2 (by omega))
  rw [Nat.mod_eq_zero_of_dvd hd] at this
  simpa using this
theorem list_dvd : ∀ (l : List Nat) (c : Nat), (∀ q ∈ l, isP q = true ∧ 0 < q) → c ∣ l.foldr (· * ·) 1 → (∀ q ∈ l, ¬ q ∣ c) → c = 1
  | [], c, _, hc, _ => Nat.dvd_one.1 hc
  | q :: l, c, hl, hc, hn => by
    obtain ⟨h1, h2⟩ := hl q (by simp)
    have hg : Nat.gcd c q = 1 := by
      rcases isP_dvd h1 h2 (Nat.gcd_dvd_right c q) with h | h
      · exact h
      · exact absurd (h ▸ Nat.gcd_dvd_left c q) (hn q (by simp))
    have hco : Nat.Coprime c q := hg
    exact list_dvd l c (fun x hx => hl x (by simp [hx])) (hco.dvd_of_dvd_mul_left hc) fun x hx => hn x (by simp [hx])
theorem root_ord {n p g : Nat} (l : List Nat) (hl : ∀ q ∈ l, isP q = true ∧ 0 < q) (hn : l.foldr (· * ·) 1 = n) (hp : 1 < p) (h1 : g ^ n % p = 1) (h2 : ∀ q ∈ l, g ^ (n / q) % p ≠ 1) : ∀ d, 0 < d → d < n → g ^ d % p ≠ 1 := by
  intro d
  induction d using Nat.strongRecOn with
  | _ d ih =>
    intro hd hdn h
    have hdm := Nat.div_add_mod n d
    have hr : g ^ (n % d) % p = 1 := by
      have : g ^ n % p = g ^ (n % d) % p := by
        conv => lhs; rw [← hdm, Nat.pow_add, Nat.pow_mul, Nat.mul_mod, Nat.pow_mod, h, Nat.one_pow, Nat.mod_eq_of_lt hp, Nat.one_mul, Nat.mod_mod]
      rw [← this, h1]
    rcases Nat.eq_zero_or_pos (n % d) with h0 | h0
    · obtain ⟨c, hc⟩ := Nat.dvd_of_mod_eq_zero h0
      have hc1 : c ≠ 1 := by intro e; rw [e] at hc; omega
      have : ∃ q ∈ l, q ∣ c := by
        by_cases hex : ∃ q ∈ l, q ∣ c
        · exact hex
        · exact absurd (list_dvd l c hl (by rw [hn]; exact ⟨d, by rw [hc, Nat.mul_comm]⟩) fun q hq hqc => hex ⟨q, hq, hqc⟩) hc1
      obtain ⟨q, hq, c', hc'⟩ := this
      have hq0 := (hl q hq).2
      refine h2 q hq ?_
      rw [hc, hc', show d * (q * c') = d * c' * q by ac_rfl, Nat.mul_div_cancel _ hq0, Nat.pow_mul, Nat.pow_mod, h, Nat.one_pow, Nat.mod_eq_of_lt hp]
    · exact ih (n % d) (Nat.mod_lt _ hd) h0 (by have := Nat.mod_lt n hd; omega) hr
/-- Is g a root of p, by the prime factors l of one less? -/
def isRoot (p g : Nat) (l : List Nat) : Bool := decide (1 < p) && decide (p - 1 < 2 ^ 64) && decide (l.foldr (· * ·) 1 = p - 1) && decide (pm p 64 g (p - 1) = 1) && l.all fun q => isP q && decide (0 < q) && !decide (pm p 64 g ((p - 1) / q) = 1)
theorem isRoot_fermat {p g : Nat} {l : List Nat} (h : isRoot p g l = true) (a : Nat) (ha : a % p ≠ 0) : a ^ (p - 1) % p = 1 := by
  simp only [isRoot, Bool.and_eq_true, decide_eq_true_eq, List.all_eq_true, Bool.not_eq_true', decide_eq_false_iff_not] at h
  obtain ⟨⟨⟨⟨h1, h2⟩, h3⟩, h4⟩, h5⟩ := h
  rw [pm_eq _ _ _ _ h2] at h4
  refine root_fermat h1 h4 (root_ord l (fun q hq => (h5 q hq).1) h3 h1 h4 fun q hq => ?_) a ha
  have := (h5 q hq).2
  rwa [pm_eq _ _ _ _ (Nat.lt_of_le_of_lt (Nat.div_le_self _ _) h2)] at this
def six (i : Nat) : Nat := match i with | 0 => 2 | 1 => 3 | 2 => 23 | 3 => 2039 | 4 => 65537 | _ => 2305843009213693951
theorem six_root : ∀ i, ∃ g l, isRoot (six i) g l = true
  | 0 => ⟨1, [], by kernel_rfl⟩
  | 1 => ⟨2, [2], by kernel_rfl⟩
  | 2 => ⟨5, [2, 11], by kernel_rfl⟩
  | 3 => ⟨7, [2, 1019], by kernel_rfl⟩
  | 4 => ⟨3, List.replicate 16 2, by kernel_rfl⟩
  | _ + 5 => ⟨37, [2, 3, 3, 5, 5, 7, 11, 13, 31, 41, 61, 151, 331, 1321], by kernel_rfl⟩
theorem six_fermat (i : Nat) (a : Nat) (ha : a % six i ≠ 0) : a ^ (six i - 1) % six i = 1 := by
  obtain ⟨g, l, h⟩ := six_root i
  exact isRoot_fermat h a ha
end Go.Proofs.Ytpanbfainilmpaa.Ev.N
end
section
/- The steps of which all operations are made: a number is given out, a row grows, an own array is written, a call comes back. -/
set_option linter.unusedVariables false
set_option linter.unusedSimpArgs false
namespace Go.Proofs.Ytpanbfainilmpaa.Ev

theorem cellAt {w : World} {b o : Nat} {cur : Array Value} {e : TypeId} {fr : Nat × Nat} (h : w.heap[b]? = some (.cells cur e fr)) : w.cell? ⟨b, o, none⟩ = cur[o]? := by
  simp [World.cell?, h]
theorem cell_blk {w w' : World} {b o : Nat} (h : w'.heap[b]? = w.heap[b]?) : w'.cell? ⟨b, o, none⟩ = w.cell? ⟨b, o, none⟩ := by simp [World.cell?, h]
theorem alloc_new (w : World) (o : Obj) : (w.alloc o).heap[w.heap.size]? = some o := heap_alloc_new w o
theorem alloc_old {w : World} {o : Obj} {b : Nat} (h : b < w.heap.size) : (w.alloc o).heap[b]? = w.heap[b]? := by
  show (w.heap.push o)[b]? = _
  rw [Array.getElem?_push, if_neg (by omega)]
theorem alloc_size (w : World) (o : Obj) : (w.alloc o).heap.size = w.heap.size + 1 := by simp

variable {w : World} {g : Gh} {H : HF}

theorem blk_fup_ne {n i : Nat} {x : Option Loc} (h : i ≠ n) : blk g (fup H n x) i = blk g H i := by simp [blk, fup, h]

/-- The heap of the abstract side loses a number: what it owned is settled. -/
theorem killId (h : HI w g H) (n : Nat) (K : Nat → Prop) (hK : ∀ b, K b → blk g H n = some b) :
    HI w { g with S := fun b o => g.S b o ∨ K b } (fup H n none) ∧ Stp [] w g H w { g with S := fun b o => g.S b o ∨ K b } (fup H n none) := by
  have st : Stp [] w g H w { g with S := fun b o => g.S b o ∨ K b } (fup H n none) := by
    refine ⟨rfl, rfl, rfl, Nat.le_refl _, fun _ _ h => .inl h, fun _ _ _ => rfl, ?_, ?_, fun _ _ _ => rfl, ?_, ?_⟩
    · intro id c _ hc
      by_cases hn : id = n
      · subst hn; rw [fup_same] at hc; cases hc
      · rw [fup_ne hn] at hc; exact ⟨c, hc, rfl, rfl⟩
    · intro t a s _ hc
      by_cases hn : t = n
      · subst hn; rw [fup_same] at hc; cases hc
      · rw [fup_ne hn] at hc; exact ⟨a, s, hc, Nat.le_refl _, fun _ => ⟨rfl, rfl⟩⟩
    · intro id b hb
      by_cases hn : id = n
      · subst hn; simp [blk, fup_same] at hb
      · exact .inl ⟨id, by rw [← hb]; simp [blk, fup, hn]⟩
    · intro b o hs
      rcases hs with hs | hs
      · exact .inl hs
      · exact .inr (.inl ⟨n, hK b hs⟩)
  refine ⟨⟨?_, ?_, ?_, ?_⟩, st⟩
  · intro id c hc
    by_cases hn : id = n
    · subst hn; rw [fup_same] at hc; cases hc
    · rw [fup_ne hn] at hc
      obtain ⟨cur, e, h1, h2, h3, h4⟩ := h.arr id c hc
      refine ⟨cur, e, h1, h2, fun i x hx => ?_, fun o hs => ?_⟩
      · obtain ⟨v, hv, hr⟩ := h3 i x hx
        exact ⟨v, hv, CR.step st (fun _ _ => by simp) hr⟩
      · rcases hs with hs | hs
        · exact h4 o hs
        · exact h.apart n id _ (fun e => hn e.symm) (hK _ hs) (by simp [blk, hc])
  · intro t a s hc
    by_cases hn : t = n
    · subst hn; rw [fup_same] at hc; cases hc
    · rw [fup_ne hn] at hc
      rcases h.tok t a s hc with h1 | ⟨b, cap, cur, e, h1, h2, h3, h4, h5, h6⟩
      · exact .inl h1
      · refine .inr ⟨b, cap, cur, e, h1, h2, h3, h4, h5, fun o hs => ?_⟩
        rcases hs with hs | hs
        · exact h6 o hs
        · exact absurd (by simp [blk, hc, h1, Value.ownBlock]) (h.apart n t b (fun e => hn e.symm) (hK b hs))
  · intro i j b hij hi hj
    by_cases h1 : i = n
    · subst h1; simp [blk, fup_same] at hi
    · by_cases h2 : j = n
      · subst h2; simp [blk, fup_same] at hj
      · refine h.apart i j b hij ?_ ?_
        · rw [← hi]; simp [blk, fup, h1]
        · rw [← hj]; simp [blk, fup, h2]
  · intro b o hs
    rcases hs with hs | hs
    · exact h.lt b o hs
    · exact h.blk_lt (hK b hs)

/-- A nil slice becomes a row that may grow. -/
theorem birthTok (h : HI w g H) {n : Nat} (hf : H n = none) (hc : Clean H [n]) :
    HI w { g with ρ := fup g.ρ n (.slice none 0 0) } (fup H n (some (.tok 0 0))) ∧ Stp [n] w g H w { g with ρ := fup g.ρ n (.slice none 0 0) } (fup H n (some (.tok 0 0))) := by
  have hb : ∀ i, blk { g with ρ := fup g.ρ n (.slice none 0 0) } (fup H n (some (.tok 0 0))) i = if i = n then none else blk g H i := by
    intro i
    by_cases hi : i = n
    · subst hi; simp [blk, fup_same, Value.ownBlock]
    · simp [blk, fup, hi]
  have st : Stp [n] w g H w { g with ρ := fup g.ρ n (.slice none 0 0) } (fup H n (some (.tok 0 0))) := by
    refine ⟨rfl, rfl, rfl, Nat.le_refl _, fun _ _ h => h, fun _ _ _ => rfl, ?_, ?_, fun _ _ _ => rfl, ?_, fun _ _ h => .inl h⟩
    · intro id c hn hc
      rw [fup_ne (by simpa using hn)] at hc
      exact ⟨c, hc, rfl, rfl⟩
    · intro t a s hn hc
      have hn' : t ≠ n := by simpa using hn
      rw [fup_ne hn'] at hc
      exact ⟨a, s, hc, Nat.le_refl _, fun _ => ⟨fup_ne hn', rfl⟩⟩
    · intro id b hi
      rw [hb] at hi
      split at hi
      · cases hi
      · exact .inl ⟨id, hi⟩
  refine ⟨⟨?_, ?_, ?_, h.lt⟩, st⟩
  · intro id c hcc
    by_cases hn : id = n
    · subst hn; rw [fup_same] at hcc; cases hcc
    · rw [fup_ne hn] at hcc
      obtain ⟨cur, e, h1, h2, h3, h4⟩ := h.arr id c hcc
      refine ⟨cur, e, h1, h2, fun i x hx => ?_, h4⟩
      obtain ⟨v, hv, hr⟩ := h3 i x hx
      exact ⟨v, hv, CR.step st (hc id c hcc x (List.mem_of_getElem? hx)) hr⟩
  · intro t a s hcc
    by_cases hn : t = n
    · subst hn
      rw [fup_same] at hcc
      cases hcc
      exact .inl ⟨fup_same _ _ _, rfl, rfl⟩
    · rw [fup_ne hn] at hcc
      have : (fup g.ρ n (.slice none 0 0)) t = g.ρ t := fup_ne hn
      simp only [this]
      exact h.tok t a s hcc
  · intro i j b hij hi hj
    rw [hb] at hi hj
    split at hi
    · cases hi
    · split at hj
      · cases hj
      · exact h.apart i j b hij hi hj

/-- A new own array. -/
theorem birthArr (h : HI w g H) {n : Nat} (hf : H n = none) (hc : Clean H [n]) {cells : List C} {cur : Array Value} {e : TypeId}
    (hl : cells.length ≤ cur.size) (hr : ∀ (i : Nat) (x : C), cells[i]? = some x → ∃ v, cur[i]? = some v ∧ CR w g H x v) (hcl : ∀ x ∈ cells, ∀ i ∈ x.ids, i ∉ [n]) :
    HI (w.alloc (.cells cur e)) { g with β := fup g.β n w.heap.size } (fup H n (some (.arr cells))) ∧
    Stp [n] w g H (w.alloc (.cells cur e)) { g with β := fup g.β n w.heap.size } (fup H n (some (.arr cells))) := by
  have hb : ∀ i, blk { g with β := fup g.β n w.heap.size } (fup H n (some (.arr cells))) i = if i = n then some w.heap.size else blk g H i := by
    intro i
    by_cases hi : i = n
    · subst hi; simp [blk, fup_same]
    · simp [blk, fup, hi]
  have st : Stp [n] w g H (w.alloc (.cells cur e)) { g with β := fup g.β n w.heap.size } (fup H n (some (.arr cells))) := by
    refine ⟨rfl, rfl, rfl, by simp, fun _ _ h => h, fun b o hs => cell_blk (alloc_old (h.lt b o hs)), ?_, ?_, fun b hb _ => alloc_old hb, ?_, fun _ _ h => .inl h⟩
    · intro id c hn hc
      have hn' : id ≠ n := by simpa using hn
      rw [fup_ne hn'] at hc
      exact ⟨c, hc, rfl, fup_ne hn'⟩
    · intro t a s hn hc
      rw [fup_ne (by simpa using hn)] at hc
      exact ⟨a, s, hc, Nat.le_refl _, fun _ => ⟨rfl, rfl⟩⟩
    · intro id b hi
      rw [hb] at hi
      split at hi
      · cases hi; exact .inr (Nat.le_refl _)
      · exact .inl ⟨id, hi⟩
  refine ⟨⟨?_, ?_, ?_, ?_⟩, st⟩
  · intro id c hcc
    by_cases hn : id = n
    · subst hn
      rw [fup_same] at hcc
      cases hcc
      refine ⟨cur, e, ?_, hl, fun i x hx => ?_, fun o hs => ?_⟩
      · simp only [fup_same]; exact alloc_new _ _
      · obtain ⟨v, hv, hr⟩ := hr i x hx
        exact ⟨v, hv, CR.step st (hcl x (List.mem_of_getElem? hx)) hr⟩
      · simp only [fup_same] at hs
        exact Nat.lt_irrefl _ (h.lt _ _ hs)
    · rw [fup_ne hn] at hcc
      obtain ⟨cur', e', h1, h2, h3, h4⟩ := h.arr id c hcc
      have hβ : (fup g.β n w.heap.size) id = g.β id := fup_ne hn
      simp only [hβ]
      refine ⟨cur', e', (alloc_old (Array.getElem?_eq_some_iff.1 h1).1).trans h1, h2, fun i x hx => ?_, h4⟩
      obtain ⟨v, hv, hr⟩ := h3 i x hx
      exact ⟨v, hv, CR.step st (hc id c hcc x (List.mem_of_getElem? hx)) hr⟩
  · intro t a s hcc
    by_cases hn : t = n
    · subst hn; rw [fup_same] at hcc; cases hcc
    · rw [fup_ne hn] at hcc
      rcases h.tok t a s hcc with h1 | ⟨b, cap, cur', e', h1, h2, h3⟩
      · exact .inl h1
      · exact .inr ⟨b, cap, cur', e', h1, (alloc_old (Array.getElem?_eq_some_iff.1 h2).1).trans h2, h3⟩
  · intro i j b hij hi hj
    rw [hb] at hi hj
    split at hi
    · cases hi
      split at hj
      · rename_i h1 h2; exact hij (h1.trans h2.symm)
      · exact Nat.lt_irrefl _ (h.blk_lt hj)
    · split at hj
      · cases hj; exact Nat.lt_irrefl _ (h.blk_lt hi)
      · exact h.apart i j b hij hi hj
  · intro b o hs
    have := h.lt b o hs
    simp
    omega

/-- Elements that lie in a block of memory. -/
theorem DR.inBlock {w : World} {S : Nat → Nat → Prop} {es : List (List D)} {b cap sz : Nat} {cur : Array Value} {e : TypeId} {fr : Nat × Nat} (hb : w.heap[b]? = some (.cells cur e fr)) (hc : es.length ≤ cap)
    (hsz : ∀ x ∈ es, x.length = sz) (hr : ∀ (i : Nat) (x : List D) (j : Nat) (y : D), es[i]? = some x → x[j]? = some y → ∃ v, cur[i * sz + j]? = some v ∧ DR w S y v)
    (hS : ∀ o, o < es.length * sz → S b o) : DR w S (.sl es) (.slice (some ⟨b, 0, none⟩) es.length cap) := by
  refine .sl (sz := sz) (b := b) (o := 0) (fun i j => (cur[i * sz + j]?).getD undef) rfl hc (fun i x hx => hsz x (List.mem_of_getElem? hx)) (fun i x j y hx hy => ?_) (fun i x j y hx hy => ?_)
  · obtain ⟨v, hv, _⟩ := hr i x j y hx hy
    refine ⟨rfl, ?_, hS _ ?_⟩
    · rw [cellAt hb, Nat.zero_add, hv]; rfl
    · have h1 : i < es.length := (List.getElem?_eq_some_iff.1 hx).1
      have h2 : j < x.length := (List.getElem?_eq_some_iff.1 hy).1
      rw [hsz x (List.mem_of_getElem? hx)] at h2
      have : (i + 1) * sz ≤ es.length * sz := Nat.mul_le_mul_right _ h1
      rw [Nat.succ_mul] at this
      omega
  · obtain ⟨v, hv, hd⟩ := hr i x j y hx hy
    rw [hv]
    exact hd

/-- A new row that may grow. -/
theorem birthRow (h : HI w g H) {n : Nat} (hf : H n = none) (hc : Clean H [n]) {es : List (List D)} {cur : Array Value} {e : TypeId} {cap sz : Nat} (h0 : 0 < sz)
    (hcap : es.length ≤ cap) (hfit : cap * sz ≤ cur.size) (hsz : ∀ x ∈ es, x.length = sz)
    (hr : ∀ (i : Nat) (x : List D) (j : Nat) (y : D), es[i]? = some x → x[j]? = some y → ∃ v, cur[i * sz + j]? = some v ∧ DR w g.S y v) :
    let g' : Gh := { g with S := fun b o => g.S b o ∨ (b = w.heap.size ∧ o < es.length * sz), ρ := fup g.ρ n (.slice (some ⟨w.heap.size, 0, none⟩) es.length cap) }
    HI (w.alloc (.cells cur e)) g' (fup H n (some (.tok es.length sz))) ∧ Stp [n] w g H (w.alloc (.cells cur e)) g' (fup H n (some (.tok es.length sz))) ∧
      DR (w.alloc (.cells cur e)) g'.S (.sl es) (.slice (some ⟨w.heap.size, 0, none⟩) es.length cap) := by
  intro g'
  have hb : ∀ i, blk g' (fup H n (some (.tok es.length sz))) i = if i = n then some w.heap.size else blk g H i := by
    intro i
    by_cases hi : i = n
    · subst hi; simp [blk, fup_same, g', Value.ownBlock]
    · simp [blk, fup, hi, g']
  have st : Stp [n] w g H (w.alloc (.cells cur e)) g' (fup H n (some (.tok es.length sz))) := by
    refine ⟨rfl, rfl, rfl, by simp, fun _ _ h => .inl h, fun b o hs => cell_blk (alloc_old (h.lt b o hs)), ?_, ?_, fun b hb _ => alloc_old hb, ?_, ?_⟩
    · intro id c hn hc
      rw [fup_ne (by simpa using hn)] at hc
      exact ⟨c, hc, rfl, rfl⟩
    · intro t a s hn hc
      have hn' : t ≠ n := by simpa using hn
      rw [fup_ne hn'] at hc
      exact ⟨a, s, hc, Nat.le_refl _, fun _ => ⟨fup_ne hn', rfl⟩⟩
    · intro id b hi
      rw [hb] at hi
      split at hi
      · cases hi; exact .inr (Nat.le_refl _)
      · exact .inl ⟨id, hi⟩
    · intro b o hs
      rcases hs with hs | ⟨rfl, _⟩
      · exact .inl hs
      · exact .inr (.inr (Nat.le_refl _))
  refine ⟨⟨?_, ?_, ?_, ?_⟩, st, ?_⟩
  · intro id c hcc
    by_cases hn : id = n
    · subst hn; rw [fup_same] at hcc; cases hcc
    · rw [fup_ne hn] at hcc
      obtain ⟨cur', e', h1, h2, h3, h4⟩ := h.arr id c hcc
      have hlt := (Array.getElem?_eq_some_iff.1 h1).1
      refine ⟨cur', e', (alloc_old hlt).trans h1, h2, fun i x hx => ?_, fun o hs => ?_⟩
      · obtain ⟨v, hv, hr⟩ := h3 i x hx
        exact ⟨v, hv, CR.step st (hc id c hcc x (List.mem_of_getElem? hx)) hr⟩
      · rcases hs with hs | ⟨he, _⟩
        · exact h4 o hs
        · have : g.β id = w.heap.size := he
          omega
  · intro t a s hcc
    by_cases hn : t = n
    · subst hn
      rw [fup_same] at hcc
      cases hcc
      refine .inr ⟨w.heap.size, cap, cur, e, fup_same _ _ _, alloc_new _ _, hcap, hfit, h0, fun o hs => ?_⟩
      rcases hs with hs | ⟨_, hs⟩
      · exact absurd (h.lt _ _ hs) (Nat.lt_irrefl _)
      · exact hs
    · rw [fup_ne hn] at hcc
      have hρ : g'.ρ t = g.ρ t := fup_ne hn
      rw [hρ]
      rcases h.tok t a s hcc with h1 | ⟨b, cap', cur', e', h1, h2, h3, h4, h5, h6⟩
      · exact .inl h1
      · have hlt := (Array.getElem?_eq_some_iff.1 h2).1
        refine .inr ⟨b, cap', cur', e', h1, (alloc_old hlt).trans h2, h3, h4, h5, fun o hs => ?_⟩
        rcases hs with hs | ⟨he, _⟩
        · exact h6 o hs
        · omega
  · intro i j b hij hi hj
    rw [hb] at hi hj
    split at hi
    · cases hi
      split at hj
      · rename_i h1 h2; exact hij (h1.trans h2.symm)
      · exact Nat.lt_irrefl _ (h.blk_lt hj)
    · split at hj
      · cases hj; exact Nat.lt_irrefl _ (h.blk_lt hi)
      · exact h.apart i j b hij hi hj
  · intro b o hs
    rcases hs with hs | ⟨rfl, _⟩
    · have := h.lt b o hs
      simp
      omega
    · simp
  · refine DR.inBlock (alloc_new w (.cells cur e)) hcap hsz (fun i x j y hx hy => ?_) (fun o ho => .inr ⟨rfl, ho⟩)
    obtain ⟨v, hv, hd⟩ := hr i x j y hx hy
    exact ⟨v, hv, DR.move st.dr hd⟩

theorem heap_setRow_other {b k : Nat} {cs : Array Value} (h : k ≠ b) : (w.setRow b cs).heap[k]? = w.heap[k]? := by
  simp only [World.setRow, Array.getElem?_modify]
  rw [if_neg (fun e => h e.symm)]

/-- An own array is written. -/
theorem storeArr (h : HI w g H) {id : Nat} {cells cells2 : List C} (hc : H id = some (.arr cells)) {cur cur2 : Array Value} {e : TypeId} (hb : w.heap[g.β id]? = some (.cells cur e (0, 0)))
    (hlen : cells2.length = cells.length) (hl : cells2.length ≤ cur2.size) (hr : ∀ (i : Nat) (x : C), cells2[i]? = some x → ∃ v, cur2[i]? = some v ∧ CR w g H x v) :
    HI (w.setRow (g.β id) cur2) g (fup H id (some (.arr cells2))) ∧ Stp [] w g H (w.setRow (g.β id) cur2) g (fup H id (some (.arr cells2))) := by
  have hS : ∀ b o, g.S b o → b ≠ g.β id := by
    intro b o hs he
    subst he
    obtain ⟨_, _, _, _, _, h4⟩ := h.arr id cells hc
    exact h4 o hs
  have hblk : ∀ i, blk g (fup H id (some (.arr cells2))) i = blk g H i := by
    intro i
    by_cases hi : i = id
    · subst hi; simp [blk, fup_same, hc]
    · simp [blk, fup, hi]
  have st : Stp [] w g H (w.setRow (g.β id) cur2) g (fup H id (some (.arr cells2))) := by
    refine ⟨rfl, rfl, rfl, by simp, fun _ _ h => h, fun b o hs => cell_blk (heap_setRow_other (hS b o hs)), ?_, ?_, fun b _ hn => heap_setRow_other (fun he => hn id (by rw [he]; simp [blk, hc])), ?_, fun _ _ h => .inl h⟩
    · intro i c _ hci
      by_cases hi : i = id
      · subst hi; rw [fup_same] at hci; cases hci; exact ⟨cells, hc, hlen, rfl⟩
      · rw [fup_ne hi] at hci; exact ⟨c, hci, rfl, rfl⟩
    · intro t a s _ hci
      by_cases hi : t = id
      · subst hi; rw [fup_same] at hci; cases hci
      · rw [fup_ne hi] at hci; exact ⟨a, s, hci, Nat.le_refl _, fun _ => ⟨rfl, rfl⟩⟩
    · intro i b hb
      rw [hblk] at hb
      exact .inl ⟨i, hb⟩
  refine ⟨⟨?_, ?_, ?_, ?_⟩, st⟩
  · intro i c hci
    by_cases hi : i = id
    · subst hi
      rw [fup_same] at hci
      cases hci
      obtain ⟨_, _, _, _, _, h4⟩ := h.arr i cells hc
      refine ⟨cur2, e, setRow_heap w _ cur cur2 e (0, 0) hb, hl, fun j x hx => ?_, h4⟩
      obtain ⟨v, hv, hd⟩ := hr j x hx
      exact ⟨v, hv, CR.step st (fun _ _ => by simp) hd⟩
    · rw [fup_ne hi] at hci
      obtain ⟨cur', e', h1, h2, h3, h4⟩ := h.arr i c hci
      have hne : g.β i ≠ g.β id := fun he => h.apart i id (g.β i) hi (by simp [blk, hci]) (by rw [he]; simp [blk, hc])
      refine ⟨cur', e', (heap_setRow_other hne).trans h1, h2, fun j x hx => ?_, h4⟩
      obtain ⟨v, hv, hd⟩ := h3 j x hx
      exact ⟨v, hv, CR.step st (fun _ _ => by simp) hd⟩
  · intro t a s hct
    by_cases hi : t = id
    · subst hi; rw [fup_same] at hct; cases hct
    · rw [fup_ne hi] at hct
      rcases h.tok t a s hct with h1 | ⟨b, cap, cur', e', h1, h2, h3⟩
      · exact .inl h1
      · have hne : b ≠ g.β id := fun he => h.apart t id b hi (by simp [blk, hct, h1, Value.ownBlock]) (by rw [he]; simp [blk, hc])
        exact .inr ⟨b, cap, cur', e', h1, (heap_setRow_other hne).trans h2, h3⟩
  · intro i j b hij hi hj
    rw [hblk] at hi hj
    exact h.apart i j b hij hi hj
  · intro b o hs
    have := h.lt b o hs
    simpa using this

/-- What the elements of two lists one behind the other are, cell by cell. -/
theorem elems_append {es ys : List (List D)} {sz : Nat} (he : ∀ x ∈ es, x.length = sz) {R : Nat → D → Prop}
    (h1 : ∀ (i : Nat) (x : List D) (j : Nat) (y : D), es[i]? = some x → x[j]? = some y → R (i * sz + j) y)
    (h2 : ∀ (i : Nat) (x : List D) (j : Nat) (y : D), ys[i]? = some x → x[j]? = some y → R (es.length * sz + (i * sz + j)) y) :
    ∀ (i : Nat) (x : List D) (j : Nat) (y : D), (es ++ ys)[i]? = some x → x[j]? = some y → R (i * sz + j) y := by
  intro i x j y hx hy
  rcases Nat.lt_or_ge i es.length with hi | hi
  · rw [List.getElem?_append_left hi] at hx
    exact h1 i x j y hx hy
  · rw [List.getElem?_append_right hi] at hx
    have := h2 (i - es.length) x j y hx hy
    have e : es.length * sz + ((i - es.length) * sz + j) = i * sz + j := by
      rw [← Nat.add_assoc, ← Nat.add_mul, Nat.add_sub_cancel' hi]
    rwa [e] at this

/-- A row grows where it lies. -/
theorem growIn (h : HI w g H) {t n sz b cap : Nat} (ht : H t = some (.tok n sz)) (hρ : g.ρ t = .slice (some ⟨b, 0, none⟩) n cap) {cur : Array Value} {e : TypeId} (hb : w.heap[b]? = some (.cells cur e (0, 0)))
    {es ys : List (List D)} {us : List Value} (hn : es.length = n) (hes : ∀ x ∈ es, x.length = sz) (hd : DR w g.S (.sl es) (g.ρ t)) (h0 : 0 < sz) (hfit : cap * sz ≤ cur.size) (hcap : n + ys.length ≤ cap)
    (hus : us.length = ys.length * sz) (hys : ∀ x ∈ ys, x.length = sz)
    (hr : ∀ (i : Nat) (x : List D) (j : Nat) (y : D), ys[i]? = some x → x[j]? = some y → ∃ v, us[i * sz + j]? = some v ∧ DR w g.S y v) :
    let w' := w.setRow b (cur.toList.take (n * sz) ++ us ++ cur.toList.drop (n * sz + us.length)).toArray
    let g' : Gh := { g with S := fun b' o => g.S b' o ∨ (b' = b ∧ o < (n + ys.length) * sz), ρ := fup g.ρ t (.slice (some ⟨b, 0, none⟩) (n + ys.length) cap) }
    HI w' g' (fup H t (some (.tok (n + ys.length) sz))) ∧ Stp [] w g H w' g' (fup H t (some (.tok (n + ys.length) sz))) ∧ DR w' g'.S (.sl (es ++ ys)) (.slice (some ⟨b, 0, none⟩) (n + ys.length) cap) := by
  intro w' g'
  have hroom : n * sz + us.length ≤ cur.size := by
    rw [hus, ← Nat.add_mul]
    exact Nat.le_trans (Nat.mul_le_mul_right _ hcap) hfit
  have hlt : b < w.heap.size := (Array.getElem?_eq_some_iff.1 hb).1
  have hown : blk g H t = some b := by simp [blk, ht, hρ, Value.ownBlock]
  have hSb : ∀ o, g.S b o → o < n * sz := by
    rcases h.tok t n sz ht with ⟨h1, _⟩ | ⟨b', cap', cur', e', h1, h2, h3, h4, h5, h6⟩
    · rw [h1] at hρ; cases hρ
    · rw [h1] at hρ
      injection hρ with hq _ _
      injection hq with hq
      injection hq with hq _ _
      subst hq
      exact h6
  have hcells : ∀ o, o < n * sz → w'.cell? ⟨b, o, none⟩ = w.cell? ⟨b, o, none⟩ := by
    intro o ho
    rw [cellAt (setRow_heap w b cur _ e (0, 0) hb), cellAt hb]
    simp only [List.getElem?_toArray]
    rw [List.append_assoc, List.getElem?_append_left (by simp; omega), List.getElem?_take, if_pos ho, Array.getElem?_toList]
  have hblk : ∀ i, blk g' (fup H t (some (.tok (n + ys.length) sz))) i = blk g H i := by
    intro i
    by_cases hi : i = t
    · subst hi; rw [hown]; simp [blk, fup_same, g', Value.ownBlock]
    · simp [blk, fup, hi, g']
  have st : Stp [] w g H w' g' (fup H t (some (.tok (n + ys.length) sz))) := by
    refine ⟨rfl, rfl, rfl, by simp [w'], fun _ _ h => .inl h, fun b' o hs => ?_, ?_, ?_, fun b' _ hn => heap_setRow_other (fun he => hn t (he ▸ hown)), ?_, ?_⟩
    · by_cases hbb : b' = b
      · subst hbb; exact hcells o (hSb o hs)
      · exact cell_blk (heap_setRow_other hbb)
    · intro i c _ hci
      by_cases hi : i = t
      · subst hi; rw [fup_same] at hci; cases hci
      · rw [fup_ne hi] at hci; exact ⟨c, hci, rfl, rfl⟩
    · intro i a s _ hci
      by_cases hi : i = t
      · subst hi
        rw [fup_same] at hci
        cases hci
        refine ⟨n, sz, ht, Nat.le_add_right _ _, fun _he => ⟨?_, rfl⟩⟩
        simp only [g', fup_same]
        rw [hρ, ← _he]
      · rw [fup_ne hi] at hci
        exact ⟨a, s, hci, Nat.le_refl _, fun _ => ⟨fup_ne hi, rfl⟩⟩
    · intro i b' hb'
      rw [hblk] at hb'
      exact .inl ⟨i, hb'⟩
    · intro b' o hs
      rcases hs with hs | ⟨rfl, _⟩
      · exact .inl hs
      · exact .inr (.inl ⟨t, hown⟩)
  have hus2 : ∀ k v, us[k]? = some v → (cur.toList.take (n * sz) ++ us ++ cur.toList.drop (n * sz + us.length))[n * sz + k]? = some v := by
    intro k v hk
    have hkl : k < us.length := (List.getElem?_eq_some_iff.1 hk).1
    rw [List.getElem?_append_left (by simp; omega), List.getElem?_append_right (by simp; omega), List.length_take, Nat.min_eq_left (by simp; omega), Nat.add_sub_cancel_left, hk]
  refine ⟨⟨?_, ?_, ?_, ?_⟩, st, ?_⟩
  · intro i c hci
    by_cases hi : i = t
    · subst hi; rw [fup_same] at hci; cases hci
    · rw [fup_ne hi] at hci
      obtain ⟨cur', e', h1, h2, h3, h4⟩ := h.arr i c hci
      have hne : g.β i ≠ b := fun he => h.apart i t (g.β i) hi (by simp [blk, hci]) (he ▸ hown)
      refine ⟨cur', e', (heap_setRow_other hne).trans h1, h2, fun j x hx => ?_, fun o hs => ?_⟩
      · obtain ⟨v, hv, hdd⟩ := h3 j x hx
        exact ⟨v, hv, CR.step st (fun _ _ => by simp) hdd⟩
      · rcases hs with hs | ⟨he, _⟩
        · exact h4 o hs
        · exact hne he
  · intro i a s hci
    by_cases hi : i = t
    · subst hi
      rw [fup_same] at hci
      cases hci
      refine .inr ⟨b, cap, _, e, fup_same _ _ _, setRow_heap w b cur _ e (0, 0) hb, hcap, ?_, h0, fun o hs => ?_⟩
      · simp; omega
      · rcases hs with hs | ⟨_, hs⟩
        · have := hSb o hs
          have h2 : n * sz ≤ (n + ys.length) * sz := Nat.mul_le_mul_right _ (Nat.le_add_right _ _)
          omega
        · exact hs
    · rw [fup_ne hi] at hci
      have hρi : g'.ρ i = g.ρ i := fup_ne hi
      rw [hρi]
      rcases h.tok i a s hci with h1 | ⟨b', cap', cur', e', h1, h2, h3, h4, h5, h6⟩
      · exact .inl h1
      · have hne : b' ≠ b := fun he => h.apart i t b' hi (by simp [blk, hci, h1, Value.ownBlock]) (he ▸ hown)
        refine .inr ⟨b', cap', cur', e', h1, (heap_setRow_other hne).trans h2, h3, h4, h5, fun o hs => ?_⟩
        rcases hs with hs | ⟨he, _⟩
        · exact h6 o hs
        · exact absurd he hne
  · intro i j b' hij hi hj
    rw [hblk] at hi hj
    exact h.apart i j b' hij hi hj
  · intro b' o hs
    rcases hs with hs | ⟨rfl, _⟩
    · have := h.lt b' o hs
      simpa [w'] using this
    · simpa [w'] using hlt
  · have hd' := DR.move st.dr hd
    rw [hρ] at hd
    have hes2 : ∀ (i : Nat) (x : List D) (j : Nat) (y : D), es[i]? = some x → x[j]? = some y → ∃ v, cur[i * sz + j]? = some v ∧ DR w g.S y v := by
      cases hd with
      | sl vs hn' hc' hsz' ha' hr' =>
        intro i x j y hx hy
        obtain ⟨q1, q2, _⟩ := ha' i x j y hx hy
        have hsz1 := hsz' i x hx
        have hsz2 := hes x (List.mem_of_getElem? hx)
        have hsz3 := hsz1.symm.trans hsz2
        injection q1 with q1
        injection q1 with qb qo
        subst qb; subst qo
        subst hsz3
        rw [Nat.zero_add, cellAt hb] at q2
        exact ⟨_, q2, hr' i x j y hx hy⟩
    have key := elems_append (R := fun k y => ∃ v, (cur.toList.take (n * sz) ++ us ++ cur.toList.drop (n * sz + us.length)).toArray[k]? = some v ∧ DR w' g'.S y v) hes (es := es) (ys := ys)
      (fun i x j y hx hy => by
        obtain ⟨v, hv, hdv⟩ := hes2 i x j y hx hy
        refine ⟨v, ?_, DR.move st.dr hdv⟩
        have h1 : i < es.length := (List.getElem?_eq_some_iff.1 hx).1
        have h2 : j < x.length := (List.getElem?_eq_some_iff.1 hy).1
        rw [hes x (List.mem_of_getElem? hx)] at h2
        have h3 : (i + 1) * sz ≤ es.length * sz := Nat.mul_le_mul_right _ h1
        rw [Nat.succ_mul] at h3
        rw [hn] at h3
        simp only [List.getElem?_toArray]
        rw [List.append_assoc, List.getElem?_append_left (by simp; omega), List.getElem?_take, if_pos (by omega), Array.getElem?_toList]
        exact hv)
      (fun i x j y hx hy => by
        obtain ⟨v, hv, hdv⟩ := hr i x j y hx hy
        refine ⟨v, ?_, DR.move st.dr hdv⟩
        simp only [List.getElem?_toArray]
        rw [hn]
        exact hus2 _ v hv)
    have hlen : (es ++ ys).length = n + ys.length := by simp [hn]
    have := DR.inBlock (w := w') (S := g'.S) (es := es ++ ys) (cap := cap) (sz := sz) (setRow_heap w b cur _ e (0, 0) hb) (by rw [hlen]; exact hcap)
      (fun x hx => by
        rcases List.mem_append.1 hx with hx | hx
        · exact hes x hx
        · exact hys x hx) key (fun o ho => .inr ⟨rfl, by rw [hlen] at ho; exact ho⟩)
    rwa [hlen] at this

/-- A row grows into a new place (w1: w, some answers drawn). -/
theorem growNew (h : HI w g H) {t n s sz cap : Nat} (ht : H t = some (.tok n s)) {cur : Array Value} {e : TypeId} {es : List (List D)} (h0 : 0 < sz) (hn : n < es.length)
    (hcap : es.length ≤ cap) (hfit : cap * sz ≤ cur.size) (hsz : ∀ x ∈ es, x.length = sz)
    (hr : ∀ (i : Nat) (x : List D) (j : Nat) (y : D), es[i]? = some x → x[j]? = some y → ∃ v, cur[i * sz + j]? = some v ∧ DR w g.S y v) :
    let w' := w.drew.alloc (.cells cur e)
    let g' : Gh := { g with S := fun b o => g.S b o ∨ (b = w.heap.size ∧ o < es.length * sz), ρ := fup g.ρ t (.slice (some ⟨w.heap.size, 0, none⟩) es.length cap) }
    HI w' g' (fup H t (some (.tok es.length sz))) ∧ Stp [] w g H w' g' (fup H t (some (.tok es.length sz))) ∧ DR w' g'.S (.sl es) (.slice (some ⟨w.heap.size, 0, none⟩) es.length cap) := by
  intro w' g'
  have hw : ∀ b, b < w.heap.size → w'.heap[b]? = w.heap[b]? := fun b hb => by
    show (w.drew.alloc (.cells cur e)).heap[b]? = _
    rw [alloc_old (by simpa using hb)]; rfl
  have hnew : w'.heap[w.heap.size]? = some (.cells cur e (0, 0)) := alloc_new w.drew (.cells cur e)
  have hblk : ∀ i, blk g' (fup H t (some (.tok es.length sz))) i = if i = t then some w.heap.size else blk g H i := by
    intro i
    by_cases hi : i = t
    · subst hi; simp [blk, fup_same, g', Value.ownBlock]
    · simp [blk, fup, hi, g']
  have st : Stp [] w g H w' g' (fup H t (some (.tok es.length sz))) := by
    refine ⟨rfl, rfl, rfl, by simp [w'], fun _ _ h => .inl h, fun b o hs => cell_blk (hw b (h.lt b o hs)), ?_, ?_, fun b hb _ => hw b hb, ?_, ?_⟩
    · intro i c _ hci
      by_cases hi : i = t
      · subst hi; rw [fup_same] at hci; cases hci
      · rw [fup_ne hi] at hci; exact ⟨c, hci, rfl, rfl⟩
    · intro i a s' _ hci
      by_cases hi : i = t
      · subst hi
        rw [fup_same] at hci
        cases hci
        exact ⟨n, s, ht, Nat.le_of_lt hn, fun he => by omega⟩
      · rw [fup_ne hi] at hci
        exact ⟨a, s', hci, Nat.le_refl _, fun _ => ⟨fup_ne hi, rfl⟩⟩
    · intro i b hb
      rw [hblk] at hb
      split at hb
      · cases hb; exact .inr (Nat.le_refl _)
      · exact .inl ⟨i, hb⟩
    · intro b o hs
      rcases hs with hs | ⟨rfl, _⟩
      · exact .inl hs
      · exact .inr (.inr (Nat.le_refl _))
  refine ⟨⟨?_, ?_, ?_, ?_⟩, st, ?_⟩
  · intro i c hci
    by_cases hi : i = t
    · subst hi; rw [fup_same] at hci; cases hci
    · rw [fup_ne hi] at hci
      obtain ⟨cur', e', h1, h2, h3, h4⟩ := h.arr i c hci
      have hlt := (Array.getElem?_eq_some_iff.1 h1).1
      refine ⟨cur', e', (hw _ hlt).trans h1, h2, fun j x hx => ?_, fun o hs => ?_⟩
      · obtain ⟨v, hv, hdd⟩ := h3 j x hx
        exact ⟨v, hv, CR.step st (fun _ _ => by simp) hdd⟩
      · rcases hs with hs | ⟨he, _⟩
        · exact h4 o hs
        · have : g.β i = w.heap.size := he
          omega
  · intro i a s' hci
    by_cases hi : i = t
    · subst hi
      rw [fup_same] at hci
      cases hci
      refine .inr ⟨w.heap.size, cap, cur, e, fup_same _ _ _, hnew, hcap, hfit, h0, fun o hs => ?_⟩
      rcases hs with hs | ⟨_, hs⟩
      · exact absurd (h.lt _ _ hs) (Nat.lt_irrefl _)
      · exact hs
    · rw [fup_ne hi] at hci
      have hρ : g'.ρ i = g.ρ i := fup_ne hi
      rw [hρ]
      rcases h.tok i a s' hci with h1 | ⟨b, cap', cur', e', h1, h2, h3, h4, h5, h6⟩
      · exact .inl h1
      · have hlt := (Array.getElem?_eq_some_iff.1 h2).1
        refine .inr ⟨b, cap', cur', e', h1, (hw _ hlt).trans h2, h3, h4, h5, fun o hs => ?_⟩
        rcases hs with hs | ⟨he, _⟩
        · exact h6 o hs
        · omega
  · intro i j b hij hi hj
    rw [hblk] at hi hj
    split at hi
    · cases hi
      split at hj
      · rename_i h1 h2; exact hij (h1.trans h2.symm)
      · exact Nat.lt_irrefl _ (h.blk_lt hj)
    · split at hj
      · cases hj; exact Nat.lt_irrefl _ (h.blk_lt hi)
      · exact h.apart i j b hij hi hj
  · intro b o hs
    rcases hs with hs | ⟨rfl, _⟩
    · have := h.lt b o hs
      simp [w']
      omega
    · simp [w']
  · refine DR.inBlock hnew hcap hsz (fun i x j y hx hy => ?_) (fun o ho => .inr ⟨rfl, ho⟩)
    obtain ⟨v, hv, hdd⟩ := hr i x j y hx hy
    exact ⟨v, hv, DR.move st.dr hdd⟩

/-- Something came back that changed nothing of what was there; what it made is settled. -/
theorem cameBack (h : HI w g H) {w1 : World} (hb : RowKit.Below w.heap.size w w1) :
    let g' : Gh := { g with S := fun b o => g.S b o ∨ (w.heap.size ≤ b ∧ b < w1.heap.size) }
    HI w1 g' H ∧ Stp [] w g H w1 g' H := by
  intro g'
  have hblk : ∀ i, blk g' H i = blk g H i := fun i => rfl
  have st : Stp [] w g H w1 g' H := by
    refine ⟨hb.os, hb.tape, hb.output, hb.size, fun _ _ h => .inl h, fun b o hs => cell_blk (hb.block b (h.lt b o hs)), fun i c _ hc => ⟨c, hc, rfl, rfl⟩,
      fun i a s _ hc => ⟨a, s, hc, Nat.le_refl _, fun _ => ⟨rfl, rfl⟩⟩, fun b hlt _ => hb.block b hlt, fun i b hb => .inl ⟨i, hb⟩, ?_⟩
    intro b o hs
    rcases hs with hs | ⟨hs, _⟩
    · exact .inl hs
    · exact .inr (.inr hs)
  refine ⟨⟨?_, ?_, h.apart, ?_⟩, st⟩
  · intro i c hci
    obtain ⟨cur', e', h1, h2, h3, h4⟩ := h.arr i c hci
    have hlt := (Array.getElem?_eq_some_iff.1 h1).1
    refine ⟨cur', e', (hb.block _ hlt).trans h1, h2, fun j x hx => ?_, fun o hs => ?_⟩
    · obtain ⟨v, hv, hdd⟩ := h3 j x hx
      exact ⟨v, hv, CR.step st (fun _ _ => by simp) hdd⟩
    · rcases hs with hs | ⟨he, _⟩
      · exact h4 o hs
      · exact absurd he (Nat.not_le.2 hlt)
  · intro i a s hci
    rcases h.tok i a s hci with h1 | ⟨b, cap', cur', e', h1, h2, h3, h4, h5, h6⟩
    · exact .inl h1
    · have hlt := (Array.getElem?_eq_some_iff.1 h2).1
      refine .inr ⟨b, cap', cur', e', h1, (hb.block _ hlt).trans h2, h3, h4, h5, fun o hs => ?_⟩
      rcases hs with hs | ⟨he, _⟩
      · exact h6 o hs
      · exact absurd he (Nat.not_le.2 hlt)
  · intro b o hs
    rcases hs with hs | ⟨_, hs⟩
    · exact Nat.lt_of_lt_of_le (h.lt b o hs) hb.size
    · exact hs

end Go.Proofs.Ytpanbfainilmpaa.Ev
end
section
/- Each operation's machine step answers as the evaluator does: operations that touch no memory. -/
set_option linter.unusedVariables false
set_option linter.unusedSimpArgs false
namespace Go.Proofs.Ytpanbfainilmpaa.Ev

theorem bindO_eq {α β : Type} {x : Option α} {f : α → Option β} {r : β} : bindO x f = some r ↔ ∃ a, x = some a ∧ f a = some r := by
  cases x with
  | none => simp [bindO]
  | some a => simp [bindO]

theorem sc_val {w : World} {g : Gh} {H : HF} {v u : Value} (h : AVR w g H (.c (.d (.sc v))) u) : u = v := by
  cases h with
  | sc _ => rfl
theorem asInt_val {w : World} {g : Gh} {H : HF} {x : AV} {u : Value} {q : IntKind × Int} (hq : asInt x = some q) (h : AVR w g H x u) : u = .int q.1 q.2 := by
  unfold asInt at hq
  split at hq
  · cases hq; exact sc_val h
  · cases hq
theorem asBool_val {w : World} {g : Gh} {H : HF} {x : AV} {u : Value} {q : Bool} (hq : asBool x = some q) (h : AVR w g H x u) : u = .bool q := by
  unfold asBool at hq
  split at hq
  · cases hq; exact sc_val h
  · cases hq

theorem cellC_ok {w : World} {g : Gh} {H : HF} {v : Value} {x : C} (h : cellC v = some x) : CR w g H x v := by
  unfold cellC at h
  split at h <;> first | (cases h; exact rfl) | (cases h; exact DR.sc rfl) | cases h
theorem cellC_ids {v : Value} {x : C} (h : cellC v = some x) : x.ids = [] := by
  unfold cellC at h
  split at h <;> first | (cases h; rfl) | cases h
theorem cellsC_ok {w : World} {g : Gh} {H : HF} : ∀ {vs : List Value} {xs : List C}, cellsC vs = some xs → RelL (CR w g H) xs vs ∧ ∀ x ∈ xs, x.ids = []
  | [], xs, h => by simp [cellsC] at h; subst h; exact ⟨.nil, by simp⟩
  | v :: vs, xs, h => by
    simp only [cellsC, bindO_eq] at h
    obtain ⟨x, hx, ys, hy, he⟩ := h
    cases he
    obtain ⟨h1, h2⟩ := cellsC_ok hy
    exact ⟨.cons (cellC_ok hx) h1, by intro z hz; rcases List.mem_cons.1 hz with rfl | hz; exact cellC_ids hx; exact h2 z hz⟩

/-- The slots that are read say what they say. -/
def FRu (w : World) (g : Gh) (H : HF) (f : Fr) (a : Act) (us : List Nat) : Prop := ∀ s ∈ us, AVR w g H (f.get s) (a.tmps.getD s undef)
theorem FRu.sub {w : World} {g : Gh} {H : HF} {f : Fr} {a : Act} {us us' : List Nat} (h : FRu w g H f a us) (hs : ∀ s ∈ us', s ∈ us) : FRu w g H f a us' := fun s hm => h s (hs s hm)

theorem compA_ok {w : World} {g : Gh} {H : HF} {f : Fr} {a : Act} {x : Operand} {y : AO} (h : compA x = some y) (hf : FRu w g H f a y.us) : AVR w g H (y.ev f) (a.eval x) := by
  cases x with
  | tmp t => simp only [compA, Option.some.injEq] at h; subst h; exact hf t (by simp [AO.us])
  | const v =>
    simp only [compA, bindO_eq] at h
    obtain ⟨c, hc, he⟩ := h
    cases he
    exact cellC_ok hc
  | func n => simp only [compA, Option.some.injEq] at h; subst h; exact DR.sc rfl
  | «global» n => simp [compA] at h
theorem compA_ids {x : Operand} {y : AO} (h : compA x = some y) {f : Fr} {B : List Nat} (hf : ∀ s ∈ y.us, ∀ i ∈ (f.get s).ids, i ∉ B) : ∀ i ∈ (y.ev f).ids, i ∉ B := by
  cases x with
  | tmp t => simp only [compA, Option.some.injEq] at h; subst h; exact hf t (by simp [AO.us])
  | const v =>
    simp only [compA, bindO_eq] at h
    obtain ⟨c, hc, he⟩ := h
    cases he
    intro i hi
    simp only [AO.ev, AV.ids, cellC_ids hc] at hi
    cases hi
  | func n => simp only [compA, Option.some.injEq] at h; subst h; intro i hi; simp [AO.ev, AV.ids, C.ids] at hi
  | «global» n => simp [compA] at h

/-- The numbers from lo to hi. -/
def bn (lo hi : Nat) : List Nat := List.range' lo (hi - lo)
theorem mem_bn {lo hi i : Nat} : i ∈ bn lo hi ↔ lo ≤ i ∧ i < hi := by
  simp only [bn, List.mem_range'_1]
  omega
theorem bn_self (n : Nat) : bn n n = [] := by simp [bn]
theorem bn_one (n : Nat) : bn n (n + 1) = [n] := by simp [bn]

/-- What an operation's step owes. -/
def OpOk (P : Program) (o : Oper) (a : Act) (w : World) (g : Gh) (H : HF) (nx : Nat) (re : Re) : Prop :=
  ∃ v w' g', ((execOp a.eval o).run P w = .ok (.value v) w' ∨ ((execOp a.eval o).run P w = .ok .skip w' ∧ v = undef)) ∧
    HI w' g' (updF H re.w) ∧ Stp (bn nx re.nx) w g H w' g' (updF H re.w) ∧ AVR w' g' (updF H re.w) re.v v

section
variable {P : Program} {o : Oper} {a : Act} {w : World} {g : Gh} {H : HF} {f : Fr} {h : Hp} {nx : Nat}

/-- Nothing but a value. -/
theorem OpOk.pure (hi : HI w g H) {x : AV} {v : Value} {r : List Nat} (hrun : (execOp a.eval o).run P w = .ok (.value v) w) (hv : AVR w g H x v) : OpOk P o a w g H nx ⟨x, [], r, nx⟩ :=
  ⟨v, w, g, .inl hrun, hi, by rw [bn_self]; exact Stp.refl w g H, hv⟩

theorem ok1_eq {x : AV} {re : Re} (h : ok1 x nx = some re) : re = ⟨x, [], [], nx⟩ := by simp only [ok1, Option.some.injEq] at h; exact h.symm

theorem op_mv (hi : HI w g H) {x : Operand} {y : AO} (ho : o.op = .move x ∨ o.op = .assign x) (hc : compA x = some y) (hf : FRu w g H f a y.us) : OpOk P o a w g H nx ⟨y.ev f, [], [], nx⟩ := by
  refine OpOk.pure hi (v := a.eval x) ?_ (compA_ok hc hf)
  rcases ho with ho | ho <;> simp [execOp, ho]

theorem op_asg (hi : HI w g H) {x : Operand} {y : AO} (ho : o.op = .assign x) (hc : compA x = some y) (hf : FRu w g H f a y.us) (hfr : ∀ i, nx ≤ i → i < nx + 1 → H i = none) (hcl : Clean H (bn nx (nx + 1)))
    (hy : y.ev f = .c .nil) : OpOk P o a w g H nx ⟨.c (.gr nx []), [(nx, some (.tok 0 0))], [], nx + 1⟩ := by
  have hv := compA_ok hc hf
  rw [hy] at hv
  have hv' : a.eval x = .slice none 0 0 := hv
  rw [bn_one] at hcl
  obtain ⟨h1, h2⟩ := birthTok hi (hfr nx (Nat.le_refl _) (by omega)) hcl
  refine ⟨.slice none 0 0, _, _, .inl ?_, h1, by rw [bn_one]; exact h2, ?_⟩
  · simp [execOp, ho, hv']
  · refine ⟨CR.toD (x := .nil) (g := g) (H := H) rfl, fun n sz hn => ?_⟩
    simp only [updF, fup_same] at hn
    cases hn
    exact ⟨Nat.le_refl _, fun _ => ⟨(fup_same _ _ _).symm, fun e he => by cases he⟩⟩

theorem op_pick (hi : HI w g H) {c x z : Operand} {c' x' z' : AO} (ho : o.op = .pick c x z) (h1 : compA c = some c') (h2 : compA x = some x') (h3 : compA z = some z') {q : Bool} (hq : asBool (c'.ev f) = some q)
    (hf : FRu w g H f a (c'.us ++ x'.us ++ z'.us)) : OpOk P o a w g H nx ⟨if q then x'.ev f else z'.ev f, [], [], nx⟩ := by
  have e1 := asBool_val hq (compA_ok h1 (hf.sub fun s hs => by simp [hs]))
  refine OpOk.pure hi (v := if q then a.eval x else a.eval z) ?_ ?_
  · simp [execOp, ho, e1, Go.asBool]
  · cases q
    · exact compA_ok h3 (hf.sub fun s hs => by simp [hs])
    · exact compA_ok h2 (hf.sub fun s hs => by simp [hs])

theorem op_ext (hi : HI w g H) {x : Operand} {x' : AO} {i : Nat} (ho : o.op = .extract x i) (h1 : compA x = some x') (hf : FRu w g H f a x'.us) {xs : List PV} {p : PV} (hx : x'.ev f = .tu xs) (hp : xs[i]? = some p) :
    OpOk P o a w g H nx ⟨p.toAV, [], [], nx⟩ := by
  have hv := compA_ok h1 hf
  rw [hx] at hv
  obtain ⟨vs, hv, hr⟩ := hv
  obtain ⟨v, hv2, hd⟩ := hr.get hp
  refine OpOk.pure hi (v := v) ?_ ?_
  · simp [execOp, ho, hv, Instr.extract, hv2]
  · cases p with
    | one x => exact hd
    | agg ys =>
      obtain ⟨us, rfl, hu⟩ := hd
      exact ⟨us, rfl, RelL.map hu⟩


theorem bytes_beq (a b : ByteArray) : (a.toList == b.toList) = decide (a = b) := by
  rw [ByteArray.toList_eq, ByteArray.toList_eq]
  obtain ⟨⟨x⟩⟩ := a
  obtain ⟨⟨y⟩⟩ := b
  simp only [ByteArray.mk.injEq, Array.mk.injEq]
  rw [Bool.eq_iff_iff]
  simp

theorem bin_run {op : BinOp} {t : TypeId} {x y : Value} {r : Value} (h : evBin op x y = some r) : (binOp op t x y).run P w = .ok r w ∧ ∀ (X Y : Operand), (eqGuard op t X Y x y).run P w = .ok () w := by
  unfold evBin at h
  split at h
  · rename_i k a k' b
    refine ⟨?_, fun X Y => by rw [eqGuard_at_int]; rfl⟩
    cases op <;> simp only at h
    case shl =>
      split at h
      · rename_i h0
        cases h
        simp [binOp, Op.shift, show ¬ b < 0 by omega]
      · cases h
    case shr =>
      split at h
      · rename_i h0
        cases h
        simp [binOp, Op.shift, show ¬ b < 0 by omega]
      · cases h
    all_goals
      split at h
      · rename_i hk
        subst hk
        first
        | (cases h; simp only [binOp_add, binOp_sub, binOp_mul, binOp_and, binOp_or, binOp_xor, binOp_andNot, binOp_eql, binOp_neq, binOp_lss, binOp_leq, binOp_gtr, binOp_geq, Op.intArith, Op.intBits, Sem.run_pure]; done)
        | (cases h; simp only [binOp_add, binOp_sub, binOp_mul, binOp_and, binOp_or, binOp_xor, binOp_andNot, binOp_eql, binOp_neq, binOp_lss, binOp_leq, binOp_gtr, binOp_geq, Op.intArith, Op.intBits, Sem.run_pure]; rfl)
        | (split at h
           · cases h
           · rename_i hb; cases h; simp only [binOp_quo, binOp_rem, Op.intDiv, if_neg hb, Sem.run_pure]; done)
      · cases h
  · rename_i a b
    refine ⟨?_, fun X Y => by cases op <;> rfl⟩
    have e := bytes_beq a b
    cases op <;> simp only at h <;> first | (cases h; done) | skip
    all_goals
      cases h
      simp only [binOp, Op.stringOp, e]
      simp
  · cases h

theorem op_bin (hi : HI w g H) {op : BinOp} {t t' : TypeId} {x y : Operand} {x' y' : AO} (ho : o.op = .binOp op t x y t') (h1 : compA x = some x') (h2 : compA y = some y') (hf : FRu w g H f a (x'.us ++ y'.us))
    {u v r : Value} (hx : x'.ev f = .c (.d (.sc u))) (hy : y'.ev f = .c (.d (.sc v))) (hr : evBin op u v = some r) : OpOk P o a w g H nx ⟨sc r, [], [], nx⟩ := by
  have e1 := compA_ok h1 (hf.sub fun s hs => by simp [hs])
  have e2 := compA_ok h2 (hf.sub fun s hs => by simp [hs])
  rw [hx] at e1; rw [hy] at e2
  have e1 := sc_val e1
  have e2 := sc_val e2
  obtain ⟨h3, h4⟩ := bin_run (P := P) (w := w) (t := t) hr
  refine OpOk.pure hi (v := r) ?_ ?_
  · simp [execOp, ho, e1, e2, h3, h4]
  · refine DR.sc ?_
    unfold evBin at hr
    split at hr
    · cases op <;> simp only at hr <;> (repeat' split at hr) <;> cases hr <;> rfl
    · cases op <;> simp only at hr <;> cases hr <;> rfl
    · cases hr

theorem op_binb (hi : HI w g H) {op : BinOp} {t t' : TypeId} {x y : Operand} {x' y' : AO} (ho : o.op = .binOp op t x y t') (ht : P.underlying t = some .bool) (h1 : compA x = some x') (h2 : compA y = some y') (hf : FRu w g H f a (x'.us ++ y'.us))
    {u v r : Value} (hx : x'.ev f = .c (.d (.sc u))) (hy : y'.ev f = .c (.d (.sc v))) (hr : evBinB op u v = some r) : OpOk P o a w g H nx ⟨sc r, [], [], nx⟩ := by
  have e1 := compA_ok h1 (hf.sub fun s hs => by simp [hs])
  have e2 := compA_ok h2 (hf.sub fun s hs => by simp [hs])
  rw [hx] at e1; rw [hy] at e2
  have e1 := sc_val e1
  have e2 := sc_val e2
  unfold evBinB at hr
  split at hr
  · rename_i b c _ _
    cases op <;> simp only at hr <;> first | (cases hr; done) | skip
    all_goals
      cases hr
      refine OpOk.pure hi ?_ (DR.sc rfl)
      simp only [execOp, ho, e1, e2, eqGuard_at_bool, Sem.run_bind, Sem.run_pure, Result.andThen_ok]
      first
      | rw [run_eql_bool w t b c ht]
      | rw [run_neq_bool w t b c ht]
      simp
  · cases hr

theorem op_un (hi : HI w g H) {op : UnOp} {t : TypeId} {x : Operand} {x' : AO} (ho : o.op = .unOp op t x) (h1 : compA x = some x') (hf : FRu w g H f a x'.us) {u r : Value} (hx : x'.ev f = .c (.d (.sc u))) (hr : evUn op u = some r) :
    OpOk P o a w g H nx ⟨sc r, [], [], nx⟩ := by
  have e1 := compA_ok h1 hf
  rw [hx] at e1
  have e1 := sc_val e1
  unfold evUn at hr
  split at hr
  · cases op <;> simp only at hr <;> first | (cases hr; done) | skip
    all_goals
      cases hr
      refine OpOk.pure hi ?_ (DR.sc rfl)
      simp [execOp, ho, e1, Op.unary, Op.intArith, Op.intBits]
  · cases op <;> simp only at hr <;> first | (cases hr; done) | skip
    cases hr
    refine OpOk.pure hi ?_ (DR.sc rfl)
    simp [execOp, ho, e1, Op.unary]
  · cases hr

theorem op_cvi (hi : HI w g H) {s d : TypeId} {k k' : IntKind} {x : Operand} {x' : AO} (ho : o.op = .convert s d x) (hs : P.underlying s = some (.int k')) (hd : P.underlying d = some (.int k)) (h1 : compA x = some x') (hf : FRu w g H f a x'.us)
    {q : IntKind × Int} (hq : asInt (x'.ev f) = some q) : OpOk P o a w g H nx ⟨sc (.int k (k.wrap q.2)), [], [], nx⟩ := by
  have e1 := asInt_val hq (compA_ok h1 hf)
  refine OpOk.pure hi ?_ (DR.sc rfl)
  simp [execOp, ho, e1, convert, run_underlying hs, run_underlying hd, Conv.intToInt]

theorem op_cvs (hi : HI w g H) {s d : TypeId} {k' : IntKind} {x : Operand} {x' : AO} (ho : o.op = .convert s d x) (hs : P.underlying s = some (.int k')) (hd : P.underlying d = some .string) (h1 : compA x = some x') (hf : FRu w g H f a x'.us)
    {q : IntKind × Int} (hq : asInt (x'.ev f) = some q) : OpOk P o a w g H nx ⟨sc (.string (Utf8.encode q.2)), [], [], nx⟩ := by
  have e1 := asInt_val hq (compA_ok h1 hf)
  refine OpOk.pure hi ?_ (DR.sc rfl)
  simp [execOp, ho, e1, convert, run_underlying hs, run_underlying hd, Conv.intToString]

theorem op_mx (hi : HI w g H) {c : Call} {x y : Operand} {x' y' : AO} (ho : o.op = .call c) (hc : c.callee = .builtin .max) (ha : c.args = #[x, y]) (h1 : compA x = some x') (h2 : compA y = some y') (hf : FRu w g H f a (x'.us ++ y'.us))
    {p q : IntKind × Int} (hp : asInt (x'.ev f) = some p) (hq : asInt (y'.ev f) = some q) : OpOk P o a w g H nx ⟨sc (.int p.1 (if p.2 < q.2 then q.2 else p.2)), [], [], nx⟩ := by
  have e1 := asInt_val hp (compA_ok h1 (hf.sub fun s hs => by simp [hs]))
  have e2 := asInt_val hq (compA_ok h2 (hf.sub fun s hs => by simp [hs]))
  refine OpOk.pure hi ?_ (DR.sc rfl)
  simp [execOp, ho, hc, ha, e1, e2, resolve, invoke, builtin, run_max_int2]

theorem op_mn (hi : HI w g H) {c : Call} {x y : Operand} {x' y' : AO} (ho : o.op = .call c) (hc : c.callee = .builtin .min) (ha : c.args = #[x, y]) (h1 : compA x = some x') (h2 : compA y = some y') (hf : FRu w g H f a (x'.us ++ y'.us))
    {p q : IntKind × Int} (hp : asInt (x'.ev f) = some p) (hq : asInt (y'.ev f) = some q) : OpOk P o a w g H nx ⟨sc (.int p.1 (if q.2 < p.2 then q.2 else p.2)), [], [], nx⟩ := by
  have e1 := asInt_val hp (compA_ok h1 (hf.sub fun s hs => by simp [hs]))
  have e2 := asInt_val hq (compA_ok h2 (hf.sub fun s hs => by simp [hs]))
  refine OpOk.pure hi ?_ (DR.sc rfl)
  simp [execOp, ho, hc, ha, e1, e2, resolve, invoke, builtin, run_min_int2]

theorem has_eq {id : Nat} (hh : h.has id = true) : ∃ cells, h.get id = some (.arr cells) := by
  unfold Hp.has at hh
  split at hh
  · rename_i c hc; exact ⟨c, hc⟩
  · cases hh
theorem lenOf_val {x : AV} {n : Nat × List Nat} {u : Value} (hn : lenOf h x = some n) (hv : AVR w g H x u) (hr : ∀ id ∈ n.2, H id = h.get id) : ∃ p c, u = .slice p n.1 c ∧ n.1 ≤ c := by
  unfold lenOf at hn
  split at hn
  · cases hn
    cases hv with
    | sl vs hn' hc => subst hn'; exact ⟨_, _, rfl, hc⟩
  · cases hn
    have : u = .slice none 0 0 := hv
    exact ⟨none, 0, this, Nat.le_refl _⟩
  · cases hn
    cases hv.1 with
    | sl vs hn' hc => subst hn'; exact ⟨_, _, rfl, hc⟩
  · split at hn
    · rename_i hh
      cases hn
      obtain ⟨cells, hc⟩ := has_eq hh
      obtain ⟨p, cap, h1, h2, _⟩ := hv cells ((hr _ (by simp)).trans hc)
      exact ⟨_, _, h1, h2⟩
    · cases hn
  · cases hn

theorem op_fad (hi : HI w g H) {t : TypeId} {x : Operand} {i : Nat} {x' : AO} {fs : Array Field} {fd : Field} (ho : o.op = .fieldAddr t x i) (h1 : compA x = some x') (ht : P.underlying t = some (.struct fs)) (hfi : fs[i]? = some fd) (h0 : 0 < szOf P fd.type)
    (hf : FRu w g H f a x'.us) {K : Or} {draw : Bool} {re : Re} (hre : evOp K draw f h nx (.fad fd.offset x') = some re) (hrd : ∀ id ∈ re.r, H id = h.get id) : OpOk P o a w g H nx re := by
  have e1 := compA_ok h1 hf
  have hsz : ∃ info, P.info? fd.type = some info ∧ info.size ≠ 0 := by
    unfold szOf at h0
    split at h0
    · rename_i info hinfo; exact ⟨info, hinfo, by omega⟩
    · omega
  obtain ⟨info, hinfo, hne⟩ := hsz
  have hadd : ∀ bb oo k, (⟨bb, oo, none⟩ : Addr).add k = ⟨bb, oo + k, none⟩ := fun bb oo k => by unfold Addr.add; split <;> simp_all
  simp only [evOp] at hre
  split at hre
  · rename_i id off hx
    split at hre
    case isFalse => cases hre
    rename_i hh
    cases hre
    obtain ⟨cells, hcells⟩ := has_eq hh
    rw [hx] at e1
    have e2 := e1 cells ((hrd id (by simp)).trans hcells)
    refine OpOk.pure hi (v := .pointer (some ⟨g.β id, off + fd.offset, none⟩)) ?_ (fun c hc => rfl)
    simp [execOp, ho, e2, Instr.fieldAt, run_underlying ht, hfi, Instr.sureAddr, fieldPlace, sizeOf, typeInfo, hinfo, hne, hadd]
  · rename_i xs hx
    have := ok1_eq hre
    subst this
    rw [hx] at e1
    obtain ⟨bb, oo, e2, hr⟩ := e1
    refine OpOk.pure hi (v := .pointer (some ⟨bb, oo + fd.offset, none⟩)) ?_ ⟨bb, _, rfl, fun j y hj => ?_⟩
    · simp [execOp, ho, e2, Instr.fieldAt, run_underlying ht, hfi, Instr.sureAddr, fieldPlace, sizeOf, typeInfo, hinfo, hne, hadd]
    · rw [List.getElem?_drop] at hj
      have := hr (fd.offset + j) y hj
      rwa [← Nat.add_assoc] at this
  · cases hre

theorem part_run {t : TypeId} {vs : List Value} {off : Nat} (hagg : isAggT P t = true) (hs : ∃ info, P.info? t = some info) : (part t vs.toArray off).run P w = .ok (.agg ((vs.drop off).take (szOf P t)).toArray) w := by
  obtain ⟨info, hinfo⟩ := hs
  have hsz : szOf P t = info.size := by simp [szOf, hinfo]
  have h1 : (isAgg t).run P w = .ok true w := by
    unfold isAggT at hagg
    unfold isAgg
    split at hagg <;> first | (rename_i hu; simp [run_underlying hu]; done) | cases hagg
  simp only [part, Sem.run_bind, h1, Result.andThen_ok, if_true, sizeOf, typeInfo, run_program, hinfo, Sem.run_pure, hsz]
  congr 2
  apply Array.ext'
  simp [List.extract]
theorem part_run1 {t : TypeId} {vs : List Value} {off : Nat} {v : Value} (hagg : isAggT P t = false) (hs : ∃ d, P.underlying t = some d) (hv : vs[off]? = some v) : (part t vs.toArray off).run P w = .ok v w := by
  obtain ⟨d, hd⟩ := hs
  have h1 : (isAgg t).run P w = .ok false w := by
    unfold isAggT at hagg
    unfold isAgg
    rw [hd] at hagg
    simp only [Sem.run_bind, run_underlying hd, Result.andThen_ok]
    split <;> first | (simp at hagg; done) | rfl
  simp [part, h1, hv]
end
end Go.Proofs.Ytpanbfainilmpaa.Ev
end
section
/- Operations that read memory. -/
set_option linter.unusedVariables false
set_option linter.unusedSimpArgs false
namespace Go.Proofs.Ytpanbfainilmpaa.Ev
section
variable {P : Program} {o : Oper} {a : Act} {w : World} {g : Gh} {H : HF} {f : Fr} {h : Hp} {nx : Nat} {K : Or} {draw : Bool}

theorem add_none (b o k : Nat) : (⟨b, o, none⟩ : Addr).add k = ⟨b, o + k, none⟩ := by unfold Addr.add; split <;> simp_all
theorem sz_info {t : TypeId} (h : 0 < szOf P t) : ∃ info, P.info? t = some info ∧ info.size = szOf P t := by
  unfold szOf at h ⊢
  split at h
  · rename_i info hinfo; rw [hinfo]; exact ⟨info, rfl, rfl⟩
  · omega
theorem und_of_info {t : TypeId} {d : TypeDesc} (h : P.underlying t = some d) : True := trivial
theorem elemT_und {t e : TypeId} (h : elemT P t = some e) : P.underlying t = some (.slice e) := by
  unfold elemT at h
  split at h
  · rename_i u hu; cases h; exact hu
  · cases h
theorem isAgg_run (t : TypeId) (h : ∃ d, P.underlying t = some d) : (isAgg t).run P w = .ok (isAggT P t) w := by
  obtain ⟨d, hd⟩ := h
  unfold isAgg isAggT
  simp only [Sem.run_bind, run_underlying hd, Result.andThen_ok]
  rw [hd]
  cases d <;> rfl

theorem arr_val (hi : HI w g H) {id : Nat} {cells : List C} (hc : H id = some (.arr cells)) {off : Nat} {x : C} (hx : cells[off]? = some x) : ∃ v, w.cell? ⟨g.β id, off, none⟩ = some v ∧ CR w g H x v := by
  obtain ⟨cur, e, h1, h2, h3, h4⟩ := hi.arr id cells hc
  obtain ⟨v, hv, hr⟩ := h3 off x hx
  exact ⟨v, by rw [cellAt h1]; exact hv, hr⟩

/-- Cells of an own array, side by side with memory's. -/
theorem arr_vals (hi : HI w g H) {id : Nat} {cells : List C} (hc : H id = some (.arr cells)) {off n : Nat} (hl : off + n ≤ cells.length) :
    ∃ vs : List Value, vs.length = n ∧ RelL (CR w g H) ((cells.drop off).take n) vs ∧ ∀ (j : Nat) (v : Value), vs[j]? = some v → w.cell? ⟨g.β id, off + j, none⟩ = some v := by
  obtain ⟨cur, e, h1, h2, h3, h4⟩ := hi.arr id cells hc
  have hlc : off + n ≤ cur.toList.length := by simp; omega
  refine ⟨(cur.toList.drop off).take n, by simp; omega, ⟨by simp; omega, fun i x v hx hv => ?_⟩, fun j v hv => ?_⟩
  · rw [List.getElem?_take] at hx hv
    split at hx
    · rename_i hi'
      rw [if_pos hi'] at hv
      rw [List.getElem?_drop] at hx hv
      obtain ⟨u, hu, hr⟩ := h3 _ x hx
      rw [Array.getElem?_toList] at hv
      rw [hv] at hu
      cases hu
      exact hr
    · cases hx
  · rw [List.getElem?_take] at hv
    split at hv
    · rw [List.getElem?_drop, Array.getElem?_toList] at hv
      rw [cellAt h1]
      exact hv
    · cases hv

theorem loadVar_one {t : TypeId} {b off : Nat} {v : Value} (ht : ∃ d, P.underlying t = some d) (ha : isAggT P t = false) (hv : w.cell? ⟨b, off, none⟩ = some v) : (loadVar t ⟨b, off, none⟩).run P w = .ok v w := by
  simp [loadVar, isAgg_run t ht, ha, hv]
theorem loadVar_agg {t : TypeId} {b off : Nat} {vs : List Value} (ht : ∃ d, P.underlying t = some d) (h0 : 0 < szOf P t) (ha : isAggT P t = true) (hl : vs.length = szOf P t) (hv : ∀ (j : Nat) (v : Value), vs[j]? = some v → w.cell? ⟨b, off + j, none⟩ = some v) :
    (loadVar t ⟨b, off, none⟩).run P w = .ok (.agg vs.toArray) w := by
  obtain ⟨info, hinfo, hsz⟩ := sz_info h0
  have := run_loadCells_list (P := P) w ⟨b, off, none⟩ vs (fun j v hj => by rw [add_none]; exact hv j v hj)
  rw [hl, ← hsz] at this
  simp [loadVar, isAgg_run t ht, ha, sizeOf, typeInfo, hinfo, this]


theorem addr_eq {b o : Nat} : (⟨b, o, none⟩ : Addr) = { block := b, off := o } := rfl

/-- Loads. -/
theorem op_ld (hi : HI w g H) {t : TypeId} {x : Operand} {x' : AO} (ho : o.op = .load t x) (h1 : compA x = some x') (ht : ∃ d, P.underlying t = some d) (h0 : 0 < szOf P t) (hagg : isAggT P t = true ∨ szOf P t = 1) (hf : FRu w g H f a x'.us) {re : Re}
    (hre : evOp K draw f h nx (.ld (isAggT P t) (szOf P t) x') = some re) (hr : ∀ id ∈ re.r, H id = h.get id) : OpOk P o a w g H nx re := by
  have e1 := compA_ok h1 hf
  simp only [evOp] at hre
  split at hre
  · rename_i id off hx
    rw [hx] at e1
    split at hre
    · rename_i cells hcells
      cases hag : isAggT P t with
      | true =>
        simp only [hag, if_true] at hre
        split at hre
        · rename_i hl
          cases hre
          have hH : H id = some (.arr cells) := (hr id (by simp)).trans hcells
          obtain ⟨vs, h2, h3, h4⟩ := arr_vals hi hH hl
          refine OpOk.pure hi (v := .agg vs.toArray) ?_ ⟨vs, rfl, h3⟩
          have e2 := e1 cells hH
          simp [execOp, ho, e2, Instr.loadAt, Instr.sureAddr, loadVar_agg ht h0 hag h2 h4]
        · cases hre
      | false =>
        simp only [hag, Bool.false_eq_true, if_false] at hre
        split at hre
        · rename_i c hc
          cases hre
          have hH : H id = some (.arr cells) := (hr id (by simp)).trans hcells
          obtain ⟨v, h2, h3⟩ := arr_val hi hH hc
          refine OpOk.pure hi (v := v) ?_ h3
          have e2 := e1 cells hH
          simp [execOp, ho, e2, Instr.loadAt, Instr.sureAddr, loadVar_one ht hag h2]
        · cases hre
    · cases hre
  · rename_i xs hx
    rw [hx] at e1
    obtain ⟨b, off, e2, h2⟩ := e1
    cases hag : isAggT P t with
    | true =>
      simp only [hag, if_true] at hre
      split at hre
      · rename_i hl
        have := ok1_eq hre
        subst this
        obtain ⟨vs, hvl, hvs⟩ : ∃ vs : List Value, vs.length = szOf P t ∧ ∀ (j : Nat) (v : Value), vs[j]? = some v → w.cell? ⟨b, off + j, none⟩ = some v ∧ ∃ x, xs[j]? = some x ∧ DR w g.S x v := by
          refine ⟨(List.range (szOf P t)).map fun j => (w.cell? ⟨b, off + j, none⟩).getD undef, by simp, fun j v hj => ?_⟩
          rw [List.getElem?_map] at hj
          obtain ⟨k, hk, rfl⟩ := Option.map_eq_some_iff.1 hj
          obtain ⟨hlt, rfl⟩ := List.getElem?_eq_some_iff.1 hk
          simp only [List.length_range] at hlt
          simp only [List.getElem_range]
          have hx2 : xs[j]? = some (xs[j]'(by omega)) := List.getElem?_eq_getElem _
          obtain ⟨u, hu, _, hd⟩ := h2 j _ hx2
          rw [hu]
          exact ⟨rfl, _, hx2, hd⟩
        refine OpOk.pure hi (v := .agg vs.toArray) ?_ ⟨vs, rfl, RelL.map ⟨by simp; omega, fun i y v hy hv => ?_⟩⟩
        · simp [execOp, ho, e2, Instr.loadAt, Instr.sureAddr, loadVar_agg ht h0 hag hvl (fun j v hj => (hvs j v hj).1)]
        · rw [List.getElem?_take] at hy
          split at hy
          · obtain ⟨_, z, hz, hd⟩ := hvs i v hv
            rw [hz] at hy
            cases hy
            exact hd
          · cases hy
      · cases hre
    | false =>
      simp only [hag, Bool.false_eq_true, if_false] at hre
      split at hre
      · rename_i y ys
        have := ok1_eq hre
        subst this
        obtain ⟨u, hu, _, hd⟩ := h2 0 y rfl
        refine OpOk.pure hi (v := u) ?_ hd
        simp only [Nat.add_zero] at hu
        simp [execOp, ho, e2, Instr.loadAt, Instr.sureAddr, loadVar_one ht hag hu]
      · cases hre
  · cases hre

/-- An element's address. -/
theorem op_iad (hi : HI w g H) {t e : TypeId} {x i : Operand} {x' i' : AO} (ho : o.op = .indexAddr t x i) (h1 : compA x = some x') (h2 : compA i = some i') (ht : elemT P t = some e) (h0 : 0 < szOf P e) (hf : FRu w g H f a (x'.us ++ i'.us)) {re : Re}
    (hre : evOp K draw f h nx (.iad (szOf P e) x' i') = some re) (hrd : ∀ id ∈ re.r, H id = h.get id) : OpOk P o a w g H nx re := by
  have e1 := compA_ok h1 (hf.sub fun s hs => by simp [hs])
  have e2 := compA_ok h2 (hf.sub fun s hs => by simp [hs])
  have hu := elemT_und ht
  obtain ⟨info, hinfo, hsz⟩ := sz_info h0
  simp only [evOp, bindO_eq] at hre
  obtain ⟨q, hq, hre⟩ := hre
  have e3 := asInt_val hq e2
  have slcase : ∀ (es : List (List D)) (u : Value), a.eval x = u → DR w g.S (.sl es) u → (if 0 ≤ q.2 then (match es[q.2.toNat]? with | some y => if y.length = szOf P e then ok1 (.fptr y) nx else none | none => none) else none) = some re → OpOk P o a w g H nx re := by
    intro es u hxu hd hre
    split at hre
    · rename_i hpos
      split at hre
      · rename_i y hy
        split at hre
        · rename_i hyl
          have := ok1_eq hre
          subst this
          cases hd with
          | @sl _ aa n c sz b oo vs hn hc hsz' ha' hr' =>
            have hlt : q.2.toNat < es.length := (List.getElem?_eq_some_iff.1 hy).1
            have hszy : y.length = sz := hsz' _ y hy
            have hy0 : y[0]? = some (y[0]'(by omega)) := List.getElem?_eq_getElem _
            obtain ⟨ha1, _, _⟩ := ha' _ y 0 _ hy hy0
            subst ha1
            refine OpOk.pure hi (v := .pointer (some ⟨b, oo + q.2.toNat * szOf P e, none⟩)) ?_ ⟨b, _, rfl, fun j z hj => ?_⟩
            · have hqn : q.2 < (n : Int) := by omega
              simp [execOp, ho, hxu, e3, Instr.indexAt, asIntOf, run_underlying hu, hpos, hqn, sizeOf, typeInfo, hinfo, add_none, hsz]
            · obtain ⟨_, hc2, hs2⟩ := ha' _ y j z hy hj
              refine ⟨_, ?_, ?_, hr' _ y j z hy hj⟩
              · rw [← hc2, ← hszy, hyl, Nat.add_assoc]
              · rw [← hszy, hyl, ← Nat.add_assoc] at hs2; exact hs2
        · cases hre
      · cases hre
    · cases hre
  split at hre
  · rename_i es hx
    rw [hx] at e1
    exact slcase es _ rfl e1 hre
  · rename_i t' es hx
    rw [hx] at e1
    exact slcase es _ rfl e1.1 hre
  · rename_i id off len hx
    rw [hx] at e1
    split at hre
    · rename_i hpos
      cases hre
      obtain ⟨hp0, hp1, hh⟩ := hpos
      obtain ⟨cells, hcells⟩ := has_eq hh
      obtain ⟨p, cap, e4, _, e5⟩ := e1 cells ((hrd id (by simp)).trans hcells)
      rw [e5 (by omega)] at e4
      refine OpOk.pure hi (v := .pointer (some ⟨g.β id, off + q.2.toNat * szOf P e, none⟩)) ?_ (fun c hc => rfl)
      simp [execOp, ho, e4, e3, Instr.indexAt, asIntOf, run_underlying hu, hp0, hp1, sizeOf, typeInfo, hinfo, add_none, hsz]
    · cases hre
  · cases hre

/-- A part of a struct or an array by value. -/
theorem op_fld (hi : HI w g H) {t : TypeId} {x : Operand} {x' : AO} {i : Nat} {fs : Array Field} {fd : Field} (ho : o.op = .field t x i) (h1 : compA x = some x') (ht : P.underlying t = some (.struct fs)) (hfi : fs[i]? = some fd) (hu : ∃ d, P.underlying fd.type = some d)
    (hf : FRu w g H f a x'.us) {re : Re} (hre : evOp K draw f h nx (.fld (isAggT P fd.type) fd.offset (szOf P fd.type) x') = some re) (hs : ∃ info, P.info? fd.type = some info) : OpOk P o a w g H nx re := by
  have e1 := compA_ok h1 hf
  simp only [evOp] at hre
  split at hre
  · rename_i cs hx
    rw [hx] at e1
    obtain ⟨vs, e2, hr⟩ := e1
    cases hag : isAggT P fd.type with
    | true =>
      simp only [hag, if_true] at hre
      have := ok1_eq hre
      subst this
      refine OpOk.pure hi (v := .agg ((vs.drop fd.offset).take (szOf P fd.type)).toArray) ?_ ⟨_, rfl, (hr.drop _).take _⟩
      simp [execOp, ho, e2, Instr.field, run_underlying ht, hfi, asAgg, part_run hag hs]
    | false =>
      simp only [hag, Bool.false_eq_true, if_false] at hre
      split at hre
      · rename_i y hy
        have := ok1_eq hre
        subst this
        obtain ⟨v, hv, hd⟩ := hr.get hy
        refine OpOk.pure hi (v := v) ?_ hd
        simp [execOp, ho, e2, Instr.field, run_underlying ht, hfi, asAgg, part_run1 hag hu hv]
      · cases hre
  · cases hre

theorem op_idx (hi : HI w g H) {t e : TypeId} {n : Nat} {x i : Operand} {x' i' : AO} (ho : o.op = .index t x i) (h1 : compA x = some x') (h2 : compA i = some i') (ht : P.underlying t = some (.array n e)) (hu : ∃ d, P.underlying e = some d) (h0 : 0 < szOf P e)
    (hf : FRu w g H f a (x'.us ++ i'.us)) {re : Re} (hre : evOp K draw f h nx (.idx (isAggT P e) n (szOf P e) x' i') = some re) : OpOk P o a w g H nx re := by
  have e1 := compA_ok h1 (hf.sub fun s hs => by simp [hs])
  have e2 := compA_ok h2 (hf.sub fun s hs => by simp [hs])
  obtain ⟨info, hinfo, hsz⟩ := sz_info h0
  simp only [evOp, bindO_eq] at hre
  obtain ⟨q, hq, hre⟩ := hre
  have e3 := asInt_val hq e2
  split at hre
  · rename_i cs hx
    rw [hx] at e1
    obtain ⟨vs, e4, hr⟩ := e1
    split at hre
    · rename_i hpos
      cases hag : isAggT P e with
      | true =>
        simp only [hag, if_true] at hre
        have := ok1_eq hre
        subst this
        refine OpOk.pure hi (v := .agg ((vs.drop (q.2.toNat * szOf P e)).take (szOf P e)).toArray) ?_ ⟨_, rfl, (hr.drop _).take _⟩
        simp [execOp, ho, e4, e3, Instr.index, asIntOf, run_underlying ht, hpos, sizeOf, typeInfo, hinfo, hsz, part_run hag ⟨info, hinfo⟩]
      | false =>
        simp only [hag, Bool.false_eq_true, if_false] at hre
        split at hre
        · rename_i y hy
          have := ok1_eq hre
          subst this
          obtain ⟨v, hv, hd⟩ := hr.get hy
          refine OpOk.pure hi (v := v) ?_ hd
          simp [execOp, ho, e4, e3, Instr.index, asIntOf, run_underlying ht, hpos, sizeOf, typeInfo, hinfo, hsz, part_run1 hag hu hv]
        · cases hre
    · cases hre
  · cases hre

theorem op_sidx (hi : HI w g H) {t : TypeId} {x i : Operand} {x' i' : AO} (ho : o.op = .index t x i) (h1 : compA x = some x') (h2 : compA i = some i') (ht : P.underlying t = some .string)
    (hf : FRu w g H f a (x'.us ++ i'.us)) {re : Re} (hre : evOp K draw f h nx (.sidx x' i') = some re) : OpOk P o a w g H nx re := by
  have e1 := compA_ok h1 (hf.sub fun s hs => by simp [hs])
  have e2 := compA_ok h2 (hf.sub fun s hs => by simp [hs])
  simp only [evOp, bindO_eq] at hre
  obtain ⟨q, hq, hre⟩ := hre
  have e3 := asInt_val hq e2
  split at hre
  · rename_i s hx
    rw [hx] at e1
    have e4 := sc_val e1
    split at hre
    · rename_i hpos
      split at hre
      · rename_i b hb
        have := ok1_eq hre
        subst this
        refine OpOk.pure hi ?_ (DR.sc rfl)
        simp [execOp, ho, e4, e3, Instr.index, asIntOf, run_underlying ht, hpos, hb]
      · cases hre
    · cases hre
  · cases hre

theorem op_len (hi : HI w g H) {c : Call} {t e : TypeId} {x : Operand} {x' : AO} (ho : o.op = .call c) (hc : c.callee = .builtin .len) (ha : c.args = #[x]) (hty : c.argTypes = #[t]) (ht : P.underlying t = some (.slice e))
    (h1 : compA x = some x') (hf : FRu w g H f a x'.us) {n : Nat × List Nat} (hn : lenOf h (x'.ev f) = some n) (hr : ∀ id ∈ n.2, H id = h.get id) : OpOk P o a w g H nx ⟨sc (.int .i64 n.1), [], n.2, nx⟩ := by
  obtain ⟨p, c', e1, _⟩ := lenOf_val hn (compA_ok h1 hf) hr
  refine OpOk.pure hi ?_ (DR.sc rfl)
  simp [execOp, ho, hc, ha, hty, e1, resolve, invoke, builtin, Builtin.len_, run_underlying ht, goInt]

theorem op_slen (hi : HI w g H) {c : Call} {t : TypeId} {x : Operand} {x' : AO} (ho : o.op = .call c) (hc : c.callee = .builtin .len) (ha : c.args = #[x]) (hty : c.argTypes = #[t]) (ht : P.underlying t = some .string)
    (h1 : compA x = some x') (hf : FRu w g H f a x'.us) {s : ByteArray} (hx : x'.ev f = .c (.d (.sc (.string s)))) : OpOk P o a w g H nx ⟨sc (.int .i64 s.size), [], [], nx⟩ := by
  have e1 := compA_ok h1 hf
  rw [hx] at e1
  have e1 := sc_val e1
  refine OpOk.pure hi ?_ (DR.sc rfl)
  simp [execOp, ho, hc, ha, hty, e1, resolve, invoke, builtin, Builtin.len_, run_underlying ht, goInt]
end
end Go.Proofs.Ytpanbfainilmpaa.Ev
end
section
/- Operations that make memory or write it. -/
set_option linter.unusedVariables false
set_option linter.unusedSimpArgs false
namespace Go.Proofs.Ytpanbfainilmpaa.Ev

theorem clean_sub {H : HF} {A B : List Nat} (h : Clean H B) (hs : ∀ i ∈ A, i ∈ B) : Clean H A := fun id c hc x hx i hi hA => h id c hc x hx i hi (hs i hA)

theorem births_lo : ∀ (cs : List C) (n : Nat), n ≤ (births n cs).2.2
  | [], n => Nat.le_refl _
  | x :: r, n => by
    cases x with
    | nil => simp only [births]; have := births_lo r (n + 1); omega
    | d y => simp only [births]; exact births_lo r n
    | gr t es => simp only [births]; exact births_lo r n

theorem births_ids : ∀ (cs : List C) (n : Nat), ∀ x ∈ (births n cs).1, ∀ i ∈ x.ids, (∃ y ∈ cs, i ∈ y.ids) ∨ (n ≤ i ∧ i < (births n cs).2.2)
  | [], n, x, hx, i, hi => by simp [births] at hx
  | y :: r, n, x, hx, i, hi => by
    have tail : ∀ n, x ∈ (births n r).1 → (∃ z ∈ y :: r, i ∈ z.ids) ∨ (n ≤ i ∧ i < (births n r).2.2) := fun n hx => by
      rcases births_ids r n x hx i hi with ⟨z, hz, hzi⟩ | h
      · exact .inl ⟨z, List.mem_cons_of_mem _ hz, hzi⟩
      · exact .inr h
    cases y with
    | nil =>
      simp only [births] at hx ⊢
      rcases List.mem_cons.1 hx with rfl | hx
      · simp only [C.ids, List.mem_singleton] at hi
        subst hi
        have := births_lo r (i + 1)
        exact .inr ⟨Nat.le_refl _, by omega⟩
      · rcases tail (n + 1) hx with h | h
        · exact .inl h
        · exact .inr ⟨by omega, h.2⟩
    | d z =>
      simp only [births] at hx ⊢
      rcases List.mem_cons.1 hx with rfl | hx
      · simp [C.ids] at hi
      · exact tail n hx
    | gr t es =>
      simp only [births] at hx ⊢
      rcases List.mem_cons.1 hx with rfl | hx
      · exact .inl ⟨_, List.mem_cons_self, hi⟩
      · exact tail n hx

theorem births_arr : ∀ (cs : List C) (n : Nat) (H : HF) (id : Nat) (cells : List C), updF H (births n cs).2.1 id = some (.arr cells) → H id = some (.arr cells)
  | [], n, H, id, cells, h => h
  | x :: r, n, H, id, cells, h => by
    cases x with
    | nil =>
      simp only [births, updF] at h
      have := births_arr r (n + 1) _ id cells h
      by_cases hi : id = n
      · subst hi; rw [fup_same] at this; cases this
      · rwa [fup_ne hi] at this
    | d y => simp only [births] at h; exact births_arr r n H id cells h
    | gr t es => simp only [births] at h; exact births_arr r n H id cells h
theorem births_other : ∀ (cs : List C) (n : Nat) (H : HF) (id : Nat), ¬ (n ≤ id ∧ id < (births n cs).2.2) → updF H (births n cs).2.1 id = H id
  | [], n, H, id, h => rfl
  | x :: r, n, H, id, h => by
    cases x with
    | nil =>
      simp only [births, updF] at h ⊢
      have h0 := births_lo r (n + 1)
      rw [births_other r (n + 1) _ id (by omega), fup_ne (by omega)]
    | d y => simp only [births] at h ⊢; exact births_other r n H id h
    | gr t es => simp only [births] at h ⊢; exact births_other r n H id h

theorem births_ok {w : World} : ∀ (cs : List C) (n hi : Nat) {g : Gh} {H : HF} {vs : List Value}, HI w g H → RelL (CR w g H) cs vs → (births n cs).2.2 ≤ hi → (∀ i, n ≤ i → i < hi → H i = none) → Clean H (bn n hi) → (∀ x ∈ cs, ∀ i ∈ x.ids, i ∉ bn n hi) →
    ∃ g1, HI w g1 (updF H (births n cs).2.1) ∧ Stp (bn n (births n cs).2.2) w g H w g1 (updF H (births n cs).2.1) ∧ RelL (CR w g1 (updF H (births n cs).2.1)) (births n cs).1 vs
  | [], n, hi, g, H, vs, h, hr, _, _, _, _ => ⟨g, h, by show Stp (bn n n) w g H w g H; rw [bn_self]; exact Stp.refl w g H, hr⟩
  | x :: r, n, hi, g, H, [], h, hr, _, _, _, _ => by have := hr.1; simp at this
  | x :: r, n, hi, g, H, v :: vs, h, hr, hhi, hf, hc, hid => by
    have plain : (births n (x :: r)) = (x :: (births n r).1, (births n r).2.1, (births n r).2.2) → ∃ g1, HI w g1 (updF H (births n (x :: r)).2.1) ∧ Stp (bn n (births n (x :: r)).2.2) w g H w g1 (updF H (births n (x :: r)).2.1) ∧ RelL (CR w g1 (updF H (births n (x :: r)).2.1)) (births n (x :: r)).1 (v :: vs) := by
      intro he
      rw [he] at hhi ⊢
      obtain ⟨g1, h1, h2, h3⟩ := births_ok r n hi h hr.tail hhi hf hc (fun y hy => hid y (List.mem_cons_of_mem _ hy))
      refine ⟨g1, h1, h2, .cons (CR.step h2 (fun i hii hb => hid x List.mem_cons_self i hii ?_) hr.head) h3⟩
      rw [mem_bn] at hb ⊢
      simp only at hhi
      omega
    cases x with
    | d y => exact plain rfl
    | gr t es => exact plain rfl
    | nil =>
      simp only [births] at hhi ⊢
      have h0 := births_lo r (n + 1)
      have hn : n ∈ bn n hi := mem_bn.2 ⟨Nat.le_refl _, by omega⟩
      obtain ⟨h1, h2⟩ := birthTok h (hf n (Nat.le_refl _) (by omega)) (clean_sub hc (by simpa using hn))
      have hr' : RelL (CR w { g with ρ := fup g.ρ n (.slice none 0 0) } (fup H n (some (.tok 0 0)))) r vs := hr.tail.imp fun y hy u hyu => CR.step h2 (fun i hii => by
        have := hid y (List.mem_cons_of_mem _ hy) i hii
        intro he
        rw [List.mem_singleton] at he
        subst he
        exact this hn) hyu
      obtain ⟨g1, k1, k2, k3⟩ := births_ok r (n + 1) hi h1 hr' hhi (fun i hi1 hi2 => by rw [fup_ne (by omega)]; exact hf i (by omega) hi2)
        (fun id c hcc y hy i hii hb => by
          by_cases he : id = n
          · subst he; rw [fup_same] at hcc; cases hcc
          · rw [fup_ne he] at hcc
            refine hc id c hcc y hy i hii ?_
            rw [mem_bn] at hb ⊢
            omega)
        (fun y hy i hii hb => by
          refine hid y (List.mem_cons_of_mem _ hy) i hii ?_
          rw [mem_bn] at hb ⊢
          omega)
      refine ⟨g1, k1, (h2.trans k2).weaken ?_, .cons (CR.step k2 (fun i hii hb => ?_) ?_) k3⟩
      · intro i hi'
        rw [List.mem_append, List.mem_singleton, mem_bn] at hi'
        rw [mem_bn]
        omega
      · simp only [C.ids, List.mem_singleton] at hii
        subst hii
        rw [mem_bn] at hb
        omega
      · have hv : v = .slice none 0 0 := hr.head
        subst hv
        refine ⟨CR.toD (x := .nil) (g := g) (H := H) rfl, fun a b hab => ?_⟩
        rw [fup_same] at hab
        cases hab
        exact ⟨Nat.le_refl _, fun _ => ⟨(fup_same _ _ _).symm, fun e he => by cases he⟩⟩

section
variable {P : Program} {o : Oper} {a : Act} {w : World} {g : Gh} {H : HF} {f : Fr} {h : Hp} {nx : Nat} {K : Or} {draw : Bool}

/-- A box of given cells. -/
theorem boxed_ok (hi : HI w g H) {cs : List C} {vs : List Value} {e : TypeId} (hr : RelL (CR w g H) cs vs) {re : Re} (hre : boxed (births nx cs) = some re)
    (hfr : ∀ i, nx ≤ i → i < re.nx → H i = none) (hcl : Clean H (bn nx re.nx)) (hid : ∀ x ∈ cs, ∀ i ∈ x.ids, i ∉ bn nx re.nx)
    (hrun : (execOp a.eval o).run P w = .ok (.value (.pointer (some ⟨w.heap.size, 0, none⟩))) (w.alloc (.cells vs.toArray e))) : OpOk P o a w g H nx re := by
  simp only [boxed, Option.some.injEq] at hre
  subst hre
  simp only at hfr hcl hid
  have h0 := births_lo cs nx
  obtain ⟨g1, h1, h2, h3⟩ := births_ok cs nx ((births nx cs).2.2 + 1) hi hr (by omega) hfr hcl hid
  have hH : updF H (births nx cs).2.1 (births nx cs).2.2 = none := by
    rw [births_other cs nx H _ (by omega)]
    exact hfr _ h0 (by omega)
  have hc2 : Clean (updF H (births nx cs).2.1) [(births nx cs).2.2] := fun id c hc x hx i hii hb => by
    rw [List.mem_singleton] at hb
    subst hb
    exact hcl id c (births_arr cs nx H id c hc) x hx _ hii (mem_bn.2 ⟨h0, by omega⟩)
  obtain ⟨k1, k2⟩ := birthArr h1 hH hc2 (cells := (births nx cs).1) (cur := vs.toArray) (e := e) (by rw [h3.1]; simp) (fun i x hx => by
      obtain ⟨v, hv, hd⟩ := h3.get hx
      exact ⟨v, by simpa using hv, hd⟩) (fun x hx i hii hb => by
      rw [List.mem_singleton] at hb
      subst hb
      rcases births_ids cs nx x hx _ hii with ⟨y, hy, hyi⟩ | hlt
      · exact hid y hy _ hyi (mem_bn.2 ⟨h0, by omega⟩)
      · omega)
  refine ⟨_, _, { g1 with β := fup g1.β (births nx cs).2.2 w.heap.size }, .inl hrun, ?_, ?_, ?_⟩
  · rw [updF_append]; exact k1
  · rw [updF_append]
    refine (h2.trans k2).weaken fun i hi' => ?_
    rw [List.mem_append, List.mem_singleton, mem_bn] at hi'
    rw [mem_bn]
    simp only
    omega
  · intro cells hc
    simp only [fup_same]

theorem cells_one {v : Value} (h : v.oneCell' = true) : v.cells = #[v] := by cases v <;> first | rfl | cases h

theorem op_box (hi : HI w g H) {t : TypeId} {x : Operand} {x' : AO} (ho : o.op = .box t x) (h1 : compA x = some x') (hf : FRu w g H f a x'.us) {re : Re} (hre : evOp K draw f h nx (.box x') = some re)
    (hfr : ∀ i, nx ≤ i → i < re.nx → H i = none) (hcl : Clean H (bn nx re.nx)) (hid : ∀ s ∈ x'.us, ∀ i ∈ (f.get s).ids, i ∉ bn nx re.nx) : OpOk P o a w g H nx re := by
  have e1 := compA_ok h1 hf
  have hids := compA_ids h1 hid
  simp only [evOp] at hre
  split at hre
  · rename_i y hx
    rw [hx] at e1 hids
    refine boxed_ok hi (vs := [a.eval x]) (e := t) (.cons e1 .nil) hre hfr hcl (fun z hz i hii => ?_) ?_
    · rw [List.mem_singleton] at hz; subst hz; exact hids i hii
    · simp [execOp, ho, Instr.box, newVar, newRow, cells_one (CR.one e1)]
  · rename_i cs hx
    rw [hx] at e1 hids
    obtain ⟨vs, e2, hr⟩ := e1
    refine boxed_ok hi (vs := vs) (e := t) hr hre hfr hcl (fun z hz i hii => hids i (List.mem_flatMap.2 ⟨z, hz, hii⟩)) ?_
    simp [execOp, ho, e2, Instr.box, newVar, newRow, Value.cells]
  · cases hre

theorem zeroC_eq {t : TypeId} {zs : List C} (hz : zeroC P t = some zs) : ∃ info z, P.info? t = some info ∧ info.zero = some z ∧ cellsC z.cells.toList = some zs := by
  simp only [zeroC, bindO_eq] at hz
  obtain ⟨info, h1, z, h2, h3⟩ := hz
  exact ⟨info, z, h1, h2, h3⟩

theorem op_alloc (hi : HI w g H) {t : TypeId} (ho : o.op = .alloc t) {zs : List C} (hz : zeroC P t = some zs) {re : Re} (hre : evOp K draw f h nx (.alloc zs) = some re)
    (hfr : ∀ i, nx ≤ i → i < re.nx → H i = none) (hcl : Clean H (bn nx re.nx)) : OpOk P o a w g H nx re := by
  obtain ⟨info, z, h1, h2, h3⟩ := zeroC_eq hz
  obtain ⟨hr, hids⟩ := cellsC_ok (w := w) (g := g) (H := H) h3
  simp only [evOp] at hre
  refine boxed_ok hi (e := t) hr hre hfr hcl (fun x hx i hii => by rw [hids x hx] at hii; cases hii) ?_
  simp [execOp, ho, Instr.alloc, zeroValue, typeInfo, h1, h2, newVar, newRow]

/-! ### Parts -/
/-- A piece put over a list. -/
def seg {α : Type} (off : Nat) (l cs : List α) : List α := cs.take off ++ l ++ cs.drop (off + l.length)
theorem seg_length {α : Type} {off : Nat} {l cs : List α} (h : off + l.length ≤ cs.length) : (seg off l cs).length = cs.length := by simp [seg]; omega
theorem seg_get {α : Type} {off : Nat} {l cs : List α} (h : off + l.length ≤ cs.length) (k : Nat) : (seg off l cs)[k]? = if off ≤ k ∧ k < off + l.length then l[k - off]? else cs[k]? := by
  unfold seg
  by_cases h1 : k < off
  · rw [if_neg (by omega), List.append_assoc, List.getElem?_append_left (by simp; omega), List.getElem?_take, if_pos h1]
  · by_cases h2 : k < off + l.length
    · rw [if_pos (by omega), List.getElem?_append_left (by simp; omega), List.getElem?_append_right (by simp; omega), List.length_take, Nat.min_eq_left (by omega)]
    · rw [if_neg (by omega), List.getElem?_append_right (by simp; omega), List.getElem?_drop]
      congr 1
      simp
      omega
theorem seg_one {α : Type} {off : Nat} {x : α} {cs : List α} (h : off < cs.length) : seg off [x] cs = cs.set off x := by
  apply List.ext_getElem?
  intro k
  rw [seg_get (by simp; omega), List.getElem?_set]
  simp only [List.length_singleton]
  by_cases hk : k = off
  · subst hk
    simp [h]
  · rw [if_neg (by omega), if_neg (fun e => hk e.symm)]
theorem RelL.seg {α β : Type} {R : α → β → Prop} {l cs : List α} {us vs : List β} {off : Nat} (h : RelL R cs vs) (k : RelL R l us) (hl : off + l.length ≤ cs.length) : RelL R (seg off l cs) (seg off us vs) := by
  have := (h.take off).append k
  unfold Ev.seg
  rw [show off + us.length = off + l.length by rw [k.1]]
  exact this.append (h.drop _)

theorem putPart_ok {cs cs' : List C} {off sz : Nat} {x : AV} {v : Value} {vs : List Value} (hp : putPart cs off sz x = some cs') (hx : AVR w g H x v) (hr : RelL (CR w g H) cs vs) :
    v.cells.size = sz ∧ off + sz ≤ cs.length ∧ RelL (CR w g H) cs' (seg off v.cells.toList vs) ∧ (∀ u ∈ v.cells.toList, u.oneCell' = true) ∧ ∀ y ∈ cs', ∀ i ∈ y.ids, (∃ z ∈ cs, i ∈ z.ids) ∨ i ∈ x.ids := by
  unfold putPart at hp
  split at hp
  · rename_i y
    split at hp
    · rename_i hc
      cases hp
      have hc1 := cells_one (CR.one hx)
      rw [hc1]
      refine ⟨hc.1.symm, by omega, ?_, ?_, ?_⟩
      · rw [← seg_one hc.2]
        exact RelL.seg hr (.cons hx .nil) (by simp; omega)
      · intro u hu
        simp at hu
        subst hu
        exact CR.one hx
      · intro z hz i hii
        rcases List.mem_or_eq_of_mem_set hz with hz | rfl
        · exact .inl ⟨z, hz, hii⟩
        · exact .inr hii
    · cases hp
  · rename_i ys
    split at hp
    · rename_i hc
      cases hp
      obtain ⟨us, rfl, hu⟩ := hx
      have hl : us.length = ys.length := hu.1.symm
      refine ⟨by simp [Value.cells]; omega, hc.2, ?_, ?_, ?_⟩
      · have := RelL.seg hr hu (off := off) (by omega)
        unfold seg at this
        rw [hc.1] at this
        simpa [Value.cells, seg] using this
      · intro u hu'
        simp [Value.cells] at hu'
        obtain ⟨k, hk, rfl⟩ := List.getElem_of_mem hu'
        exact CR.one (hu.2 k (ys[k]'(by omega)) _ (List.getElem?_eq_getElem _) (List.getElem?_eq_getElem _))
      · intro z hz i hii
        simp only [List.mem_append] at hz
        rcases hz with (hz | hz) | hz
        · exact .inl ⟨z, List.mem_of_mem_take hz, hii⟩
        · exact .inr (List.mem_flatMap.2 ⟨z, hz, hii⟩)
        · exact .inl ⟨z, List.mem_of_mem_drop hz, hii⟩
    · cases hp
  · cases hp

theorem foldl_seg (off : Nat) : ∀ (l : List Value) (k : Nat) (cs : Array Value), off + k + l.length ≤ cs.size →
    (l.zipIdx k).foldl (fun (cs : Array Value) (e : Value × Nat) => cs.setIfInBounds (off + e.2) e.1) cs = (seg (off + k) l cs.toList).toArray
  | [], k, cs, h => by simp [seg]
  | x :: l, k, cs, h => by
    simp only [List.length_cons] at h
    rw [List.zipIdx_cons, List.foldl_cons, foldl_seg off l (k + 1) _ (by simp; omega)]
    apply Array.ext'
    simp only [Array.toList_setIfInBounds]
    apply List.ext_getElem?
    intro j
    rw [seg_get (by simp; omega), seg_get (by simp; omega), List.getElem?_set]
    simp only [List.length_cons, Array.length_toList]
    by_cases h1 : j = off + k
    · subst h1
      rw [if_neg (by omega), if_pos rfl, if_pos (by omega), if_pos (by omega)]
      simp
    · by_cases h2 : off + (k + 1) ≤ j ∧ j < off + (k + 1) + l.length
      · rw [if_pos h2, if_pos (by omega)]
        rw [show j - (off + k) = (j - (off + (k + 1))) + 1 by omega, List.getElem?_cons_succ]
      · rw [if_neg h2, if_neg (fun e => h1 e.symm), if_neg (by omega)]

theorem fill_step {pl : Nat → Option (Nat × Nat)} {i off sz : Nat} {v : Value} {vs : List Value} {rest : List (Nat × Value)} (hp : pl i = some (off, sz)) (hv : v.cells.size = sz) (hl : off + sz ≤ vs.length) :
    Instr.fill pl vs.toArray ((i, v) :: rest) = Instr.fill pl (seg off v.cells.toList vs).toArray rest := by
  have h1 : ¬ (v.cells.size ≠ sz ∨ off + v.cells.size > vs.toArray.size) := by simp; omega
  have e : v.cells.zipIdx.foldl (fun (cs : Array Value) (x : Value × Nat) => cs.setIfInBounds (off + x.2) x.1) vs.toArray = (seg off v.cells.toList vs).toArray := by
    rw [← Array.foldl_toList, Array.toList_zipIdx]
    have := foldl_seg off v.cells.toList 0 vs.toArray (by simp; omega)
    simpa using this
  simp only [Instr.fill, hp]
  have h2 : (v.cells.size != sz || decide (off + v.cells.size > vs.toArray.size)) = false := by
    simp
    omega
  split
  · rename_i hc
    exfalso
    simp at hc
    omega
  · rw [← e]
end
end Go.Proofs.Ytpanbfainilmpaa.Ev
end
section
/- Structs and slices built, own arrays written, slices made. -/
set_option linter.unusedVariables false
set_option linter.unusedSimpArgs false
namespace Go.Proofs.Ytpanbfainilmpaa.Ev
section
variable {P : Program} {o : Oper} {a : Act} {w : World} {g : Gh} {H : HF} {f : Fr} {h : Hp} {nx : Nat} {K : Or} {draw : Bool}

theorem fillParts_ok {t : TypeId} {pl : Nat → Option (Nat × Nat)} (hpl : ∀ i p, place1 P t i = some p → pl i = some p) : ∀ (ps : List (Nat × Operand)) (parts : List (Nat × Nat × AO)) (cs cs' : List C) (vs : List Value),
    compParts P t ps = some parts → putParts f cs parts = some cs' → RelL (CR w g H) cs vs → FRu w g H f a (parts.flatMap fun p => p.2.2.us) →
    ∃ vs' : List Value, Instr.fill pl vs.toArray (ps.map fun e => (e.1, a.eval e.2)) = some vs'.toArray ∧ RelL (CR w g H) cs' vs'
  | [], parts, cs, cs', vs, hc, hp, hr, hf => by
    simp only [compParts, Option.some.injEq] at hc
    subst hc
    simp only [putParts, Option.some.injEq] at hp
    subst hp
    exact ⟨vs, rfl, hr⟩
  | (i, x) :: ps, parts, cs, cs', vs, hc, hp, hr, hf => by
    simp only [compParts, bindO_eq] at hc
    obtain ⟨p, h1, y, h2, rest, h3, he⟩ := hc
    cases he
    simp only [putParts, bindV, bindO_eq] at hp
    obtain ⟨cs1, h4, h5⟩ := hp
    have e1 := compA_ok h2 (hf.sub fun s hs => by simp [hs])
    obtain ⟨k1, k2, k3, k4, k5⟩ := putPart_ok h4 e1 hr
    obtain ⟨vs', k6, k7⟩ := fillParts_ok hpl ps rest cs1 cs' _ h3 h5 k3 (hf.sub fun s hs => by simp only [List.flatMap_cons, List.mem_append]; exact .inr hs)
    refine ⟨vs', ?_, k7⟩
    rw [List.map_cons, fill_step (hpl i p h1) k1 (by rw [← hr.1]; exact k2)]
    exact k6

theorem op_build (hi : HI w g H) {t : TypeId} {ps : Array (Nat × Operand)} {zs : List C} {parts : List (Nat × Nat × AO)} (ho : o.op = .build t ps) (hz : zeroC P t = some zs) (hc : compParts P t ps.toList = some parts)
    (hpl : ∃ (fs : Array Field) (q : List (Nat × Nat)), (P.underlying t = some (.struct fs) ∧ (fs.toList.mapM fun f => (P.info? f.type).map fun i => (f.offset, i.size)) = some q) ∨ (∃ n e ie, P.underlying t = some (.array n e) ∧ P.info? e = some ie))
    (hf : FRu w g H f a (parts.flatMap fun p => p.2.2.us)) {re : Re} (hre : evOp K draw f h nx (.build zs parts) = some re) : OpOk P o a w g H nx re := by
  obtain ⟨info, z, h1, h2, h3⟩ := zeroC_eq hz
  obtain ⟨hr, _⟩ := cellsC_ok (w := w) (g := g) (H := H) h3
  simp only [evOp, bindO_eq] at hre
  obtain ⟨cs, hcs, hre⟩ := hre
  have := ok1_eq hre
  subst this
  have hmap : (ps.map fun (x : Nat × Operand) => (x.1, a.eval x.2)).toList = ps.toList.map fun e => (e.1, a.eval e.2) := by simp
  obtain ⟨fs, q, hq | ⟨n, e, ie, hu, hie⟩⟩ := hpl
  · obtain ⟨vs', k1, k2⟩ := fillParts_ok (P := P) (t := t) (pl := (q.toArray[·]?)) (fun i p hp => by
      simp only [place1, hq.1, hq.2, bindO] at hp
      simpa using hp) ps.toList parts zs cs z.cells.toList hc hcs hr hf
    refine OpOk.pure hi (v := .agg vs'.toArray) ?_ ⟨vs', rfl, k2⟩
    have hb : P.built t (ps.map fun (x : Nat × Operand) => (x.1, a.eval x.2)).toList = some vs'.toArray := by
      simp only [Program.built, h1, hq.1, h2, hq.2, hmap]
      simpa using k1
    have := run_build (P := P) w t _ _ hb
    simp [execOp, ho, this]
  · obtain ⟨vs', k1, k2⟩ := fillParts_ok (P := P) (t := t) (pl := fun i => some (i * ie.size, ie.size)) (fun i p hp => by
      simp only [place1, hu, hie, bindO] at hp
      simpa using hp) ps.toList parts zs cs z.cells.toList hc hcs hr hf
    refine OpOk.pure hi (v := .agg vs'.toArray) ?_ ⟨vs', rfl, k2⟩
    have hb : P.built t (ps.map fun (x : Nat × Operand) => (x.1, a.eval x.2)).toList = some vs'.toArray := by
      simp only [Program.built, h1, hu, h2, hie, hmap]
      simpa using k1
    have := run_build (P := P) w t _ _ hb
    simp [execOp, ho, this]

/-! ### Elements of one size -/
theorem flatten_len {α : Type} {sz : Nat} : ∀ {es : List (List α)}, (∀ e ∈ es, e.length = sz) → es.flatten.length = es.length * sz
  | [], _ => by simp
  | e :: es, h => by
    rw [List.flatten_cons, List.length_append, flatten_len (fun x hx => h x (List.mem_cons_of_mem _ hx)), h e List.mem_cons_self, List.length_cons, Nat.succ_mul, Nat.add_comm]
theorem flatten_get {α : Type} {sz : Nat} : ∀ {es : List (List α)}, (∀ e ∈ es, e.length = sz) → ∀ (i j : Nat), j < sz → es.flatten[i * sz + j]? = (es[i]?).bind (·[j]?)
  | [], _, i, j, _ => by simp
  | e :: es, h, i, j, hj => by
    have he := h e List.mem_cons_self
    cases i with
    | zero =>
      simp only [Nat.zero_mul, Nat.zero_add, List.flatten_cons, List.getElem?_cons_zero, Option.bind_some]
      rw [List.getElem?_append_left (by omega)]
    | succ i =>
      rw [List.flatten_cons, List.getElem?_append_right (by rw [he, Nat.succ_mul]; omega), he]
      rw [show (i + 1) * sz + j - sz = i * sz + j by rw [Nat.succ_mul]; omega]
      rw [flatten_get (fun x hx => h x (List.mem_cons_of_mem _ hx)) i j hj, List.getElem?_cons_succ]
theorem flatten_set {α : Type} {sz : Nat} {es : List (List α)} (h : ∀ e ∈ es, e.length = sz) {i : Nat} {l : List α} (hi : i < es.length) (hl : l.length = sz) : (es.set i l).flatten = seg (i * sz) l es.flatten := by
  have hfl := flatten_len h
  have hfit : i * sz + l.length ≤ es.flatten.length := by
    rw [hl, hfl, ← Nat.succ_mul]
    exact Nat.mul_le_mul_right _ hi
  have hset : ∀ e ∈ es.set i l, e.length = sz := fun e he => by
    rcases List.mem_or_eq_of_mem_set he with he | rfl
    · exact h e he
    · exact hl
  apply List.ext_getElem?
  intro k
  rw [seg_get hfit]
  rcases Nat.eq_zero_or_pos sz with h0 | h0
  · have e1 : (es.set i l).flatten = [] := List.eq_nil_of_length_eq_zero (by rw [flatten_len hset, h0, Nat.mul_zero])
    have e2 : es.flatten = [] := List.eq_nil_of_length_eq_zero (by rw [hfl, h0, Nat.mul_zero])
    have e3 : l = [] := List.eq_nil_of_length_eq_zero (by omega)
    rw [e1, e2, e3]
    simp
  · have hk : k = (k / sz) * sz + k % sz := by rw [Nat.mul_comm]; exact (Nat.div_add_mod k sz).symm
    have hm := Nat.mod_lt k h0
    generalize hq : k / sz = q at hk
    generalize hr : k % sz = r at hk hm
    subst hk
    rw [flatten_get hset q r hm, flatten_get h q r hm, List.getElem?_set]
    by_cases hqi : i = q
    · subst hqi
      rw [if_pos rfl, if_pos hi, if_pos (by omega), Nat.add_sub_cancel_left]
      simp
    · rw [if_neg hqi]
      have : ¬ (i * sz ≤ q * sz + r ∧ q * sz + r < i * sz + l.length) := by
        intro hc
        rw [hl] at hc
        rcases Nat.lt_or_gt_of_ne hqi with hlt | hgt
        · have : (i + 1) * sz ≤ q * sz := Nat.mul_le_mul_right _ hlt
          rw [Nat.succ_mul] at this
          omega
        · have : (q + 1) * sz ≤ i * sz := Nat.mul_le_mul_right _ hgt
          rw [Nat.succ_mul] at this
          omega
      rw [if_neg this]

theorem litElems_ok {sz : Nat} : ∀ (ps : List (Nat × Operand)) (parts : List (Nat × AO)) (es es' : List (List C)) (vs : List Value),
    compParts2 ps = some parts → litElems f sz es parts = some es' → (∀ e ∈ es, e.length = sz) → RelL (CR w g H) es.flatten vs → FRu w g H f a (parts.flatMap fun p => p.2.us) →
    ∃ vs' : List Value, Instr.fill (fun i => some (i * sz, sz)) vs.toArray (ps.map fun e => (e.1, a.eval e.2)) = some vs'.toArray ∧ RelL (CR w g H) es'.flatten vs' ∧ (∀ e ∈ es', e.length = sz) ∧ es'.length = es.length ∧
      ∀ e ∈ es', ∀ x ∈ e, ∀ i ∈ x.ids, (∃ e0 ∈ es, ∃ y ∈ e0, i ∈ y.ids) ∨ ∃ s ∈ parts.flatMap fun p => p.2.us, i ∈ (f.get s).ids
  | [], parts, es, es', vs, hc, hp, hs, hr, hf => by
    simp only [compParts2, Option.some.injEq] at hc
    subst hc
    simp only [litElems, Option.some.injEq] at hp
    subst hp
    exact ⟨vs, rfl, hr, hs, rfl, fun e he x hx i hi => .inl ⟨e, he, x, hx, hi⟩⟩
  | (i, x) :: ps, parts, es, es', vs, hc, hp, hs, hr, hf => by
    simp only [compParts2, bindO_eq] at hc
    obtain ⟨y, h2, rest, h3, he⟩ := hc
    cases he
    simp only [litElems, bindV, bindO_eq] at hp
    obtain ⟨cs, h4, h5⟩ := hp
    split at h5
    case isFalse => cases h5
    rename_i hlt
    have e1 := compA_ok h2 (hf.sub fun s hs => by simp [hs])
    -- one element
    have hcl : cs.length = sz := by
      unfold cellsOf at h4
      split at h4
      · split at h4
        · cases h4; simp; omega
        · cases h4
      · split at h4
        · rename_i hl; cases h4; exact hl
        · cases h4
      · cases h4
    have hput : putPart es.flatten (i * sz) sz (y.ev f) = some (seg (i * sz) cs es.flatten) := by
      have hfit : i * sz + sz ≤ es.flatten.length := by
        rw [flatten_len hs, ← Nat.succ_mul]
        exact Nat.mul_le_mul_right _ hlt
      unfold cellsOf at h4
      unfold putPart
      split at h4
      · rename_i z hz
        split at h4
        · rename_i h1
          cases h4
          rw [if_pos ⟨h1, by omega⟩, seg_one (by omega)]
        · cases h4
      · rename_i zs hz
        split at h4
        · rename_i h1
          cases h4
          rw [if_pos ⟨h1, hfit⟩]
          simp [seg, h1]
        · cases h4
      · cases h4
    obtain ⟨k1, k2, k3, k4, k5⟩ := putPart_ok hput e1 hr
    rw [← flatten_set hs hlt hcl] at k3
    have hs2 : ∀ e ∈ es.set i cs, e.length = sz := fun e he => by
      rcases List.mem_or_eq_of_mem_set he with he | rfl
      · exact hs e he
      · exact hcl
    obtain ⟨vs', k6, k7, k8, k9, k10⟩ := litElems_ok ps rest _ es' _ h3 h5 hs2 k3 (hf.sub fun s hs => by simp only [List.flatMap_cons, List.mem_append]; exact .inr hs)
    refine ⟨vs', ?_, k7, k8, by rw [k9, List.length_set], fun e he z hz j hj => ?_⟩
    · rw [List.map_cons, fill_step (pl := fun i => some (i * sz, sz)) rfl k1 (by rw [← hr.1]; exact k2)]
      exact k6
    · rcases k10 e he z hz j hj with ⟨e0, he0, y', hy', hj'⟩ | ⟨s, hs', hj'⟩
      · rcases List.mem_or_eq_of_mem_set he0 with he0 | rfl
        · exact .inl ⟨e0, he0, y', hy', hj'⟩
        · have : y' ∈ seg (i * sz) e0 es.flatten := by simp only [seg, List.mem_append]; exact .inl (.inr hy')
          rcases k5 y' this j hj' with ⟨z0, hz0, hj0⟩ | hj0
          · obtain ⟨e1', he1', hz1⟩ := List.mem_flatten.1 hz0
            exact .inl ⟨e1', he1', z0, hz1, hj0⟩
          · refine .inr ?_
            cases x with
            | tmp tt =>
              simp only [compA, Option.some.injEq] at h2
              subst h2
              exact ⟨tt, by simp [AO.us], hj0⟩
            | const v =>
              simp only [compA, bindO_eq] at h2
              obtain ⟨c, hc, he⟩ := h2
              cases he
              simp only [AO.ev, AV.ids, cellC_ids hc] at hj0
              cases hj0
            | func n => simp only [compA, Option.some.injEq] at h2; subst h2; simp [AO.ev, AV.ids, C.ids] at hj0
            | «global» n => simp [compA] at h2
      · exact .inr ⟨s, by simp only [List.flatMap_cons, List.mem_append]; exact .inr hs', hj'⟩

theorem madeZero {zs : Array Value} (n : Nat) (h0 : 0 < zs.size) : ((Array.range (n * zs.size)).map (zs[· % zs.size]!)).toList = (List.replicate n zs.toList).flatten := by
  apply List.ext_getElem?
  intro k
  have hsz : ∀ e ∈ List.replicate n zs.toList, e.length = zs.size := fun e he => by rw [List.eq_of_mem_replicate he]; simp
  have hk : k = (k / zs.size) * zs.size + k % zs.size := by rw [Nat.mul_comm]; exact (Nat.div_add_mod k _).symm
  have hm := Nat.mod_lt k h0
  rw [show (List.replicate n zs.toList).flatten[k]? = (List.replicate n zs.toList).flatten[(k / zs.size) * zs.size + k % zs.size]? by rw [← hk], flatten_get hsz _ _ hm]
  simp only [Array.toList_map, Array.toList_range, List.getElem?_map, List.getElem?_replicate]
  by_cases hlt : k < n * zs.size
  · have : k / zs.size < n := (Nat.div_lt_iff_lt_mul h0).2 hlt
    rw [List.getElem?_range hlt, if_pos this]
    simp [hm]
  · have : ¬ k / zs.size < n := fun h => hlt ((Nat.div_lt_iff_lt_mul h0).1 h)
    rw [List.getElem?_eq_none (by simp; omega), if_neg this]
    rfl
end
end Go.Proofs.Ytpanbfainilmpaa.Ev
end
section
/- Slices made, cut, grown, copied; own arrays written. -/
set_option linter.unusedVariables false
set_option linter.unusedSimpArgs false
namespace Go.Proofs.Ytpanbfainilmpaa.Ev

theorem RelL.flatten_rep {α β : Type} {R : α → β → Prop} {xs : List α} {vs : List β} (h : RelL R xs vs) : ∀ n, RelL R (List.replicate n xs).flatten (List.replicate n vs).flatten
  | 0 => by simpa using RelL.nil
  | n + 1 => by
    simp only [List.replicate_succ, List.flatten_cons]
    exact h.append (RelL.flatten_rep h n)

theorem mapD_get {es : List (List C)} {i j : Nat} {x : List D} {y : D} (hx : (es.map (·.map C.toD))[i]? = some x) (hy : x[j]? = some y) : ∃ e c, es[i]? = some e ∧ e[j]? = some c ∧ y = c.toD := by
  rw [List.getElem?_map] at hx
  obtain ⟨e, he, rfl⟩ := Option.map_eq_some_iff.1 hx
  rw [List.getElem?_map] at hy
  obtain ⟨c, hc, rfl⟩ := Option.map_eq_some_iff.1 hy
  exact ⟨e, c, he, hc, rfl⟩

section
variable {P : Program} {o : Oper} {a : Act} {w : World} {g : Gh} {H : HF} {f : Fr} {h : Hp} {nx : Nat} {K : Or} {draw : Bool}

theorem run_bsl {t e : TypeId} {n sz : Nat} {info : TypeInfo} {z : Value} (ht : P.underlying t = some (.slice e)) (hi : P.info? e = some info) (hz : info.zero = some z) (hsz : info.size = sz) (h0 : 0 < sz) (hzl : z.cells.size = sz) (hlim : n * sz ≤ 2 ^ 24)
    {parts : Array (Nat × Value)} {cells : List Value} (hf : Instr.fill (fun i => some (i * sz, sz)) (List.replicate n z.cells.toList).flatten.toArray parts.toList = some cells.toArray) :
    (Instr.buildSlice t n parts).run P w = .ok (.slice (some ⟨w.heap.size, 0, none⟩) n n) (w.alloc (.cells cells.toArray e)) := by
  have hm := madeZero (zs := z.cells) n (by omega)
  rw [hzl] at hm
  have hm' : (Array.range (n * sz)).map (fun i => z.cells[i % z.cells.size]!) = (List.replicate n z.cells.toList).flatten.toArray := by
    apply Array.ext'
    rw [hzl]
    simpa using hm
  have hlim' : ¬ (16777216 < n * sz) := by simpa using hlim
  by_cases hn : n * sz = 0
  · have hn0 : n = 0 := by
      rcases Nat.mul_eq_zero.1 hn with h | h <;> omega
    subst hn0
    simp only [List.replicate_zero, List.flatten_nil] at hf
    simp [Instr.buildSlice, run_underlying ht, sizeOf, typeInfo, hi, hsz, hf, newRow, Array.range_zero']
  · simp only [Instr.buildSlice, Sem.run_bind, run_underlying ht, Result.andThen_ok, sizeOf, typeInfo, run_program, hi, Sem.run_pure, hsz]
    simp [hlim', hn, zeroValue, typeInfo, hi, hz, hf, newRow, hm']

theorem op_bsl (hi : HI w g H) {t e : TypeId} {n : Nat} {ps : Array (Nat × Operand)} {zs : List C} {parts : List (Nat × AO)} {mu : Bool} (ho : o.op = .buildSlice t n ps) (ht : elemT P t = some e) (hz : zeroC P e = some zs) (hzl : zs.length = szOf P e) (h0 : 0 < szOf P e) (hlim : n * szOf P e ≤ 2 ^ 24)
    (hc : compParts2 ps.toList = some parts) (hf : FRu w g H f a (parts.flatMap fun p => p.2.us)) {re : Re} (hre : evOp K draw f h nx (.bsl mu (szOf P e) n zs parts) = some re)
    (hfr : ∀ i, nx ≤ i → i < re.nx → H i = none) (hcl : Clean H (bn nx re.nx)) (hid : ∀ s ∈ parts.flatMap fun p => p.2.us, ∀ i ∈ (f.get s).ids, i ∉ bn nx re.nx) : OpOk P o a w g H nx re := by
  obtain ⟨info, z, h1, h2, h3⟩ := zeroC_eq hz
  obtain ⟨hr, hids⟩ := cellsC_ok (w := w) (g := g) (H := H) h3
  have hsz : info.size = szOf P e := by simp [szOf, h1]
  have hzc : z.cells.size = szOf P e := by rw [← hzl, hr.1]; simp
  simp only [evOp, bindO_eq] at hre
  obtain ⟨es, hes, hre⟩ := hre
  have hs0 : ∀ x ∈ List.replicate n zs, x.length = szOf P e := fun x hx => by rw [List.eq_of_mem_replicate hx]; exact hzl
  obtain ⟨vs, k1, k2, k3, k4, k5⟩ := litElems_ok ps.toList parts (List.replicate n zs) es _ hc hes hs0 (RelL.flatten_rep hr n) hf
  have k4' : es.length = n := by rw [k4]; simp
  have hmap : (ps.map fun (x : Nat × Operand) => (x.1, a.eval x.2)).toList = ps.toList.map fun e => (e.1, a.eval e.2) := by simp
  have hrun := run_bsl (P := P) (w := w) (elemT_und ht) h1 h2 hsz h0 hzc hlim (parts := ps.map fun (x : Nat × Operand) => (x.1, a.eval x.2)) (cells := vs) (by rw [hmap]; exact k1)
  have hexec : (execOp a.eval o).run P w = .ok (.value (.slice (some ⟨w.heap.size, 0, none⟩) n n)) (w.alloc (.cells vs.toArray e)) := by
    simp [execOp, ho, hrun]
  have hvl : vs.length = n * szOf P e := by rw [← k2.1, flatten_len k3, k4']
  split at hre
  · cases hre
    simp only at hfr hcl hid
    rw [bn_one] at hcl hid
    obtain ⟨q1, q2⟩ := birthArr hi (hfr nx (Nat.le_refl _) (by omega)) hcl (cells := es.flatten) (cur := vs.toArray) (e := e) (by rw [k2.1]; simp) (fun i x hx => by
        obtain ⟨v, hv, hd⟩ := k2.get hx
        exact ⟨v, by simpa using hv, hd⟩) (fun x hx i hii => by
        obtain ⟨e1, he1, hx1⟩ := List.mem_flatten.1 hx
        rcases k5 e1 he1 x hx1 i hii with ⟨e0, he0, y, hy, hyi⟩ | ⟨s, hs, hsi⟩
        · rw [List.eq_of_mem_replicate he0] at hy
          rw [hids y hy] at hyi
          cases hyi
        · exact hid s hs i hsi)
    refine ⟨_, _, { g with β := fup g.β nx w.heap.size }, .inl hexec, q1, by rw [bn_one]; exact q2, fun cells hcells => ⟨_, _, rfl, Nat.le_refl _, fun _ => by simp only [fup_same]⟩⟩
  · cases hre
    simp only at hfr hcl hid
    rw [bn_one] at hcl
    have hml : (es.map (·.map C.toD)).length = n := by simp [k4']
    have hms : ∀ x ∈ es.map (·.map C.toD), x.length = szOf P e := fun x hx => by
      obtain ⟨y, hy, rfl⟩ := List.mem_map.1 hx
      simp [k3 y hy]
    obtain ⟨q1, q2, q3⟩ := birthRow hi (hfr nx (Nat.le_refl _) (by omega)) hcl (es := es.map (·.map C.toD)) (cur := vs.toArray) (e := e) (cap := n) h0 (by omega) (by simp; omega) hms (fun i x j y hx hy => by
      obtain ⟨e1, c1, he1, hc1, rfl⟩ := mapD_get hx hy
      have hjl : j < szOf P e := by rw [← k3 e1 (List.mem_of_getElem? he1)]; exact (List.getElem?_eq_some_iff.1 hc1).1
      have hfg := flatten_get k3 i j hjl
      rw [he1, Option.bind_some, hc1] at hfg
      obtain ⟨v, hv, hd⟩ := k2.get hfg
      exact ⟨v, by simpa using hv, CR.toD hd⟩)
    rw [hml] at q1 q2 q3
    refine ⟨_, _, _, .inl hexec, q1, by rw [bn_one]; exact q2, q3, fun m s hm => ?_⟩
    simp only [updF, fup_same] at hm
    cases hm
    exact ⟨by simp [k4'], fun _ => ⟨(fup_same _ _ _).symm, hms⟩⟩

/-- Stores. -/
theorem birthV_ok (hi : HI w g H) {v : AV} {u : Value} (hv : AVR w g H v u) (hf : ∀ i, nx ≤ i → i < (birthV nx v).2.2 → H i = none) (hc : Clean H (bn nx (birthV nx v).2.2)) (hid : ∀ i ∈ v.ids, i ∉ bn nx (birthV nx v).2.2) :
    ∃ g1, HI w g1 (updF H (birthV nx v).2.1) ∧ Stp (bn nx (birthV nx v).2.2) w g H w g1 (updF H (birthV nx v).2.1) ∧ AVR w g1 (updF H (birthV nx v).2.1) (birthV nx v).1 u := by
  have plain : birthV nx v = (v, [], nx) → ∃ g1, HI w g1 (updF H (birthV nx v).2.1) ∧ Stp (bn nx (birthV nx v).2.2) w g H w g1 (updF H (birthV nx v).2.1) ∧ AVR w g1 (updF H (birthV nx v).2.1) (birthV nx v).1 u := by
    intro he
    rw [he]
    exact ⟨g, hi, by rw [bn_self]; exact Stp.refl w g H, hv⟩
  cases v with
  | c x =>
    cases x with
    | nil =>
      obtain ⟨g1, h1, h2, h3⟩ := births_ok [.nil] nx (nx + 1) hi (vs := [u]) (.cons hv .nil) (Nat.le_refl _) hf hc (fun x hx i hii => by rw [List.mem_singleton] at hx; subst hx; simp [C.ids] at hii)
      exact ⟨g1, h1, h2, h3.head⟩
    | d y => exact plain rfl
    | gr t es => exact plain rfl
  | ag cs =>
    obtain ⟨vs, hu, hr⟩ := hv
    obtain ⟨g1, h1, h2, h3⟩ := births_ok cs nx (births nx cs).2.2 hi hr (Nat.le_refl _) hf hc (fun x hx i hii => hid i (List.mem_flatMap.2 ⟨x, hx, hii⟩))
    exact ⟨g1, h1, h2, vs, hu, h3⟩
  | _ => exact plain rfl
theorem birthV_lo (v : AV) : nx ≤ (birthV nx v).2.2 := by
  cases v with
  | c x => cases x <;> simp [birthV]
  | ag cs => exact births_lo cs nx
  | _ => exact Nat.le_refl _
theorem birthV_other (v : AV) (H : HF) {id : Nat} (h : ¬ (nx ≤ id ∧ id < (birthV nx v).2.2)) : updF H (birthV nx v).2.1 id = H id := by
  cases v with
  | c x =>
    cases x with
    | nil => exact births_other [.nil] nx H id h
    | d y => rfl
    | gr t es => rfl
  | ag cs => exact births_other cs nx H id h
  | _ => rfl
theorem op_st (hi : HI w g H) {t : TypeId} {x y : Operand} {x' y' : AO} (ho : o.op = .store t x y) (h1 : compA x = some x') (h2 : compA y = some y') (h0 : 0 < szOf P t) (hf : FRu w g H f a (x'.us ++ y'.us)) {re : Re}
    (hre : evOp K draw f h nx (.st (szOf P t) x' y') = some re) (hrd : ∀ id ∈ re.r, H id = h.get id) (hfr : ∀ i, nx ≤ i → i < re.nx → H i = none) (hcln : Clean H (bn nx re.nx)) (hid : ∀ s ∈ x'.us ++ y'.us, ∀ i ∈ (f.get s).ids, i ∉ bn nx re.nx) : OpOk P o a w g H nx re := by
  have e1 := compA_ok h1 (hf.sub fun s hs => by simp [hs])
  have e2 := compA_ok h2 (hf.sub fun s hs => by simp [hs])
  have i1 := compA_ids h1 (B := bn nx re.nx) fun s hs i hii => hid s (by simp [hs]) i hii
  have i2 := compA_ids h2 (B := bn nx re.nx) fun s hs i hii => hid s (by simp [hs]) i hii
  obtain ⟨info, hinfo, hsz⟩ := sz_info h0
  simp only [evOp] at hre
  split at hre
  case h_2 => cases hre
  rename_i id off hx
  rw [hx] at e1 i1
  split at hre
  case h_2 => cases hre
  rename_i cells hcells
  simp only [bindV, bindO_eq] at hre
  obtain ⟨cs, hcs, hre⟩ := hre
  cases hre
  obtain ⟨g1, hi1, st1, e2'⟩ := birthV_ok hi e2 hfr hcln i2
  have hH0 : H id = some (.arr cells) := (hrd id (by simp)).trans hcells
  have hH : updF H (birthV nx (y'.ev f)).2.1 id = some (.arr cells) := by
    rw [birthV_other _ H (fun hc => by have := hfr id hc.1 hc.2; rw [hH0] at this; cases this)]
    exact hH0
  have e1' : AVR w g1 (updF H (birthV nx (y'.ev f)).2.1) (.ptr id off) (a.eval x) := AVR.step st1 i1 e1
  have e3 := e1' cells hH
  obtain ⟨cur, e, k1, k2, k3, k4⟩ := hi1.arr id cells hH
  have hrel : RelL (CR w g1 (updF H (birthV nx (y'.ev f)).2.1)) cells (cur.toList.take cells.length) := ⟨by simp; omega, fun i c v hc hv => by
    rw [List.getElem?_take] at hv
    split at hv
    · rw [Array.getElem?_toList] at hv
      obtain ⟨u, hu, hd⟩ := k3 i c hc
      rw [hv] at hu; cases hu; exact hd
    · cases hv⟩
  obtain ⟨q1, q2, q3, q4, _⟩ := putPart_ok hcs e2' hrel
  have hfit : off + (a.eval y).cells.toList.length ≤ cur.size := by simp; omega
  have hrun := run_storeCells_at P (g1.β id) off e (a.eval y).cells.toList 0 cur w k1 (by simpa using hfit) q4
  simp only [Nat.add_zero] at hrun
  have hseg : cur.toList.take off ++ (a.eval y).cells.toList ++ cur.toList.drop (off + (a.eval y).cells.toList.length) = seg off (a.eval y).cells.toList cur.toList := rfl
  rw [hseg] at hrun
  have hcl : cs.length = cells.length := by rw [q3.1, seg_length (by simp; omega)]; simp; omega
  obtain ⟨r1, r2⟩ := storeArr hi1 hH k1 (cells2 := cs) (cur2 := (seg off (a.eval y).cells.toList cur.toList).toArray) hcl (by rw [hcl]; simp [seg_length hfit]; omega) (fun i c hc => by
    obtain ⟨v, hv, hd⟩ := q3.get hc
    refine ⟨v, ?_, hd⟩
    have hil : i < cells.length := by rw [← hcl]; exact (List.getElem?_eq_some_iff.1 hc).1
    simp only [List.getElem?_toArray]
    rw [seg_get (by simp; omega)] at hv
    rw [seg_get hfit, ← hv]
    split
    · rfl
    · rw [List.getElem?_take, if_pos hil])
  refine ⟨undef, w.setRow (g1.β id) (seg off (a.eval y).cells.toList cur.toList).toArray, g1, .inr ⟨?_, rfl⟩, (by rw [updF_append]; exact r1), (by rw [updF_append]; exact (st1.trans r2).weaken fun i hi => by simpa using hi), trivial⟩
  have hsz' : ¬ ((a.eval y).cells.size ≠ info.size) := by omega
  simp [execOp, ho, e3, Instr.storeAt, Instr.sureAddr, storeVar, sizeOf, typeInfo, hinfo, hsz, q1, hrun]

theorem op_mks (hi : HI w g H) {t e : TypeId} {l c : Operand} {l' c' : AO} {zs : List C} {mu : Bool} (ho : o.op = .makeSlice t l c) (ht : elemT P t = some e) (hz : zeroC P e = some zs) (h0 : 0 < szOf P e) (hzl : zs.length = szOf P e) (hb0 : 0 < byOf P e) (h1 : compA l = some l') (h2 : compA c = some c')
    (hf : FRu w g H f a (l'.us ++ c'.us)) {re : Re} (hre : evOp K draw f h nx (.mks mu (szOf P e) (byOf P e) zs l' c') = some re) (hfr : ∀ i, nx ≤ i → i < re.nx → H i = none) (hcl : Clean H (bn nx re.nx)) : OpOk P o a w g H nx re := by
  obtain ⟨info, z, q1, q2, q3⟩ := zeroC_eq hz
  obtain ⟨hr, hids⟩ := cellsC_ok (w := w) (g := g) (H := H) q3
  have hsz : info.size = szOf P e := by simp [szOf, q1]
  have hby : info.bytes = byOf P e := by simp [byOf, q1]
  have hzc : z.cells.size = szOf P e := by rw [← hzl, hr.1]; simp
  simp only [evOp, bindO_eq] at hre
  obtain ⟨n, hn, m, hm, hre⟩ := hre
  split at hre
  case isFalse => cases hre
  rename_i hcond
  obtain ⟨c1, c2, c3, c4⟩ := hcond
  have e1 := asInt_val hn (compA_ok h1 (hf.sub fun s hs => by simp [hs]))
  have e2 := asInt_val hm (compA_ok h2 (hf.sub fun s hs => by simp [hs]))
  have hbd : m.2 * (info.bytes : Int) ≤ 140737488355328 := by rw [hby]; exact c3
  have h63 : m.2 ≤ 9223372036854775807 := by
    have h5 : m.2 * 1 ≤ m.2 * (info.bytes : Int) := Int.mul_le_mul_of_nonneg_left (by omega) (by omega)
    omega
  have hrun := run_make (P := P) w t e info z (elemT_und ht) q1 q2 n.1 m.1 n.2 m.2 c1 c2 (by rw [Int.mul_comm]; omega) h63
  rw [hsz] at hrun
  have hcells : madeCells z.cells (m.2.toNat * szOf P e) = (List.replicate m.2.toNat z.cells.toList).flatten.toArray := by
    apply Array.ext'
    have := madeZero (zs := z.cells) m.2.toNat (by omega)
    rw [hzc] at this
    simp only [madeCells]
    rw [hzc]
    simpa using this
  rw [hcells] at hrun
  have hexec : (execOp a.eval o).run P w = .ok (.value (.slice (some ⟨w.heap.size, 0, none⟩) n.2.toNat m.2.toNat)) (w.alloc (.cells (List.replicate m.2.toNat z.cells.toList).flatten.toArray e)) := by
    simp [execOp, ho, e1, e2, hrun]
  have hrl := RelL.flatten_rep hr m.2.toNat
  have hsrep : ∀ k, ∀ x ∈ List.replicate k zs, x.length = szOf P e := fun k x hx => by rw [List.eq_of_mem_replicate hx]; exact hzl
  have hsv : ∀ x ∈ List.replicate m.2.toNat z.cells.toList, x.length = szOf P e := fun x hx => by rw [List.eq_of_mem_replicate hx]; simpa using hzc
  split at hre
  · split at hre
    case isFalse => cases hre
    rename_i hnm
    cases hre
    simp only at hfr hcl
    rw [bn_one] at hcl
    obtain ⟨k1, k2⟩ := birthArr hi (hfr nx (Nat.le_refl _) (by omega)) hcl (cells := (List.replicate n.2.toNat zs).flatten) (cur := (List.replicate m.2.toNat z.cells.toList).flatten.toArray) (e := e)
      (by rw [hnm, hrl.1]; simp) (fun i x hx => by
        rw [hnm] at hx
        obtain ⟨v, hv, hd⟩ := hrl.get hx
        exact ⟨v, by simpa using hv, hd⟩) (fun x hx i hii => by
        obtain ⟨e1, he1, hx1⟩ := List.mem_flatten.1 hx
        rw [List.eq_of_mem_replicate he1] at hx1
        rw [hids x hx1] at hii
        cases hii)
    refine ⟨_, _, { g with β := fup g.β nx w.heap.size }, .inl hexec, k1, by rw [bn_one]; exact k2, fun cells hcells => ⟨_, _, rfl, by omega, fun _ => by simp only [fup_same]⟩⟩
  · cases hre
    simp only at hfr hcl
    rw [bn_one] at hcl
    have hms : ∀ x ∈ List.replicate n.2.toNat (zs.map C.toD), x.length = szOf P e := fun x hx => by rw [List.eq_of_mem_replicate hx]; simpa using hzl
    obtain ⟨k1, k2, k3⟩ := birthRow hi (hfr nx (Nat.le_refl _) (by omega)) hcl (es := List.replicate n.2.toNat (zs.map C.toD)) (cur := (List.replicate m.2.toNat z.cells.toList).flatten.toArray) (e := e) (cap := m.2.toNat) h0
      (by simp; omega) (by simp only [List.size_toArray]; rw [flatten_len hsv]; simp) hms (fun i x j y hx hy => by
        have hil : i < n.2.toNat := by have := (List.getElem?_eq_some_iff.1 hx).1; simpa using this
        have hx' : x = zs.map C.toD := List.eq_of_mem_replicate (List.mem_of_getElem? hx)
        subst hx'
        rw [List.getElem?_map] at hy
        obtain ⟨cc, hcc, rfl⟩ := Option.map_eq_some_iff.1 hy
        have hjl : j < szOf P e := by rw [← hzl]; exact (List.getElem?_eq_some_iff.1 hcc).1
        have hfg := flatten_get (hsrep m.2.toNat) i j hjl
        rw [List.getElem?_replicate, if_pos (by omega), Option.bind_some, hcc] at hfg
        obtain ⟨v, hv, hd⟩ := hrl.get hfg
        exact ⟨v, by simpa using hv, CR.toD hd⟩)
    simp only [List.length_replicate] at k1 k2 k3
    refine ⟨_, _, _, .inl hexec, k1, by rw [bn_one]; exact k2, k3, fun mm s hm => ?_⟩
    simp only [updF, fup_same] at hm
    cases hm
    exact ⟨by simp, fun _ => ⟨(fup_same _ _ _).symm, hms⟩⟩
end
end Go.Proofs.Ytpanbfainilmpaa.Ev
end
section
/- Slices cut, grown, copied; structs compared. -/
set_option linter.unusedVariables false
set_option linter.unusedSimpArgs false
namespace Go.Proofs.Ytpanbfainilmpaa.Ev

/-- A piece of a slice by value. -/
theorem DR.piece {w : World} {S : Nat → Nat → Prop} {es : List (List D)} {p : Option Addr} {n c sz l m : Nat} (h : DR w S (.sl es) (.slice p n c)) (hsz : ∀ e ∈ es, e.length = sz) (h1 : l ≤ m) (h2 : m ≤ es.length) :
    DR w S (.sl ((es.take m).drop l)) (.slice (if c = l then p else p.map (·.add (l * sz))) (m - l) (c - l)) := by
  cases h with
  | @sl _ _ _ _ sz' b oo vs hn hc hsz' ha hr =>
    have hget : ∀ (i : Nat) (e : List D), ((es.take m).drop l)[i]? = some e → es[l + i]? = some e ∧ l + i < m := by
      intro i e he
      rw [List.getElem?_drop, List.getElem?_take] at he
      split at he
      · rename_i hlt; exact ⟨he, hlt⟩
      · cases he
    refine .sl (sz := sz') (b := b) (o := oo + l * sz') (fun i j => vs (l + i) j) (by simp; omega) (by omega) (fun i e he => hsz' _ e (hget i e he).1) (fun i e j x he hx => ?_) (fun i e j x he hx => hr _ e j x (hget i e he).1 hx)
    obtain ⟨k1, k2⟩ := hget i e he
    obtain ⟨q1, q2, q3⟩ := ha _ e j x k1 hx
    have hss : sz' = sz := (hsz' _ e k1).symm.trans (hsz e (List.mem_of_getElem? k1))
    have hne : ¬ c = l := by omega
    rw [if_neg hne, q1]
    have e1 : oo + l * sz' + (i * sz' + j) = oo + ((l + i) * sz' + j) := by rw [Nat.add_mul]; omega
    rw [e1]
    refine ⟨?_, q2, q3⟩
    rw [← hss, Option.map_some, add_none]

section
variable {P : Program} {o : Oper} {a : Act} {w : World} {g : Gh} {H : HF} {f : Fr} {h : Hp} {nx : Nat} {K : Or} {draw : Bool}

theorem run_slc {t e : TypeId} {info : TypeInfo} (ht : P.underlying t = some (.slice e)) (hi : P.info? e = some info) {p : Option Addr} {n c : Nat} (hnc : n ≤ c) {lo hi' : Option Value} {l m : Int}
    (hlo : (lo = none ∧ l = 0) ∨ ∃ k, lo = some (.int k l)) (hhi : (hi' = none ∧ m = n) ∨ ∃ k, hi' = some (.int k m)) (h0 : 0 ≤ l) (h1 : l ≤ m) (h2 : m ≤ (n : Int)) :
    (Instr.sliceAt t (.slice p n c) lo hi' none).run P w = .ok (.slice (if c = l.toNat then p else p.map (·.add (l.toNat * info.size))) (m.toNat - l.toNat) (c - l.toNat)) w := by
  have hm0 : 0 ≤ m := by omega
  have hmc : m ≤ (c : Int) := by omega
  have hmt : (m.toNat : Int) = m := Int.toNat_of_nonneg hm0
  have hlm : l ≤ (m.toNat : Int) := by omega
  rcases hlo with ⟨rfl, rfl⟩ | ⟨k, rfl⟩ <;> rcases hhi with ⟨rfl, rfl⟩ | ⟨k', rfl⟩ <;>
    simp [Instr.sliceAt, Instr.slice, run_underlying ht, Instr.sliceBounds, Instr.sliceBound, asIntOf, sizeOf, typeInfo, hi, h0, hm0, hmc, hlm, hmt, h1, h2]

theorem compO_ok {x : Option Operand} {y : Option AO} (h : compO x = some y) : (x = none ∧ y = none) ∨ ∃ p q, x = some p ∧ y = some q ∧ compA p = some q := by
  unfold compO at h
  split at h
  · cases h; exact .inl ⟨rfl, rfl⟩
  · simp only [bindO_eq] at h
    obtain ⟨q, hq, he⟩ := h
    cases he
    exact .inr ⟨_, _, rfl, rfl, hq⟩

theorem op_slc (hi : HI w g H) {t e : TypeId} {x : Operand} {lo hh : Option Operand} {x' : AO} {lo' hh' : Option AO} (ho : o.op = .slice t x lo hh none) (ht : elemT P t = some e) (h0 : 0 < szOf P e) (h1 : compA x = some x') (h2 : compO lo = some lo') (h3 : compO hh = some hh')
    (hf : FRu w g H f a (x'.us ++ usO lo' ++ usO hh')) {re : Re} (hre : evOp K draw f h nx (.slc (szOf P e) x' lo' hh') = some re) (hrd : ∀ id ∈ re.r, H id = h.get id) (hrd2 : ∀ n, lenOf h (x'.ev f) = some n → ∀ id ∈ n.2, H id = h.get id) : OpOk P o a w g H nx re := by
  have e1 := compA_ok h1 (hf.sub fun s hs => by simp [hs])
  obtain ⟨info, hinfo, hsz⟩ := sz_info h0
  simp only [evOp, bindO_eq] at hre
  obtain ⟨l, hl, n, hn, m, hm, hre⟩ := hre
  obtain ⟨p, c, e2, hnc⟩ := lenOf_val hn e1 (hrd2 n hn)
  have hlo : ((lo.map a.eval) = none ∧ l = 0) ∨ ∃ k, (lo.map a.eval) = some (.int k l) := by
    rcases compO_ok h2 with ⟨rfl, rfl⟩ | ⟨p, q, rfl, rfl, hc⟩
    · simp only [Option.some.injEq] at hl; exact .inl ⟨rfl, hl.symm⟩
    · simp only [bindO_eq] at hl
      obtain ⟨z, hz, he⟩ := hl
      cases he
      exact .inr ⟨z.1, by rw [Option.map_some, asInt_val hz (compA_ok hc (hf.sub fun s hs => by simp [usO, hs]))]⟩
  have hhi : ((hh.map a.eval) = none ∧ m = n.1) ∨ ∃ k, (hh.map a.eval) = some (.int k m) := by
    rcases compO_ok h3 with ⟨rfl, rfl⟩ | ⟨p, q, rfl, rfl, hc⟩
    · simp only [Option.some.injEq] at hm; exact .inl ⟨rfl, hm.symm⟩
    · simp only [bindO_eq] at hm
      obtain ⟨z, hz, he⟩ := hm
      cases he
      exact .inr ⟨z.1, by rw [Option.map_some, asInt_val hz (compA_ok hc (hf.sub fun s hs => by simp [usO, hs]))]⟩
  split at hre
  case isFalse => cases hre
  rename_i hcond
  obtain ⟨c1, c2, c3⟩ := hcond
  have hrun := run_slc (P := P) (w := w) (elemT_und ht) hinfo (p := p) hnc hlo hhi c1 c2 c3
  rw [hsz] at hrun
  have hexec : (execOp a.eval o).run P w = .ok (.value (.slice (if c = l.toNat then p else p.map (·.add (l.toNat * szOf P e))) (m.toNat - l.toNat) (c - l.toNat))) w := by
    simp [execOp, ho, e2, hrun]
  have slcase : ∀ es : List (List D), DR w g.S (.sl es) (a.eval x) → (if (es.all fun y => y.length == szOf P e) = true then ok1 (.c (.d (.sl ((es.take m.toNat).drop l.toNat)))) nx else none) = some re → OpOk P o a w g H nx re := by
    intro es hd hre
    split at hre
    case isFalse => cases hre
    rename_i hall
    have := ok1_eq hre
    subst this
    rw [e2] at hd
    have hnl : n.1 = es.length := by cases hd with | sl vs hn' hc => exact hn'
    refine OpOk.pure hi hexec ?_
    exact DR.piece hd (fun y hy => by simpa using List.all_eq_true.1 hall y hy) (by omega) (by omega)
  split at hre
  · rename_i es hx
    rw [hx] at e1
    exact slcase es e1 hre
  · rename_i tt es hx
    rw [hx] at e1
    exact slcase es e1.1 hre
  · rename_i hx
    have := ok1_eq hre
    subst this
    rw [hx] at e1 hn
    have e3 : a.eval x = .slice none 0 0 := e1
    rw [e3] at e2
    injection e2 with ha hb hc
    have hl0 : l.toNat = 0 := by omega
    refine OpOk.pure hi hexec ?_
    show _ = _
    rw [hl0, ← ha, ← hc, if_pos rfl, show m.toNat - 0 = 0 by omega]
  · rename_i id off len hx
    cases hre
    rw [hx] at e1
    refine OpOk.pure hi hexec (fun cells hcells => ?_)
    obtain ⟨p', cap, e4, k1, k2⟩ := e1 cells hcells
    rw [e2] at e4
    cases e4
    refine ⟨_, _, by rw [show (m - l).toNat = m.toNat - l.toNat by omega], by omega, fun hpos => ?_⟩
    have hne : ¬ c = l.toNat := by omega
    rw [if_neg hne, k2 (by omega), Option.map_some, add_none]
  · cases hre

theorem chunk_len (sz : Nat) : ∀ (n : Nat) (l : List D), (chunk sz n l).length = n
  | 0, l => rfl
  | n + 1, l => by simp [chunk, chunk_len sz n]
theorem chunk_get (sz : Nat) : ∀ (n : Nat) (l : List D) (i : Nat) (x : List D), (chunk sz n l)[i]? = some x → i < n ∧ x = (l.drop (i * sz)).take sz
  | 0, l, i, x, h => by simp [chunk] at h
  | n + 1, l, 0, x, h => by simp [chunk] at h; exact ⟨by omega, by rw [← h]; simp⟩
  | n + 1, l, i + 1, x, h => by
    simp only [chunk, List.getElem?_cons_succ] at h
    obtain ⟨h1, h2⟩ := chunk_get sz n _ i x h
    refine ⟨by omega, ?_⟩
    rw [h2, List.drop_drop]
    congr 2
    rw [Nat.succ_mul]
    omega

/-- What a slice's elements are in memory. -/
theorem elems_val (hi : HI w g H) {sz : Nat} (h0 : 0 < sz) {x : AV} {u : Value} {q : List (List D) × List Nat} (hq : elems h sz x = some q) (hx : AVR w g H x u) (hr : ∀ id ∈ q.2, H id = h.get id) (hsz : ∀ e ∈ q.1, e.length = sz) :
    ∃ p c, u = .slice p q.1.length c ∧ q.1.length ≤ c ∧ ∃ us : List Value, us.length = q.1.length * sz ∧ (∀ v ∈ us, v.oneCell' = true) ∧
      (0 < q.1.length → ∃ ad, p = some ad ∧ ∀ (k : Nat) (v : Value), us[k]? = some v → w.cell? (ad.add k) = some v) ∧
      ∀ (i : Nat) (x : List D) (j : Nat) (y : D), q.1[i]? = some x → x[j]? = some y → ∃ v, us[i * sz + j]? = some v ∧ DR w g.S y v := by
  have slcase : ∀ es : List (List D), DR w g.S (.sl es) u → (∀ e ∈ es, e.length = sz) → ∃ p c, u = .slice p es.length c ∧ es.length ≤ c ∧ ∃ us : List Value, us.length = es.length * sz ∧ (∀ v ∈ us, v.oneCell' = true) ∧
      (0 < es.length → ∃ ad, p = some ad ∧ ∀ (k : Nat) (v : Value), us[k]? = some v → w.cell? (ad.add k) = some v) ∧
      ∀ (i : Nat) (x : List D) (j : Nat) (y : D), es[i]? = some x → x[j]? = some y → ∃ v, us[i * sz + j]? = some v ∧ DR w g.S y v := by
    intro es hd hsz
    cases hd with
    | @sl _ p n c sz' b oo vs hn hc hsz' ha hr =>
      subst hn
      have hat : ∀ k, k < es.length * sz → ∃ e y, es[k / sz]? = some e ∧ e[k % sz]? = some y := by
        intro k hk
        have h1 : k / sz < es.length := (Nat.div_lt_iff_lt_mul h0).2 hk
        have h2 := Nat.mod_lt k h0
        refine ⟨es[k / sz], (es[k / sz])[k % sz]'(by rw [hsz _ (List.getElem_mem _)]; exact h2), List.getElem?_eq_getElem _, List.getElem?_eq_getElem _⟩
      have hss : ∀ (i : Nat) (e : List D), es[i]? = some e → sz' = sz := fun i e he => (hsz' i e he).symm.trans (hsz e (List.mem_of_getElem? he))
      refine ⟨p, c, rfl, hc, (List.range (es.length * sz)).map fun k => vs (k / sz) (k % sz), by simp, fun v hv => ?_, fun hpos => ?_, fun i x j y hx hy => ?_⟩
      · obtain ⟨k, hk, rfl⟩ := List.mem_map.1 hv
        obtain ⟨e, y, he, hy⟩ := hat k (List.mem_range.1 hk)
        exact DR.one (hr _ e _ y he hy)
      · have hk0 : 0 < es.length * sz := Nat.mul_pos hpos h0
        obtain ⟨e, y, he, hy⟩ := hat 0 hk0
        refine ⟨⟨b, oo, none⟩, (ha _ e _ y he hy).1, fun k v hv => ?_⟩
        rw [List.getElem?_map] at hv
        obtain ⟨k', hk', rfl⟩ := Option.map_eq_some_iff.1 hv
        obtain ⟨hlt, rfl⟩ := List.getElem?_eq_some_iff.1 hk'
        simp only [List.length_range] at hlt
        simp only [List.getElem_range]
        obtain ⟨e, y, he, hy⟩ := hat k hlt
        have h3 := (ha _ e _ y he hy).2.1
        rw [hss _ e he] at h3
        rw [add_none]
        have : k / sz * sz + k % sz = k := by rw [Nat.mul_comm]; exact Nat.div_add_mod k sz
        rwa [this] at h3
      · have hjl : j < sz := by rw [← hsz x (List.mem_of_getElem? hx)]; exact (List.getElem?_eq_some_iff.1 hy).1
        have hil : i < es.length := (List.getElem?_eq_some_iff.1 hx).1
        have hlt : i * sz + j < es.length * sz := by
          have : (i + 1) * sz ≤ es.length * sz := Nat.mul_le_mul_right _ hil
          rw [Nat.succ_mul] at this
          omega
        refine ⟨vs i j, ?_, hr i x j y hx hy⟩
        rw [List.getElem?_map, List.getElem?_range hlt, Option.map_some]
        have d1 : (i * sz + j) / sz = i := by rw [Nat.mul_comm, Nat.mul_add_div h0, Nat.div_eq_of_lt hjl, Nat.add_zero]
        have d2 : (i * sz + j) % sz = j := by rw [Nat.mul_comm, Nat.mul_add_mod, Nat.mod_eq_of_lt hjl]
        rw [d1, d2]
  unfold elems at hq
  split at hq
  · cases hq; exact slcase _ hx hsz
  · cases hq
    have : u = .slice none 0 0 := hx
    exact ⟨none, 0, this, Nat.le_refl _, [], by simp, by simp, by simp, by simp⟩
  · cases hq; exact slcase _ hx.1 hsz
  · rename_i id off len
    split at hq
    · rename_i cells hcells
      split at hq
      · rename_i hl
        cases hq
        have hH : H id = some (.arr cells) := (hr id (by simp)).trans hcells
        obtain ⟨p, c, e1, hlc, hp⟩ := hx cells hH
        obtain ⟨vs, k1, k2, k3⟩ := arr_vals hi hH hl
        refine ⟨p, c, by rw [chunk_len]; exact e1, by rw [chunk_len]; exact hlc, vs, by rw [chunk_len]; exact k1, fun v hv => ?_, fun hpos => ?_, fun i x j y hx hy => ?_⟩
        · obtain ⟨k, hk, rfl⟩ := List.getElem_of_mem hv
          exact CR.one (k2.2 k (((cells.drop off).take (len * sz))[k]'(by rw [k2.1]; exact hk)) _ (List.getElem?_eq_getElem _) (List.getElem?_eq_getElem _))
        · rw [chunk_len] at hpos
          refine ⟨_, hp hpos, fun k v hv => ?_⟩
          rw [add_none]
          exact k3 k v hv
        · obtain ⟨hil, rfl⟩ := chunk_get sz len _ i x hx
          rw [List.getElem?_take] at hy
          split at hy
          · rename_i hjl
            rw [List.getElem?_drop, List.getElem?_map] at hy
            obtain ⟨cc, hcc, rfl⟩ := Option.map_eq_some_iff.1 hy
            have hlt : i * sz + j < len * sz := by
              have : (i + 1) * sz ≤ len * sz := Nat.mul_le_mul_right _ hil
              rw [Nat.succ_mul] at this
              omega
            have : ((cells.drop off).take (len * sz))[i * sz + j]? = some cc := by rw [List.getElem?_take, if_pos hlt]; exact hcc
            obtain ⟨v, hv, hd⟩ := k2.get this
            exact ⟨v, hv, CR.toD hd⟩
          · cases hy
      · cases hq
    · cases hq
  · cases hq

/-! ### append -/
theorem run_append_zero {t ty e : TypeId} {info : TypeInfo} (ht : P.underlying t = some (.slice e)) (hi : P.info? e = some info) {b : Option Addr} {n cap : Nat} (hn : n ≤ cap) {p : Option Addr} {c : Nat} :
    (Builtin.append_ #[t, t] ty #[.slice b n cap, .slice p 0 c]).run P w = .ok (.slice b n cap) w := by
  cases p <;> cases b <;> simp [Builtin.append_, run_underlying ht, sizeOf, typeInfo, hi, Builtin.lenOf, hn, Builtin.firstCells, loadCells, loadCellsFrom, storeCells]

theorem run_append_roomT (t ty e : TypeId) (i : TypeInfo) (ht : P.underlying t = some (.slice e)) (hi : P.info? e = some i)
    (b sLen sCap : Nat) (cur : Array Value) (e' : TypeId) (hg : w.heap[b]? = some (.cells cur e' (0, 0)))
    (p : Addr) (m c : Nat) (news : List Value) (hl : news.length = m * i.size) (hnews : ∀ j u, news[j]? = some u → w.cell? (p.add j) = some u) (h1 : ∀ u ∈ news, u.oneCell' = true)
    (hroom : sLen + m ≤ sCap) (hfit : sLen * i.size + news.length ≤ cur.size) :
    (Builtin.append_ #[t, t] ty #[.slice (some ⟨b, 0, none⟩) sLen sCap, .slice (some p) m c]).run P w =
      .ok (.slice (some ⟨b, 0, none⟩) (sLen + m) sCap) (w.setRow b (cur.toList.take (sLen * i.size) ++ news ++ cur.toList.drop (sLen * i.size + news.length)).toArray) := by
  have hf := run_firstCells_some (P := P) w i.size m p m c news hl hnews
  have hst := run_storeCells_at P b (sLen * i.size) e' news 0 cur w hg (by simpa using hfit) h1
  simp only [Nat.add_zero] at hst
  simp [Builtin.append_, run_underlying ht, sizeOf, typeInfo, hi, Builtin.lenOf, hroom, hf, Addr.add_lit, hst]

theorem fup_fup {α : Type} (F : Nat → α) (n : Nat) (x y : α) : fup (fup F n x) n y = fup F n y := by
  funext i
  simp only [fup]
  split <;> rfl

/-- append onto a row that may grow. -/
theorem grow_ok (hi : HI w g H) {t e tt ty : TypeId} {n s sz : Nat} {info : TypeInfo} {z : Value} (htok : H tt = some (.tok n s)) (hs : s = sz ∨ s = 0) (h0 : 0 < sz) (ht : P.underlying t = some (.slice e)) (hinf : P.info? e = some info) (hz : info.zero = some z) (hsize : info.size = sz) (hzc : z.cells.size = sz)
    (hb0 : 0 < info.bytes) {es ys : List (List D)} (hes : es.length = n) (hesl : ∀ x ∈ es, x.length = s) (hd : DR w g.S (.sl es) (g.ρ tt)) (hys : ∀ x ∈ ys, x.length = sz) (hbd : (n + ys.length) * info.bytes ≤ 140737488355328)
    {p : Option Addr} {c : Nat} {us : List Value} (hus : us.length = ys.length * sz) (hone : ∀ v ∈ us, v.oneCell' = true) (hp : 0 < ys.length → ∃ ad, p = some ad ∧ ∀ (k : Nat) (v : Value), us[k]? = some v → w.cell? (ad.add k) = some v)
    (hr : ∀ (i : Nat) (x : List D) (j : Nat) (y : D), ys[i]? = some x → x[j]? = some y → ∃ v, us[i * sz + j]? = some v ∧ DR w g.S y v) :
    ∃ v' w' g', (Builtin.append_ #[t, t] ty #[g.ρ tt, .slice p ys.length c]).run P w = .ok v' w' ∧ HI w' g' (fup H tt (some (.tok (n + ys.length) (if ys.isEmpty then s else sz)))) ∧
      Stp [] w g H w' g' (fup H tt (some (.tok (n + ys.length) (if ys.isEmpty then s else sz)))) ∧ AVR w' g' (fup H tt (some (.tok (n + ys.length) (if ys.isEmpty then s else sz)))) (.c (.gr tt (es ++ ys))) v' := by
  have hlen : (es ++ ys).length = n + ys.length := by simp [hes]
  rcases Nat.eq_zero_or_pos ys.length with hy0 | hy0
  · -- nothing to add
    have hyn : ys = [] := List.eq_nil_of_length_eq_zero hy0
    subst hyn
    have hH : fup H tt (some (.tok (n + 0) s)) = H := by
      funext i
      by_cases hit : i = tt
      · subst hit; rw [fup_same, htok]; rfl
      · rw [fup_ne hit]
    simp only [List.length_nil, List.isEmpty_nil, if_true, List.append_nil]
    rw [hH]
    refine ⟨g.ρ tt, w, g, ?_, hi, Stp.refl w g H, hd, fun m s' hm => ?_⟩
    · rcases hi.tok tt n s htok with ⟨h1, rfl, _⟩ | ⟨b, cap, cur, e', h1, h2, h3, _⟩
      · rw [h1]; exact run_append_zero ht hinf (Nat.le_refl _)
      · rw [h1]; exact run_append_zero ht hinf h3
    · rw [htok] at hm
      cases hm
      exact ⟨by omega, fun _ => ⟨rfl, hesl⟩⟩
  · have hyne : ys.isEmpty = false := by cases ys with | nil => simp at hy0 | cons => rfl
    obtain ⟨ad, rfl, hcell⟩ := hp hy0
    simp only [hyne, Bool.false_eq_true, if_false]
    have hge : (n + ys.length) * 1 ≤ (n + ys.length) * info.bytes := Nat.mul_le_mul_left _ hb0
    rcases hi.tok tt n s htok with ⟨h1, hn0, hs0⟩ | ⟨b, cap, cur, e', h1, h2, h3, h4, h5, h6⟩
    · -- onto nil
      have hes0 : es = [] := List.eq_nil_of_length_eq_zero (by omega)
      subst hes0
      subst hn0
      have hrun := run_append_nil (P := P) w t ty e info z ht hinf hz ad ys.length c us (by rw [hsize]; exact hus) hcell hy0 (by omega) (by simp only [Nat.zero_add] at hbd; omega)
      obtain ⟨q1, q2, q3⟩ := growNew hi htok (es := ys) (cur := us.toArray ++ Builtin.zeroCells z.cells (grownCap w ys.length 0 e - ys.length)) (e := e) (cap := grownCap w ys.length 0 e) (sz := sz) h0 hy0 (grownCap_ge w _ _ _)
        (by
          have := grownCap_ge w ys.length 0 e
          simp only [Array.size_append, List.size_toArray, size_zeroCells, hus, hzc]
          rw [← Nat.add_mul, Nat.add_sub_cancel' this]
          exact Nat.le_refl _) hys (fun i x j y hx hy => by
          obtain ⟨v, hv, hdv⟩ := hr i x j y hx hy
          refine ⟨v, ?_, hdv⟩
          have hlt := (List.getElem?_eq_some_iff.1 hv).1
          rw [Array.getElem?_append_left (by simpa using hlt)]
          simpa using hv)
      simp only [Nat.zero_add, List.nil_append]
      refine ⟨_, _, _, by rw [h1]; exact hrun, q1, q2, q3, fun m s' hm => ?_⟩
      rw [fup_same] at hm
      cases hm
      exact ⟨Nat.le_refl _, fun _ => ⟨(fup_same _ _ _).symm, hys⟩⟩
    · have hse : s = sz := hs.resolve_right (by omega)
      subst hse
      by_cases hroom : n + ys.length ≤ cap
      · -- where it lies
        have hfit : n * s + us.length ≤ cur.size := by
          rw [hus, ← Nat.add_mul]
          exact Nat.le_trans (Nat.mul_le_mul_right _ hroom) h4
        obtain ⟨q1, q2, q3⟩ := growIn hi htok h1 h2 hes hesl hd h0 h4 hroom hus hys hr
        have hrun := run_append_roomT (P := P) (w := w) t ty e info ht hinf b n cap cur e' h2 ad ys.length c us (by rw [hsize]; exact hus) hcell hone hroom (by rw [hsize]; exact hfit)
        rw [hsize] at hrun
        refine ⟨_, _, _, by rw [h1]; exact hrun, q1, q2, q3, fun m s' hm => ?_⟩
        rw [fup_same] at hm
        cases hm
        refine ⟨by omega, fun _ => ⟨(fup_same _ _ _).symm, fun x hx => ?_⟩⟩
        rcases List.mem_append.1 hx with hx | hx
        · exact hesl x hx
        · exact hys x hx
      · -- a new place
        have hns : n * s ≤ cur.size := Nat.le_trans (Nat.mul_le_mul_right _ h3) h4
        have hlo : (cur.toList.take (n * s)).length = n * s := by simp; omega
        have hrun := run_append_grow (P := P) w t ty e info z ht hinf hz ⟨b, 0, none⟩ n cap (cur.toList.take (n * s)) (by rw [hsize]; exact hlo)
          (fun j v hv => by
            rw [List.getElem?_take] at hv
            split at hv
            · rw [add_none, Nat.zero_add, cellAt h2]; simpa using hv
            · cases hv) ad ys.length c us (by rw [hsize]; exact hus) hcell (by omega) (by omega) (growslice_fits (by omega) hbd)
        have hes2 : ∀ (i : Nat) (x : List D) (j : Nat) (y : D), es[i]? = some x → x[j]? = some y → ∃ v, cur[i * s + j]? = some v ∧ DR w g.S y v := by
          rw [h1] at hd
          cases hd with
          | sl vs hn' hc' hsz' ha' hr' =>
            intro i x j y hx hy
            obtain ⟨q1, q2, _⟩ := ha' i x j y hx hy
            have hsz1 := hsz' i x hx
            have hsz2 := hesl x (List.mem_of_getElem? hx)
            have hsz3 := hsz1.symm.trans hsz2
            injection q1 with q1
            injection q1 with qb qo
            subst qb; subst qo
            subst hsz3
            rw [Nat.zero_add, cellAt h2] at q2
            exact ⟨_, q2, hr' i x j y hx hy⟩
        have hcapge := grownCap_ge w (n + ys.length) cap e
        obtain ⟨q1, q2, q3⟩ := growNew hi htok (es := es ++ ys) (cur := (cur.toList.take (n * s)).toArray ++ us.toArray ++ Builtin.zeroCells z.cells (grownCap w (n + ys.length) cap e - (n + ys.length))) (e := e) (cap := grownCap w (n + ys.length) cap e) (sz := s) h0
          (by rw [hlen]; omega) (by rw [hlen]; exact hcapge)
          (by
            simp only [Array.size_append, List.size_toArray, size_zeroCells, hus, hzc, hlo]
            rw [← Nat.add_mul, ← Nat.add_mul, Nat.add_sub_cancel' hcapge]
            exact Nat.le_refl _)
          (fun x hx => by
            rcases List.mem_append.1 hx with hx | hx
            · exact hesl x hx
            · exact hys x hx)
          (elems_append hesl (R := fun k y => ∃ v, ((cur.toList.take (n * s)).toArray ++ us.toArray ++ Builtin.zeroCells z.cells (grownCap w (n + ys.length) cap e - (n + ys.length)))[k]? = some v ∧ DR w g.S y v)
            (fun i x j y hx hy => by
              obtain ⟨v, hv, hdv⟩ := hes2 i x j y hx hy
              refine ⟨v, ?_, hdv⟩
              have k1 : i < es.length := (List.getElem?_eq_some_iff.1 hx).1
              have k2 : j < x.length := (List.getElem?_eq_some_iff.1 hy).1
              rw [hesl x (List.mem_of_getElem? hx)] at k2
              have k3 : (i + 1) * s ≤ es.length * s := Nat.mul_le_mul_right _ k1
              rw [Nat.succ_mul, hes] at k3
              rw [Array.append_assoc, Array.getElem?_append_left (by simp; omega), List.getElem?_toArray, List.getElem?_take, if_pos (by omega), Array.getElem?_toList]
              exact hv)
            (fun i x j y hx hy => by
              obtain ⟨v, hv, hdv⟩ := hr i x j y hx hy
              refine ⟨v, ?_, hdv⟩
              have hkl : i * s + j < us.length := (List.getElem?_eq_some_iff.1 hv).1
              rw [hes, Array.getElem?_append_left (by simp only [Array.size_append, List.size_toArray, hlo]; omega), Array.getElem?_append_right (by simp only [List.size_toArray, hlo]; omega)]
              simp only [List.size_toArray, hlo, Nat.add_sub_cancel_left, List.getElem?_toArray]
              exact hv))
        rw [hlen] at q1 q2 q3
        refine ⟨_, _, _, by rw [h1]; exact hrun, q1, q2, q3, fun m s' hm => ?_⟩
        rw [fup_same] at hm
        cases hm
        refine ⟨by omega, fun _ => ⟨(fup_same _ _ _).symm, fun x hx => ?_⟩⟩
        rcases List.mem_append.1 hx with hx | hx
        · exact hesl x hx
        · exact hys x hx
end
end Go.Proofs.Ytpanbfainilmpaa.Ev
end
section
/- append, copy, structs compared. -/
set_option linter.unusedVariables false
set_option linter.unusedSimpArgs false
namespace Go.Proofs.Ytpanbfainilmpaa.Ev

section
variable {P : Program} {o : Oper} {a : Act} {w : World} {g : Gh} {H : HF} {f : Fr} {h : Hp} {nx : Nat} {K : Or} {draw : Bool}

/-- An empty row becomes an own array, where it lies or in a new place. -/
theorem rowToArr (h : HI w g H) {t n sz b b' cap : Nat} (ht : H t = some (.tok 0 sz)) (hρ : g.ρ t = .slice (some ⟨b, 0, none⟩) 0 cap) (hf : H n = none) (hc : Clean H [n]) {w' : World} {cells : List C} {cur : Array Value} {e : TypeId}
    (hos : w'.os = w.os) (htape : w'.tape = w.tape) (hout : w'.output = w.output) (hsize : w.heap.size ≤ w'.heap.size) (hoth : ∀ k, k < w.heap.size → k ≠ b → w'.heap[k]? = w.heap[k]?)
    (hb' : b' = b ∨ (b' = w.heap.size ∧ w.heap.size < w'.heap.size)) (hnew : w'.heap[b']? = some (.cells cur e (0, 0)))
    (hl : cells.length ≤ cur.size) (hr : ∀ (i : Nat) (x : C), cells[i]? = some x → ∃ v, cur[i]? = some v ∧ ∃ d, x = .d d ∧ DR w g.S d v) :
    let g' : Gh := { g with β := fup g.β n b' }
    let H' := fup (fup H t none) n (some (.arr cells))
    HI w' g' H' ∧ Stp [n] w g H w' g' H' := by
  intro g' H'
  have htn : t ≠ n := fun he => by rw [he, hf] at ht; cases ht
  have hSb : ∀ o, ¬ g.S b o := by
    intro o hs
    rcases h.tok t 0 sz ht with ⟨h1, _⟩ | ⟨b1, cap', cur', e', h1, h2, h3, h4, h5, h6⟩
    · rw [h1] at hρ; cases hρ
    · rw [h1] at hρ
      injection hρ with hq _ _
      injection hq with hq
      injection hq with hq _ _
      subst hq
      have := h6 o hs
      omega
  have hown : blk g H t = some b := by simp [blk, ht, hρ, Value.ownBlock]
  have hbl := h.blk_lt hown
  have hSb' : ∀ o, ¬ g.S b' o := by
    rcases hb' with rfl | ⟨rfl, _⟩
    · exact hSb
    · intro o hs; exact Nat.lt_irrefl _ (h.lt _ _ hs)
  have hblk : ∀ i, blk g' H' i = if i = n then some b' else if i = t then none else blk g H i := by
    intro i
    by_cases hi : i = n
    · subst hi; simp [blk, H', fup_same, g']
    · by_cases hit : i = t
      · subst hit; simp [blk, H', fup, hi]
      · simp [blk, H', fup, hi, hit, g']
  have hH : ∀ i, i ≠ n → ∀ l, H' i = some l → i ≠ t ∧ H i = some l := by
    intro i hi l hl
    simp only [H'] at hl
    rw [fup_ne hi] at hl
    by_cases hit : i = t
    · subst hit; rw [fup_same] at hl; cases hl
    · rw [fup_ne hit] at hl; exact ⟨hit, hl⟩
  have hdr : ∀ b o, g.S b o → w'.heap[b]? = w.heap[b]? := fun b1 o hs => hoth b1 (h.lt b1 o hs) (fun he => hSb o (he ▸ hs))
  have st : Stp [n] w g H w' g' H' := by
    refine ⟨hos, htape, hout, hsize, fun _ _ h => h, fun b o hs => cell_blk (hdr b o hs), ?_, ?_, fun k hk hn => hoth k hk (fun he => hn t (he ▸ hown)), ?_, fun _ _ h => .inl h⟩
    · intro id c hn hcc
      have hn' : id ≠ n := by simpa using hn
      exact ⟨c, (hH id hn' _ hcc).2, rfl, fup_ne hn'⟩
    · intro t' a s hn hcc
      have hn' : t' ≠ n := by simpa using hn
      exact ⟨a, s, (hH t' hn' _ hcc).2, Nat.le_refl _, fun _ => ⟨rfl, rfl⟩⟩
    · intro id b1 hi
      rw [hblk] at hi
      split at hi
      · cases hi
        rcases hb' with rfl | ⟨rfl, _⟩
        · exact .inl ⟨t, hown⟩
        · exact .inr (Nat.le_refl _)
      · split at hi
        · cases hi
        · exact .inl ⟨id, hi⟩
  refine ⟨⟨?_, ?_, ?_, ?_⟩, st⟩
  · intro id c hcc
    by_cases hn : id = n
    · subst hn
      simp only [H', fup_same] at hcc
      cases hcc
      refine ⟨cur, e, ?_, hl, fun i x hx => ?_, fun o hs => ?_⟩
      · simp only [g', fup_same]; exact hnew
      · obtain ⟨v, hv, d, rfl, hd⟩ := hr i x hx
        exact ⟨v, hv, DR.move st.dr hd⟩
      · simp only [g', fup_same] at hs
        exact hSb' o hs
    · obtain ⟨hit, hcc'⟩ := hH id hn _ hcc
      obtain ⟨cur', e', h1, h2, h3, h4⟩ := h.arr id c hcc'
      have hβ : g'.β id = g.β id := fup_ne hn
      have hne : g.β id ≠ b := fun he => h.apart id t b hit (by simp [blk, hcc', he]) hown
      rw [hβ]
      refine ⟨cur', e', (hoth _ (Array.getElem?_eq_some_iff.1 h1).1 hne).trans h1, h2, fun i x hx => ?_, h4⟩
      obtain ⟨v, hv, hr⟩ := h3 i x hx
      exact ⟨v, hv, CR.step st (hc id c hcc' x (List.mem_of_getElem? hx)) hr⟩
  · intro i a s hcc
    by_cases hn : i = n
    · subst hn; simp only [H', fup_same] at hcc; cases hcc
    · obtain ⟨hit, hcc'⟩ := hH i hn _ hcc
      rcases h.tok i a s hcc' with h1 | ⟨b1, cap', cur', e', h1, h2, h3⟩
      · exact .inl h1
      · have hne : b1 ≠ b := fun he => h.apart i t b hit (by simp [blk, hcc', h1, Value.ownBlock, he]) hown
        exact .inr ⟨b1, cap', cur', e', h1, (hoth _ (Array.getElem?_eq_some_iff.1 h2).1 hne).trans h2, h3⟩
  · intro i j b1 hij hi hj
    rw [hblk] at hi hj
    have hnb : ∀ k, k ≠ t → blk g H k ≠ some b' := by
      intro k hkt hk
      rcases hb' with rfl | ⟨rfl, _⟩
      · exact h.apart k t _ hkt hk hown
      · exact Nat.lt_irrefl _ (h.blk_lt hk)
    split at hi
    · cases hi
      split at hj
      · rename_i h1 h2; exact hij (h1.trans h2.symm)
      · split at hj
        · cases hj
        · rename_i h2; exact hnb j h2 hj
    · split at hi
      · cases hi
      · rename_i h1 h2
        split at hj
        · cases hj; exact hnb i h2 hi
        · split at hj
          · cases hj
          · exact h.apart i j b1 hij hi hj
  · intro b o hs
    exact Nat.lt_of_lt_of_le (h.lt b o hs) hsize

theorem op_app_gr (hi : HI w g H) {c : Call} {t e : TypeId} {x y : Operand} {x' y' : AO} {zs : List C} {mu : Bool} (ho : o.op = .call c) (hc : c.callee = .builtin .append) (ha : c.args = #[x, y]) (hty : c.argTypes = #[t, t]) (ht : elemT P t = some e) (hz : zeroC P e = some zs)
    (h0 : 0 < szOf P e) (hzl : zs.length = szOf P e) (hb0 : 0 < byOf P e) (h1 : compA x = some x') (h2 : compA y = some y')
    (hf : FRu w g H f a (x'.us ++ y'.us)) {re : Re} (hre : evOp K draw f h nx (.app mu (szOf P e) (byOf P e) x' y') = some re) (hrd : ∀ id ∈ re.r, H id = h.get id) (hfr : ∀ i, nx ≤ i → i < re.nx → H i = none) (hcl : Clean H (bn nx re.nx)) : OpOk P o a w g H nx re := by
  obtain ⟨info, z, q1, q2, q3⟩ := zeroC_eq hz
  obtain ⟨hr, hids⟩ := cellsC_ok (w := w) (g := g) (H := H) q3
  have hsz : info.size = szOf P e := by simp [szOf, q1]
  have hby : info.bytes = byOf P e := by simp [byOf, q1]
  have hzc : z.cells.size = szOf P e := by rw [← hzl, hr.1]; simp
  have e1 := compA_ok h1 (hf.sub fun s hs => by simp [hs])
  have e2 := compA_ok h2 (hf.sub fun s hs => by simp [hs])
  have hexec : ∀ v' w', (Builtin.append_ #[t, t] o.type #[a.eval x, a.eval y]).run P w = .ok v' w' → (execOp a.eval o).run P w = .ok (.value v') w' := by
    intro v' w' hrun
    simp [execOp, ho, resolve, hc, ha, hty, invoke, builtin, hrun]
  simp only [evOp, bindO_eq] at hre
  obtain ⟨ys, hys, hre⟩ := hre
  have hyr : (∀ id ∈ ys.2, id ∈ re.r) ∧ (ys.1.all fun e' => e'.length == szOf P e) = true := by
    split at hre
    · split at hre
      case isFalse => cases hre
      rename_i hcond
      split at hre
      · cases hre
      · cases hre; exact ⟨fun _ h => h, hcond.2⟩
    · split at hre
      · split at hre
        case isFalse => cases hre
        rename_i hcond
        split at hre
        · split at hre
          case isFalse => cases hre
          cases hre; exact ⟨fun _ h => List.mem_cons_of_mem _ h, hcond.2.2.2⟩
        · cases hre; exact ⟨fun _ h => List.mem_cons_of_mem _ h, hcond.2.2.2⟩
      · cases hre
    · cases hre
  have hysz : ∀ x ∈ ys.1, x.length = szOf P e := fun x hx => by simpa using List.all_eq_true.1 hyr.2 x hx
  obtain ⟨p, cc, e3, hlc, us, u1, u2, u3, u4⟩ := elems_val hi h0 hys e2 (fun id hid => hrd id (hyr.1 id hid)) hysz
  split at hre
  · -- onto nil
    rename_i hx
    split at hre
    case isFalse => cases hre
    rename_i hcond
    split at hre
    · cases hre
    cases hre
    simp only at hfr hcl
    rw [bn_one] at hcl
    rw [hx] at e1
    have e1' : a.eval x = .slice none 0 0 := e1
    obtain ⟨k1, k2⟩ := birthTok hi (hfr nx (Nat.le_refl _) (by omega)) hcl
    obtain ⟨v', w', g', r1, r2, r3, r4⟩ := grow_ok (P := P) (ty := o.type) k1 (tt := nx) (n := 0) (s := 0) (sz := szOf P e) (info := info) (z := z) (t := t) (e := e) (es := []) (ys := ys.1) (c := cc) (by rw [fup_same]) (.inr rfl) h0 (elemT_und ht) q1 q2 hsz hzc (by omega) rfl (by simp) (by
        simp only [fup_same]
        exact CR.toD (x := .nil) (w := w) (g := g) (H := H) rfl) hysz (by rw [hby, Nat.zero_add]; exact hcond.1) (p := p) (us := us) u1 u2 u3 u4
    rw [fup_fup] at r2 r3 r4
    simp only [fup_same, Nat.zero_add, List.nil_append] at r1 r2 r3 r4
    refine ⟨v', w', g', .inl (hexec _ _ ?_), r2, ?_, r4⟩
    · rw [e1', e3]; exact r1
    · rw [bn_one]
      exact (Stp.trans k2 r3).weaken (by simp)
  · rename_i tt es hx
    split at hre
    · rename_i n s htok
      split at hre
      case isFalse => cases hre
      rename_i hcond
      obtain ⟨c1, c2, c3, c4⟩ := hcond
      rw [hx] at e1
      split at hre
      · -- an own array
        split at hre
        case isFalse => cases hre
        rename_i hcond2
        obtain ⟨rfl, rfl⟩ := hcond2
        cases hre
        simp only at hfr hcl hrd
        rw [bn_one] at hcl
        have hH : H tt = some (.tok 0 (szOf P e)) := (hrd tt (by simp)).trans htok
        have hes0 : es = [] := List.eq_nil_of_length_eq_zero c1
        subst hes0
        have hρ := ((e1.2 0 _ hH).2 rfl).1
        have hn := hfr nx (Nat.le_refl _) (by omega)
        rcases hi.tok tt 0 _ hH with ⟨_, _, hs0⟩ | ⟨b, cap, cur, e', k1, k2, k3, k4, k5, k6⟩
        · omega
        have hflat : ∀ (i : Nat) (x : C), (ys.1.flatten.map C.d)[i]? = some x → ∃ v, us[i]? = some v ∧ ∃ d, x = .d d ∧ DR w g.S d v := by
          intro i x hx
          rw [List.getElem?_map] at hx
          obtain ⟨d, hd, rfl⟩ := Option.map_eq_some_iff.1 hx
          have hil : i < ys.1.length * szOf P e := by
            have := (List.getElem?_eq_some_iff.1 hd).1
            rwa [flatten_len hysz] at this
          have hm := Nat.mod_lt i h0
          have hfg := flatten_get hysz (i / szOf P e) (i % szOf P e) hm
          rw [Nat.mul_comm (i / szOf P e), Nat.div_add_mod, hd] at hfg
          obtain ⟨row, hrow, hd'⟩ := Option.bind_eq_some_iff.1 hfg.symm
          obtain ⟨v, hv, hdv⟩ := u4 _ row _ d hrow hd'
          rw [Nat.mul_comm (i / szOf P e), Nat.div_add_mod] at hv
          exact ⟨v, hv, d, rfl, hdv⟩
        have hlen : (ys.1.flatten.map C.d).length = us.length := by rw [List.length_map, flatten_len hysz, u1]
        rcases Nat.eq_zero_or_pos ys.1.length with hy0 | hy0
        · have hyn : ys.1 = [] := List.eq_nil_of_length_eq_zero hy0
          have hrun := run_append_zero (P := P) (w := w) (ty := o.type) (elemT_und ht) q1 (b := some ⟨b, 0, none⟩) k3 (p := p) (c := cc)
          obtain ⟨r1, r2⟩ := rowToArr hi hH k1 hn hcl (w' := w) (cells := []) (b' := b) rfl rfl rfl (Nat.le_refl _) (fun _ _ _ => rfl) (.inl rfl) k2 (by simp) (by simp)
          refine ⟨.slice (some ⟨b, 0, none⟩) 0 cap, w, { g with β := fup g.β nx b }, .inl (hexec _ _ ?_), ?_, ?_, ?_⟩
          · rw [hρ, k1, e3, hy0]; exact hrun
          · rw [hyn]; exact r1
          · rw [hyn, bn_one]; exact r2
          · rw [hyn]
            intro cells hcells
            exact ⟨_, _, rfl, by simp, fun h => by simp at h⟩
        · obtain ⟨ad, rfl, hcell⟩ := u3 hy0
          by_cases hroom : 0 + ys.1.length ≤ cap
          · have hfit : 0 * szOf P e + us.length ≤ cur.size := by
              rw [u1, Nat.zero_mul, Nat.zero_add]
              rw [Nat.zero_add] at hroom
              exact Nat.le_trans (Nat.mul_le_mul_right _ hroom) k4
            have hrun := run_append_roomT (P := P) (w := w) t o.type e info (elemT_und ht) q1 b 0 cap cur e' k2 ad ys.1.length cc us (by rw [hsz]; exact u1) hcell u2 hroom (by rw [hsz]; exact hfit)
            obtain ⟨r1, r2⟩ := rowToArr hi hH k1 hn hcl (w' := w.setRow b (cur.toList.take (0 * info.size) ++ us ++ cur.toList.drop (0 * info.size + us.length)).toArray) (cells := ys.1.flatten.map C.d) (b' := b) rfl rfl rfl (by simp) (fun k _ hk => heap_setRow_other hk) (.inl rfl) (setRow_heap w b cur _ e' (0, 0) k2)
              (by rw [hlen]; simp) (fun i x hx => by
                obtain ⟨v, hv, rest⟩ := hflat i x hx
                refine ⟨v, ?_, rest⟩
                have hlt := (List.getElem?_eq_some_iff.1 hv).1
                simp only [Nat.zero_mul, List.take_zero, List.nil_append, List.getElem?_toArray]
                rw [List.getElem?_append_left hlt]; exact hv)
            rw [Nat.zero_add] at hrun hroom
            refine ⟨_, _, { g with β := fup g.β nx b }, .inl (hexec _ _ (by rw [hρ, k1, e3]; exact hrun)), r1, by rw [bn_one]; exact r2, ?_⟩
            intro cells hcells
            exact ⟨_, _, rfl, hroom, fun _ => by simp only [fup_same]⟩
          · have hrun := run_append_grow (P := P) w t o.type e info z (elemT_und ht) q1 q2 ⟨b, 0, none⟩ 0 cap [] (by simp) (by simp) ad ys.1.length cc us (by rw [hsz]; exact u1) hcell (by omega)
              (by
                have : (0 + ys.1.length) * 1 ≤ (0 + ys.1.length) * info.bytes := Nat.mul_le_mul_left _ (by omega)
                rw [hby] at this
                simp only [maxBytes] at c3
                omega) (growslice_fits (by omega) (by rw [hby]; exact c3))
            have hge := grownCap_ge w (0 + ys.1.length) cap e
            obtain ⟨r1, r2⟩ := rowToArr hi hH k1 hn hcl (w' := w.drew.alloc (.cells ([].toArray ++ us.toArray ++ Builtin.zeroCells z.cells (grownCap w (0 + ys.1.length) cap e - (0 + ys.1.length))) e)) (cells := ys.1.flatten.map C.d) (b' := w.heap.size) (w := w) rfl rfl rfl (by simp) (fun k hk _ => alloc_old (w := w.drew) hk) (.inr ⟨rfl, by simp⟩) (alloc_new w.drew _) (cur := [].toArray ++ us.toArray ++ Builtin.zeroCells z.cells (grownCap w (0 + ys.1.length) cap e - (0 + ys.1.length))) (e := e)
              (by rw [hlen]; simp) (fun i x hx => by
                obtain ⟨v, hv, rest⟩ := hflat i x hx
                refine ⟨v, ?_, rest⟩
                have hlt := (List.getElem?_eq_some_iff.1 hv).1
                rw [Array.getElem?_append_left (by simpa using hlt)]
                simpa using hv)
            rw [Nat.zero_add] at hrun hge r1 r2
            refine ⟨_, _, { g with β := fup g.β nx w.heap.size }, .inl (hexec _ _ (by rw [hρ, k1, e3]; exact hrun)), r1, by rw [bn_one]; exact r2, ?_⟩
            intro cells hcells
            exact ⟨_, _, rfl, hge, fun _ => by simp only [fup_same]⟩
      · -- a row
        cases hre
        simp only at hfr hcl hrd
        have hH : H tt = some (.tok n s) := (hrd tt (by simp)).trans htok
        obtain ⟨hρ, hesl⟩ := (e1.2 n s hH).2 c1
        obtain ⟨v', w', g', r1, r2, r3, r4⟩ := grow_ok (P := P) (ty := o.type) hi (tt := tt) (n := n) (s := s) (sz := szOf P e) (info := info) (z := z) (t := t) (e := e) (es := es) (ys := ys.1) (c := cc) hH c2 h0 (elemT_und ht) q1 q2 hsz hzc (by omega) c1 hesl (by
          rw [← hρ]; exact e1.1) hysz (by rw [hby]; exact c3) (p := p) (us := us) u1 u2 u3 u4
        refine ⟨v', w', g', .inl (hexec _ _ ?_), r2, ?_, r4⟩
        · rw [hρ, e3]; exact r1
        · rw [bn_self]; exact r3
    · cases hre
  · cases hre
end
end Go.Proofs.Ytpanbfainilmpaa.Ev
end
section
/- copy; structs compared. -/
set_option linter.unusedVariables false
set_option linter.unusedSimpArgs false
namespace Go.Proofs.Ytpanbfainilmpaa.Ev

section
variable {P : Program} {o : Oper} {a : Act} {w : World} {g : Gh} {H : HF} {f : Fr} {h : Hp} {nx : Nat} {K : Or} {draw : Bool}

theorem run_copy_zero {t u ty e : TypeId} {info : TypeInfo} (ht : P.underlying t = some (.slice e)) (hi : P.info? e = some info) {b p : Option Addr} {n cap m c : Nat} (h : min m n = 0) :
    (Builtin.copy_ #[t, u] ty #[.slice b n cap, .slice p m c]).run P w = .ok (goInt 0) w := by
  have h' : Nat.min m n = 0 := h
  cases p <;> cases b <;> simp [Builtin.copy_, run_underlying ht, sizeOf, typeInfo, hi, Builtin.lenOf, h', h, Builtin.firstCells, loadCells, loadCellsFrom, storeCells]

theorem op_cpy (hi : HI w g H) {c : Call} {t u e : TypeId} {x y : Operand} {x' y' : AO} (ho : o.op = .call c) (hc : c.callee = .builtin .copy) (ha : c.args = #[x, y]) (hty : c.argTypes = #[t, u]) (ht : elemT P t = some e)
    (h0 : szOf P e = 1) (h1 : compA x = some x') (h2 : compA y = some y')
    (hf : FRu w g H f a (x'.us ++ y'.us)) {re : Re} (hre : evOp K draw f h nx (.cpy x' y') = some re) (hrd : ∀ id ∈ re.r, H id = h.get id) : OpOk P o a w g H nx re := by
  obtain ⟨info, q1, hsz⟩ := sz_info (P := P) (t := e) (by omega)
  have e1 := compA_ok h1 (hf.sub fun s hs => by simp [hs])
  have e2 := compA_ok h2 (hf.sub fun s hs => by simp [hs])
  have hexec : ∀ v' w', (Builtin.copy_ #[t, u] o.type #[a.eval x, a.eval y]).run P w = .ok v' w' → (execOp a.eval o).run P w = .ok (.value v') w' := by
    intro v' w' hrun
    simp [execOp, ho, hc, ha, hty, resolve, invoke, builtin, hrun]
  simp only [evOp, bindO_eq] at hre
  obtain ⟨ys, hys, hre⟩ := hre
  split at hre
  · rename_i id off len hx
    split at hre
    · rename_i cells hcells
      split at hre
      case isFalse => cases hre
      rename_i hcond
      cases hre
      simp only at hrd
      have hysz : ∀ x ∈ ys.1, x.length = 1 := fun x hx => by simpa using List.all_eq_true.1 hcond.2 x hx
      obtain ⟨p, cc, e3, hlc, us, u1, u2, u3, u4⟩ := elems_val hi (by omega) hys e2 (fun id hid => hrd id (List.mem_cons_of_mem _ hid)) hysz
      have hH : H id = some (.arr cells) := (hrd id (by simp)).trans hcells
      rw [hx] at e1
      obtain ⟨b, cap, e4, hcap, hb⟩ := e1 cells hH
      rcases Nat.eq_zero_or_pos (min ys.1.length len) with hz | hz
      · have hrun := run_copy_zero (P := P) (w := w) (u := u) (ty := o.type) (elemT_und ht) q1 (b := b) (p := p) (n := len) (cap := cap) (m := ys.1.length) (c := cc) hz
        have hsame : fup H id (some (.arr cells)) = H := by
          funext i
          by_cases hit : i = id
          · subst hit; rw [fup_same, hH]
          · rw [fup_ne hit]
        refine ⟨goInt 0, w, g, .inl (hexec _ _ (by rw [e4, e3]; exact hrun)), ?_, ?_, ?_⟩
        all_goals simp only [hz, updF, Nat.add_zero, List.take_zero, List.map_nil, List.append_nil, List.take_append_drop, hsame]
        · exact hi
        · rw [bn_self]; exact Stp.refl w g H
        · exact DR.sc rfl
      · have hlen : 0 < len := by omega
        have hyl : 0 < ys.1.length := by omega
        have hb' := hb hlen
        subst hb'
        obtain ⟨ad, rfl, hcell⟩ := u3 hyl
        obtain ⟨cur, e', k1, k2, k3, k4⟩ := hi.arr id cells hH
        have hul : us.length = ys.1.length := by rw [u1, Nat.mul_one]
        have htl : (us.take (min ys.1.length len)).length = min ys.1.length len := by rw [List.length_take, hul]; omega
        have hfl : ys.1.flatten.length = ys.1.length := by rw [flatten_len hysz, Nat.mul_one]
        have hl2 : ((ys.1.flatten.take (min ys.1.length len)).map C.d).length = min ys.1.length len := by rw [List.length_map, List.length_take, hfl]; omega
        have hrun := run_copy_row (P := P) w t u o.type e (g.β id) off len cap ad ys.1.length cc cur e' (us.take (min ys.1.length len)) (elemT_und ht) (by rw [q1]; simp [hsz, h0]) k1 (by rw [htl])
          (fun j v hv => by
            rw [List.getElem?_take] at hv
            split at hv
            · exact hcell j v hv
            · cases hv) (by rw [htl]; omega) (fun v hv => u2 v (List.mem_of_mem_take hv))
        rw [htl] at hrun
        have hcl : (cells.take off ++ (ys.1.flatten.take (min ys.1.length len)).map C.d ++ cells.drop (off + min ys.1.length len)).length = cells.length := by
          have := seg_length (off := off) (l := (ys.1.flatten.take (min ys.1.length len)).map C.d) (cs := cells) (by rw [hl2]; omega)
          simp only [seg, hl2] at this
          exact this
        have hcur : ∀ k, (cur.toList.take off ++ us.take (min ys.1.length len) ++ cur.toList.drop (off + min ys.1.length len))[k]? = if off ≤ k ∧ k < off + min ys.1.length len then (us.take (min ys.1.length len))[k - off]? else cur.toList[k]? := by
          intro k
          have := seg_get (off := off) (l := us.take (min ys.1.length len)) (cs := cur.toList) (by rw [htl]; simp; omega) k
          simp only [seg, htl] at this
          exact this
        have hcls : ∀ k, (cells.take off ++ (ys.1.flatten.take (min ys.1.length len)).map C.d ++ cells.drop (off + min ys.1.length len))[k]? = if off ≤ k ∧ k < off + min ys.1.length len then ((ys.1.flatten.take (min ys.1.length len)).map C.d)[k - off]? else cells[k]? := by
          intro k
          have := seg_get (off := off) (l := (ys.1.flatten.take (min ys.1.length len)).map C.d) (cs := cells) (by rw [hl2]; omega) k
          simp only [seg, hl2] at this
          exact this
        obtain ⟨r1, r2⟩ := storeArr hi hH k1 (cells2 := cells.take off ++ (ys.1.flatten.take (min ys.1.length len)).map C.d ++ cells.drop (off + min ys.1.length len)) (cur2 := (cur.toList.take off ++ us.take (min ys.1.length len) ++ cur.toList.drop (off + min ys.1.length len)).toArray) hcl
          (by rw [hcl]; simp [htl]; omega) (fun i cx hcx => by
            rw [hcls] at hcx
            simp only [List.getElem?_toArray]
            rw [hcur]
            split at hcx
            · rename_i hin
              rw [if_pos hin]
              rw [List.getElem?_map] at hcx
              obtain ⟨d, hd, rfl⟩ := Option.map_eq_some_iff.1 hcx
              rw [List.getElem?_take, if_pos (by omega)] at hd
              rw [List.getElem?_take, if_pos (by omega)]
              have hfg := flatten_get hysz (i - off) 0 (by omega)
              rw [Nat.mul_one, Nat.add_zero, hd] at hfg
              obtain ⟨row, hrow, hd'⟩ := Option.bind_eq_some_iff.1 hfg.symm
              obtain ⟨v, hv, hdv⟩ := u4 _ row _ d hrow hd'
              rw [Nat.mul_one, Nat.add_zero] at hv
              exact ⟨v, hv, hdv⟩
            · rename_i hin
              rw [if_neg hin]
              obtain ⟨v, hv, hd⟩ := k3 i cx hcx
              exact ⟨v, by rw [Array.getElem?_toList]; exact hv, hd⟩)
        refine ⟨_, _, g, .inl (hexec _ _ (by rw [e4, e3]; exact hrun)), r1, by rw [bn_self]; exact r2, DR.sc rfl⟩
    · cases hre
  · cases hre

/-- A value of a type, by its cells. -/
def Val (P : Program) (w : World) (g : Gh) (t : TypeId) (xs : List D) (v : Value) : Prop :=
  (isAggT P t = true ∧ ∃ vs : List Value, v = .agg vs.toArray ∧ RelL (DR w g.S) xs vs) ∨ (isAggT P t = false ∧ ∃ x, xs = [x] ∧ DR w g.S x v)

theorem eqCells_app : ∀ {k a c m b d : _} {q : Bool}, k.length = a.length → a.length = c.length → eqCells (k ++ m) (a ++ b) (c ++ d) = some q → ∃ q1 q2, eqCells k a c = some q1 ∧ eqCells m b d = some q2 ∧ q = (q1 && q2)
  | [], [], [], m, b, d, q, _, _, h => ⟨true, q, rfl, h, by simp⟩
  | k :: ks, x :: a, y :: c, m, b, d, q, hk, hl, h => by
    simp only [List.cons_append, eqCells, bindO_eq] at h
    obtain ⟨q0, h0, q1, h1, he⟩ := h
    obtain ⟨r1, r2, k1, k2, rfl⟩ := eqCells_app (by simpa using hk) (by simpa using hl) h1
    cases he
    refine ⟨q0 && r1, r2, ?_, k2, by rw [Bool.and_assoc]⟩
    simp only [eqCells, bindO_eq]
    exact ⟨q0, h0, r1, k1, rfl⟩

theorem decide_bytes (a b : ByteArray) : (a.toList == b.toList) = decide (a = b) := by
  rw [← beq_toListBytes]
  cases a with | mk x => cases b with | mk y =>
  show (x == y) = _
  by_cases h : x = y
  · subst h; simp
  · have : ¬ (⟨x⟩ : ByteArray) = ⟨y⟩ := fun he => h (by injection he)
    simp [h, this]

theorem eqFields_ok {n d D' : Nat} {xs ys : List D} {vs us : List Value} (hr : RelL (DR w g.S) xs vs) (hs : RelL (DR w g.S) ys us)
    (ih : ∀ t ks, kindsT P d t = some ks → ∀ a b va vb q, Val P w g t a va → Val P w g t b vb → a.length = szOf P t → b.length = szOf P t → eqCells ks a b = some q → (Op.equalIn D' t va vb).run P w = .ok q w)
    (hinfo : ∀ t ks, kindsT P d t = some ks → 0 < szOf P t ∧ (∃ d, P.underlying t = some d) ∧ (isAggT P t = false → szOf P t = 1)) (hxl : xs.length = n) (hyl : ys.length = n) :
    ∀ (fs : List Field) (off : Nat) (ks : List Nat) (q : Bool), kindsFs P (kindsT P d) n off fs = some ks → off ≤ n → eqCells ks (xs.drop off) (ys.drop off) = some q → (Op.eqFields D' vs.toArray us.toArray fs).run P w = .ok q w
  | [], off, ks, q, hf, hle, he => by
    simp only [kindsFs] at hf
    split at hf
    case isFalse => cases hf
    cases hf
    subst_vars
    rw [List.drop_eq_nil_of_le (by omega), List.drop_eq_nil_of_le (by omega)] at he
    cases he
    simp [Op.eqFields]
  | fd :: fs, off, ks, q, hf, hle, he => by
    simp only [kindsFs] at hf
    split at hf
    case isFalse => cases hf
    rename_i hcond
    simp only [bne_iff_ne] at hcond
    obtain ⟨f1, f2⟩ := hcond
    simp only [bindO_eq] at hf
    obtain ⟨k1s, f3, hf⟩ := hf
    split at hf
    case isFalse => cases hf
    rename_i hkl
    simp only [bindO_eq] at hf
    obtain ⟨k2s, f4, hf⟩ := hf
    cases hf
    obtain ⟨k0, k1, k2⟩ := hinfo _ _ f3
    have hoff : ∀ (fs : List Field) (o : Nat) (ks : List Nat), kindsFs P (kindsT P d) n o fs = some ks → o ≤ n := by
      intro fs
      induction fs with
      | nil => intro o ks h; simp only [kindsFs] at h; split at h; · omega
               · cases h
      | cons f r ih' =>
        intro o ks h
        simp only [kindsFs] at h
        split at h
        case isFalse => cases h
        simp only [bindO_eq] at h
        obtain ⟨_, _, h⟩ := h
        split at h
        case isFalse => cases h
        simp only [bindO_eq] at h
        obtain ⟨_, h, _⟩ := h
        have := ih' _ _ h
        omega
    have hle2 := hoff fs _ _ f4
    rw [← List.take_append_drop (szOf P fd.type) (xs.drop off), ← List.take_append_drop (szOf P fd.type) (ys.drop off), List.drop_drop, List.drop_drop] at he
    have l1 : ((xs.drop off).take (szOf P fd.type)).length = szOf P fd.type := by simp; omega
    have l2 : ((ys.drop off).take (szOf P fd.type)).length = szOf P fd.type := by simp; omega
    obtain ⟨q1, q2, e1, e2, rfl⟩ := eqCells_app (hkl.trans l1.symm) (l1.trans l2.symm) he
    have val : ∀ {xs : List D} {vs : List Value}, xs.length = n → RelL (DR w g.S) xs vs → ∃ v, (part fd.type vs.toArray off).run P w = .ok v w ∧ Val P w g fd.type ((xs.drop off).take (szOf P fd.type)) v := by
      intro xs vs hx hr
      cases hagg : isAggT P fd.type with
      | true =>
        obtain ⟨info, hinf, _⟩ := sz_info k0
        exact ⟨_, part_run hagg ⟨info, hinf⟩, .inl ⟨hagg, _, rfl, (hr.drop off).take _⟩⟩
      | false =>
        have hlt : off < xs.length := by omega
        obtain ⟨v, hv, hd⟩ := hr.get (List.getElem?_eq_getElem hlt)
        refine ⟨v, part_run1 hagg k1 hv, .inr ⟨hagg, xs[off], ?_, hd⟩⟩
        rw [k2 hagg, List.drop_eq_getElem_cons hlt]
        rfl
    obtain ⟨v1, p1, val1⟩ := val hxl hr
    obtain ⟨v2, p2, val2⟩ := val hyl hs
    have hrun := ih _ _ f3 _ _ _ _ q1 val1 val2 l1 l2 e1
    have hrest := eqFields_ok hr hs ih hinfo hxl hyl fs _ _ q2 f4 hle2 e2
    simp only [Op.eqFields, f2]
    simp only [ne_eq, f1, not_false_eq_true, if_true, Sem.run_bind, p1, p2, hrun, Result.andThen_ok]
    cases q1
    · simp
    · simp [hrest]

theorem kinds_info : ∀ (d : Nat) (t : TypeId) (ks : List Nat), kindsT P d t = some ks → 0 < szOf P t ∧ (∃ d, P.underlying t = some d) ∧ (isAggT P t = false → szOf P t = 1)
  | 0, t, ks, h => by simp [kindsT] at h
  | d + 1, t, ks, h => by
    unfold kindsT at h
    split at h
    · rename_i hu; split at h; · exact ⟨by omega, ⟨_, hu⟩, fun _ => by assumption⟩
      · cases h
    · rename_i hu; split at h; · exact ⟨by omega, ⟨_, hu⟩, fun _ => by assumption⟩
      · cases h
    · rename_i hu; split at h; · exact ⟨by omega, ⟨_, hu⟩, fun _ => by assumption⟩
      · cases h
    · rename_i fs hu
      split at h
      · rename_i hc
        exact ⟨hc.2, ⟨_, hu⟩, fun ha => by simp [isAggT, hu] at ha⟩
      · cases h
    · cases h

theorem eqCell_one {k : Nat} {a b : List D} {q : Bool} (h : eqCells [k] a b = some q) : ∃ x y, a = [x] ∧ b = [y] ∧ eqCell k x y = some q := by
  cases a with
  | nil => simp [eqCells] at h
  | cons x a => cases b with
    | nil => simp [eqCells] at h
    | cons y b =>
      simp only [eqCells, bindO_eq] at h
      obtain ⟨q0, h0, q1, h1, he⟩ := h
      cases a <;> cases b <;> simp [eqCells] at h1
      subst h1
      cases he
      exact ⟨_, _, rfl, rfl, by simpa using h0⟩

theorem equal_ok : ∀ (d D' : Nat), d ≤ D' → ∀ t ks, kindsT P d t = some ks → ∀ a b va vb q, Val P w g t a va → Val P w g t b vb → a.length = szOf P t → b.length = szOf P t → eqCells ks a b = some q → (Op.equalIn D' t va vb).run P w = .ok q w
  | 0, _, _, t, ks, h => by simp [kindsT] at h
  | d + 1, 0, hd, t, ks, h => by omega
  | d + 1, D' + 1, hd, t, ks, h => by
    intro a b va vb q ha hb hal hbl he
    have scal : ∀ (k : Nat), isAggT P t = false → ks = [k] → ∃ x y, DR w g.S x va ∧ DR w g.S y vb ∧ eqCell k x y = some q := by
      intro k hagg hk
      subst hk
      obtain ⟨x, y, rfl, rfl, he2⟩ := eqCell_one he
      rcases ha with ⟨h1, _⟩ | ⟨_, x', hx, hxd⟩
      · rw [hagg] at h1; cases h1
      rcases hb with ⟨h1, _⟩ | ⟨_, y', hy, hyd⟩
      · rw [hagg] at h1; cases h1
      cases hx; cases hy
      exact ⟨x, y, hxd, hyd, he2⟩
    unfold kindsT at h
    split at h
    · rename_i hu
      split at h
      case isFalse => cases h
      cases h
      obtain ⟨x, y, hx, hy, he⟩ := scal 0 (by simp [isAggT, hu]) rfl
      unfold eqCell at he
      split at he
      · cases he; cases hx; cases hy; exact run_equalIn_bool' w D' t _ _ hu
      · omega
      · omega
      · cases he
    · rename_i hu
      split at h
      case isFalse => cases h
      cases h
      obtain ⟨x, y, hx, hy, he⟩ := scal 1 (by simp [isAggT, hu]) rfl
      unfold eqCell at he
      split at he
      · omega
      · split at he
        · rename_i hk
          subst hk
          cases he; cases hx; cases hy
          exact run_equalIn_int w D' t _ _ _ _ hu
        · cases he
      · omega
      · cases he
    · rename_i hu
      split at h
      case isFalse => cases h
      cases h
      obtain ⟨x, y, hx, hy, he⟩ := scal 2 (by simp [isAggT, hu]) rfl
      unfold eqCell at he
      split at he
      · omega
      · omega
      · cases he; cases hx; cases hy
        rw [run_equalIn_string w D' t _ _ hu, decide_bytes]
      · cases he
    · rename_i fs hu
      split at h
      case isFalse => cases h
      rename_i hc
      have hfs : P.fieldsOf t = fs := by simp [Program.fieldsOf, hu]
      have hagg : isAggT P t = true := by simp [isAggT, hu]
      rcases ha with ⟨_, vs, rfl, hr⟩ | ⟨h1, _⟩
      case inr => rw [hagg] at h1; cases h1
      rcases hb with ⟨_, us, rfl, hs⟩ | ⟨h1, _⟩
      case inr => rw [hagg] at h1; cases h1
      rw [run_equalIn_struct w D' t _ _ (by rw [hfs]; exact hu) hc.1, hfs]
      exact eqFields_ok hr hs (fun t ks h => equal_ok d D' (by omega) t ks h) (kinds_info d) hal hbl fs.toList 0 ks q h (Nat.zero_le _) (by simpa using he)
    · cases h

theorem op_eqa (hi : HI w g H) {op : BinOp} {t : TypeId} {x y : Operand} {x' y' : AO} {neg : Bool} {fs : Array Field} {sy : _} {ks : List Nat} (ho : o.op = .binOp op t x y sy) (hop : (op = .eql ∧ neg = false) ∨ (op = .neq ∧ neg = true)) (hu : P.underlying t = some (.struct fs)) (hm : P.eqGuardType P.depth t = false) (hk : kindsT P 10 t = some ks)
    (h1 : compA x = some x') (h2 : compA y = some y') (hf : FRu w g H f a (x'.us ++ y'.us)) {re : Re} (hre : evOp K draw f h nx (.eqa neg ks x' y') = some re) : OpOk P o a w g H nx re := by
  have e1 := compA_ok h1 (hf.sub fun s hs => by simp [hs])
  have e2 := compA_ok h2 (hf.sub fun s hs => by simp [hs])
  simp only [evOp] at hre
  split at hre
  · rename_i as bs hx hy
    simp only [bindO_eq] at hre
    obtain ⟨q, hq, hre⟩ := hre
    have := ok1_eq hre
    subst this
    rw [hx] at e1
    rw [hy] at e2
    obtain ⟨vs, hvs, hr⟩ := e1
    obtain ⟨us, hus, hs⟩ := e2
    have hagg : isAggT P t = true := by simp [isAggT, hu]
    have hlen : ∀ {ks : List Nat} {a b : List D} {q : Bool}, eqCells ks a b = some q → a.length = ks.length ∧ b.length = ks.length := by
      intro ks
      induction ks with
      | nil => intro a b q h; cases a <;> cases b <;> simp_all [eqCells]
      | cons k ks ih =>
        intro a b q h
        cases a <;> cases b <;> simp only [eqCells, bindO_eq] at h
        · cases h
        · cases h
        · cases h
        · obtain ⟨_, _, _, h, _⟩ := h
          obtain ⟨h1, h2⟩ := ih h
          simp [h1, h2]
    have hkl : ks.length = szOf P t := by
      have : ∀ (n : Nat) (fs : List Field) (off : Nat) (ks : List Nat), kindsFs P (kindsT P 9) n off fs = some ks → off + ks.length = n := by
        intro n fs
        induction fs with
        | nil => intro off ks h; simp only [kindsFs] at h; split at h
                 · cases h; simpa
                 · cases h
        | cons f r ih =>
          intro off ks h
          simp only [kindsFs] at h
          split at h
          case isFalse => cases h
          simp only [bindO_eq] at h
          obtain ⟨k1, _, h⟩ := h
          split at h
          case isFalse => cases h
          simp only [bindO_eq] at h
          obtain ⟨k2, h, he⟩ := h
          cases he
          have := ih _ _ h
          simp
          omega
      unfold kindsT at hk
      rw [hu] at hk
      simp only at hk
      split at hk
      · have := this _ _ _ _ hk; omega
      · cases hk
    obtain ⟨l1, l2⟩ := hlen hq
    have hrun := equal_ok (P := P) (w := w) (g := g) 10 10000 (by omega) t ks hk (as.map C.toD) (bs.map C.toD) (.agg vs.toArray) (.agg us.toArray) q
      (.inl ⟨hagg, vs, rfl, RelL.map (hr.imp fun x _ v h => CR.toD h)⟩) (.inl ⟨hagg, us, rfl, RelL.map (hs.imp fun x _ v h => CR.toD h)⟩) (by omega) (by omega) hq
    have hguard := run_eqGuard_agg (P := P) w op t x y vs.toArray us.toArray hm
    refine OpOk.pure hi (v := .bool (if neg then !q else q)) ?_ (DR.sc rfl)
    rcases hop with ⟨rfl, rfl⟩ | ⟨rfl, rfl⟩
    · simp [execOp, ho, hvs, hus, hguard, run_eql_struct, hrun]
    · simp [execOp, ho, hvs, hus, hguard, run_neq_struct, hrun]
  · cases hre
end
end Go.Proofs.Ytpanbfainilmpaa.Ev
end
section
/- The numbers that a state names are below its next free one. -/
set_option linter.unusedVariables false
set_option linter.unusedSimpArgs false
namespace Go.Proofs.Ytpanbfainilmpaa.Ev

/-- The constants of an operation. -/
def AO.ks : AO → List C
  | .t _ => []
  | .k x => [x]
def ksO : Option AO → List C
  | some a => a.ks
  | none => []
def AOp.ks : AOp → List C
  | .mv x => x.ks
  | .asg x => x.ks
  | .pick c a b => c.ks ++ a.ks ++ b.ks
  | .alloc z => z
  | .box x => x.ks
  | .build z ps => z ++ ps.flatMap fun p => p.2.2.ks
  | .bsl _ _ _ z ps => z ++ ps.flatMap fun p => p.2.ks
  | .ld _ _ a => a.ks
  | .st _ a x => a.ks ++ x.ks
  | .fad _ x => x.ks
  | .iad _ x i => x.ks ++ i.ks
  | .fld _ _ _ x => x.ks
  | .idx _ _ _ x i => x.ks ++ i.ks
  | .sidx x i => x.ks ++ i.ks
  | .bin _ x y => x.ks ++ y.ks
  | .binb _ x y => x.ks ++ y.ks
  | .eqa _ _ x y => x.ks ++ y.ks
  | .un _ x => x.ks
  | .cvi _ x => x.ks
  | .cvs x => x.ks
  | .slc _ x lo hi => x.ks ++ ksO lo ++ ksO hi
  | .mks _ _ _ z l c => z ++ l.ks ++ c.ks
  | .app _ _ _ x y => x.ks ++ y.ks
  | .cpy x y => x.ks ++ y.ks
  | .len x => x.ks
  | .slen x => x.ks
  | .mx x y => x.ks ++ y.ks
  | .mn x y => x.ks ++ y.ks
  | .ext x _ => x.ks
  | .call _ as => as.flatMap fun p => p.2.ks
  | .callv x as => x.ks ++ as.flatMap fun p => p.2.ks
  | .icall _ as => as.flatMap AO.ks
  | .bad => []
def AOp.cl (o : AOp) : Bool := o.ks.all fun x => x.ids.isEmpty

def Lt (l : List Nat) (n : Nat) : Prop := ∀ i ∈ l, i < n
theorem Lt.nil {n : Nat} : Lt [] n := fun _ h => by cases h
theorem Lt.app {a b : List Nat} {n : Nat} (h : Lt a n) (k : Lt b n) : Lt (a ++ b) n := fun i hi => (List.mem_append.1 hi).elim (h i) (k i)
theorem Lt.le {a : List Nat} {n m : Nat} (h : Lt a n) (k : n ≤ m) : Lt a m := fun i hi => Nat.lt_of_lt_of_le (h i hi) k
def WH (h : Hp) (nx : Nat) : Prop := ∀ e ∈ h, e.1 < nx ∧ Lt e.2.ids nx
theorem Hp.get_mem : ∀ {h : Hp} {i : Nat} {l : Loc}, h.get i = some l → (i, l) ∈ h
  | [], i, l, hh => by simp [Hp.get] at hh
  | (m, v) :: r, i, l, hh => by
    simp only [Hp.get] at hh
    split at hh
    · rename_i hn; cases hh; subst hn; exact List.mem_cons_self
    · exact List.mem_cons_of_mem _ (Hp.get_mem hh)
theorem WH.get {h : Hp} {nx : Nat} (hw : WH h nx) {i : Nat} {l : Loc} (hl : h.get i = some l) : i < nx ∧ Lt l.ids nx := hw _ (Hp.get_mem hl)
theorem WH.fresh {h : Hp} {nx : Nat} (hw : WH h nx) {i : Nat} (hi : nx ≤ i) : h.get i = none := by
  cases hg : h.get i with
  | none => rfl
  | some l => have := (hw.get hg).1; omega
theorem WH.le {h : Hp} {n m : Nat} (hw : WH h n) (hn : n ≤ m) : WH h m := fun e he => ⟨Nat.lt_of_lt_of_le (hw e he).1 hn, (hw e he).2.le hn⟩
theorem WH.set {h : Hp} {nx n : Nat} {l : Loc} (hw : WH h nx) (hn : n < nx) (hl : Lt l.ids nx) : WH (h.set n l) nx := by
  induction h with
  | nil => intro e he; simp only [Hp.set, List.mem_singleton] at he; subst he; exact ⟨hn, hl⟩
  | cons e r ih =>
    obtain ⟨m, v⟩ := e
    intro e he
    simp only [Hp.set] at he
    split at he
    · rename_i hm
      rcases List.mem_cons.1 he with rfl | he
      · exact ⟨hm ▸ hn, hl⟩
      · exact hw e (List.mem_cons_of_mem _ he)
    · rcases List.mem_cons.1 he with rfl | he
      · exact hw _ List.mem_cons_self
      · exact ih (fun e he => hw e (List.mem_cons_of_mem _ he)) e he
theorem WH.del {h : Hp} {nx : Nat} (hw : WH h nx) (n : Nat) : WH (h.del n) nx := by
  induction h with
  | nil => exact hw
  | cons e r ih =>
    obtain ⟨m, v⟩ := e
    have ih := ih (fun e he => hw e (List.mem_cons_of_mem _ he))
    simp only [Hp.del]
    split
    · exact ih
    · intro e he
      rcases List.mem_cons.1 he with rfl | he
      · exact hw _ List.mem_cons_self
      · exact ih e he
theorem WH.upd {nx : Nat} : ∀ {w : List (Nat × Option Loc)} {h : Hp}, WH h nx → (∀ e ∈ w, e.1 < nx ∧ ∀ l, e.2 = some l → Lt l.ids nx) → WH (h.upd w) nx
  | [], h, hw, _ => hw
  | (n, some l) :: r, h, hw, hr => WH.upd (w := r) (h := h.set n l) (hw.set (hr _ List.mem_cons_self).1 ((hr _ List.mem_cons_self).2 l rfl)) fun e he => hr e (List.mem_cons_of_mem _ he)
  | (n, .none) :: r, h, hw, hr => WH.upd (w := r) (h := h.del n) (hw.del n) fun e he => hr e (List.mem_cons_of_mem _ he)
def WFr (f : Fr) (nx : Nat) : Prop := ∀ s, Lt (f.get s).ids nx

def KWF (K : Or) : Prop := ∀ g vs h nx q, K.icall g vs h nx = some q → (∀ v ∈ vs, Lt v.ids nx) → WH h nx → nx ≤ q.2.2 ∧ Lt q.1.ids q.2.2 ∧ WH q.2.1 q.2.2

section
variable {f : Fr} {h : Hp} {nx : Nat} {K : Or} {draw : Bool}

theorem ev_lt (hf : WFr f nx) {x : AO} (hk : ∀ c ∈ x.ks, c.ids = []) : Lt (x.ev f).ids nx := by
  cases x with
  | t n => exact hf n
  | k c => simp only [AO.ev, AV.ids, hk c (by simp [AO.ks])]; exact Lt.nil

def ReOk (nx : Nat) (re : Re) : Prop := nx ≤ re.nx ∧ Lt re.ids re.nx
theorem ReOk.val {v : AV} {r : List Nat} (h : Lt v.ids nx) : ReOk nx ⟨v, [], r, nx⟩ := ⟨Nat.le_refl _, by simpa [Re.ids] using h⟩
theorem ReOk.ok1 {v : AV} {re : Re} (hre : ok1 v nx = some re) (h : Lt v.ids nx) : ReOk nx re := by
  rw [ok1_eq hre]; exact .val h

theorem cells_lt {cs : List C} {n : Nat} : Lt (cs.flatMap C.ids) n ↔ ∀ c ∈ cs, Lt c.ids n := by
  constructor
  · intro h c hc i hi; exact h i (List.mem_flatMap.2 ⟨c, hc, hi⟩)
  · intro h i hi
    obtain ⟨c, hc, hi⟩ := List.mem_flatMap.1 hi
    exact h c hc i hi
theorem d_ids (ds : List D) {n : Nat} : Lt ((ds.map C.d).flatMap C.ids) n := cells_lt.2 fun c hc => by
  obtain ⟨d, _, rfl⟩ := List.mem_map.1 hc
  exact Lt.nil

theorem putPart_lt {n : Nat} {cs cs' : List C} {off sz : Nat} {v : AV} (h : putPart cs off sz v = some cs') (h1 : Lt (cs.flatMap C.ids) n) (h2 : Lt v.ids n) : Lt (cs'.flatMap C.ids) n := by
  unfold putPart at h
  split at h
  · split at h
    · cases h
      refine cells_lt.2 fun c hc => ?_
      rcases List.mem_or_eq_of_mem_set hc with hc | rfl
      · exact cells_lt.1 h1 c hc
      · exact h2
    · cases h
  · split at h
    · cases h
      refine cells_lt.2 fun c hc => ?_
      rcases List.mem_append.1 hc with hc | hc
      · rcases List.mem_append.1 hc with hc | hc
        · exact cells_lt.1 h1 c (List.mem_of_mem_take hc)
        · exact cells_lt.1 h2 c hc
      · exact cells_lt.1 h1 c (List.mem_of_mem_drop hc)
    · cases h
  · cases h
theorem putParts_lt (hf : WFr f nx) : ∀ {ps : List (Nat × Nat × AO)} {cs cs' : List C}, putParts f cs ps = some cs' → (∀ p ∈ ps, ∀ c ∈ p.2.2.ks, c.ids = []) → Lt (cs.flatMap C.ids) nx → Lt (cs'.flatMap C.ids) nx
  | [], cs, cs', h, _, h1 => by simp only [putParts, Option.some.injEq] at h; subst h; exact h1
  | (off, sz, x) :: r, cs, cs', h, hk, h1 => by
    simp only [putParts, bindV, bindO_eq] at h
    obtain ⟨c1, h2, h3⟩ := h
    exact putParts_lt hf h3 (fun p hp => hk p (List.mem_cons_of_mem _ hp)) (putPart_lt h2 h1 (ev_lt hf (hk (off, sz, x) (by simp))))
theorem litElems_lt (hf : WFr f nx) {sz : Nat} : ∀ {ps : List (Nat × AO)} {es es' : List (List C)}, litElems f sz es ps = some es' → (∀ p ∈ ps, ∀ c ∈ p.2.ks, c.ids = []) → (∀ e ∈ es, Lt (e.flatMap C.ids) nx) → ∀ e ∈ es', Lt (e.flatMap C.ids) nx
  | [], es, es', h, _, h1 => by simp only [litElems, Option.some.injEq] at h; subst h; exact h1
  | (i, x) :: r, es, es', h, hk, h1 => by
    simp only [litElems, bindV, bindO_eq] at h
    obtain ⟨cs, h2, h3⟩ := h
    split at h3
    case isFalse => cases h3
    refine litElems_lt hf h3 (fun p hp => hk p (List.mem_cons_of_mem _ hp)) (fun e he => ?_)
    rcases List.mem_or_eq_of_mem_set he with he | rfl
    · exact h1 e he
    · have hx := ev_lt hf (hk (i, x) (by simp))
      unfold cellsOf at h2
      split at h2
      · rename_i c hc
        split at h2
        · cases h2
          rw [hc] at hx
          refine cells_lt.2 fun c' hc' => ?_
          simp only [List.mem_singleton] at hc'
          subst hc'
          exact hx
        · cases h2
      · rename_i c hc
        split at h2
        · cases h2
          rw [hc] at hx
          exact hx
        · cases h2
      · cases h2

theorem births_w : ∀ (cs : List C) (n : Nat), ∀ e ∈ (births n cs).2.1, e.1 < (births n cs).2.2 ∧ e.2 = some (.tok 0 0)
  | [], n, e, h => by simp [births] at h
  | c :: cs, n, e, h => by
    cases c with
    | nil =>
      simp only [births, List.mem_cons] at h ⊢
      rcases h with rfl | h
      · exact ⟨births_lo cs (n + 1), rfl⟩
      · exact births_w cs (n + 1) e h
    | d x => exact births_w cs n e h
    | gr t es => exact births_w cs n e h

theorem boxed_lt {cs : List C} {re : Re} (hre : boxed (births nx cs) = some re) (h : ∀ c ∈ cs, Lt c.ids nx) : ReOk nx re := by
  simp only [boxed, Option.some.injEq] at hre
  subst hre
  have hlo := births_lo cs nx
  refine ⟨by simp only; omega, ?_⟩
  intro i hi
  simp only [Re.ids, AV.ids, List.mem_append, List.mem_singleton, List.flatMap_append, List.mem_flatMap] at hi
  rcases hi with rfl | ⟨e, he, hi⟩ | ⟨e, he, hi⟩
  · simp
  · obtain ⟨h1, h2⟩ := births_w cs nx e he
    rw [h2] at hi
    simp only [Loc.ids, List.mem_singleton, List.mem_cons, List.not_mem_nil, or_false] at hi
    subst hi
    show _ < _ + 1
    omega
  · subst he
    simp only [Loc.ids, List.mem_cons, List.mem_flatMap] at hi
    rcases hi with rfl | ⟨c, hc, hi⟩
    · simp
    · show i < (births nx cs).2.2 + 1
      rcases births_ids cs nx c hc i hi with ⟨y, hy, hi⟩ | h
      · have := h y hy i hi; omega
      · omega

theorem birthV_w (v : AV) : ∀ e ∈ (birthV nx v).2.1, ∀ i, i ∈ (e.1 :: match e.2 with | some l => l.ids | none => []) → i < (birthV nx v).2.2 := by
  have go : ∀ cs : List C, ∀ e ∈ (births nx cs).2.1, ∀ i, i ∈ (e.1 :: match e.2 with | some l => l.ids | none => []) → i < (births nx cs).2.2 := by
    intro cs e he i hi
    obtain ⟨h1, h2⟩ := births_w cs nx e he
    rw [h2] at hi
    simp only [Loc.ids, List.mem_cons, List.not_mem_nil, or_false] at hi
    subst hi
    exact h1
  cases v with
  | c x =>
    cases x with
    | nil => exact go [.nil]
    | d y => intro e he; simp [birthV] at he
    | gr t es => intro e he; simp [birthV] at he
  | ag cs => exact go cs
  | _ => intro e he; simp [birthV] at he
theorem birthV_lt {v : AV} (h : Lt v.ids nx) : Lt (birthV nx v).1.ids (birthV nx v).2.2 := by
  cases v with
  | c x =>
    cases x with
    | nil => intro i hi; simp only [birthV, AV.ids, C.ids, List.mem_singleton] at hi ⊢; omega
    | d y => exact h
    | gr t es => exact h
  | ag cs =>
    intro i hi
    obtain ⟨c, hc, hii⟩ := List.mem_flatMap.1 hi
    have hlo := births_lo cs nx
    rcases births_ids cs nx c hc i hii with ⟨y, hy, hyi⟩ | h2
    · exact Nat.lt_of_lt_of_le (h i (List.mem_flatMap.2 ⟨y, hy, hyi⟩)) hlo
    · exact h2.2
  | _ => exact h

theorem elems_ids {sz : Nat} {v : AV} {q : List (List D) × List Nat} (hq : elems h sz v = some q) : ∀ i ∈ q.2, i ∈ v.ids := by
  unfold elems at hq
  split at hq
  · cases hq; simp
  · cases hq; simp
  · cases hq; simp
  · split at hq
    · split at hq
      · cases hq; simp [AV.ids]
      · cases hq
    · cases hq
  · cases hq
theorem toPV_ids {sz : Nat} {v : AV} {q : PV × List Nat} (hq : toPV h sz v = some q) : ∀ i ∈ q.2, i ∈ v.ids := by
  unfold toPV at hq
  split at hq
  · cases hq; simp
  · cases hq; simp
  · simp only [bindO_eq] at hq
    obtain ⟨e, he, hq⟩ := hq
    cases hq
    exact elems_ids he
  · cases hq
theorem toPVs_lt (hf : WFr f nx) : ∀ {as : List (Nat × AO)} {q : List PV × List Nat}, toPVs h f as = some q → (∀ p ∈ as, ∀ c ∈ p.2.ks, c.ids = []) → Lt q.2 nx
  | [], q, hq, _ => by simp only [toPVs, Option.some.injEq] at hq; subst hq; exact Lt.nil
  | x :: r, q, hq, hk => by
    simp only [toPVs, bindV, bindO_eq] at hq
    obtain ⟨a, ha, b, hb, he⟩ := hq
    cases he
    exact Lt.app (fun i hi => ev_lt hf (hk x (by simp)) i (toPV_ids ha i hi)) (toPVs_lt hf hb fun p hp => hk p (List.mem_cons_of_mem _ hp))

theorem doCall_lt (hf : WFr f nx) {g : Nat} {as : List (Nat × AO)} {re : Re} (hre : doCall K draw f h nx g as = some re) (hk : ∀ p ∈ as, ∀ c ∈ p.2.ks, c.ids = []) : ReOk nx re := by
  simp only [doCall, bindO_eq] at hre
  obtain ⟨a, ha, r, hr, hre⟩ := hre
  have ho : ∀ r : List PV, (outAV r).ids = [] := by
    intro r
    unfold outAV
    split
    · rename_i x
      cases x with
      | one x => rfl
      | agg xs =>
        simp only [PV.toAV, AV.ids, List.flatMap_map]
        induction xs with
        | nil => rfl
        | cons x xs ih => simp [C.ids, ih]
    · rfl
  split at hre
  · cases hre; exact .val (by rw [ho]; exact Lt.nil)
  · cases hre
    refine ⟨Nat.le_refl _, ?_⟩
    intro i hi
    simp only [Re.ids, ho, List.nil_append, List.flatMap_map, List.mem_flatMap, List.mem_singleton, List.mem_cons, List.not_mem_nil, or_false] at hi
    obtain ⟨j, hj, rfl⟩ := hi
    exact toPVs_lt hf ha hk _ hj


theorem PV.toAV_ids (p : PV) : p.toAV.ids = [] := by
  cases p with
  | one x => rfl
  | agg xs =>
    simp only [PV.toAV, AV.ids, List.flatMap_map]
    induction xs with
    | nil => rfl
    | cons x xs ih => simp [C.ids, ih]

theorem lt_one {v : AV} {id : Nat} {l : Loc} {r : List Nat} (hv : Lt v.ids nx) (hid : id < nx) (hl : Lt l.ids nx) : ReOk nx ⟨v, [(id, some l)], r, nx⟩ := by
  refine ⟨Nat.le_refl _, fun i hi => ?_⟩
  simp only [Re.ids, List.mem_append, List.flatMap_cons, List.flatMap_nil, List.append_nil, List.mem_cons] at hi
  rcases hi with hi | rfl | hi
  · exact hv i hi
  · exact hid
  · exact hl i hi
theorem lt_new {v : AV} {l : Loc} {r : List Nat} (hv : Lt v.ids (nx + 1)) (hl : Lt l.ids (nx + 1)) : ReOk nx ⟨v, [(nx, some l)], r, nx + 1⟩ := by
  refine ⟨Nat.le_succ _, fun i hi => ?_⟩
  simp only [Re.ids, List.mem_append, List.flatMap_cons, List.flatMap_nil, List.append_nil, List.mem_cons] at hi
  rcases hi with hi | rfl | hi
  · exact hv i hi
  · exact Nat.lt_succ_self _
  · exact hl i hi
theorem zero_lt {zs : List C} (h : ∀ c ∈ zs, c.ids = []) {n : Nat} : ∀ c ∈ zs, Lt c.ids n := fun c hc => by rw [h c hc]; exact Lt.nil
theorem lt_single {n m : Nat} (h : n < m) : Lt [n] m := fun i hi => by simp only [List.mem_singleton] at hi; omega

theorem evOp_lt (hK : KWF K) (hf : WFr f nx) (hh : WH h nx) {op : AOp} (hk : ∀ c ∈ op.ks, c.ids = []) {re : Re} (hre : evOp K draw f h nx op = some re) : ReOk nx re := by
  have arrlt : ∀ {id : Nat} {cells : List C}, h.get id = some (.arr cells) → id < nx ∧ Lt (cells.flatMap C.ids) nx := fun hg => hh.get hg
  cases op with
  | mv x => exact .ok1 hre (ev_lt hf hk)
  | asg x =>
    simp only [evOp] at hre
    split at hre
    · cases hre; exact lt_new (lt_single (by omega)) Lt.nil
    · rename_i v _; exact .ok1 hre (ev_lt hf hk)
  | pick c a b =>
    simp only [evOp, bindO_eq] at hre
    obtain ⟨q, _, hre⟩ := hre
    refine .ok1 hre ?_
    split
    · exact ev_lt hf fun c hc => hk c (by simp [AOp.ks, hc])
    · exact ev_lt hf fun c hc => hk c (by simp [AOp.ks, hc])
  | alloc z => exact boxed_lt hre (zero_lt hk)
  | box x =>
    simp only [evOp] at hre
    have hx := ev_lt hf (x := x) hk
    split at hre
    · rename_i y hy
      rw [hy] at hx
      exact boxed_lt hre fun c hc => by simp only [List.mem_singleton] at hc; subst hc; exact hx
    · rename_i cs hy
      rw [hy] at hx
      exact boxed_lt hre (cells_lt.1 hx)
    · cases hre
  | build z ps =>
    simp only [evOp, bindO_eq] at hre
    obtain ⟨cs, hcs, hre⟩ := hre
    exact .ok1 hre (putParts_lt hf hcs (fun p hp c hc => hk c (List.mem_append_right _ (List.mem_flatMap.2 ⟨p, hp, hc⟩))) (cells_lt.2 (zero_lt fun c hc => hk c (List.mem_append_left _ hc))))
  | bsl mu sz n z ps =>
    simp only [evOp, bindO_eq] at hre
    obtain ⟨es, hes, hre⟩ := hre
    have hlt := litElems_lt hf hes (fun p hp c hc => hk c (List.mem_append_right _ (List.mem_flatMap.2 ⟨p, hp, hc⟩))) (fun e he => by
      rw [List.eq_of_mem_replicate he]
      exact cells_lt.2 (zero_lt fun c hc => hk c (List.mem_append_left _ hc)))
    split at hre
    · cases hre
      refine lt_new (lt_single (by omega)) (cells_lt.2 fun c hc => ?_)
      obtain ⟨e, he, hc⟩ := List.mem_flatten.1 hc
      exact (cells_lt.1 (hlt e he) c hc).le (Nat.le_succ _)
    · cases hre
      exact lt_new (lt_single (by omega)) Lt.nil
  | ld agg sz a =>
    simp only [evOp] at hre
    split at hre
    · split at hre
      · rename_i cells hg
        split at hre
        · split at hre
          · cases hre
            refine .val (cells_lt.2 fun c hc => cells_lt.1 (arrlt hg).2 c (List.mem_of_mem_drop (List.mem_of_mem_take hc)))
          · cases hre
        · split at hre
          · rename_i c hc
            cases hre
            exact .val (cells_lt.1 (arrlt hg).2 c (List.mem_of_getElem? hc))
          · cases hre
      · cases hre
    · split at hre
      · split at hre
        · exact .ok1 hre (d_ids _)
        · cases hre
      · split at hre
        · exact .ok1 hre Lt.nil
        · cases hre
    · cases hre
  | st sz a x =>
    simp only [evOp] at hre
    split at hre
    · split at hre
      · rename_i cells hg
        simp only [bindV, bindO_eq] at hre
        obtain ⟨cs, hcs, hre⟩ := hre
        cases hre
        have hv := ev_lt hf (x := x) fun c hc => hk c (by simp [AOp.ks, hc])
        have hlo := birthV_lo (nx := nx) (x.ev f)
        have hv' := birthV_lt hv
        refine ⟨hlo, ?_⟩
        intro i hi
        simp only [Re.ids, AV.ids, List.nil_append, List.flatMap_append, List.mem_append, List.mem_flatMap, List.mem_singleton] at hi
        rcases hi with ⟨e, he, hi⟩ | ⟨e, he, hi⟩
        · exact birthV_w _ e he i hi
        · subst he
          simp only [Loc.ids, List.mem_cons] at hi
          rcases hi with rfl | hi
          · exact Nat.lt_of_lt_of_le (arrlt hg).1 hlo
          · exact putPart_lt hcs (fun j hj => Nat.lt_of_lt_of_le ((arrlt hg).2 j hj) hlo) hv' i hi
      · cases hre
    · cases hre
  | fad off x =>
    simp only [evOp] at hre
    have hx := ev_lt hf (x := x) hk
    split at hre
    · rename_i id o hy
      rw [hy] at hx
      split at hre
      · cases hre; exact .val hx
      · cases hre
    · exact .ok1 hre Lt.nil
    · cases hre
  | iad sz x i =>
    simp only [evOp, bindO_eq] at hre
    obtain ⟨q, _, hre⟩ := hre
    have hx := ev_lt hf (x := x) fun c hc => hk c (by simp [AOp.ks, hc])
    split at hre
    · split at hre
      · split at hre
        · split at hre
          · exact .ok1 hre Lt.nil
          · cases hre
        · cases hre
      · cases hre
    · split at hre
      · split at hre
        · split at hre
          · exact .ok1 hre Lt.nil
          · cases hre
        · cases hre
      · cases hre
    · rename_i hy
      rw [hy] at hx
      split at hre
      · cases hre; exact .val hx
      · cases hre
    · cases hre
  | fld agg off sz x =>
    simp only [evOp] at hre
    have hx := ev_lt hf (x := x) hk
    split at hre
    · rename_i cs hy
      rw [hy] at hx
      split at hre
      · exact .ok1 hre (cells_lt.2 fun c hc => cells_lt.1 hx c (List.mem_of_mem_drop (List.mem_of_mem_take hc)))
      · split at hre
        · rename_i c hc
          exact .ok1 hre (cells_lt.1 hx c (List.mem_of_getElem? hc))
        · cases hre
    · cases hre
  | idx agg len sz x i =>
    simp only [evOp, bindO_eq] at hre
    obtain ⟨q, _, hre⟩ := hre
    have hx := ev_lt hf (x := x) fun c hc => hk c (by simp [AOp.ks, hc])
    split at hre
    · rename_i cs hy
      rw [hy] at hx
      split at hre
      · split at hre
        · exact .ok1 hre (cells_lt.2 fun c hc => cells_lt.1 hx c (List.mem_of_mem_drop (List.mem_of_mem_take hc)))
        · split at hre
          · rename_i c hc
            exact .ok1 hre (cells_lt.1 hx c (List.mem_of_getElem? hc))
          · cases hre
      · cases hre
    · cases hre
  | sidx x i =>
    simp only [evOp, bindO_eq] at hre
    obtain ⟨q, _, hre⟩ := hre
    split at hre
    · split at hre
      · split at hre
        · exact .ok1 hre Lt.nil
        · cases hre
      · cases hre
    · cases hre
  | bin op x y =>
    simp only [evOp] at hre
    split at hre
    · simp only [bindO_eq] at hre
      obtain ⟨v, _, hre⟩ := hre
      exact .ok1 hre Lt.nil
    · cases hre
  | binb op x y =>
    simp only [evOp] at hre
    split at hre
    · simp only [bindO_eq] at hre
      obtain ⟨v, _, hre⟩ := hre
      exact .ok1 hre Lt.nil
    · cases hre
  | eqa neg ks x y =>
    simp only [evOp] at hre
    split at hre
    · simp only [bindO_eq] at hre
      obtain ⟨v, _, hre⟩ := hre
      exact .ok1 hre Lt.nil
    · cases hre
  | un op x =>
    simp only [evOp] at hre
    split at hre
    · simp only [bindO_eq] at hre
      obtain ⟨v, _, hre⟩ := hre
      exact .ok1 hre Lt.nil
    · cases hre
  | cvi k x => simp only [evOp, bindO_eq] at hre; obtain ⟨q, _, hre⟩ := hre; exact .ok1 hre Lt.nil
  | cvs x => simp only [evOp, bindO_eq] at hre; obtain ⟨q, _, hre⟩ := hre; exact .ok1 hre Lt.nil
  | slc sz x lo hi =>
    simp only [evOp, bindO_eq] at hre
    obtain ⟨l, _, n, _, m, _, hre⟩ := hre
    have hx := ev_lt hf (x := x) fun c hc => hk c (by simp [AOp.ks, hc])
    split at hre
    case isFalse => cases hre
    split at hre
    · split at hre
      · exact .ok1 hre Lt.nil
      · cases hre
    · split at hre
      · exact .ok1 hre Lt.nil
      · cases hre
    · exact .ok1 hre Lt.nil
    · rename_i hy
      rw [hy] at hx
      cases hre
      exact .val hx
    · cases hre
  | mks mu sz bytes z l c =>
    simp only [evOp, bindO_eq] at hre
    obtain ⟨n, _, m, _, hre⟩ := hre
    split at hre
    case isFalse => cases hre
    split at hre
    · split at hre
      · cases hre
        refine lt_new (lt_single (by omega)) (cells_lt.2 fun c hc => ?_)
        obtain ⟨e, he, hc⟩ := List.mem_flatten.1 hc
        rw [List.eq_of_mem_replicate he] at hc
        exact zero_lt (fun c hc => hk c (by simp [AOp.ks, hc])) c hc
      · cases hre
    · cases hre
      exact lt_new (lt_single (by omega)) Lt.nil
  | app mu sz bytes x y =>
    simp only [evOp, bindO_eq] at hre
    obtain ⟨ys, _, hre⟩ := hre
    split at hre
    · split at hre
      case isFalse => cases hre
      split at hre
      · cases hre
      · cases hre; exact lt_new (lt_single (by omega)) Lt.nil
    · rename_i t es hy
      split at hre
      · rename_i n s hg
        have htn := (hh.get hg).1
        split at hre
        case isFalse => cases hre
        split at hre
        · split at hre
          case isFalse => cases hre
          cases hre
          refine ⟨Nat.le_succ _, fun i hi => ?_⟩
          simp only [Re.ids, AV.ids, List.mem_append, List.flatMap_cons, List.flatMap_nil, List.append_nil, List.mem_cons, List.not_mem_nil, or_false, Loc.ids] at hi
          rcases hi with rfl | rfl | rfl | hi
          · exact Nat.lt_succ_self _
          · exact Nat.lt_succ_of_lt htn
          · exact Nat.lt_succ_self _
          · exact d_ids _ i hi
        · cases hre
          exact lt_one (lt_single htn) htn Lt.nil
      · cases hre
    · cases hre
  | cpy x y =>
    simp only [evOp, bindO_eq] at hre
    obtain ⟨ys, _, hre⟩ := hre
    split at hre
    · split at hre
      · rename_i cells hg
        split at hre
        · cases hre
          refine lt_one Lt.nil (arrlt hg).1 (cells_lt.2 fun c hc => ?_)
          rcases List.mem_append.1 hc with hc | hc
          · rcases List.mem_append.1 hc with hc | hc
            · exact cells_lt.1 (arrlt hg).2 c (List.mem_of_mem_take hc)
            · obtain ⟨d, _, rfl⟩ := List.mem_map.1 hc
              exact Lt.nil
          · exact cells_lt.1 (arrlt hg).2 c (List.mem_of_mem_drop hc)
        · cases hre
      · cases hre
    · cases hre
  | len x => simp only [evOp, bindO_eq] at hre; obtain ⟨n, _, hre⟩ := hre; cases hre; exact .val Lt.nil
  | slen x =>
    simp only [evOp] at hre
    split at hre
    · exact .ok1 hre Lt.nil
    · cases hre
  | mx x y =>
    simp only [evOp, bindO_eq] at hre
    obtain ⟨n, _, m, _, hre⟩ := hre
    split at hre
    · exact .ok1 hre Lt.nil
    · cases hre
  | mn x y =>
    simp only [evOp, bindO_eq] at hre
    obtain ⟨n, _, m, _, hre⟩ := hre
    split at hre
    · exact .ok1 hre Lt.nil
    · cases hre
  | ext x i =>
    simp only [evOp] at hre
    split at hre
    · split at hre
      · rename_i p _
        exact .ok1 hre (by rw [PV.toAV_ids]; exact Lt.nil)
      · cases hre
    · cases hre
  | call g as => exact doCall_lt (draw := draw) hf hre fun p hp c hc => hk c (List.mem_flatMap.2 ⟨p, hp, hc⟩)
  | callv x as =>
    simp only [evOp, bindO_eq] at hre
    obtain ⟨g, _, hre⟩ := hre
    exact doCall_lt (draw := draw) hf hre fun p hp c hc => hk c (List.mem_append_right _ (List.mem_flatMap.2 ⟨p, hp, hc⟩))
  | icall g as =>
    simp only [evOp, doICall, bindO_eq] at hre
    obtain ⟨q, hq, hre⟩ := hre
    have hvs : ∀ v ∈ as.map (AO.ev f), Lt v.ids nx := fun v hv => by
      obtain ⟨x, hx, rfl⟩ := List.mem_map.1 hv
      exact ev_lt hf fun c hc => hk c (List.mem_flatMap.2 ⟨x, hx, hc⟩)
    have hrs : Lt (h.reach ((as.map (AO.ev f)).flatMap AV.ids)) nx := by
      have h1 : Lt ((as.map (AO.ev f)).flatMap AV.ids) nx := fun i hi => by
        obtain ⟨v, hv, hi⟩ := List.mem_flatMap.1 hi
        exact hvs v hv i hi
      refine h1.app fun i hi => ?_
      obtain ⟨j, hj, hi⟩ := List.mem_flatMap.1 hi
      split at hi
      · rename_i l hl; exact (hh.get hl).2 i hi
      · cases hi
    obtain ⟨k1, k2, k3⟩ := hK _ _ _ _ _ hq hvs (fun e he => hh e (List.mem_filter.1 he).1)
    split at hre
    case isFalse => cases hre
    cases hre
    refine ⟨k1, fun i hi => ?_⟩
    simp only [Re.ids, List.mem_append, List.flatMap_append, List.mem_flatMap, List.mem_map] at hi
    have key : ∀ j, j < q.2.2 → ∀ i, i ∈ (j :: match q.2.1.get j with | some l => l.ids | none => []) → i < q.2.2 := by
      intro j hj i hi
      rcases List.mem_cons.1 hi with rfl | hi
      · exact hj
      · split at hi
        · rename_i l hl; exact (k3.get hl).2 i hi
        · cases hi
    rcases hi with hi | ⟨e, ⟨j, hj, rfl⟩, hi⟩ | ⟨e, ⟨j, hj, rfl⟩, hi⟩
    · exact k2 i hi
    · exact key j (Nat.lt_of_lt_of_le (hrs j hj) k1) i hi
    · exact key j.1 (k3 j (List.mem_filter.1 hj).1).1 i hi
  | bad => cases hre
end
end Go.Proofs.Ytpanbfainilmpaa.Ev
end
section
/- Calls by value. -/
set_option linter.unusedVariables false
set_option linter.unusedSimpArgs false
namespace Go.Proofs.Ytpanbfainilmpaa.Ev

/-- What comes back of a call of f. -/
def Gives (P : Program) (f : FuncId) (vs : Array Value) (w : World) (R : Value → World → Prop) : Prop :=
  ((callFunc f vs).run P w = .ok (.enter f vs) w ∧ Calls P f vs w (fun | .returned v, w2 => R v w2 | _, _ => False)) ∨
  (∃ v w1, (callFunc f vs).run P w = .ok (.value v) w1 ∧ R v w1)
theorem Gives.mono {P : Program} {f : FuncId} {vs : Array Value} {w : World} {R R' : Value → World → Prop} (h : Gives P f vs w R) (hr : ∀ v w', R v w' → R' v w') : Gives P f vs w R' := by
  rcases h with ⟨h1, h2⟩ | ⟨v, w1, h1, h2⟩
  · refine .inl ⟨h1, Calls.mono h2 fun e w' he => ?_⟩
    cases e with
    | returned v => exact hr _ _ he
    | panicked c => exact he
    | outgrown => exact he
  · exact .inr ⟨v, w1, h1, hr _ _ h2⟩

def PRs (w : World) (S : Nat → Nat → Prop) : List PV → Value → Prop
  | [x], v => PR w S x v
  | xs, v => ∃ us : List Value, v = .tuple us.toArray ∧ RelL (PR w S) xs us
theorem PRs.move {w w' : World} {S S' : Nat → Nat → Prop} (hS : ∀ b o u, S b o → w.cell? ⟨b, o, none⟩ = some u → S' b o ∧ w'.cell? ⟨b, o, none⟩ = some u) {xs : List PV} {v : Value} (h : PRs w S xs v) : PRs w' S' xs v := by
  unfold PRs at h ⊢
  split
  · exact PR.move hS h
  · rename_i hx
    split at h
    · rename_i x; exact absurd rfl (hx x)
    · obtain ⟨us, rfl, hr⟩ := h
      exact ⟨us, rfl, hr.imp fun _ _ _ h => PR.move hS h⟩
theorem PRs.flat {w : World} {S : Nat → Nat → Prop} {xs : List PV} {v : Value} (h : PRs w S xs v) (hf : xs.all PV.flat = true) (w' : World) (S' : Nat → Nat → Prop) : PRs w' S' xs v := by
  rw [List.all_eq_true] at hf
  unfold PRs at h ⊢
  split
  · rename_i x
    exact PR.flat h (hf _ (by simp)) w' S'
  · rename_i hx
    split at h
    · rename_i x; exact absurd rfl (hx x)
    · obtain ⟨us, rfl, hr⟩ := h
      exact ⟨us, rfl, hr.imp fun x hx _ h => PR.flat h (hf x hx) w' S'⟩
theorem PRs.out {w : World} {g : Gh} {H : HF} {xs : List PV} {v : Value} (h : PRs w g.S xs v) : AVR w g H (outAV xs) v := by
  unfold PRs at h
  unfold outAV
  split
  · rename_i x
    cases x with
    | one x => exact h
    | agg xs =>
      obtain ⟨vs, rfl, hr⟩ := h
      exact ⟨vs, rfl, RelL.map (R := CR w g H) (f := C.d) hr⟩
  · rename_i hx
    split at h
    · rename_i x; exact absurd rfl (hx x)
    · exact h

/-- A function by value: these arguments, these results; nothing that was there changes. -/
def FnOk (P : Program) (f : FuncId) (args rs : List PV) : Prop :=
  ∀ (w : World) (S : Nat → Nat → Prop) (vs : List Value), (∀ b o, S b o → b < w.heap.size) → RelL (PR w S) args vs →
    Gives P f vs.toArray w fun v w' => RowKit.Below w.heap.size w w' ∧ PRs w' (fun b o => S b o ∨ (w.heap.size ≤ b ∧ b < w'.heap.size)) rs v

/-- What an operation's step owes, calls included. -/
def StepOk (P : Program) (o : Oper) (a : Act) (w : World) (g : Gh) (H : HF) (nx : Nat) (re : Re) : Prop :=
  ∀ (next : Act → World → Prop) (Q : Exit → Act → World → Prop), (∀ v w' g', HI w' g' (updF H re.w) → Stp (bn nx re.nx) w g H w' g' (updF H re.w) → AVR w' g' (updF H re.w) re.v v → next (a.put o.dst v) w') → o.wp P a w next Q

section
variable {P : Program} {o : Oper} {a : Act} {w : World} {g : Gh} {H : HF} {f : Fr} {h : Hp} {nx : Nat} {K : Or} {draw : Bool}

theorem OpOk.step {re : Re} (h : OpOk P o a w g H nx re) : StepOk P o a w g H nx re := by
  intro next Q hn
  obtain ⟨v, w', g', hrun, h1, h2, h3⟩ := h
  rcases hrun with hrun | ⟨hrun, rfl⟩
  · simp only [Oper.wp, hrun, Oper.upon]; exact hn _ _ _ h1 h2 h3
  · simp only [Oper.wp, hrun, Oper.upon]; exact hn _ _ _ h1 h2 h3

/-- A call's step. -/
theorem Gives.step {fn : FuncId} {vs : Array Value} {R : Value → World → Prop} (hrun : (execOp a.eval o).run P w = (callFunc fn vs).run P w) (h : Gives P fn vs w R) {next : Act → World → Prop} {Q : Exit → Act → World → Prop}
    (hn : ∀ v w', R v w' → next (a.put o.dst v) w') : o.wp P a w next Q := by
  rcases h with ⟨h1, h2⟩ | ⟨v, w1, h1, h2⟩
  · simp only [Oper.wp, hrun, h1, Oper.upon]
    refine Calls.mono h2 fun e w' he => ?_
    cases e with
    | returned v => exact hn _ _ he
    | panicked c => exact he.elim
    | outgrown => exact he.elim
  · simp only [Oper.wp, hrun, h1, Oper.upon]
    exact hn _ _ h2

theorem execCall {c : Call} {fn : FuncId} {x : Operand} (ho : o.op = .call c) (hc : c.callee = .value x) (hx : a.eval x = .func (.func fn) #[] #[]) :
    (execOp a.eval o).run P w = (callFunc fn (c.args.map a.eval)).run P w := by
  simp [execOp, ho, resolve, hc, hx, Deferred.ofValue, invoke]

/-- The cells that a call's arguments stand on. -/
def Sp (g : Gh) (H : HF) (ids : List Nat) : Nat → Nat → Prop := fun b o => g.S b o ∨ ∃ id ∈ ids, blk g H id = some b
theorem Sp.dr {ids : List Nat} : ∀ b o u, g.S b o → w.cell? ⟨b, o, none⟩ = some u → Sp g H ids b o ∧ w.cell? ⟨b, o, none⟩ = some u := fun _ _ _ h k => ⟨.inl h, k⟩
theorem Sp.mono {A B : List Nat} (hs : ∀ i ∈ A, i ∈ B) : ∀ b o u, Sp g H A b o → w.cell? ⟨b, o, none⟩ = some u → Sp g H B b o ∧ w.cell? ⟨b, o, none⟩ = some u := by
  intro b o u h k
  refine ⟨?_, k⟩
  rcases h with h | ⟨i, hi, hb⟩
  · exact .inl h
  · exact .inr ⟨i, hs i hi, hb⟩

theorem toPV_ok (hi : HI w g H) {sz : Nat} {v : AV} {u : Value} {q : PV × List Nat} (hq : toPV h sz v = some q) (hv : AVR w g H v u) (hr : ∀ id ∈ q.2, H id = h.get id) : PR w (Sp g H q.2) q.1 u := by
  unfold toPV at hq
  split at hq
  · cases hq; exact DR.move Sp.dr (CR.toD hv)
  · cases hq
    obtain ⟨vs, rfl, hrel⟩ := hv
    exact ⟨vs, rfl, RelL.map (hrel.imp fun _ _ _ h => DR.move Sp.dr (CR.toD h))⟩
  · rename_i id off len
    simp only [bindO_eq] at hq
    obtain ⟨e, he, hq⟩ := hq
    cases hq
    unfold elems at he
    simp only at he
    split at he
    · rename_i cells hcells
      split at he
      · rename_i hl
        cases he
        have hH : H id = some (.arr cells) := (hr id (by simp)).trans hcells
        obtain ⟨p, c, e1, hlc, hp⟩ := hv cells hH
        obtain ⟨vs, k1, k2, k3⟩ := arr_vals hi hH hl
        subst e1
        have at_ : ∀ (i : Nat) (e : List D) (j : Nat) (x : D), (chunk sz len ((cells.drop off).map C.toD))[i]? = some e → e[j]? = some x → i < len ∧ ∃ v, vs[i * sz + j]? = some v ∧ DR w g.S x v := by
          intro i e j x he hx
          obtain ⟨hil, rfl⟩ := chunk_get sz len _ i e he
          refine ⟨hil, ?_⟩
          rw [List.getElem?_take] at hx
          split at hx
          · rename_i hjl
            rw [List.getElem?_drop, List.getElem?_map] at hx
            obtain ⟨cc, hcc, rfl⟩ := Option.map_eq_some_iff.1 hx
            have hlt : i * sz + j < len * sz := by
              have : (i + 1) * sz ≤ len * sz := Nat.mul_le_mul_right _ hil
              rw [Nat.succ_mul] at this
              omega
            have : ((cells.drop off).take (len * sz))[i * sz + j]? = some cc := by rw [List.getElem?_take, if_pos hlt]; exact hcc
            obtain ⟨v, hv, hd⟩ := k2.get this
            exact ⟨v, hv, CR.toD hd⟩
          · cases hx
        refine .sl (sz := sz) (b := g.β id) (o := off) (fun i j => (vs[i * sz + j]?).getD undef) (by rw [chunk_len]) hlc (fun i e he => ?_) (fun i e j x he hx => ?_) (fun i e j x he hx => ?_)
        · obtain ⟨hil, rfl⟩ := chunk_get sz len _ i e he
          have : (i + 1) * sz ≤ len * sz := Nat.mul_le_mul_right _ hil
          rw [Nat.succ_mul] at this
          simp
          omega
        · obtain ⟨hil, v, hv, hd⟩ := at_ i e j x he hx
          rw [hv]
          exact ⟨hp (by omega), k3 _ _ hv, .inr ⟨id, by simp, by simp [blk, hH]⟩⟩
        · obtain ⟨hil, v, hv, hd⟩ := at_ i e j x he hx
          rw [hv]
          exact DR.move Sp.dr hd
      · cases he
    · cases he
  · cases hq

theorem toPVs_ok (hi : HI w g H) : ∀ {xs : List Operand} {ts : List TypeId} {as : List (Nat × AO)} {q : List PV × List Nat}, compArgs P xs ts = some as → toPVs h f as = some q → FRu w g H f a (as.flatMap fun p => p.2.us) → (∀ id ∈ q.2, H id = h.get id) →
    RelL (PR w (Sp g H q.2)) q.1 (xs.map a.eval)
  | [], ts, as, q, hc, hq, _, _ => by
    simp only [compArgs, Option.some.injEq] at hc
    subst hc
    simp only [toPVs, Option.some.injEq] at hq
    subst hq
    exact .nil
  | x :: xs, ts, as, q, hc, hq, hf, hr => by
    simp only [compArgs, bindO_eq] at hc
    obtain ⟨y, hy, ps, hps, he⟩ := hc
    cases he
    simp only [toPVs, bindV, bindO_eq] at hq
    obtain ⟨q1, h1, q2, h2, he⟩ := hq
    cases he
    have e1 := toPV_ok hi h1 (compA_ok hy (hf.sub fun s hs => by simp [hs])) fun id hid => hr id (List.mem_append_left _ hid)
    have e2 := toPVs_ok hi hps h2 (hf.sub fun s hs => by simp only [List.flatMap_cons, List.mem_append]; exact .inr hs) fun id hid => hr id (List.mem_append_right _ hid)
    exact .cons (PR.move (Sp.mono fun i hi => List.mem_append_left _ hi) e1) (e2.imp fun _ _ _ h => PR.move (Sp.mono fun i hi => List.mem_append_right _ hi) h)

theorem killIds : ∀ (ids : List Nat) {g : Gh} {H : HF}, HI w g H → ∃ S', (∀ b o, S' b o ↔ Sp g H ids b o) ∧ HI w { g with S := S' } (updF H (ids.map (·, none))) ∧ Stp [] w g H w { g with S := S' } (updF H (ids.map (·, none)))
  | [], g, H, hi => ⟨g.S, fun b o => by simp [Sp], hi, Stp.refl w g H⟩
  | n :: r, g, H, hi => by
    obtain ⟨h1, h2⟩ := killId hi n (fun b => blk g H n = some b) fun b hb => hb
    obtain ⟨S', h3, h4, h5⟩ := killIds r h1
    refine ⟨S', fun b o => (h3 b o).trans ?_, h4, (Stp.trans h2 h5).weaken (by simp)⟩
    simp only [Sp, List.mem_cons, exists_eq_or_imp]
    have hb : ∀ id, blk { g with S := fun b o => g.S b o ∨ blk g H n = some b } (fup H n none) id = some b ↔ id ≠ n ∧ blk g H id = some b := by
      intro id
      by_cases hn : id = n
      · subst hn; simp [blk, fup_same]
      · simp [blk, fup, hn]
    constructor
    · rintro ((h | h) | ⟨id, hid, h⟩)
      · exact .inl h
      · exact .inr (.inl h)
      · exact .inr (.inr ⟨id, hid, ((hb id).1 h).2⟩)
    · rintro (h | h | ⟨id, hid, h⟩)
      · exact .inl (.inl h)
      · exact .inl (.inr h)
      · by_cases hn : id = n
        · subst hn; exact .inl (.inr h)
        · exact .inr ⟨id, hid, (hb id).2 ⟨hn, h⟩⟩

theorem step_call (hi : HI w g H) (hK : ∀ f args rs, K.call f args = some rs → FnOk P f args rs) {c : Call} {fn : FuncId} {x : Operand} {as : List (Nat × AO)} (ho : o.op = .call c) (hc : c.callee = .value x) (hx : a.eval x = .func (.func fn) #[] #[])
    (has : compArgs P c.args.toList c.argTypes.toList = some as) (hf : FRu w g H f a (as.flatMap fun p => p.2.us)) {re : Re} (hre : doCall K draw f h nx fn as = some re) (hrd : ∀ id ∈ re.r, H id = h.get id) : StepOk P o a w g H nx re := by
  intro next Q hn
  simp only [doCall, bindO_eq] at hre
  obtain ⟨q, hq, rs, hrs, hre⟩ := hre
  have hids : ∀ id ∈ q.2, id ∈ re.r := by
    split at hre
    · cases hre; exact fun _ h => h
    · cases hre; exact fun _ h => h
  have hargs := toPVs_ok hi has hq hf fun id hid => hrd id (hids id hid)
  have hg := hK fn q.1 rs hrs w (Sp g H q.2) (c.args.toList.map a.eval) (fun b o hs => by
    rcases hs with hs | ⟨id, _, hb⟩
    · exact hi.lt b o hs
    · exact hi.blk_lt hb) hargs
  have hargs' : (c.args.toList.map a.eval).toArray = c.args.map a.eval := by apply Array.ext'; simp
  rw [hargs'] at hg
  refine Gives.step (execCall ho hc hx) hg fun v w' ⟨hb, hr⟩ => ?_
  split at hre
  · rename_i hcond
    cases hre
    obtain ⟨k1, k2⟩ := cameBack hi hb
    refine hn v w' _ k1 (by rw [bn_self]; exact k2) (PRs.out ?_)
    rw [Bool.or_eq_true] at hcond
    rcases hcond with h0 | h0
    · rw [List.isEmpty_iff] at h0
      refine PRs.move (fun b o u hs hu => ⟨?_, hu⟩) hr
      rcases hs with (hs | ⟨id, hid, _⟩) | hs
      · exact .inl hs
      · rw [h0] at hid; cases hid
      · exact .inr hs
    · exact PRs.flat hr h0 _ _
  · cases hre
    obtain ⟨S', k1, k2, k3⟩ := killIds q.2 hi
    obtain ⟨k4, k5⟩ := cameBack k2 hb
    refine hn v w' _ k4 ?_ (PRs.out ?_)
    · simp only [bn_self]
      exact (Stp.trans k3 k5).weaken (by simp)
    · refine PRs.move (fun b o u hs hu => ⟨?_, hu⟩) hr
      rcases hs with hs | hs
      · exact .inl ((k1 b o).2 hs)
      · exact .inr hs
end
end Go.Proofs.Ytpanbfainilmpaa.Ev
end
section
/- Calls in the caller's memory. -/
set_option linter.unusedVariables false
set_option linter.unusedSimpArgs false
namespace Go.Proofs.Ytpanbfainilmpaa.Ev

/-- A function that works in its caller's memory. -/
def IFnOk (P : Program) (f : FuncId) (vs : List AV) (h : Hp) (nx : Nat) (q : AV × Hp × Nat) : Prop :=
  ∀ (w : World) (g : Gh) (us : List Value), HI w g h.get → WH h nx → (∀ v ∈ vs, Lt v.ids nx) → RelL (AVR w g h.get) vs us →
    Gives P f us.toArray w fun v w' => ∃ g', HI w' g' q.2.1.get ∧ Stp (bn nx q.2.2) w g h.get w' g' q.2.1.get ∧ AVR w' g' q.2.1.get q.1 v

/-- Two states of the abstract side that agree on some numbers. -/
theorem CR.agree {w : World} {g g' : Gh} {H H' : HF} {x : C} {v : Value} (hS : g'.S = g.S) (h : ∀ i ∈ x.ids, H' i = H i ∧ g'.ρ i = g.ρ i) (hx : CR w g H x v) : CR w g' H' x v := by
  cases x with
  | d x => show DR w g'.S x v; rw [hS]; exact hx
  | nil => exact hx
  | gr t es =>
    obtain ⟨h1, h2⟩ := h t (by simp [C.ids])
    refine ⟨by rw [hS]; exact hx.1, fun n sz ht => ?_⟩
    rw [h1] at ht
    rw [h2]
    exact hx.2 n sz ht
theorem AVR.agree {w : World} {g g' : Gh} {H H' : HF} {x : AV} {v : Value} (hS : g'.S = g.S) (h : ∀ i ∈ x.ids, H' i = H i ∧ g'.ρ i = g.ρ i ∧ g'.β i = g.β i) (hx : AVR w g H x v) : AVR w g' H' x v := by
  cases x with
  | c x => exact CR.agree hS (fun i hi => ⟨(h i hi).1, (h i hi).2.1⟩) hx
  | ag cs =>
    obtain ⟨vs, rfl, hr⟩ := hx
    refine ⟨vs, rfl, hr.imp fun x hm v hx => CR.agree hS (fun i hi => ?_) hx⟩
    have := h i (List.mem_flatMap.2 ⟨x, hm, hi⟩)
    exact ⟨this.1, this.2.1⟩
  | tu xs =>
    obtain ⟨vs, rfl, hr⟩ := hx
    exact ⟨vs, rfl, by rw [hS]; exact hr⟩
  | ref id off len =>
    obtain ⟨h1, _, h3⟩ := h id (by simp [AV.ids])
    intro cells hc
    rw [h1] at hc
    rw [h3]
    exact hx cells hc
  | ptr id off =>
    obtain ⟨h1, _, h3⟩ := h id (by simp [AV.ids])
    intro cells hc
    rw [h1] at hc
    rw [h3]
    exact hx cells hc
  | fptr xs =>
    obtain ⟨b, o, rfl, hr⟩ := hx
    exact ⟨b, o, rfl, by rw [hS]; exact hr⟩
  | top => trivial

/-- Less of the abstract side. -/
theorem CR.sub {w : World} {g : Gh} {H H' : HF} {x : C} {v : Value} (h : ∀ i l, H' i = some l → H i = some l) (hx : CR w g H x v) : CR w g H' x v := by
  cases x with
  | d x => exact hx
  | nil => exact hx
  | gr t es => exact ⟨hx.1, fun n sz ht => hx.2 n sz (h _ _ ht)⟩
theorem AVR.sub {w : World} {g : Gh} {H H' : HF} {x : AV} {v : Value} (h : ∀ i l, H' i = some l → H i = some l) (hx : AVR w g H x v) : AVR w g H' x v := by
  cases x with
  | c x => exact CR.sub h hx
  | ag cs =>
    obtain ⟨vs, rfl, hr⟩ := hx
    exact ⟨vs, rfl, hr.imp fun x hm v hx => CR.sub h hx⟩
  | tu xs => exact hx
  | ref id off len => exact fun cells hc => hx cells (h _ _ hc)
  | ptr id off => exact fun cells hc => hx cells (h _ _ hc)
  | fptr xs => exact hx
  | top => trivial
theorem blk_sub {g : Gh} {H H' : HF} (h : ∀ i l, H' i = some l → H i = some l) {i b : Nat} (hb : blk g H' i = some b) : blk g H i = some b ∧ ∃ l, H' i = some l := by
  unfold blk at hb ⊢
  split at hb
  · rename_i c hc; rw [h _ _ hc]; exact ⟨hb, _, hc⟩
  · rename_i n s hc; rw [h _ _ hc]; exact ⟨hb, _, hc⟩
  · cases hb
theorem HI.sub {w : World} {g : Gh} {H H' : HF} (h : ∀ i l, H' i = some l → H i = some l) (hi : HI w g H) : HI w g H' := by
  refine ⟨fun id cells hc => ?_, fun t n sz ht => hi.tok t n sz (h _ _ ht), fun i j b hij h1 h2 => hi.apart i j b hij (blk_sub h h1).1 (blk_sub h h2).1, hi.lt⟩
  obtain ⟨cur, e, h1, h2, h3, h4⟩ := hi.arr id cells (h _ _ hc)
  refine ⟨cur, e, h1, h2, fun i x hx => ?_, h4⟩
  obtain ⟨v, hv, hd⟩ := h3 i x hx
  exact ⟨v, hv, CR.sub h hd⟩

theorem updF_map (G : HF) : ∀ (l : List Nat) (H : HF) (i : Nat), updF H (l.map fun j => (j, G j)) i = if i ∈ l then G i else H i
  | [], H, i => by simp [updF]
  | n :: r, H, i => by
    simp only [List.map_cons, updF, updF_map G r, List.mem_cons]
    by_cases hr : i ∈ r
    · simp [hr]
    · by_cases hn : i = n
      · subst hn; simp [hr, fup_same]
      · simp [hr, hn, fup]

theorem Hp.get_cut (h : Hp) (ids : List Nat) (i : Nat) : (h.cut ids).get i = if i ∈ ids then h.get i else none := by
  induction h with
  | nil => simp [Hp.cut, Hp.get]
  | cons e r ih =>
    obtain ⟨m, v⟩ := e
    simp only [Hp.cut] at ih ⊢
    rw [List.filter_cons]
    by_cases hm : m ∈ ids
    · simp only [List.contains_eq_mem, hm, decide_true, if_true, Hp.get]
      by_cases hi : i = m
      · subst hi; simp [hm]
      · rw [if_neg hi, if_neg hi]; simpa [List.contains_eq_mem] using ih
    · simp only [List.contains_eq_mem, hm, decide_false, Bool.false_eq_true, if_false, Hp.get]
      by_cases hi : i = m
      · subst hi
        rw [if_neg hm]
        have := ih
        simp only [List.contains_eq_mem, hm, if_false] at this
        exact this
      · rw [if_neg hi]; simpa [List.contains_eq_mem] using ih

section
variable {P : Program} {o : Oper} {a : Act} {w : World} {g : Gh} {H : HF} {f : Fr} {h : Hp} {nx : Nat} {K : Or} {draw : Bool}

theorem args1_ok (hi : HI w g H) : ∀ {xs : List Operand} {as : List AO}, compArgs1 xs = some as → FRu w g H f a (as.flatMap AO.us) → RelL (AVR w g H) (as.map (AO.ev f)) (xs.map a.eval)
  | [], as, hc, _ => by simp only [compArgs1, Option.some.injEq] at hc; subst hc; exact .nil
  | x :: xs, as, hc, hf => by
    simp only [compArgs1, bindO_eq] at hc
    obtain ⟨y, hy, ps, hps, he⟩ := hc
    cases he
    exact .cons (compA_ok hy (hf.sub fun s hs => by simp [hs])) (args1_ok hi hps (hf.sub fun s hs => by simp only [List.flatMap_cons, List.mem_append]; exact .inr hs))

/-- A piece of the abstract side went on; the rest stands beside it. -/
theorem merge (hi : HI w g H) {hc H2 : HF} {rs : List Nat} {nx nx2 : Nat} {w' : World} {g' : Gh} (hc1 : ∀ i, hc i = if i ∈ rs then H i else none) (hrs : Lt rs nx)
    (h2 : HI w' g' H2) (st : Stp (bn nx nx2) w g hc w' g' H2) (hlt : ∀ i l, H2 i = some l → i < nx2) (hnx : nx ≤ nx2)
    (hnam : ∀ i cells, H2 i = some (.arr cells) → ∀ x ∈ cells, ∀ j ∈ C.ids x, (j ∈ rs ∨ nx ≤ j) ∧ j < nx2)
    (hfr : ∀ i, nx ≤ i → i < nx2 → H i = none) (hcl : Clean H (bn nx nx2)) {H' : HF} (hH' : ∀ i, H' i = if i ∈ rs ∨ (nx ≤ i ∧ i < nx2) then H2 i else H i) :
    ∃ g'' : Gh, HI w' g'' H' ∧ Stp (bn nx nx2) w g H w' g'' H' ∧ g''.S = g'.S ∧ ∀ i, (i ∈ rs ∨ (nx ≤ i ∧ i < nx2)) → g''.ρ i = g'.ρ i ∧ g''.β i = g'.β i := by
  have hsub : ∀ i l, hc i = some l → H i = some l := by
    intro i l hl
    rw [hc1] at hl
    split at hl
    · exact hl
    · cases hl
  have hcrs : ∀ i l, hc i = some l → i ∈ rs := by
    intro i l hl
    rw [hc1] at hl
    split at hl
    · assumption
    · cases hl
  refine ⟨⟨g'.S, fun i => if i ∈ rs ∨ (nx ≤ i ∧ i < nx2) then g'.β i else g.β i, fun i => if i ∈ rs ∨ (nx ≤ i ∧ i < nx2) then g'.ρ i else g.ρ i⟩, ?_, ?_, rfl, fun i hc => ⟨if_pos hc, if_pos hc⟩⟩
  all_goals
    have key : ∀ g'' : Gh, g'' = ⟨g'.S, fun i => if i ∈ rs ∨ (nx ≤ i ∧ i < nx2) then g'.β i else g.β i, fun i => if i ∈ rs ∨ (nx ≤ i ∧ i < nx2) then g'.ρ i else g.ρ i⟩ →
        (∀ i, (i ∈ rs ∨ (nx ≤ i ∧ i < nx2)) → H' i = H2 i ∧ g''.β i = g'.β i ∧ g''.ρ i = g'.ρ i ∧ blk g'' H' i = blk g' H2 i) ∧ (∀ i, ¬(i ∈ rs ∨ (nx ≤ i ∧ i < nx2)) → H' i = H i ∧ g''.β i = g.β i ∧ g''.ρ i = g.ρ i ∧ blk g'' H' i = blk g H i) := by
      intro g'' hg
      subst hg
      refine ⟨fun i hc => ?_, fun i hc => ?_⟩
      · have h1 := hH' i
        rw [if_pos hc] at h1
        refine ⟨h1, if_pos hc, if_pos hc, ?_⟩
        simp only [blk, h1, if_pos hc]
      · have h1 := hH' i
        rw [if_neg hc] at h1
        refine ⟨h1, if_neg hc, if_neg hc, ?_⟩
        simp only [blk, h1, if_neg hc]
    generalize hgg : (⟨g'.S, fun i => if i ∈ rs ∨ (nx ≤ i ∧ i < nx2) then g'.β i else g.β i, fun i => if i ∈ rs ∨ (nx ≤ i ∧ i < nx2) then g'.ρ i else g.ρ i⟩ : Gh) = g''
    obtain ⟨kin, kout⟩ := key g'' hgg.symm
    have hS : g''.S = g'.S := by rw [← hgg]
  · -- memory stands
    -- what lies outside: its block did not change, and no cell of it is settled
    have outblk : ∀ i b, ¬(i ∈ rs ∨ (nx ≤ i ∧ i < nx2)) → blk g H i = some b → w'.heap[b]? = w.heap[b]? ∧ (∀ o, g'.S b o → g.S b o) := by
      intro i b hout hb
      have hlt := hi.blk_lt hb
      have hno : ∀ j, blk g hc j ≠ some b := by
        intro j hj
        obtain ⟨h1, l, h2⟩ := blk_sub hsub hj
        have : j ≠ i := fun he => hout (.inl (he ▸ hcrs _ _ h2))
        exact hi.apart j i b this h1 hb
      refine ⟨st.fp b hlt hno, fun o hs => ?_⟩
      rcases st.Snew b o hs with h | ⟨j, hj⟩ | h
      · exact h
      · exact absurd hj (hno j)
      · omega
    refine ⟨fun id cells hcc => ?_, fun t n sz ht => ?_, fun i j b hij hi1 hj1 => ?_, fun b o hs => h2.lt b o (by rw [hS] at hs; exact hs)⟩
    · by_cases hin : id ∈ rs ∨ (nx ≤ id ∧ id < nx2)
      · obtain ⟨q1, q2, q3, q4⟩ := kin id hin
        rw [q1] at hcc
        obtain ⟨cur, e, k1, k2, k3, k4⟩ := h2.arr id cells hcc
        rw [q2]
        refine ⟨cur, e, k1, k2, fun i x hx => ?_, by rw [hS]; exact k4⟩
        obtain ⟨v, hv, hd⟩ := k3 i x hx
        refine ⟨v, hv, CR.agree hS (fun j hj => ?_) hd⟩
        have := hnam id cells hcc x (List.mem_of_getElem? hx) j hj
        have hc : j ∈ rs ∨ (nx ≤ j ∧ j < nx2) := this.1.elim .inl fun h => .inr ⟨h, this.2⟩
        exact ⟨(kin j hc).1, (kin j hc).2.2.1⟩
      · obtain ⟨q1, q2, q3, q4⟩ := kout id hin
        rw [q1] at hcc
        obtain ⟨cur, e, k1, k2, k3, k4⟩ := hi.arr id cells hcc
        obtain ⟨m1, m2⟩ := outblk id (g.β id) hin (by simp [blk, hcc])
        rw [q2]
        refine ⟨cur, e, m1.trans k1, k2, fun i x hx => ?_, fun o hs => k4 o (m2 o (by rw [hS] at hs; exact hs))⟩
        obtain ⟨v, hv, hd⟩ := k3 i x hx
        refine ⟨v, hv, ?_⟩
        cases x with
        | d x => show DR w' g''.S x v; rw [hS]; exact DR.move st.dr hd
        | nil => exact hd
        | gr t es =>
          refine ⟨by rw [hS]; exact DR.move st.dr hd.1, fun n sz ht => ?_⟩
          by_cases htin : t ∈ rs ∨ (nx ≤ t ∧ t < nx2)
          · obtain ⟨r1, r2, r3, r4⟩ := kin t htin
            rw [r1] at ht
            have htb : t ∉ bn nx nx2 := fun hb => hcl id cells hcc _ (List.mem_of_getElem? hx) t (by simp [C.ids]) hb
            obtain ⟨n1, s1, p1, p2, p3⟩ := st.tok t n sz htb ht
            obtain ⟨p4, p5⟩ := hd.2 n1 s1 (hsub _ _ p1)
            refine ⟨Nat.le_trans p4 p2, fun he => ?_⟩
            have e : n1 = n := by omega
            rw [r3, (p3 e).1, (p3 e).2]
            exact p5 (by omega)
          · obtain ⟨r1, r2, r3, r4⟩ := kout t htin
            rw [r1] at ht
            rw [r3]
            exact hd.2 n sz ht
    · by_cases hin : t ∈ rs ∨ (nx ≤ t ∧ t < nx2)
      · obtain ⟨q1, q2, q3, q4⟩ := kin t hin
        rw [q1] at ht
        rw [q3, hS]
        exact h2.tok t n sz ht
      · obtain ⟨q1, q2, q3, q4⟩ := kout t hin
        rw [q1] at ht
        rw [q3]
        rcases hi.tok t n sz ht with h1 | ⟨b, cap, cur, e, k1, k2, k3, k4, k5, k6⟩
        · exact .inl h1
        · obtain ⟨m1, m2⟩ := outblk t b hin (by simp [blk, ht, k1, Value.ownBlock])
          exact .inr ⟨b, cap, cur, e, k1, m1.trans k2, k3, k4, k5, fun o hs => k6 o (m2 o (by rw [hS] at hs; exact hs))⟩
    · have cross : ∀ i j, (i ∈ rs ∨ (nx ≤ i ∧ i < nx2)) → ¬(j ∈ rs ∨ (nx ≤ j ∧ j < nx2)) → blk g' H2 i = some b → blk g H j = some b → False := by
        intro i j hin hout h1 h3
        have hlt := hi.blk_lt h3
        rcases st.own i b h1 with ⟨k, hk⟩ | h
        · obtain ⟨p1, l, p2⟩ := blk_sub hsub hk
          exact hi.apart k j b (fun he => hout (.inl (he ▸ hcrs _ _ p2))) p1 h3
        · omega
      by_cases h1 : i ∈ rs ∨ (nx ≤ i ∧ i < nx2) <;> by_cases h3 : j ∈ rs ∨ (nx ≤ j ∧ j < nx2)
      · rw [(kin i h1).2.2.2] at hi1; rw [(kin j h3).2.2.2] at hj1
        exact h2.apart i j b hij hi1 hj1
      · rw [(kin i h1).2.2.2] at hi1; rw [(kout j h3).2.2.2] at hj1
        exact cross i j h1 h3 hi1 hj1
      · rw [(kout i h1).2.2.2] at hi1; rw [(kin j h3).2.2.2] at hj1
        exact cross j i h3 h1 hj1 hi1
      · rw [(kout i h1).2.2.2] at hi1; rw [(kout j h3).2.2.2] at hj1
        exact hi.apart i j b hij hi1 hj1
  · refine ⟨st.os, st.tape, st.output, st.size, by rw [hS]; exact st.S, st.cell, fun id c hn hcc => ?_, fun t n s hn ht => ?_, fun b hb hn => st.fp b hb fun id hid => hn id (blk_sub hsub hid).1, fun id b hb => ?_, fun b o hs => ?_⟩
    · by_cases hin : id ∈ rs ∨ (nx ≤ id ∧ id < nx2)
      · obtain ⟨q1, q2, q3, q4⟩ := kin id hin
        rw [q1] at hcc
        obtain ⟨c1, p1, p2, p3⟩ := st.arr id c hn hcc
        exact ⟨c1, hsub _ _ p1, p2, q2.trans p3⟩
      · obtain ⟨q1, q2, q3, q4⟩ := kout id hin
        rw [q1] at hcc
        exact ⟨c, hcc, rfl, q2⟩
    · by_cases hin : t ∈ rs ∨ (nx ≤ t ∧ t < nx2)
      · obtain ⟨q1, q2, q3, q4⟩ := kin t hin
        rw [q1] at ht
        obtain ⟨n1, s1, p1, p2, p3⟩ := st.tok t n s hn ht
        exact ⟨n1, s1, hsub _ _ p1, p2, fun he => ⟨q3.trans (p3 he).1, (p3 he).2⟩⟩
      · obtain ⟨q1, q2, q3, q4⟩ := kout t hin
        rw [q1] at ht
        exact ⟨n, s, ht, Nat.le_refl _, fun _ => ⟨q3, rfl⟩⟩
    · by_cases hin : id ∈ rs ∨ (nx ≤ id ∧ id < nx2)
      · rw [(kin id hin).2.2.2] at hb
        rcases st.own id b hb with ⟨j, hj⟩ | h
        · exact .inl ⟨j, (blk_sub hsub hj).1⟩
        · exact .inr h
      · rw [(kout id hin).2.2.2] at hb
        exact .inl ⟨id, hb⟩
    · rw [hS] at hs
      rcases st.Snew b o hs with h | ⟨j, hj⟩ | h
      · exact .inl h
      · exact .inr (.inl ⟨j, (blk_sub hsub hj).1⟩)
      · exact .inr (.inr h)

theorem step_icall (hi : HI w g H) (hK : ∀ f vs h nx q, K.icall f vs h nx = some q → IFnOk P f vs h nx q) (hKw : KWF K) (hwf : WFr f nx) (hwh : WH h nx) {c : Call} {fn : FuncId} {as : List AO} (ho : o.op = .call c) (hc : c.callee = .value (.func fn))
    (has : compArgs1 c.args.toList = some as) (hks : ∀ x ∈ as.flatMap AO.ks, x.ids = []) (hf : FRu w g H f a (as.flatMap AO.us)) {re : Re} (hre : doICall K h nx fn (as.map (AO.ev f)) = some re) (hrd : ∀ id ∈ re.r, H id = h.get id)
    (hfr : ∀ i, nx ≤ i → i < re.nx → H i = none) (hcl : Clean H (bn nx re.nx)) : StepOk P o a w g H nx re := by
  intro next Q hn
  simp only [doICall, bindO_eq] at hre
  obtain ⟨q, hq, hre⟩ := hre
  split at hre
  case isFalse => cases hre
  rename_i hnames
  cases hre
  simp only at hrd hfr hcl
  have hvs : ∀ v ∈ as.map (AO.ev f), Lt v.ids nx := fun v hv => by
    obtain ⟨x, hx, rfl⟩ := List.mem_map.1 hv
    exact ev_lt hwf fun c hc => hks c (List.mem_flatMap.2 ⟨x, hx, hc⟩)
  have hrs : Lt (h.reach ((as.map (AO.ev f)).flatMap AV.ids)) nx := by
    have h1 : Lt ((as.map (AO.ev f)).flatMap AV.ids) nx := fun i hi => by
      obtain ⟨v, hv, hi⟩ := List.mem_flatMap.1 hi
      exact hvs v hv i hi
    refine h1.app fun i hi => ?_
    obtain ⟨j, hj, hi⟩ := List.mem_flatMap.1 hi
    split at hi
    · rename_i l hl; exact (hwh.get hl).2 i hi
    · cases hi
  generalize hrse : h.reach ((as.map (AO.ev f)).flatMap AV.ids) = rs at *
  have hwc : WH (h.cut rs) nx := fun e he => hwh e (List.mem_filter.1 he).1
  obtain ⟨k1, k2, k3⟩ := hKw _ _ _ _ _ hq hvs hwc
  have hc1 : ∀ i, (h.cut rs).get i = if i ∈ rs then H i else none := by
    intro i
    rw [Hp.get_cut]
    split
    · rename_i hm; exact (hrd i hm).symm
    · rfl
  have hsub : ∀ i l, (h.cut rs).get i = some l → H i = some l := by
    intro i l hl
    rw [hc1] at hl
    split at hl
    · exact hl
    · cases hl
  have hargs := args1_ok (a := a) hi has hf
  have hg := hK fn _ _ nx q hq w g (c.args.toList.map a.eval) (HI.sub hsub hi) hwc hvs (hargs.imp fun _ _ _ h => AVR.sub hsub h)
  have hargs' : (c.args.toList.map a.eval).toArray = c.args.map a.eval := by apply Array.ext'; simp
  rw [hargs'] at hg
  refine Gives.step (execCall ho hc rfl) hg fun v w' ⟨g', m1, m2, m3⟩ => ?_
  rw [List.all_eq_true] at hnames
  have hH' : ∀ i, updF H (rs.map (fun i => (i, q.2.1.get i)) ++ (q.2.1.filter fun e => nx ≤ e.1).map (fun e => (e.1, q.2.1.get e.1))) i = if i ∈ rs ∨ (nx ≤ i ∧ i < q.2.2) then q.2.1.get i else H i := by
    intro i
    have e1 : (q.2.1.filter fun e => nx ≤ e.1).map (fun e => (e.1, q.2.1.get e.1)) = ((q.2.1.filter fun e => nx ≤ e.1).map (·.1)).map fun j => (j, q.2.1.get j) := by simp
    rw [e1, ← List.map_append, updF_map]
    by_cases hm : i ∈ rs
    · simp [hm]
    · by_cases hr : nx ≤ i ∧ i < q.2.2
      · simp only [hm, hr, and_self, or_true, if_true]
        split
        · rfl
        · rename_i hnot
          rw [hfr i hr.1 hr.2]
          cases hg : q.2.1.get i with
          | none => rfl
          | some l =>
            exfalso
            apply hnot
            refine List.mem_append_right _ (List.mem_map.2 ⟨(i, l), List.mem_filter.2 ⟨Hp.get_mem hg, by simpa using hr.1⟩, rfl⟩)
      · rw [if_neg, if_neg]
        · rintro (h | h)
          · exact hm h
          · exact hr h
        · intro h
          rcases List.mem_append.1 h with h | h
          · exact hm h
          · obtain ⟨e, he, rfl⟩ := List.mem_map.1 h
            obtain ⟨he1, he2⟩ := List.mem_filter.1 he
            exact hr ⟨by simpa using he2, (k3 e he1).1⟩
  have hnm : ∀ i ∈ (q.1.ids ++ q.2.1.flatMap fun e => e.2.ids), i ∈ rs ∨ nx ≤ i := by
    intro i hi
    have := hnames i hi
    simpa [List.contains_eq_mem] using this
  obtain ⟨g'', r1, r2, r3, r4⟩ := merge hi hc1 hrs m1 m2 (fun i l hl => (k3.get hl).1) k1 (fun i cells hcc x hx j hj => by
    have hj' : j ∈ Loc.ids (.arr cells) := List.mem_flatMap.2 ⟨x, hx, hj⟩
    refine ⟨hnm j (List.mem_append_right _ (List.mem_flatMap.2 ⟨_, Hp.get_mem hcc, hj'⟩)), (k3.get hcc).2 j hj'⟩) hfr hcl hH'
  refine hn v w' g'' r1 r2 (AVR.agree r3 (fun i hi => ?_) m3)
  have hcond : i ∈ rs ∨ (nx ≤ i ∧ i < q.2.2) := (hnm i (List.mem_append_left _ hi)).elim .inl fun h => .inr ⟨h, k2 i hi⟩
  refine ⟨?_, r4 i hcond⟩
  rw [hH', if_pos hcond]
end
end Go.Proofs.Ytpanbfainilmpaa.Ev
end
section
/- Every operation's step answers as the evaluator does. -/
set_option linter.unusedVariables false
set_option linter.unusedSimpArgs false
namespace Go.Proofs.Ytpanbfainilmpaa.Ev

def AOp.plain : AOp → Bool
  | .bsl _ _ _ _ _ => false
  | .mks _ _ _ _ _ _ => false
  | .app _ _ _ _ _ => false
  | _ => true
theorem plain_inv {x op : AOp} (h : x = op.bare) (hx : x.plain = true) : op = x := by
  cases op <;> first | exact h.symm | (subst h; cases hx)
theorem bsl_inv {op : AOp} {sz n : Nat} {z : List C} {ps : List (Nat × AO)} (h : .bsl false sz n z ps = op.bare) : ∃ mu, op = .bsl mu sz n z ps := by
  cases op <;> simp [AOp.bare] at h
  obtain ⟨rfl, rfl, rfl, rfl⟩ := h
  exact ⟨_, rfl⟩
theorem mks_inv {op : AOp} {sz b : Nat} {z : List C} {l c : AO} (h : .mks false sz b z l c = op.bare) : ∃ mu, op = .mks mu sz b z l c := by
  cases op <;> simp [AOp.bare] at h
  obtain ⟨rfl, rfl, rfl, rfl, rfl⟩ := h
  exact ⟨_, rfl⟩
theorem app_inv {op : AOp} {sz b : Nat} {x y : AO} (h : .app false sz b x y = op.bare) : ∃ mu, op = .app mu sz b x y := by
  cases op <;> simp [AOp.bare] at h
  obtain ⟨rfl, rfl, rfl, rfl⟩ := h
  exact ⟨_, rfl⟩

/-- What the evaluator may call is what the program does. -/
structure KOk (P : Program) (inl : Nat → Bool) (K : Or) : Prop where
  call : ∀ f args rs, K.call f args = some rs → FnOk P f args rs
  icall : ∀ f vs h nx q, K.icall f vs h nx = some q → IFnOk P f vs h nx q
  wf : KWF K

section
variable {P : Program} {inl : Nat → Bool} {o : Oper} {a : Act} {w : World} {g : Gh} {H : HF} {f : Fr} {h : Hp} {nx : Nat} {K : Or} {draw : Bool}

theorem isSome_ex {α : Type} {x : Option α} (h : x.isSome = true) : ∃ y, x = some y := Option.isSome_iff_exists.1 h

theorem placeOk_ex {t : TypeId} (h : placeOk P t = true) : ∃ (fs : Array Field) (q : List (Nat × Nat)), (P.underlying t = some (.struct fs) ∧ (fs.toList.mapM fun f => (P.info? f.type).map fun i => (f.offset, i.size)) = some q) ∨ (∃ n e ie, P.underlying t = some (.array n e) ∧ P.info? e = some ie) := by
  unfold placeOk at h
  split at h
  · rename_i fs hu
    obtain ⟨q, hq⟩ := isSome_ex h
    exact ⟨fs, q, .inl ⟨hu, hq⟩⟩
  · rename_i n e hu
    obtain ⟨ie, hi⟩ := isSome_ex h
    exact ⟨#[], [], .inr ⟨n, e, ie, hu, hi⟩⟩
  · cases h

theorem toL2 {α : Type} {x : Array α} {a b : α} (h : x.toList = [a, b]) : x = #[a, b] := by apply Array.ext'; simpa using h
theorem toL1 {α : Type} {x : Array α} {a : α} (h : x.toList = [a]) : x = #[a] := by apply Array.ext'; simpa using h

theorem funcOf_val {v : AV} {fn : Nat} {u : Value} (h : funcOf v = some fn) (hv : AVR w g H v u) : u = .func (.func fn) #[] #[] := by
  unfold funcOf at h
  split at h
  · split at h
    · rename_i fs cs hc
      cases h
      have := sc_val hv
      rw [this]
      have h1 : fs = #[] := Array.eq_empty_of_size_eq_zero hc.1
      have h2 : cs = #[] := Array.eq_empty_of_size_eq_zero hc.2
      rw [h1, h2]
    · cases h
  · cases h

theorem evOp_ok (hi : HI w g H) (hK : KOk P inl K) (hwf : WFr f nx) (hwh : WH h nx) {op : AOp} (hop : compOp? P inl o = some op.bare) (hks : ∀ c ∈ op.ks, c.ids = []) (hf : FRu w g H f a op.us) {re : Re} (hre : evOp K draw f h nx op = some re)
    (hrd : ∀ id ∈ re.r, H id = h.get id) (hfr : ∀ i, nx ≤ i → i < re.nx → H i = none) (hcl : Clean H (bn nx re.nx)) : StepOk P o a w g H nx re := by
  have hid : ∀ (us : List Nat), ∀ s ∈ us, ∀ i ∈ (f.get s).ids, i ∉ bn nx re.nx := fun _ s _ i hi hb => by
    have := hwf s i hi
    have := (mem_bn.1 hb).1
    omega
  unfold compOp? at hop
  split at hop
  · -- move
    rename_i x ho
    simp only [bindO_eq] at hop
    obtain ⟨y, hy, he⟩ := hop
    have := plain_inv (Option.some.inj he) rfl
    subst this
    rw [ok1_eq hre]
    exact (op_mv hi (.inl ho) hy hf).step
  · -- assign
    rename_i x ho
    simp only [bindO_eq] at hop
    obtain ⟨y, hy, he⟩ := hop
    have := plain_inv (Option.some.inj he) rfl
    subst this
    simp only [evOp] at hre
    split at hre
    · rename_i hv
      cases hre
      exact (op_asg hi ho hy hf hfr hcl hv).step
    · rename_i v _
      rw [ok1_eq hre]
      exact (op_mv hi (.inr ho) hy hf).step
  · -- pick
    rename_i c x z ho
    simp only [bindO_eq] at hop
    obtain ⟨c', hc', x', hx', z', hz', he⟩ := hop
    have := plain_inv (Option.some.inj he) rfl
    subst this
    simp only [evOp, bindO_eq] at hre
    obtain ⟨q, hq, hre⟩ := hre
    rw [ok1_eq hre]
    exact (op_pick hi ho hc' hx' hz' hq hf).step
  · -- alloc
    rename_i t ho
    simp only [bindO_eq] at hop
    obtain ⟨z, hz, he⟩ := hop
    have := plain_inv (Option.some.inj he) rfl
    subst this
    exact (op_alloc hi ho hz hre hfr hcl).step
  · -- box
    rename_i t x ho
    simp only [bindO_eq] at hop
    obtain ⟨y, hy, he⟩ := hop
    have := plain_inv (Option.some.inj he) rfl
    subst this
    exact (op_box hi ho hy hf hre hfr hcl (hid _)).step
  · -- build
    rename_i t ps ho
    split at hop
    case isFalse => cases hop
    rename_i hpl
    simp only [bindO_eq] at hop
    obtain ⟨z, hz, parts, hps, he⟩ := hop
    have := plain_inv (Option.some.inj he) rfl
    subst this
    exact (op_build hi ho hz hps (placeOk_ex hpl) hf hre).step
  · -- buildSlice
    rename_i t n ps ho
    simp only [bindO_eq] at hop
    obtain ⟨e, hte, z, hz, parts, hps, hop⟩ := hop
    split at hop
    case isFalse => cases hop
    rename_i hc
    obtain ⟨mu, rfl⟩ := bsl_inv (Option.some.inj hop)
    exact (op_bsl hi ho hte hz hc.1 hc.2.1 hc.2.2 hps hf hre hfr hcl (hid _)).step
  · -- load
    rename_i t x ho
    simp only [bindO_eq] at hop
    obtain ⟨y, hy, hop⟩ := hop
    split at hop
    case isFalse => cases hop
    rename_i hc
    have := plain_inv (Option.some.inj hop) rfl
    subst this
    exact (op_ld hi ho hy (isSome_ex hc.2.1) hc.1 hc.2.2 hf hre hrd).step
  · -- store
    rename_i t x y ho
    simp only [bindO_eq] at hop
    obtain ⟨x', hx', y', hy', hop⟩ := hop
    split at hop
    case isFalse => cases hop
    rename_i hc
    have := plain_inv (Option.some.inj hop) rfl
    subst this
    exact (op_st hi ho hx' hy' hc hf hre hrd hfr hcl (hid _)).step
  · -- fieldAddr
    rename_i t x i ho
    simp only [bindO_eq] at hop
    obtain ⟨x', hx', hop⟩ := hop
    split at hop
    · rename_i fs hu
      simp only [bindO_eq] at hop
      obtain ⟨fd, hfd, hop⟩ := hop
      split at hop
      case isFalse => cases hop
      rename_i hc
      have := plain_inv (Option.some.inj hop) rfl
      subst this
      exact (op_fad hi ho hx' hu hfd hc hf hre hrd).step
    · cases hop
  · -- indexAddr
    rename_i t x i ho
    simp only [bindO_eq] at hop
    obtain ⟨e, hte, x', hx', i', hi', hop⟩ := hop
    split at hop
    case isFalse => cases hop
    rename_i hc
    have := plain_inv (Option.some.inj hop) rfl
    subst this
    exact (op_iad hi ho hx' hi' hte hc hf hre hrd).step
  · -- field
    rename_i t x i ho
    simp only [bindO_eq] at hop
    obtain ⟨x', hx', hop⟩ := hop
    split at hop
    · rename_i fs hu
      simp only [bindO_eq] at hop
      obtain ⟨fd, hfd, hop⟩ := hop
      split at hop
      case isFalse => cases hop
      rename_i hc
      have := plain_inv (Option.some.inj hop) rfl
      subst this
      exact (op_fld hi ho hx' hu hfd (isSome_ex hc.1) hf hre (isSome_ex hc.2)).step
    · cases hop
  · -- index
    rename_i t x i ho
    split at hop
    · rename_i n e hu
      simp only [bindO_eq] at hop
      obtain ⟨x', hx', i', hi', hop⟩ := hop
      split at hop
      case isFalse => cases hop
      rename_i hc
      have := plain_inv (Option.some.inj hop) rfl
      subst this
      exact (op_idx hi ho hx' hi' hu (isSome_ex hc.2) hc.1 hf hre).step
    · rename_i hu
      simp only [bindO_eq] at hop
      obtain ⟨x', hx', i', hi', hop⟩ := hop
      have := plain_inv (Option.some.inj hop) rfl
      subst this
      exact (op_sidx hi ho hx' hi' hu hf hre).step
    · cases hop
  · -- binOp
    rename_i bop t x y sy ho
    simp only [bindO_eq] at hop
    obtain ⟨x', hx', y', hy', hop⟩ := hop
    split at hop
    · rename_i k hu
      have := plain_inv (Option.some.inj hop) rfl
      subst this
      simp only [evOp] at hre
      split at hre
      · rename_i u v hxu hyv
        simp only [bindO_eq] at hre
        obtain ⟨r, hr, hre⟩ := hre
        rw [ok1_eq hre]
        exact (op_bin hi ho hx' hy' hf hxu hyv hr).step
      · cases hre
    · rename_i hu
      have := plain_inv (Option.some.inj hop) rfl
      subst this
      simp only [evOp] at hre
      split at hre
      · rename_i u v hxu hyv
        simp only [bindO_eq] at hre
        obtain ⟨r, hr, hre⟩ := hre
        rw [ok1_eq hre]
        exact (op_bin hi ho hx' hy' hf hxu hyv hr).step
      · cases hre
    · rename_i hu
      have := plain_inv (Option.some.inj hop) rfl
      subst this
      simp only [evOp] at hre
      split at hre
      · rename_i u v hxu hyv
        simp only [bindO_eq] at hre
        obtain ⟨r, hr, hre⟩ := hre
        rw [ok1_eq hre]
        exact (op_binb hi ho hu hx' hy' hf hxu hyv hr).step
      · cases hre
    · rename_i fs hu
      split at hop
      case isFalse => cases hop
      rename_i hg
      simp only [bindO_eq] at hop
      obtain ⟨ks, hkk, hop⟩ := hop
      split at hop
      · have := plain_inv (Option.some.inj hop) rfl
        subst this
        exact (op_eqa hi ho (.inl ⟨rfl, rfl⟩) hu hg hkk hx' hy' hf hre).step
      · have := plain_inv (Option.some.inj hop) rfl
        subst this
        exact (op_eqa hi ho (.inr ⟨rfl, rfl⟩) hu hg hkk hx' hy' hf hre).step
      · cases hop
    · cases hop
  · -- unOp
    rename_i uop t x ho
    simp only [bindO_eq] at hop
    obtain ⟨x', hx', hop⟩ := hop
    have := plain_inv (Option.some.inj hop) rfl
    subst this
    simp only [evOp] at hre
    split at hre
    · rename_i u hxu
      simp only [bindO_eq] at hre
      obtain ⟨r, hr, hre⟩ := hre
      rw [ok1_eq hre]
      exact (op_un hi ho hx' hf hxu hr).step
    · cases hre
  · -- convert
    rename_i s d x ho
    simp only [bindO_eq] at hop
    obtain ⟨x', hx', hop⟩ := hop
    split at hop
    · rename_i k k' hs hd
      have := plain_inv (Option.some.inj hop) rfl
      subst this
      simp only [evOp, bindO_eq] at hre
      obtain ⟨q, hq, hre⟩ := hre
      rw [ok1_eq hre]
      exact (op_cvi hi ho hs hd hx' hf hq).step
    · rename_i k hs hd
      have := plain_inv (Option.some.inj hop) rfl
      subst this
      simp only [evOp, bindO_eq] at hre
      obtain ⟨q, hq, hre⟩ := hre
      rw [ok1_eq hre]
      exact (op_cvs hi ho hs hd hx' hf hq).step
    · cases hop
  · -- slice
    rename_i t x lo hh ho
    simp only [bindO_eq] at hop
    obtain ⟨e, hte, x', hx', lo', hlo', hh', hhh', hop⟩ := hop
    split at hop
    case isFalse => cases hop
    rename_i hc
    have := plain_inv (Option.some.inj hop) rfl
    subst this
    refine (op_slc hi ho hte hc hx' hlo' hhh' hf hre hrd fun n hn id hid => ?_).step
    simp only [evOp, bindO_eq] at hre
    obtain ⟨l, _, n', hn', m, _, hre⟩ := hre
    rw [hn] at hn'
    cases hn'
    unfold lenOf at hn
    split at hn
    · cases hn; cases hid
    · cases hn; cases hid
    · cases hn; cases hid
    · rename_i id' off len hxv
      split at hn
      · cases hn
        simp only [List.mem_singleton] at hid
        subst hid
        split at hre
        · rw [hxv] at hre
          cases hre
          exact hrd _ (by simp)
        · cases hre
      · cases hn
    · cases hn
  · -- makeSlice
    rename_i t l c ho
    simp only [bindO_eq] at hop
    obtain ⟨e, hte, z, hz, l', hl', c', hc', hop⟩ := hop
    split at hop
    case isFalse => cases hop
    rename_i hc
    obtain ⟨mu, rfl⟩ := mks_inv (Option.some.inj hop)
    exact (op_mks hi ho hte hz hc.1 hc.2.1 hc.2.2 hl' hc' hf hre hfr hcl).step
  · -- extract
    rename_i x i ho
    simp only [bindO_eq] at hop
    obtain ⟨x', hx', hop⟩ := hop
    have := plain_inv (Option.some.inj hop) rfl
    subst this
    simp only [evOp] at hre
    split at hre
    · rename_i xs hxs
      split at hre
      · rename_i p hp
        rw [ok1_eq hre]
        exact (op_ext hi ho hx' hf hxs hp).step
      · cases hre
    · cases hre
  · -- call
    rename_i c ho
    split at hop
    · rename_i hcal
      split at hop
      · rename_i t u x y hty hargs
        simp only [bindO_eq] at hop
        obtain ⟨e, hte, z, hz, x', hx', y', hy', hop⟩ := hop
        split at hop
        case isFalse => cases hop
        rename_i hc
        obtain ⟨rfl, hc1, hc2, hc3⟩ := hc
        obtain ⟨mu, rfl⟩ := app_inv (Option.some.inj hop)
        exact (op_app_gr hi ho hcal (toL2 hargs) (toL2 hty) hte hz hc1 hc2 hc3 hx' hy' hf hre hrd hfr hcl).step
      · cases hop
    · rename_i hcal
      split at hop
      · rename_i t u x y hty hargs
        simp only [bindO_eq] at hop
        obtain ⟨e, hte, e2, hte2, x', hx', y', hy', hop⟩ := hop
        split at hop
        case isFalse => cases hop
        rename_i hc
        have := plain_inv (Option.some.inj hop) rfl
        subst this
        exact (op_cpy hi ho hcal (toL2 hargs) (toL2 hty) hte hc hx' hy' hf hre hrd).step
      · cases hop
    · rename_i hcal
      split at hop
      · rename_i t x hty hargs
        simp only [bindO_eq] at hop
        obtain ⟨x', hx', hop⟩ := hop
        split at hop
        · rename_i e hu
          have := plain_inv (Option.some.inj hop) rfl
          subst this
          simp only [evOp, bindO_eq] at hre
          obtain ⟨n, hn, hre⟩ := hre
          cases hre
          exact (op_len hi ho hcal (toL1 hargs) (toL1 hty) hu hx' hf hn hrd).step
        · rename_i hu
          have := plain_inv (Option.some.inj hop) rfl
          subst this
          simp only [evOp] at hre
          split at hre
          · rename_i s hs
            rw [ok1_eq hre]
            exact (op_slen hi ho hcal (toL1 hargs) (toL1 hty) hu hx' hf hs).step
          · cases hre
        · cases hop
      · cases hop
    · rename_i hcal
      split at hop
      · rename_i x y hargs
        simp only [bindO_eq] at hop
        obtain ⟨x', hx', y', hy', hop⟩ := hop
        have := plain_inv (Option.some.inj hop) rfl
        subst this
        simp only [evOp, bindO_eq] at hre
        obtain ⟨p, hp, q, hq, hre⟩ := hre
        split at hre
        · rw [ok1_eq hre]
          exact (op_mx hi ho hcal (toL2 hargs) hx' hy' hf hp hq).step
        · cases hre
      · cases hop
    · rename_i hcal
      split at hop
      · rename_i x y hargs
        simp only [bindO_eq] at hop
        obtain ⟨x', hx', y', hy', hop⟩ := hop
        have := plain_inv (Option.some.inj hop) rfl
        subst this
        simp only [evOp, bindO_eq] at hre
        obtain ⟨p, hp, q, hq, hre⟩ := hre
        split at hre
        · rw [ok1_eq hre]
          exact (op_mn hi ho hcal (toL2 hargs) hx' hy' hf hp hq).step
        · cases hre
      · cases hop
    · rename_i fn hcal
      split at hop
      · simp only [bindO_eq] at hop
        obtain ⟨as, has, hop⟩ := hop
        have := plain_inv (Option.some.inj hop) rfl
        subst this
        exact step_icall hi hK.icall hK.wf hwf hwh ho hcal has hks hf hre hrd hfr hcl
      · simp only [bindO_eq] at hop
        obtain ⟨as, has, hop⟩ := hop
        have := plain_inv (Option.some.inj hop) rfl
        subst this
        exact step_call (draw := draw) hi hK.call ho hcal rfl has hf hre hrd
    · rename_i x _ hcal
      simp only [bindO_eq] at hop
      obtain ⟨x', hx', as, has, hop⟩ := hop
      have := plain_inv (Option.some.inj hop) rfl
      subst this
      simp only [evOp, bindO_eq] at hre
      obtain ⟨fn, hfn, hre⟩ := hre
      exact step_call (draw := draw) hi hK.call ho hcal (funcOf_val hfn (compA_ok hx' (hf.sub fun s hs => by simp [AOp.us, hs]))) has (hf.sub fun s hs => by simp only [AOp.us, List.mem_append]; exact .inr hs) hre hrd
    · cases hop
  · cases hop
end
end Go.Proofs.Ytpanbfainilmpaa.Ev
end
section
/- Regions: one step, and operations in their written order. -/
set_option linter.unusedVariables false
set_option linter.unusedSimpArgs false
namespace Go.Proofs.Ytpanbfainilmpaa.Ev

/-- A state of the evaluator and a state of the machine. -/
structure SI (nt : Nat) (w : World) (g : Gh) (st : St) (a : Act) : Prop where
  hi : HI w g st.h.get
  fr : FR w g st.h.get st.f a
  wf : WFr st.f st.nx
  wh : WH st.h st.nx
  sz : nt ≤ a.tmps.size

section
variable {P : Program} {inl : Nat → Bool} {nt : Nat} {ops : Array Oper} {K : Or}

theorem getD_bool {tmps : Array Value} {s : Nat} {b : Bool} (h : tmps.getD s undef = .bool b) : tmps[s]? = some (.bool b) := by
  by_cases hs : s < tmps.size
  · simp [Array.getD, hs] at h
    simp [hs, h]
  · simp [Array.getD, hs, undef] at h

theorem getD_out {tmps : Array Value} {s : Nat} (h : ¬ s < tmps.size) : tmps.getD s undef = undef := by simp [Array.getD, h]
def boolOf : Value → Option Bool
  | .bool b => some b
  | _ => none
theorem gdB_val {w : World} {g : Gh} {H : HF} {x : AV} {u : Value} {q : Option Bool} (hq : gdB x = some q) (h : AVR w g H x u) : boolOf u = q := by
  unfold gdB at hq
  split at hq
  · obtain ⟨us, rfl, _⟩ := h
    cases hq; rfl
  · cases hq
    rw [sc_val h]; rfl
  · cases hq
theorem yielded_at {ops : Array Oper} {tmps : Array Value} {j s : Nat} (hs : (ops[j]?).bind (·.dst) = some s) : yielded ops tmps j = boolOf (tmps.getD s undef) := by
  unfold yielded
  rw [hs]
  by_cases h : s < tmps.size
  · have h1 : tmps.getD s undef = tmps[s] := by simp [Array.getD, h]
    rw [h1]
    simp only [Option.bind_some, Array.getElem?_eq_getElem h]
    cases tmps[s] <;> rfl
  · rw [getD_out h]
    have : tmps[s]? = none := by simp; omega
    simp only [Option.bind_some, this]
    rfl
theorem compOper_op {o : Oper} {bf : Nat} (h : (compOper P inl nt ops o bf).op ≠ .bad) :
    (∀ d, o.dst = some d → d < nt) ∧ (compOper P inl nt ops o bf).op = compOp P inl o ∧ ∀ j want, o.guard = some (j, want) → ((ops[j]?).bind (·.dst)).isSome = true := by
  have key : ∀ dd : Option Nat, (if (match dd with | some d => decide (d < nt) | none => true) = false then AOp.bad else match o.guard with
      | none => compOp P inl o
      | some (j, _) => if ((ops[j]?).bind (·.dst)).isSome then compOp P inl o else .bad) ≠ .bad →
      (∀ d, dd = some d → d < nt) ∧ (if (match dd with | some d => decide (d < nt) | none => true) = false then AOp.bad else match o.guard with
      | none => compOp P inl o
      | some (j, _) => if ((ops[j]?).bind (·.dst)).isSome then compOp P inl o else .bad) = compOp P inl o ∧ ∀ j want, o.guard = some (j, want) → ((ops[j]?).bind (·.dst)).isSome = true := by
    intro dd hh
    have core : ∀ gg : Option (Nat × Bool), (match gg with
      | none => compOp P inl o
      | some (j, _) => if ((ops[j]?).bind (·.dst)).isSome then compOp P inl o else .bad) ≠ .bad → (match gg with
      | none => compOp P inl o
      | some (j, _) => if ((ops[j]?).bind (·.dst)).isSome then compOp P inl o else .bad) = compOp P inl o ∧ ∀ j want, gg = some (j, want) → ((ops[j]?).bind (·.dst)).isSome = true := by
      intro gg hh
      cases gg with
      | none => exact ⟨rfl, fun j want he => by cases he⟩
      | some p =>
        obtain ⟨j, want⟩ := p
        simp only at hh ⊢
        by_cases hs : ((ops[j]?).bind (·.dst)).isSome = true
        · refine ⟨if_pos hs, fun j' want' he => ?_⟩
          cases he
          exact hs
        · rw [if_neg hs] at hh; exact absurd rfl hh
    cases dd with
    | none => exact ⟨fun d he => (by cases he), core o.guard hh⟩
    | some d =>
      by_cases hd : d < nt
      · simp only [hd, decide_true, Bool.true_eq_false, if_false] at hh ⊢
        exact ⟨fun d' he => (by cases he; exact hd), core o.guard hh⟩
      · simp [hd] at hh
  exact key o.dst h

/-- One operation in its place. -/
theorem step_core {w : World} {g : Gh} {H : HF} {a : Act} {f : Fr} {h : Hp} {nx : Nat} {draw : Bool} {i : Nat} {o : Oper} {ao : AOper} {bf : Nat} (hi : HI w g H) (hK : KOk P inl K) (hwf : WFr f nx) (hwh : WH h nx) (ho : ops[i]? = some o) (hm : ao.bare = compOper P inl nt ops o bf)
    (hks : ∀ c ∈ ao.op.ks, c.ids = []) (hf : FRu w g H f a ao.us) {re : Re} (hre : evStep K draw ao ⟨f, h, nx⟩ = some re) (hrd : ∀ id ∈ re.r, H id = h.get id) (hfr : ∀ i, nx ≤ i → i < re.nx → H i = none) (hcl : Clean H (bn nx re.nx))
    {next : Act → World → Prop} {Q : Exit → Act → World → Prop} (hn : ∀ v w' g', HI w' g' (updF H re.w) → Stp (bn nx re.nx) w g H w' g' (updF H re.w) → AVR w' g' (updF H re.w) re.v v → next (a.put o.dst v) w') :
    wpOp P ops Q i next a w ∧ (∀ d, o.dst = some d → d < nt ∨ re.v = .tu []) ∧ ao.dst = o.dst := by
  have hdst : ao.dst = o.dst := by have := congrArg AOper.dst hm; exact this
  have hg : ao.g = (compOper P inl nt ops o bf).g := by have := congrArg AOper.g hm; exact this
  have hop : ao.op.bare = (compOper P inl nt ops o bf).op := by have := congrArg AOper.op hm; exact this
  -- when the operation itself is evaluated
  have doit : evOp K draw f h nx ao.op = some re → (∀ d, o.dst = some d → d < nt) ∧ compOp? P inl o = some ao.op.bare ∧ ∀ j want, o.guard = some (j, want) → ∃ s, (ops[j]?).bind (·.dst) = some s := by
    intro he
    have hnb : ao.op.bare ≠ .bad := by
      intro hb
      have : ao.op = .bad := by
        cases hao : ao.op <;> rw [hao] at hb <;> simp [AOp.bare] at hb
      rw [this] at he
      simp [evOp] at he
    have hsome : ∀ x : AOp, compOp P inl o = x → x ≠ .bad → compOp? P inl o = some x := by
      intro x hx hxb
      unfold compOp at hx
      split at hx
      · rename_i y hy; rw [hy, hx]
      · exact absurd hx.symm hxb
    rw [hop] at hnb
    obtain ⟨k1, k2, k3⟩ := compOper_op hnb
    rw [← hop] at hnb
    exact ⟨k1, hsome _ (k2.symm.trans hop.symm) hnb, fun j want hgd => isSome_ex (k3 j want hgd)⟩
  have run : evOp K draw f h nx ao.op = some re → o.wp P a w next Q ∨ (o.asks P a w ∧ LetsOut Q) := by
    intro he
    obtain ⟨_, h2, _⟩ := doit he
    exact .inl (evOp_ok hi hK hwf hwh h2 hks (hf.sub fun s hs => by simp only [AOper.us, List.mem_append]; exact .inl hs) he hrd hfr hcl next Q hn)
  refine ⟨?_, ?_, hdst⟩
  · simp only [wpOp, ho]
    simp only [evStep] at hre
    simp only [compOper] at hg
    split at hg
    · rename_i hgn
      rw [hg] at hre
      simp only [Region.wanted, hgn, if_true]
      exact run hre
    · rename_i j want hgs
      rw [hg] at hre
      simp only [bindO_eq] at hre
      obtain ⟨b, hb, hre⟩ := hre
      have hslot := gdB_val hb (hf (((ops[j]?).bind (·.dst)).getD 0) (by simp only [AOper.us, hg, List.mem_append, List.mem_singleton, or_true]))
      simp only [Region.wanted, hgs]
      split at hre
      · rename_i hbw
        obtain ⟨_, _, h3⟩ := doit hre
        obtain ⟨s, hs⟩ := h3 j want hgs
        rw [hs, Option.getD_some] at hslot
        have hy : yielded ops a.tmps j = b := by rw [yielded_at hs, hslot]
        rw [hy, hbw]
        simp only [beq_self_eq_true, if_true]
        exact run hre
      · rename_i hbw
        have hy : (yielded ops a.tmps j == some want) = false := by
          cases hs : (ops[j]?).bind (·.dst) with
          | none => simp [yielded, hs]
          | some s =>
            rw [hs, Option.getD_some] at hslot
            rw [yielded_at hs, hslot]
            simpa using hbw
        rw [hy]
        simp only [Bool.false_eq_true, if_false]
        rw [ok1_eq hre] at hn
        exact hn undef w g hi (by rw [bn_self]; exact Stp.refl w g H) ⟨[], rfl, .nil⟩
  · intro d hod
    simp only [evStep] at hre
    split at hre
    · exact .inl ((doit hre).1 d hod)
    · simp only [bindO_eq] at hre
      obtain ⟨b, hb, hre⟩ := hre
      split at hre
      · exact .inl ((doit hre).1 d hod)
      · rw [ok1_eq hre]; exact .inr rfl

theorem evStep_lt {draw : Bool} {ao : AOper} {st : St} {re : Re} (hK : KWF K) (hwf : WFr st.f st.nx) (hwh : WH st.h st.nx) (hks : ∀ c ∈ ao.op.ks, c.ids = []) (hre : evStep K draw ao st = some re) : ReOk st.nx re := by
  simp only [evStep] at hre
  split at hre
  · exact evOp_lt hK hwf hwh hks hre
  · simp only [bindO_eq] at hre
    obtain ⟨b, hb, hre⟩ := hre
    split at hre
    · exact evOp_lt hK hwf hwh hks hre
    · exact .ok1 hre Lt.nil

theorem ReOk.w {nx : Nat} {re : Re} (h : ReOk nx re) : ∀ e ∈ re.w, e.1 < re.nx ∧ ∀ l, e.2 = some l → Lt l.ids re.nx := by
  intro e he
  have key : ∀ i ∈ (e.1 :: match e.2 with | some l => l.ids | none => []), i < re.nx := fun i hi => h.2 i (List.mem_append_right _ (List.mem_flatMap.2 ⟨e, he, hi⟩))
  refine ⟨key _ List.mem_cons_self, fun l hl i hi => key i (List.mem_cons_of_mem _ ?_)⟩
  rw [hl]
  exact hi
theorem ReOk.v {nx : Nat} {re : Re} (h : ReOk nx re) : Lt re.v.ids re.nx := fun i hi => h.2 i (List.mem_append_left _ hi)

theorem put_get (a : Act) (dst : Option Nat) (v : Value) (s : Nat) : (a.put dst v).tmps.getD s undef = if dst = some s ∧ s < a.tmps.size then v else a.tmps.getD s undef := by
  cases dst with
  | none => simp [Act.put]
  | some d =>
    simp only [Act.put, Option.some.injEq]
    by_cases hd : d = s
    · subst hd
      by_cases hs : d < a.tmps.size
      · simp [hs, Array.getD]
      · simp [hs, Array.getD]
    · rw [if_neg (fun h => hd h.1)]
      rw [Array.getD_eq_getD_getElem?, Array.getD_eq_getD_getElem?, Array.getElem?_setIfInBounds, if_neg hd]
theorem put_size (a : Act) (dst : Option Nat) (v : Value) : (a.put dst v).tmps.size = a.tmps.size := by cases dst <;> simp [Act.put]
theorem put_defers (a : Act) (dst : Option Nat) (v : Value) : (a.put dst v).defers = a.defers := by cases dst <;> rfl

def St.getPut (st : St) (dst : Option Nat) (r : Re) (s : Nat) : AV := if dst = some s then r.v else st.f.get s
theorem put_f (st : St) (dst : Option Nat) (r : Re) (s : Nat) : (st.put dst r).f.get s = if dst = some s then r.v else st.f.get s := by
  cases dst with
  | none => simp [St.put]
  | some d =>
    simp only [St.put, Fr.get, Option.some.injEq]
    by_cases hs : s = d
    · subst hs; simp
    · rw [if_neg hs, if_neg (fun h => hs h.symm)]
theorem put_h (st : St) (dst : Option Nat) (r : Re) : (st.put dst r).h.get = updF st.h.get r.w := Hp.get_upd _ _
theorem put_nx (st : St) (dst : Option Nat) (r : Re) : (st.put dst r).nx = r.nx := rfl

theorem put_wf {st : St} {dst : Option Nat} {r : Re} (hwf : WFr st.f st.nx) (hr : ReOk st.nx r) : WFr (st.put dst r).f (st.put dst r).nx := by
  intro s
  rw [put_f, put_nx]
  split
  · exact hr.v
  · exact (hwf s).le hr.1
theorem put_wh {st : St} {dst : Option Nat} {r : Re} (hwh : WH st.h st.nx) (hr : ReOk st.nx r) : WH (st.put dst r).h (st.put dst r).nx := (hwh.le hr.1).upd hr.w

/-- What a text of operations owes: each is the program's, with the same constants. -/
def OpsOk (P : Program) (inl : Nat → Bool) (nt : Nat) (ops : Array Oper) (aos : List AOper) : Prop :=
  aos.length = ops.size ∧ ∀ (i : Nat) (o : Oper) (ao : AOper), ops[i]? = some o → aos[i]? = some ao → (∃ bf, ao.bare = compOper P inl nt ops o bf) ∧ ∀ c ∈ ao.op.ks, c.ids = []

theorem clean_of {H : HF} {h : Hp} {nx : Nat} (hH : ∀ i, H i = h.get i) (hwh : WH h nx) (m : Nat) : Clean H (bn nx m) := by
  intro id cells hc x hx i hi hb
  rw [hH] at hc
  have := (hwh.get hc).2 i (List.mem_flatMap.2 ⟨x, hx, hi⟩)
  have := (mem_bn.1 hb).1
  omega

/-- Operations in their written order. -/
theorem seq_ok (hK : KOk P inl K) {aos : List AOper} (hm : OpsOk P inl nt ops aos) {Q : Exit → Act → World → Prop} {stn : St} : ∀ (k i : Nat) (st : St) (w : World) (g : Gh) (a : Act), i + k = ops.size → evOps K (aos.drop i) st = some stn → SI nt w g st a →
    (∀ w' g' a', SI nt w' g' stn a' → Stp (bn st.nx stn.nx) w g st.h.get w' g' stn.h.get → a'.defers = a.defers → st.nx ≤ stn.nx → Q .normal a' w') → wpOps P ops Q (List.range' i k) a w
  | 0, i, st, w, g, a, hik, he, hs, hQ => by
    have : aos.drop i = [] := List.drop_eq_nil_of_le (by rw [hm.1]; omega)
    rw [this] at he
    simp only [evOps, Option.some.injEq] at he
    subst he
    simp only [List.range', wpOps]
    exact hQ w g a hs (by rw [bn_self]; exact Stp.refl _ _ _) rfl (Nat.le_refl _)
  | k + 1, i, st, w, g, a, hik, he, hs, hQ => by
    have hil : i < ops.size := by omega
    have hia : i < aos.length := by rw [hm.1]; exact hil
    rw [List.drop_eq_getElem_cons hia] at he
    simp only [evOps, bindO_eq] at he
    obtain ⟨re, hre, he⟩ := he
    obtain ⟨⟨bf, hb⟩, hks⟩ := hm.2 i ops[i] aos[i] (Array.getElem?_eq_getElem hil) (List.getElem?_eq_getElem hia)
    have hr := evStep_lt hK.wf hs.wf hs.wh hks hre
    simp only [List.range', wpOps_cons]
    refine (step_core hs.hi hK hs.wf hs.wh (Array.getElem?_eq_getElem hil) hb hks (fun s _ => hs.fr s) hre (fun _ _ => rfl) (fun j h1 _ => hs.wh.fresh h1) (clean_of (fun _ => rfl) hs.wh _) (fun v w' g' h1 h2 h3 => ?_)).1
    have hcore := (step_core (Q := Q) (next := fun _ _ => True) hs.hi hK hs.wf hs.wh (Array.getElem?_eq_getElem hil) hb hks (fun s _ => hs.fr s) hre (fun _ _ => rfl) (fun j h1 _ => hs.wh.fresh h1) (clean_of (fun _ => rfl) hs.wh _) (fun _ _ _ _ _ _ => trivial)).2
    obtain ⟨hd1, hd2⟩ := hcore
    have hs' : SI nt w' g' (st.put aos[i].dst re) (a.put ops[i].dst v) := by
      refine ⟨by rw [put_h]; exact h1, fun s => ?_, put_wf hs.wf hr, put_wh hs.wh hr, by rw [put_size]; exact hs.sz⟩
      rw [put_h, put_f, put_get, hd2]
      by_cases hds : ops[i].dst = some s
      · rw [if_pos hds]
        by_cases hsz : s < a.tmps.size
        · rw [if_pos ⟨hds, hsz⟩]; exact h3
        · rw [if_neg (fun h => hsz h.2)]
          rcases hd1 s hds with h | h
          · exact absurd (Nat.lt_of_lt_of_le h hs.sz) hsz
          · rw [h, getD_out hsz]; exact ⟨[], rfl, .nil⟩
      · rw [if_neg hds, if_neg (fun h => hds h.1)]
        exact AVR.step h2 (fun j hj hb => by have := hs.wf s j hj; have := (mem_bn.1 hb).1; omega) (hs.fr s)
    refine seq_ok hK hm k (i + 1) (st.put aos[i].dst re) w' g' (a.put ops[i].dst v) (by omega) he hs' fun w2 g2 a2 k1 k2 k3 k4 => hQ w2 g2 a2 k1 ?_ (k3.trans (put_defers _ _ _)) (Nat.le_trans hr.1 k4)
    rw [put_h, put_nx] at k2
    rw [put_nx] at k4
    refine (Stp.trans h2 k2).weaken fun j hj => ?_
    rcases List.mem_append.1 hj with hj | hj
    · have := mem_bn.1 hj; exact mem_bn.2 ⟨this.1, by omega⟩
    · have h5 := mem_bn.1 hj; have h6 := hr.1; exact mem_bn.2 ⟨by omega, h5.2⟩
end
end Go.Proofs.Ytpanbfainilmpaa.Ev
end
section
/- Regions: operations in any order that their edges allow. -/
set_option linter.unusedVariables false
set_option linter.unusedSimpArgs false
namespace Go.Proofs.Ytpanbfainilmpaa.Ev

/-- The last one of those below n that says something. -/
def lastOf {α : Type} (g : Nat → Option α) : Nat → Option α
  | 0 => none
  | n + 1 => match g n with
    | some x => some x
    | none => lastOf g n
theorem lastOf_congr {α : Type} {g g' : Nat → Option α} : ∀ {n : Nat}, (∀ j, j < n → g j = g' j) → lastOf g n = lastOf g' n
  | 0, _ => rfl
  | n + 1, h => by
    simp only [lastOf, h n (Nat.lt_succ_self n), lastOf_congr (n := n) fun j hj => h j (Nat.lt_succ_of_lt hj)]
theorem lastOf_none {α : Type} {g : Nat → Option α} : ∀ {n : Nat}, (∀ j, j < n → g j = none) → lastOf g n = none
  | 0, _ => rfl
  | n + 1, h => by simp only [lastOf, h n (Nat.lt_succ_self n), lastOf_none (n := n) fun j hj => h j (Nat.lt_succ_of_lt hj)]
theorem lastOf_at {α : Type} {g : Nat → Option α} {i : Nat} {x : α} : ∀ {n : Nat}, i < n → g i = some x → (∀ j, i < j → j < n → g j = none) → lastOf g n = some x
  | 0, h, _, _ => by omega
  | n + 1, h, hx, hj => by
    simp only [lastOf]
    rcases Nat.lt_or_ge i n with hi | hi
    · rw [hj n hi (Nat.lt_succ_self n)]
      exact lastOf_at hi hx fun j h1 h2 => hj j h1 (Nat.lt_succ_of_lt h2)
    · have : i = n := by omega
      subst this
      rw [hx]
theorem lastOf_some {α : Type} {g : Nat → Option α} {x : α} : ∀ {n : Nat}, lastOf g n = some x → ∃ j, j < n ∧ g j = some x
  | 0, h => by cases h
  | n + 1, h => by
    simp only [lastOf] at h
    split at h
    · rename_i y hy; cases h; exact ⟨n, Nat.lt_succ_self n, hy⟩
    · obtain ⟨j, h1, h2⟩ := lastOf_some h
      exact ⟨j, Nat.lt_succ_of_lt h1, h2⟩
/-- Those from i on say nothing. -/
theorem lastOf_cut {α : Type} {g : Nat → Option α} {i : Nat} : ∀ {n : Nat}, i ≤ n → (∀ j, i ≤ j → j < n → g j = none) → lastOf g n = lastOf g i
  | 0, h, _ => by have : i = 0 := by omega
                  subst this; rfl
  | n + 1, h, hj => by
    rcases Nat.lt_or_ge n i with hi | hi
    · have : i = n + 1 := by omega
      subst this; rfl
    · simp only [lastOf, hj n hi (Nat.lt_succ_self n)]
      exact lastOf_cut hi fun j h1 h2 => hj j h1 (Nat.lt_succ_of_lt h2)

/-- What a list of changes says of a number. -/
def wr : List (Nat × Option Loc) → Nat → Option (Option Loc)
  | [], _ => none
  | (n, x) :: r, i => match wr r i with
    | some y => some y
    | none => if i = n then some x else none
theorem updF_wr : ∀ (w : List (Nat × Option Loc)) (H : HF) (i : Nat), updF H w i = (wr w i).getD (H i)
  | [], H, i => rfl
  | (n, x) :: r, H, i => by
    simp only [updF, updF_wr r, wr]
    cases wr r i with
    | some y => rfl
    | none =>
      by_cases hi : i = n
      · subst hi; simp [fup_same]
      · simp [hi, fup]
theorem wr_mem : ∀ {w : List (Nat × Option Loc)} {i : Nat} {x : Option Loc}, wr w i = some x → (i, x) ∈ w
  | [], i, x, h => by cases h
  | (n, y) :: r, i, x, h => by
    simp only [wr] at h
    split at h
    · rename_i z hz; cases h; exact List.mem_cons_of_mem _ (wr_mem hz)
    · split at h
      · rename_i hi; cases h; subst hi; exact List.mem_cons_self
      · cases h

/-- What two operations of no order owe each other. -/
def Beside (q p : Re) (lo : Nat) : Prop :=
  (∀ x ∈ q.w.map (·.1), x ∉ p.r ∧ x ∉ p.w.map (·.1)) ∧ (∀ x ∈ p.w.map (·.1), x ∉ q.r ∧ x ∉ q.w.map (·.1)) ∧ ∀ x ∈ q.ids, ¬(lo ≤ x ∧ x < p.nx)
def BesideF (bf : Nat) (q : Re) (k : Fp) : Prop :=
  bf.testBit k.i = true ∨ ((∀ x ∈ q.w.map (·.1), x ∉ k.r ∧ x ∉ k.w) ∧ (∀ x ∈ k.w, x ∉ q.r ∧ x ∉ q.w.map (·.1)) ∧ ∀ x ∈ q.ids, ¬(k.lo ≤ x ∧ x < k.hi))

theorem disj_spec {a b : List Nat} (h : disj a b = true) : ∀ x ∈ a, x ∉ b := by
  simp only [disj, List.all_eq_true] at h
  intro x hx hb
  have := h x hx
  simp [hb] at this
theorem beside_spec {bf : Nat} {q : Re} : ∀ {l : List Fp}, beside bf q.r (q.w.map (·.1)) q.ids l = true → ∀ k ∈ l, BesideF bf q k
  | [], _, k, hk => by cases hk
  | f :: t, h, k, hk => by
    simp only [beside, Bool.and_eq_true, Bool.or_eq_true] at h
    obtain ⟨h1, h2⟩ := h
    rcases List.mem_cons.1 hk with rfl | hk
    · rcases h1 with ⟨⟨a, b⟩, c⟩ | h1
      · refine .inr ⟨fun x hx => ?_, fun x hx => ?_, fun x hx => ?_⟩
        · have := disj_spec a x hx
          simp only [List.mem_append, not_or] at this
          exact this
        · have := disj_spec b x hx
          simp only [List.mem_append, not_or] at this
          exact this
        · rw [List.all_eq_true] at c
          have := c x hx
          simp only [Bool.not_eq_true', Bool.and_eq_false_iff, decide_eq_false_iff_not] at this
          omega
      · exact .inl h1
    · exact beside_spec h2 k hk

theorem addFp_sub {i lo : Nat} {q : Re} {prev : List Fp} : ∀ k ∈ prev, k ∈ addFp i lo q prev := by
  intro k hk
  unfold addFp
  split
  · unfold iteB
    split
    · exact hk
    · exact List.mem_cons_of_mem _ hk
  · exact List.mem_cons_of_mem _ hk
theorem addFp_spec {i lo : Nat} {p : Re} {prev : List Fp} {bf : Nat} {q : Re} (h : ∀ k ∈ addFp i lo p prev, BesideF bf q k) : bf.testBit i = true ∨ Beside q p lo := by
  unfold addFp at h
  split at h
  · rename_i hr hw
    unfold iteB at h
    split at h
    · rename_i hn
      simp only [beq_iff_eq] at hn
      right
      refine ⟨fun x hx => (by rw [hr, hw]; simp), fun x hx => (by rw [hw] at hx; cases hx), fun x hx => (by omega)⟩
    · rcases h _ List.mem_cons_self with h | ⟨h1, h2, h3⟩
      · exact .inl h
      · right
        refine ⟨fun x hx => (by rw [hr, hw]; simp), fun x hx => (by rw [hw] at hx; cases hx), h3⟩
  · rcases h _ List.mem_cons_self with h | ⟨h1, h2, h3⟩
    · exact .inl h
    · exact .inr ⟨h1, h2, h3⟩

/-- What a run of operations in their written order tells. -/
theorem evOpsD_run {K : Or} : ∀ {os : List AOper} {i : Nat} {prev : List Fp} {st stn : St}, evOpsD K i prev os st = some stn →
    ∃ (S : Nat → St) (R : Nat → Re), S i = st ∧ S (i + os.length) = stn ∧ (∀ k o, os[k]? = some o → evStep K true o (S (i + k)) = some (R (i + k)) ∧ S (i + k + 1) = (S (i + k)).put o.dst (R (i + k))) ∧
      (∀ k o, os[k]? = some o → ∀ fp ∈ prev, BesideF o.bf (R (i + k)) fp) ∧ ∀ k l o, k < l → os[l]? = some o → o.bf.testBit (i + k) = true ∨ Beside (R (i + l)) (R (i + k)) (S (i + k)).nx
  | [], i, prev, st, stn, h => by
    simp only [evOpsD, Option.some.injEq] at h
    subst h
    exact ⟨fun _ => st, fun _ => ⟨.top, [], [], 0⟩, rfl, rfl, fun k o hk => by simp at hk, fun k o hk => by simp at hk, fun k l o _ hk => by simp at hk⟩
  | o :: os, i, prev, st, stn, h => by
    simp only [evOpsD, bindO_eq] at h
    obtain ⟨q, hq, h⟩ := h
    unfold iteB at h
    split at h
    case h_2 => cases h
    rename_i hb
    obtain ⟨S, R, h1, h2, h3, h4, h5⟩ := evOpsD_run h
    have hne : ∀ k, i + (k + 1) ≠ i := fun k => by omega
    have hS : ∀ k, i + 1 + k = i + (k + 1) := fun k => by omega
    refine ⟨fun j => if j = i then st else S j, fun j => if j = i then q else R j, if_pos rfl, ?_, fun k o' hk => ?_, fun k o' hk fp hfp => ?_, fun k l o' hkl hl => ?_⟩
    · simp only [List.length_cons]
      rw [if_neg (by omega), ← hS]; exact h2
    · cases k with
      | zero =>
        simp only [List.getElem?_cons_zero, Option.some.injEq] at hk
        subst hk
        simp only [Nat.add_zero, if_pos rfl]
        exact ⟨hq, by rw [if_neg (by omega)]; exact h1⟩
      | succ k =>
        simp only [List.getElem?_cons_succ] at hk
        obtain ⟨q1, q2⟩ := h3 k o' hk
        rw [hS] at q1 q2
        simp only [if_neg (hne k)]
        exact ⟨q1, by rw [if_neg (by omega)]; exact q2⟩
    · cases k with
      | zero =>
        simp only [List.getElem?_cons_zero, Option.some.injEq] at hk
        subst hk
        simp only [Nat.add_zero, if_pos rfl]
        exact beside_spec hb fp hfp
      | succ k =>
        simp only [List.getElem?_cons_succ] at hk
        have := h4 k o' hk fp (addFp_sub fp hfp)
        rw [hS] at this
        simp only [if_neg (hne k)]
        exact this
    · cases l with
      | zero => omega
      | succ l =>
        simp only [List.getElem?_cons_succ] at hl
        simp only [if_neg (hne l)]
        cases k with
        | zero =>
          simp only [Nat.add_zero, if_pos rfl]
          have := addFp_spec (h4 l o' hl)
          rw [hS] at this
          exact this
        | succ k =>
          have := h5 k l o' (by omega) hl
          rw [hS, hS] at this
          simp only [if_neg (hne k)]
          exact this

/-! ### The predecessors -/
theorem bitsAll_acc : ∀ (os : List Oper) (acc : List Nat) (k : Nat), k < acc.length → (bitsAll acc os)[k]? = acc[k]?
  | [], acc, k, _ => rfl
  | o :: os, acc, k, h => by
    simp only [bitsAll]
    rw [bitsAll_acc os _ k (by simp; omega), List.getElem?_append_left h]
theorem bitsAll_len : ∀ (os : List Oper) (acc : List Nat), (bitsAll acc os).length = acc.length + os.length
  | [], acc => by simp [bitsAll]
  | o :: os, acc => by simp only [bitsAll, bitsAll_len os, List.length_append, List.length_cons, List.length_nil]; omega
theorem bitsAll_at : ∀ (os : List Oper) (acc : List Nat) (k : Nat) (o : Oper), os[k]? = some o → ∃ pre : List Nat, pre.length = acc.length + k ∧ (∀ j, j < acc.length + k → pre[j]? = (bitsAll acc os)[j]?) ∧ (bitsAll acc os)[acc.length + k]? = some (bitsOf pre o.after.toList)
  | [], acc, k, o, h => by simp at h
  | o' :: os, acc, 0, o, h => by
    simp only [List.getElem?_cons_zero, Option.some.injEq] at h
    subst h
    refine ⟨acc, by simp, fun j hj => ?_, ?_⟩
    · simp only [bitsAll]; rw [bitsAll_acc os _ j (by simp; omega), List.getElem?_append_left (by omega)]
    · simp only [bitsAll, Nat.add_zero]; rw [bitsAll_acc os _ _ (by simp)]; simp
  | o' :: os, acc, k + 1, o, h => by
    simp only [List.getElem?_cons_succ] at h
    obtain ⟨pre, h1, h2, h3⟩ := bitsAll_at os (acc ++ [bitsOf acc o'.after.toList]) k o h
    simp only [List.length_append, List.length_cons, List.length_nil] at h1 h2 h3
    refine ⟨pre, by omega, fun j hj => ?_, ?_⟩
    · simp only [bitsAll]; exact h2 j (by omega)
    · simp only [bitsAll]; rw [← h3]; congr 1; omega
theorem bitsOf_bit (acc : List Nat) : ∀ (es : List Edge) (k : Nat), (bitsOf acc es).testBit k = true ↔ ∃ e ∈ es, Region.binds .any e = true ∧ (k = e.on ∨ (acc.getD e.on 0).testBit k = true)
  | [], k => by simp [bitsOf]
  | e :: es, k => by
    simp only [bitsOf]
    split
    · rename_i hb
      rw [Nat.testBit_or, Nat.testBit_or, Bool.or_eq_true, Bool.or_eq_true, bitsOf_bit acc es k, Nat.testBit_two_pow, decide_eq_true_eq]
      constructor
      · rintro ((h | h) | ⟨e', he', h⟩)
        · exact ⟨e, List.mem_cons_self, hb, .inl h.symm⟩
        · exact ⟨e, List.mem_cons_self, hb, .inr h⟩
        · exact ⟨e', List.mem_cons_of_mem _ he', h⟩
      · rintro ⟨e', he', h1, h2⟩
        rcases List.mem_cons.1 he' with rfl | he'
        · rcases h2 with h2 | h2
          · exact .inl (.inl h2.symm)
          · exact .inl (.inr h2)
        · exact .inr ⟨e', he', h1, h2⟩
    · rename_i hb
      rw [bitsOf_bit acc es k]
      constructor
      · rintro ⟨e', he', h⟩; exact ⟨e', List.mem_cons_of_mem _ he', h⟩
      · rintro ⟨e', he', h1, h2⟩
        rcases List.mem_cons.1 he' with rfl | he'
        · exact absurd h1 hb
        · exact ⟨e', he', h1, h2⟩
end Go.Proofs.Ytpanbfainilmpaa.Ev
end
