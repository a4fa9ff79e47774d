/- Regions: operations in any order that their edges allow. -/
import Derived.Test.YtpanbfainilmpaaEv16
set_option linter.unusedVariables false
set_option linter.unusedSimpArgs false
namespace Go.Proofs.Ytpanbfainilmpaa.Ev

/-- The last one of those below n that says something. -/
def lastOf {α : Type} (g : Nat → Option α) : Nat → Option α
  | 0 => none
  | n + 1 => match g n with
    | some x => some x
    | none => lastOf g n
theorem lastOf_congr {α : Type} {g g' : Nat → Option α} : ∀ {n : Nat}, (∀ j, j < n → g j = g' j) → lastOf g n = lastOf g' n
  | 0, _ => rfl
  | n + 1, h => by
    simp only [lastOf, h n (Nat.lt_succ_self n), lastOf_congr (n := n) fun j hj => h j (Nat.lt_succ_of_lt hj)]
theorem lastOf_none {α : Type} {g : Nat → Option α} : ∀ {n : Nat}, (∀ j, j < n → g j = none) → lastOf g n = none
  | 0, _ => rfl
  | n + 1, h => by simp only [lastOf, h n (Nat.lt_succ_self n), lastOf_none (n := n) fun j hj => h j (Nat.lt_succ_of_lt hj)]
theorem lastOf_at {α : Type} {g : Nat → Option α} {i : Nat} {x : α} : ∀ {n : Nat}, i < n → g i = some x → (∀ j, i < j → j < n → g j = none) → lastOf g n = some x
  | 0, h, _, _ => by omega
  | n + 1, h, hx, hj => by
    simp only [lastOf]
    rcases Nat.lt_or_ge i n with hi | hi
    · rw [hj n hi (Nat.lt_succ_self n)]
      exact lastOf_at hi hx fun j h1 h2 => hj j h1 (Nat.lt_succ_of_lt h2)
    · have : i = n := by omega
      subst this
      rw [hx]
theorem lastOf_some {α : Type} {g : Nat → Option α} {x : α} : ∀ {n : Nat}, lastOf g n = some x → ∃ j, j < n ∧ g j = some x
  | 0, h => by cases h
  | n + 1, h => by
    simp only [lastOf] at h
    split at h
    · rename_i y hy; cases h; exact ⟨n, Nat.lt_succ_self n, hy⟩
    · obtain ⟨j, h1, h2⟩ := lastOf_some h
      exact ⟨j, Nat.lt_succ_of_lt h1, h2⟩
/-- Those from i on say nothing. -/
theorem lastOf_cut {α : Type} {g : Nat → Option α} {i : Nat} : ∀ {n : Nat}, i ≤ n → (∀ j, i ≤ j → j < n → g j = none) → lastOf g n = lastOf g i
  | 0, h, _ => by have : i = 0 := by omega
                  subst this; rfl
  | n + 1, h, hj => by
    rcases Nat.lt_or_ge n i with hi | hi
    · have : i = n + 1 := by omega
      subst this; rfl
    · simp only [lastOf, hj n hi (Nat.lt_succ_self n)]
      exact lastOf_cut hi fun j h1 h2 => hj j h1 (Nat.lt_succ_of_lt h2)

/-- What a list of changes says of a number. -/
def wr : List (Nat × Option Loc) → Nat → Option (Option Loc)
  | [], _ => none
  | (n, x) :: r, i => match wr r i with
    | some y => some y
    | none => if i = n then some x else none
theorem updF_wr : ∀ (w : List (Nat × Option Loc)) (H : HF) (i : Nat), updF H w i = (wr w i).getD (H i)
  | [], H, i => rfl
  | (n, x) :: r, H, i => by
    simp only [updF, updF_wr r, wr]
    cases wr r i with
    | some y => rfl
    | none =>
      by_cases hi : i = n
      · subst hi; simp [fup_same]
      · simp [hi, fup]
theorem wr_mem : ∀ {w : List (Nat × Option Loc)} {i : Nat} {x : Option Loc}, wr w i = some x → (i, x) ∈ w
  | [], i, x, h => by cases h
  | (n, y) :: r, i, x, h => by
    simp only [wr] at h
    split at h
    · rename_i z hz; cases h; exact List.mem_cons_of_mem _ (wr_mem hz)
    · split at h
      · rename_i hi; cases h; subst hi; exact List.mem_cons_self
      · cases h

/-- What two operations of no order owe each other. -/
def Beside (q p : Re) (lo : Nat) : Prop :=
  (∀ x ∈ q.w.map (·.1), x ∉ p.r ∧ x ∉ p.w.map (·.1)) ∧ (∀ x ∈ p.w.map (·.1), x ∉ q.r ∧ x ∉ q.w.map (·.1)) ∧ ∀ x ∈ q.ids, ¬(lo ≤ x ∧ x < p.nx)
def BesideF (bf : Nat) (q : Re) (k : Fp) : Prop :=
  bf.testBit k.i = true ∨ ((∀ x ∈ q.w.map (·.1), x ∉ k.r ∧ x ∉ k.w) ∧ (∀ x ∈ k.w, x ∉ q.r ∧ x ∉ q.w.map (·.1)) ∧ ∀ x ∈ q.ids, ¬(k.lo ≤ x ∧ x < k.hi))

theorem disj_spec {a b : List Nat} (h : disj a b = true) : ∀ x ∈ a, x ∉ b := by
  simp only [disj, List.all_eq_true] at h
  intro x hx hb
  have := h x hx
  simp [hb] at this
theorem beside_spec {bf : Nat} {q : Re} : ∀ {l : List Fp}, beside bf q.r (q.w.map (·.1)) q.ids l = true → ∀ k ∈ l, BesideF bf q k
  | [], _, k, hk => by cases hk
  | f :: t, h, k, hk => by
    simp only [beside, Bool.and_eq_true, Bool.or_eq_true] at h
    obtain ⟨h1, h2⟩ := h
    rcases List.mem_cons.1 hk with rfl | hk
    · rcases h1 with ⟨⟨a, b⟩, c⟩ | h1
      · refine .inr ⟨fun x hx => ?_, fun x hx => ?_, fun x hx => ?_⟩
        · have := disj_spec a x hx
          simp only [List.mem_append, not_or] at this
          exact this
        · have := disj_spec b x hx
          simp only [List.mem_append, not_or] at this
          exact this
        · rw [List.all_eq_true] at c
          have := c x hx
          simp only [Bool.not_eq_true', Bool.and_eq_false_iff, decide_eq_false_iff_not] at this
          omega
      · exact .inl h1
    · exact beside_spec h2 k hk

theorem addFp_sub {i lo : Nat} {q : Re} {prev : List Fp} : ∀ k ∈ prev, k ∈ addFp i lo q prev := by
  intro k hk
  unfold addFp
  split
  · unfold iteB
    split
    · exact hk
    · exact List.mem_cons_of_mem _ hk
  · exact List.mem_cons_of_mem _ hk
theorem addFp_spec {i lo : Nat} {p : Re} {prev : List Fp} {bf : Nat} {q : Re} (h : ∀ k ∈ addFp i lo p prev, BesideF bf q k) : bf.testBit i = true ∨ Beside q p lo := by
  unfold addFp at h
  split at h
  · rename_i hr hw
    unfold iteB at h
    split at h
    · rename_i hn
      simp only [beq_iff_eq] at hn
      right
      refine ⟨fun x hx => (by rw [hr, hw]; simp), fun x hx => (by rw [hw] at hx; cases hx), fun x hx => (by omega)⟩
    · rcases h _ List.mem_cons_self with h | ⟨h1, h2, h3⟩
      · exact .inl h
      · right
        refine ⟨fun x hx => (by rw [hr, hw]; simp), fun x hx => (by rw [hw] at hx; cases hx), h3⟩
  · rcases h _ List.mem_cons_self with h | ⟨h1, h2, h3⟩
    · exact .inl h
    · exact .inr ⟨h1, h2, h3⟩

/-- What a run of operations in their written order tells. -/
theorem evOpsD_run {K : Or} : ∀ {os : List AOper} {i : Nat} {prev : List Fp} {st stn : St}, evOpsD K i prev os st = some stn →
    ∃ (S : Nat → St) (R : Nat → Re), S i = st ∧ S (i + os.length) = stn ∧ (∀ k o, os[k]? = some o → evStep K true o (S (i + k)) = some (R (i + k)) ∧ S (i + k + 1) = (S (i + k)).put o.dst (R (i + k))) ∧
      (∀ k o, os[k]? = some o → ∀ fp ∈ prev, BesideF o.bf (R (i + k)) fp) ∧ ∀ k l o, k < l → os[l]? = some o → o.bf.testBit (i + k) = true ∨ Beside (R (i + l)) (R (i + k)) (S (i + k)).nx
  | [], i, prev, st, stn, h => by
    simp only [evOpsD, Option.some.injEq] at h
    subst h
    exact ⟨fun _ => st, fun _ => ⟨.top, [], [], 0⟩, rfl, rfl, fun k o hk => by simp at hk, fun k o hk => by simp at hk, fun k l o _ hk => by simp at hk⟩
  | o :: os, i, prev, st, stn, h => by
    simp only [evOpsD, bindO_eq] at h
    obtain ⟨q, hq, h⟩ := h
    unfold iteB at h
    split at h
    case h_2 => cases h
    rename_i hb
    obtain ⟨S, R, h1, h2, h3, h4, h5⟩ := evOpsD_run h
    have hne : ∀ k, i + (k + 1) ≠ i := fun k => by omega
    have hS : ∀ k, i + 1 + k = i + (k + 1) := fun k => by omega
    refine ⟨fun j => if j = i then st else S j, fun j => if j = i then q else R j, if_pos rfl, ?_, fun k o' hk => ?_, fun k o' hk fp hfp => ?_, fun k l o' hkl hl => ?_⟩
    · simp only [List.length_cons]
      rw [if_neg (by omega), ← hS]; exact h2
    · cases k with
      | zero =>
        simp only [List.getElem?_cons_zero, Option.some.injEq] at hk
        subst hk
        simp only [Nat.add_zero, if_pos rfl]
        exact ⟨hq, by rw [if_neg (by omega)]; exact h1⟩
      | succ k =>
        simp only [List.getElem?_cons_succ] at hk
        obtain ⟨q1, q2⟩ := h3 k o' hk
        rw [hS] at q1 q2
        simp only [if_neg (hne k)]
        exact ⟨q1, by rw [if_neg (by omega)]; exact q2⟩
    · cases k with
      | zero =>
        simp only [List.getElem?_cons_zero, Option.some.injEq] at hk
        subst hk
        simp only [Nat.add_zero, if_pos rfl]
        exact beside_spec hb fp hfp
      | succ k =>
        simp only [List.getElem?_cons_succ] at hk
        have := h4 k o' hk fp (addFp_sub fp hfp)
        rw [hS] at this
        simp only [if_neg (hne k)]
        exact this
    · cases l with
      | zero => omega
      | succ l =>
        simp only [List.getElem?_cons_succ] at hl
        simp only [if_neg (hne l)]
        cases k with
        | zero =>
          simp only [Nat.add_zero, if_pos rfl]
          have := addFp_spec (h4 l o' hl)
          rw [hS] at this
          exact this
        | succ k =>
          have := h5 k l o' (by omega) hl
          rw [hS, hS] at this
          simp only [if_neg (hne k)]
          exact this

/-! ### The predecessors -/
theorem bitsAll_acc : ∀ (os : List Oper) (acc : List Nat) (k : Nat), k < acc.length → (bitsAll acc os)[k]? = acc[k]?
  | [], acc, k, _ => rfl
  | o :: os, acc, k, h => by
    simp only [bitsAll]
    rw [bitsAll_acc os _ k (by simp; omega), List.getElem?_append_left h]
theorem bitsAll_len : ∀ (os : List Oper) (acc : List Nat), (bitsAll acc os).length = acc.length + os.length
  | [], acc => by simp [bitsAll]
  | o :: os, acc => by simp only [bitsAll, bitsAll_len os, List.length_append, List.length_cons, List.length_nil]; omega
theorem bitsAll_at : ∀ (os : List Oper) (acc : List Nat) (k : Nat) (o : Oper), os[k]? = some o → ∃ pre : List Nat, pre.length = acc.length + k ∧ (∀ j, j < acc.length + k → pre[j]? = (bitsAll acc os)[j]?) ∧ (bitsAll acc os)[acc.length + k]? = some (bitsOf pre o.after.toList)
  | [], acc, k, o, h => by simp at h
  | o' :: os, acc, 0, o, h => by
    simp only [List.getElem?_cons_zero, Option.some.injEq] at h
    subst h
    refine ⟨acc, by simp, fun j hj => ?_, ?_⟩
    · simp only [bitsAll]; rw [bitsAll_acc os _ j (by simp; omega), List.getElem?_append_left (by omega)]
    · simp only [bitsAll, Nat.add_zero]; rw [bitsAll_acc os _ _ (by simp)]; simp
  | o' :: os, acc, k + 1, o, h => by
    simp only [List.getElem?_cons_succ] at h
    obtain ⟨pre, h1, h2, h3⟩ := bitsAll_at os (acc ++ [bitsOf acc o'.after.toList]) k o h
    simp only [List.length_append, List.length_cons, List.length_nil] at h1 h2 h3
    refine ⟨pre, by omega, fun j hj => ?_, ?_⟩
    · simp only [bitsAll]; exact h2 j (by omega)
    · simp only [bitsAll]; rw [← h3]; congr 1; omega
theorem bitsOf_bit (acc : List Nat) : ∀ (es : List Edge) (k : Nat), (bitsOf acc es).testBit k = true ↔ ∃ e ∈ es, Region.binds .any e = true ∧ (k = e.on ∨ (acc.getD e.on 0).testBit k = true)
  | [], k => by simp [bitsOf]
  | e :: es, k => by
    simp only [bitsOf]
    split
    · rename_i hb
      rw [Nat.testBit_or, Nat.testBit_or, Bool.or_eq_true, Bool.or_eq_true, bitsOf_bit acc es k, Nat.testBit_two_pow, decide_eq_true_eq]
      constructor
      · rintro ((h | h) | ⟨e', he', h⟩)
        · exact ⟨e, List.mem_cons_self, hb, .inl h.symm⟩
        · exact ⟨e, List.mem_cons_self, hb, .inr h⟩
        · exact ⟨e', List.mem_cons_of_mem _ he', h⟩
      · rintro ⟨e', he', h1, h2⟩
        rcases List.mem_cons.1 he' with rfl | he'
        · rcases h2 with h2 | h2
          · exact .inl (.inl h2.symm)
          · exact .inl (.inr h2)
        · exact .inr ⟨e', he', h1, h2⟩
    · rename_i hb
      rw [bitsOf_bit acc es k]
      constructor
      · rintro ⟨e', he', h⟩; exact ⟨e', List.mem_cons_of_mem _ he', h⟩
      · rintro ⟨e', he', h1, h2⟩
        rcases List.mem_cons.1 he' with rfl | he'
        · exact absurd h1 hb
        · exact ⟨e', he', h1, h2⟩
end Go.Proofs.Ytpanbfainilmpaa.Ev
