/- Fuel away: the limits RUN, CALL, ICALL and their equations. -/
import Derived.Test.YtpanbfainilmpaaEv23
set_option linter.unusedVariables false
set_option linter.unusedSimpArgs false
namespace Go.Proofs.Ytpanbfainilmpaa.Ev

structure KLe (K K' : Or) : Prop where
  call : ∀ f a r, K.call f a = some r → K'.call f a = some r
  icall : ∀ f a h n r, K.icall f a h n = some r → K'.icall f a h n = some r

section
variable {K K' : Or} {draw : Bool} {f : Fr} {h : Hp} {nx : Nat}
theorem bindO_mono {α β : Type} {x : Option α} {F G : α → Option β} {r : β} (hFG : ∀ a, F a = some r → G a = some r) (hx : bindO x F = some r) : bindO x G = some r := by
  simp only [bindO_eq] at hx ⊢
  obtain ⟨a, h1, h2⟩ := hx
  exact ⟨a, h1, hFG a h2⟩
theorem doCall_mono (hK : KLe K K') {g : Nat} {as : List (Nat × AO)} {re : Re} (hre : doCall K draw f h nx g as = some re) : doCall K' draw f h nx g as = some re := by
  simp only [doCall, bindO_eq] at hre ⊢
  obtain ⟨a, ha, r, hr, hre⟩ := hre
  exact ⟨a, ha, r, hK.call _ _ _ hr, hre⟩
theorem evOp_mono (hK : KLe K K') {op : AOp} {re : Re} (hre : evOp K draw f h nx op = some re) : evOp K' draw f h nx op = some re := by
  cases op with
  | call g as => exact doCall_mono (draw := draw) hK hre
  | callv x as =>
    simp only [evOp, bindO_eq] at hre ⊢
    obtain ⟨g, hg, hre⟩ := hre
    exact ⟨g, hg, doCall_mono (draw := draw) hK hre⟩
  | icall g as =>
    simp only [evOp, doICall, bindO_eq] at hre ⊢
    obtain ⟨q, hq, hre⟩ := hre
    exact ⟨q, hK.icall _ _ _ _ _ hq, hre⟩
  | _ => exact hre
theorem evStep_mono (hK : KLe K K') {o : AOper} {st : St} {re : Re} (hre : evStep K draw o st = some re) : evStep K' draw o st = some re := by
  simp only [evStep] at hre ⊢
  split at hre
  · exact evOp_mono hK hre
  · simp only [bindO_eq] at hre ⊢
    obtain ⟨b, hb, hre⟩ := hre
    refine ⟨b, hb, ?_⟩
    split at hre
    · rename_i hc; rw [if_pos hc]; exact evOp_mono hK hre
    · rename_i hc; rw [if_neg hc]; exact hre
theorem evOps_mono (hK : KLe K K') : ∀ {os : List AOper} {st st' : St}, evOps K os st = some st' → evOps K' os st = some st'
  | [], st, st', h => h
  | o :: os, st, st', h => by
    simp only [evOps, bindO_eq] at h ⊢
    obtain ⟨re, h1, h2⟩ := h
    exact ⟨re, evStep_mono hK h1, evOps_mono hK h2⟩
theorem evOpsD_mono (hK : KLe K K') : ∀ {os : List AOper} {i : Nat} {prev : List Fp} {st st' : St}, evOpsD K i prev os st = some st' → evOpsD K' i prev os st = some st'
  | [], i, prev, st, st', h => h
  | o :: os, i, prev, st, st', h => by
    simp only [evOpsD, bindO_eq] at h ⊢
    obtain ⟨re, h1, h2⟩ := h
    refine ⟨re, evStep_mono hK h1, ?_⟩
    unfold iteB at h2 ⊢
    split at h2
    · exact evOpsD_mono hK h2
    · cases h2
end

section
variable (A : Nat → Option AFunc) (X : Nat → Option (List PV → Option (List PV)))

theorem mkK_le {n : Nat} (h : ∀ c st q, evC A X n c st = some q → evC A X (n + 1) c st = some q) : KLe (mkK A X n) (mkK A X (n + 1)) := by
  constructor
  · intro f a r hr
    simp only [mkK] at hr ⊢
    split at hr
    · exact hr
    · simp only [bindO_eq] at hr ⊢
      obtain ⟨fn, hf, hr⟩ := hr
      refine ⟨fn, hf, ?_⟩
      split at hr
      · rename_i hl
        rw [if_pos hl]
        simp only [bindO_eq] at hr ⊢
        obtain ⟨q, hq, hr⟩ := hr
        exact ⟨q, h _ _ _ hq, hr⟩
      · cases hr
  · intro f a hp nx r hr
    simp only [mkK, bindO_eq] at hr ⊢
    obtain ⟨fn, hf, hr⟩ := hr
    refine ⟨fn, hf, ?_⟩
    split at hr
    · rename_i hl
      rw [if_pos hl]
      simp only [bindO_eq] at hr ⊢
      obtain ⟨q, hq, hr⟩ := hr
      exact ⟨q, h _ _ _ hq, hr⟩
    · cases hr

theorem evC_succ : ∀ (n : Nat) (c : ACode) (st : St) (q : Ex × St), evC A X n c st = some q → evC A X (n + 1) c st = some q
  | 0, c, st, q, h => by rw [evC] at h; cases h
  | n + 1, c, st, q, h => by
    have ih := evC_succ n
    cases c with
    | skip => rw [evC] at h ⊢; exact h
    | exit id => rw [evC] at h ⊢; exact h
    | ret => rw [evC] at h ⊢; exact h
    | bad => rw [evC] at h; cases h
    | reg d ops =>
      rw [evC_reg] at h ⊢
      simp only [bindO_eq] at h ⊢
      obtain ⟨st', h, he⟩ := h
      refine ⟨st', ?_, he⟩
      cases d
      · exact evOps_mono (mkK_le A X ih) h
      · exact evOpsD_mono (mkK_le A X ih) h
    | seq a b =>
      rw [evC] at h ⊢
      simp only [bindO_eq] at h ⊢
      obtain ⟨q1, hq, h⟩ := h
      refine ⟨q1, ih _ _ _ hq, ?_⟩
      split at h
      · exact ih _ _ _ h
      · rename_i e hx
        cases he : q1.1 with
        | norm => exact absurd he hx
        | exit i => rw [he] at h; simpa using h
        | ret => rw [he] at h; simpa using h
    | cond x a b =>
      rw [evC] at h ⊢
      simp only [bindO_eq] at h ⊢
      obtain ⟨q1, hq, h⟩ := h
      refine ⟨q1, hq, ?_⟩
      cases q1
      · exact ih _ _ _ h
      · exact ih _ _ _ h
    | block id a =>
      rw [evC] at h ⊢
      simp only [bindO_eq] at h ⊢
      obtain ⟨q1, hq, h⟩ := h
      exact ⟨q1, ih _ _ _ hq, h⟩
    | loop keep a =>
      rw [evC] at h ⊢
      simp only [bindO_eq] at h ⊢
      obtain ⟨q1, hq, h⟩ := h
      refine ⟨q1, ih _ _ _ hq, ?_⟩
      split at h
      · exact ih _ _ _ h
      · rename_i e hx
        cases he : q1.1 with
        | norm => exact absurd he hx
        | exit i => rw [he] at h; simpa using h
        | ret => rw [he] at h; simpa using h
theorem evC_le {n m : Nat} (h : n ≤ m) {c : ACode} {st : St} {q : Ex × St} (hq : evC A X n c st = some q) : evC A X m c st = some q := by
  obtain ⟨k, rfl⟩ := Nat.exists_eq_add_of_le h
  induction k with
  | zero => exact hq
  | succ k ih => exact evC_succ A X _ _ _ _ (ih (Nat.le_add_right _ _))
theorem KLe.trans {a b c : Or} (h : KLe a b) (k : KLe b c) : KLe a c := ⟨fun f x r hr => k.call f x r (h.call f x r hr), fun f x y z r hr => k.icall f x y z r (h.icall f x y z r hr)⟩
theorem mkK_le' {n m : Nat} (h : n ≤ m) : KLe (mkK A X n) (mkK A X m) := by
  obtain ⟨k, rfl⟩ := Nat.exists_eq_add_of_le h
  induction k with
  | zero => exact ⟨fun _ _ _ h => h, fun _ _ _ _ _ h => h⟩
  | succ k ih => exact KLe.trans (ih (Nat.le_add_right _ _)) (mkK_le A X fun c st q => evC_succ A X _ c st q)

/-- The limit of answers that only grow. -/
noncomputable def lim {α : Type} (F : Nat → Option α) : Option α := by
  classical exact if h : ∃ n q, F n = some q then F (Classical.choose h) else none
theorem lim_eq {α : Type} {F : Nat → Option α} (hF : ∀ n m q, n ≤ m → F n = some q → F m = some q) {q : α} : lim F = some q ↔ ∃ n, F n = some q := by
  unfold lim
  split
  · rename_i h
    obtain ⟨q', hq'⟩ := Classical.choose_spec h
    constructor
    · intro he; exact ⟨_, he⟩
    · rintro ⟨n, hn⟩
      have h1 := hF _ _ _ (Nat.le_max_left n (Classical.choose h)) hn
      have h2 := hF _ _ _ (Nat.le_max_right n (Classical.choose h)) hq'
      rw [hq', ← h2, h1]
  · rename_i h
    constructor
    · intro he; cases he
    · rintro ⟨n, hn⟩; exact absurd ⟨n, q, hn⟩ h

noncomputable def RUN (c : ACode) (st : St) : Option (Ex × St) := lim fun n => evC A X n c st
noncomputable def KL : Or := ⟨fun f a => lim fun n => (mkK A X n).call f a, fun f a h nx => lim fun n => (mkK A X n).icall f a h nx⟩
theorem RUN_iff {c : ACode} {st : St} {q : Ex × St} : RUN A X c st = some q ↔ ∃ n, evC A X n c st = some q := lim_eq fun n m q h hq => evC_le A X h hq
theorem KL_call {f : Nat} {a r : List PV} : (KL A X).call f a = some r ↔ ∃ n, (mkK A X n).call f a = some r := lim_eq fun n m q h hq => (mkK_le' A X h).call _ _ _ hq
theorem KL_icall {f : Nat} {a : List AV} {h : Hp} {nx : Nat} {r : AV × Hp × Nat} : (KL A X).icall f a h nx = some r ↔ ∃ n, (mkK A X n).icall f a h nx = some r := lim_eq fun n m q h hq => (mkK_le' A X h).icall _ _ _ _ _ hq
theorem mkK_KL (n : Nat) : KLe (mkK A X n) (KL A X) := ⟨fun f a r h => (KL_call A X).2 ⟨n, h⟩, fun f a h nx r hr => (KL_icall A X).2 ⟨n, hr⟩⟩

theorem doCall_lim {draw : Bool} {f : Fr} {h : Hp} {nx g : Nat} {as : List (Nat × AO)} {re : Re} (hre : doCall (KL A X) draw f h nx g as = some re) : ∃ n, doCall (mkK A X n) draw f h nx g as = some re := by
  simp only [doCall, bindO_eq] at hre
  obtain ⟨a, ha, r, hr, hre⟩ := hre
  obtain ⟨n, hn⟩ := (KL_call A X).1 hr
  refine ⟨n, ?_⟩
  simp only [doCall, bindO_eq]
  exact ⟨a, ha, r, hn, hre⟩
theorem evOp_lim {draw : Bool} {f : Fr} {h : Hp} {nx : Nat} {op : AOp} {re : Re} (hre : evOp (KL A X) draw f h nx op = some re) : ∃ n, evOp (mkK A X n) draw f h nx op = some re := by
  cases op with
  | call g as => exact doCall_lim (draw := draw) A X hre
  | callv x as =>
    simp only [evOp, bindO_eq] at hre
    obtain ⟨g, hg, hre⟩ := hre
    obtain ⟨n, hn⟩ := doCall_lim (draw := draw) A X hre
    refine ⟨n, ?_⟩
    simp only [evOp, bindO_eq]
    exact ⟨g, hg, hn⟩
  | icall g as =>
    simp only [evOp, doICall, bindO_eq] at hre
    obtain ⟨q, hq, hre⟩ := hre
    obtain ⟨n, hn⟩ := (KL_icall A X).1 hq
    refine ⟨n, ?_⟩
    simp only [evOp, doICall, bindO_eq]
    exact ⟨q, hn, hre⟩
  | _ => exact ⟨0, hre⟩
theorem evStep_lim {draw : Bool} {o : AOper} {st : St} {re : Re} (hre : evStep (KL A X) draw o st = some re) : ∃ n, evStep (mkK A X n) draw o st = some re := by
  simp only [evStep] at hre ⊢
  split at hre
  · exact evOp_lim A X hre
  · simp only [bindO_eq] at hre ⊢
    obtain ⟨b, hb, hre⟩ := hre
    split at hre
    · rename_i hc
      obtain ⟨n, hn⟩ := evOp_lim A X hre
      exact ⟨n, b, hb, by rw [if_pos hc]; exact hn⟩
    · rename_i hc
      exact ⟨0, b, hb, by rw [if_neg hc]; exact hre⟩
theorem evOps_lim : ∀ {os : List AOper} {st st' : St}, evOps (KL A X) os st = some st' → ∃ n, evOps (mkK A X n) os st = some st'
  | [], st, st', h => ⟨0, h⟩
  | o :: os, st, st', h => by
    simp only [evOps, bindO_eq] at h
    obtain ⟨re, h1, h2⟩ := h
    obtain ⟨n, hn⟩ := evStep_lim A X h1
    obtain ⟨m, hm⟩ := evOps_lim h2
    refine ⟨max n m, ?_⟩
    simp only [evOps, bindO_eq]
    exact ⟨re, evStep_mono (mkK_le' A X (Nat.le_max_left n m)) hn, evOps_mono (mkK_le' A X (Nat.le_max_right n m)) hm⟩
theorem evOpsD_lim : ∀ {os : List AOper} {i : Nat} {prev : List Fp} {st st' : St}, evOpsD (KL A X) i prev os st = some st' → ∃ n, evOpsD (mkK A X n) i prev os st = some st'
  | [], i, prev, st, st', h => ⟨0, h⟩
  | o :: os, i, prev, st, st', h => by
    simp only [evOpsD, bindO_eq] at h
    obtain ⟨re, h1, h2⟩ := h
    unfold iteB at h2
    split at h2
    · rename_i hb
      obtain ⟨n, hn⟩ := evStep_lim A X h1
      obtain ⟨m, hm⟩ := evOpsD_lim h2
      refine ⟨max n m, ?_⟩
      simp only [evOpsD, bindO_eq]
      refine ⟨re, evStep_mono (mkK_le' A X (Nat.le_max_left n m)) hn, ?_⟩
      rw [hb]
      exact evOpsD_mono (mkK_le' A X (Nat.le_max_right n m)) hm
    · cases h2
end
end Go.Proofs.Ytpanbfainilmpaa.Ev
