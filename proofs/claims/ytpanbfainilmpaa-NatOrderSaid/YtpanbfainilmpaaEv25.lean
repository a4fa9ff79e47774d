/- The equations of the limits: one step of code, one operation at a time. -/
import Derived.Test.YtpanbfainilmpaaEv24
set_option linter.unusedVariables false
set_option linter.unusedSimpArgs false
namespace Go.Proofs.Ytpanbfainilmpaa.Ev

section
variable (A : Nat → Option AFunc) (X : Nat → Option (List PV → Option (List PV)))

theorem RUN_eqn {c : ACode} {st : St} {F : Option (Ex × St)} (h1 : ∀ n q, evC A X n c st = some q → F = some q) (h2 : ∀ q, F = some q → ∃ n, evC A X n c st = some q) : RUN A X c st = F := by
  apply Option.ext
  intro q
  rw [RUN_iff]
  exact ⟨fun ⟨n, h⟩ => h1 n q h, h2 q⟩
theorem evC_RUN {n : Nat} {c : ACode} {st : St} {q : Ex × St} (h : evC A X n c st = some q) : RUN A X c st = some q := (RUN_iff A X).2 ⟨n, h⟩

noncomputable def thenR (b : ACode) : Option (Ex × St) → Option (Ex × St)
  | some (.norm, st) => RUN A X b st
  | some (.exit i, st) => some (.exit i, st)
  | some (.ret, st) => some (.ret, st)
  | none => none
def blockR (id : Nat) : Option (Ex × St) → Option (Ex × St)
  | some (.norm, st) => some (.norm, st)
  | some (.exit i, st) => if i = id then some (.norm, st) else some (.exit i, st)
  | some (.ret, st) => some (.ret, st)
  | none => none
/-- A loop from its head on, where number n stood as it was entered. -/
noncomputable def loopR (keep : List Nat) (n : Nat) (a : ACode) : Option (Ex × St) → Option (Ex × St)
  | some (.norm, st) => RUN A X (.loop keep a) ⟨maskF st.f n keep, cutH n st.h, n⟩
  | some (.exit i, st) => some (.exit i, st)
  | some (.ret, st) => some (.ret, st)
  | none => none
def regR : Option St → Option (Ex × St)
  | some st => some (.norm, st)
  | none => none
noncomputable def condR (a b : ACode) (st : St) : Option Bool → Option (Ex × St)
  | some true => RUN A X a st
  | some false => RUN A X b st
  | none => none
def callR (res : List ARes) : Option (Ex × St) → Option (List PV)
  | some (.norm, st) => resAll st.f st.h res
  | some (.ret, st) => resAll st.f st.h res
  | _ => none

theorem RUN_skip (st : St) : RUN A X .skip st = some (.norm, st) := RUN_eqn A X (fun n q h => by cases n with | zero => simp [evC] at h | succ n => simpa [evC] using h) fun q h => ⟨1, by simpa [evC] using h⟩
theorem RUN_exit (id : Nat) (st : St) : RUN A X (.exit id) st = some (.exit id, st) := RUN_eqn A X (fun n q h => by cases n with | zero => simp [evC] at h | succ n => simpa [evC] using h) fun q h => ⟨1, by simpa [evC] using h⟩
theorem RUN_ret (st : St) : RUN A X .ret st = some (.ret, st) := RUN_eqn A X (fun n q h => by cases n with | zero => simp [evC] at h | succ n => simpa [evC] using h) fun q h => ⟨1, by simpa [evC] using h⟩

theorem thenR_some {b : ACode} {x : Option (Ex × St)} {q : Ex × St} : thenR A X b x = some q ↔ ∃ q1, x = some q1 ∧ (match q1.1 with | .norm => RUN A X b q1.2 | e => some (e, q1.2)) = some q := by
  cases x with
  | none => simp [thenR]
  | some p =>
    obtain ⟨e, st⟩ := p
    cases e <;> simp [thenR]
theorem RUN_seq (a b : ACode) (st : St) : RUN A X (.seq a b) st = thenR A X b (RUN A X a st) := by
  refine RUN_eqn A X (fun n q h => ?_) fun q h => ?_
  · cases n with
    | zero => simp [evC] at h
    | succ n =>
      rw [evC] at h
      simp only [bindO_eq] at h
      obtain ⟨q1, h1, h2⟩ := h
      rw [evC_RUN A X h1, thenR_some]
      refine ⟨q1, rfl, ?_⟩
      cases he : q1.1 with
      | norm => simp only [he] at h2 ⊢; exact evC_RUN A X h2
      | exit i => simp only [he] at h2 ⊢; exact h2
      | ret => simp only [he] at h2 ⊢; exact h2
  · rw [thenR_some] at h
    obtain ⟨q1, h1, h2⟩ := h
    obtain ⟨n, hn⟩ := (RUN_iff A X).1 h1
    cases he : q1.1 with
    | norm =>
      simp only [he] at h2
      obtain ⟨m, hm⟩ := (RUN_iff A X).1 h2
      refine ⟨max n m + 1, ?_⟩
      rw [evC]
      simp only [bindO_eq]
      refine ⟨q1, evC_le A X (Nat.le_max_left n m) hn, ?_⟩
      simp only [he]
      exact evC_le A X (Nat.le_max_right n m) hm
    | exit i =>
      simp only [he] at h2
      refine ⟨n + 1, ?_⟩
      rw [evC]
      simp only [bindO_eq]
      refine ⟨q1, hn, ?_⟩
      simp only [he]; exact h2
    | ret =>
      simp only [he] at h2
      refine ⟨n + 1, ?_⟩
      rw [evC]
      simp only [bindO_eq]
      refine ⟨q1, hn, ?_⟩
      simp only [he]; exact h2
theorem RUN_block (id : Nat) (a : ACode) (st : St) : RUN A X (.block id a) st = blockR id (RUN A X a st) := by
  have hb : ∀ {q1 q : Ex × St}, (match q1.1 with | .exit i => if i = id then some (Ex.norm, q1.2) else some (.exit i, q1.2) | e => some (e, q1.2)) = some q ↔ blockR id (some q1) = some q := by
    intro q1 q
    obtain ⟨e, s⟩ := q1
    cases e <;> simp [blockR]
  refine RUN_eqn A X (fun n q h => ?_) fun q h => ?_
  · cases n with
    | zero => simp [evC] at h
    | succ n =>
      rw [evC] at h
      simp only [bindO_eq] at h
      obtain ⟨q1, h1, h2⟩ := h
      rw [evC_RUN A X h1]
      exact hb.1 h2
  · cases hr : RUN A X a st with
    | none => rw [hr] at h; simp [blockR] at h
    | some q1 =>
      obtain ⟨n, hn⟩ := (RUN_iff A X).1 hr
      refine ⟨n + 1, ?_⟩
      rw [evC]
      simp only [bindO_eq]
      refine ⟨q1, hn, ?_⟩
      rw [hr] at h
      exact hb.2 h
theorem RUN_loop (keep : List Nat) (a : ACode) (st : St) : RUN A X (.loop keep a) st = loopR A X keep st.nx a (RUN A X a ⟨maskF st.f st.nx keep, cutH st.nx st.h, st.nx⟩) := by
  refine RUN_eqn A X (fun n q h => ?_) fun q h => ?_
  · cases n with
    | zero => simp [evC] at h
    | succ n =>
      rw [evC] at h
      simp only [bindO_eq, St.head] at h
      obtain ⟨q1, h1, h2⟩ := h
      rw [evC_RUN A X h1]
      obtain ⟨e, s⟩ := q1
      cases e with
      | norm => exact evC_RUN A X h2
      | exit i => exact h2
      | ret => exact h2
  · cases hr : RUN A X a ⟨maskF st.f st.nx keep, cutH st.nx st.h, st.nx⟩ with
    | none => rw [hr] at h; simp [loopR] at h
    | some q1 =>
      obtain ⟨n, hn⟩ := (RUN_iff A X).1 hr
      rw [hr] at h
      obtain ⟨e, s⟩ := q1
      cases e with
      | norm =>
        obtain ⟨m, hm⟩ := (RUN_iff A X).1 (show RUN A X (.loop keep a) ⟨maskF s.f st.nx keep, cutH st.nx s.h, st.nx⟩ = some q from h)
        refine ⟨max n m + 1, ?_⟩
        rw [evC]
        simp only [bindO_eq, St.head]
        exact ⟨_, evC_le A X (Nat.le_max_left n m) hn, evC_le A X (Nat.le_max_right n m) hm⟩
      | exit i =>
        refine ⟨n + 1, ?_⟩
        rw [evC]
        simp only [bindO_eq, St.head]
        exact ⟨_, hn, h⟩
      | ret =>
        refine ⟨n + 1, ?_⟩
        rw [evC]
        simp only [bindO_eq, St.head]
        exact ⟨_, hn, h⟩
theorem RUN_cond (x : AO) (a b : ACode) (st : St) : RUN A X (.cond x a b) st = condR A X a b st (asBool (x.ev st.f)) := by
  refine RUN_eqn A X (fun n q h => ?_) fun q h => ?_
  · cases n with
    | zero => simp [evC] at h
    | succ n =>
      rw [evC] at h
      simp only [bindO_eq] at h
      obtain ⟨q1, h1, h2⟩ := h
      rw [h1]
      cases q1 with
      | true => exact evC_RUN A X h2
      | false => exact evC_RUN A X h2
  · cases hr : asBool (x.ev st.f) with
    | none => rw [hr] at h; simp [condR] at h
    | some q1 =>
      rw [hr] at h
      cases q1 with
      | true =>
        obtain ⟨m, hm⟩ := (RUN_iff A X).1 (show RUN A X a st = some q from h)
        refine ⟨m + 1, ?_⟩
        rw [evC]
        simp only [bindO_eq]
        exact ⟨_, hr, hm⟩
      | false =>
        obtain ⟨m, hm⟩ := (RUN_iff A X).1 (show RUN A X b st = some q from h)
        refine ⟨m + 1, ?_⟩
        rw [evC]
        simp only [bindO_eq]
        exact ⟨_, hr, hm⟩
theorem regR_some' {x : Option St} {q : Ex × St} : regR x = some q ↔ ∃ st, x = some st ∧ some (Ex.norm, st) = some q := by
  cases x <;> simp [regR]
theorem RUN_reg (ops : List AOper) (st : St) : RUN A X (.reg false ops) st = regR (evOps (KL A X) ops st) := by
  refine RUN_eqn A X (fun n q h => ?_) fun q h => ?_
  · cases n with
    | zero => simp [evC] at h
    | succ n =>
      rw [evC_reg] at h
      simp only [bindO_eq] at h
      obtain ⟨st', h1, h2⟩ := h
      rw [regR_some']
      exact ⟨st', evOps_mono (mkK_KL A X n) h1, h2⟩
  · rw [regR_some'] at h
    obtain ⟨st', h1, h2⟩ := h
    obtain ⟨n, hn⟩ := evOps_lim A X h1
    refine ⟨n + 1, ?_⟩
    rw [evC_reg]
    simp only [bindO_eq]
    exact ⟨st', hn, h2⟩
theorem RUN_regD (ops : List AOper) (st : St) : RUN A X (.reg true ops) st = regR (evOpsD (KL A X) 0 [] ops st) := by
  refine RUN_eqn A X (fun n q h => ?_) fun q h => ?_
  · cases n with
    | zero => simp [evC] at h
    | succ n =>
      rw [evC_reg] at h
      simp only [bindO_eq] at h
      obtain ⟨st', h1, h2⟩ := h
      rw [regR_some']
      exact ⟨st', evOpsD_mono (mkK_KL A X n) h1, h2⟩
  · rw [regR_some'] at h
    obtain ⟨st', h1, h2⟩ := h
    obtain ⟨n, hn⟩ := evOpsD_lim A X h1
    refine ⟨n + 1, ?_⟩
    rw [evC_reg]
    simp only [bindO_eq]
    exact ⟨st', hn, h2⟩

theorem CALL_x {f : Nat} {e : List PV → Option (List PV)} (h : X f = some e) (args : List PV) : (KL A X).call f args = e args := by
  apply Option.ext
  intro q
  rw [KL_call]
  simp only [mkK, h]
  exact ⟨fun ⟨_, h⟩ => h, fun h => ⟨0, h⟩⟩
theorem CALL_def {f : Nat} {fn : AFunc} (hX : X f = none) (hA : A f = some fn) (args : List PV) (hn : args.length = fn.np) : (KL A X).call f args = callR fn.res (RUN A X fn.body ⟨initF 0 (args.map PV.toAV), [], 0⟩) := by
  have hc : ∀ {q1 : Ex × St} {r : List PV}, (match q1.1 with | .exit _ => none | _ => resAll q1.2.f q1.2.h fn.res) = some r ↔ callR fn.res (some q1) = some r := by
    intro q1 r
    obtain ⟨e, s⟩ := q1
    cases e <;> simp [callR]
  apply Option.ext
  intro r
  rw [KL_call]
  simp only [mkK, hX, hA, bindO_eq, Option.some.injEq, exists_eq_left', hn, if_true]
  constructor
  · rintro ⟨n, q1, h1, h2⟩
    rw [evC_RUN A X h1]
    exact hc.1 h2
  · intro h
    cases hr : RUN A X fn.body ⟨initF 0 (args.map PV.toAV), [], 0⟩ with
    | none => rw [hr] at h; simp [callR] at h
    | some q1 =>
      rw [hr] at h
      obtain ⟨n, hn⟩ := (RUN_iff A X).1 hr
      exact ⟨n, q1, hn, hc.2 h⟩
def icallR (res : List ARes) : Option (Ex × St) → Option (AV × Hp × Nat)
  | some (.norm, st) => bindO (resIn st.f st.h res) fun v => some (v, st.h, st.nx)
  | some (.ret, st) => bindO (resIn st.f st.h res) fun v => some (v, st.h, st.nx)
  | _ => none
theorem ICALL_def {f : Nat} {fn : AFunc} (hA : A f = some fn) (args : List AV) (h : Hp) (nx : Nat) (hn : args.length = fn.np) : (KL A X).icall f args h nx = icallR fn.res (RUN A X fn.body ⟨initF 0 args, h, nx⟩) := by
  have hc : ∀ {q1 : Ex × St} {r : AV × Hp × Nat}, (match q1.1 with | .exit _ => none | _ => bindO (resIn q1.2.f q1.2.h fn.res) fun v => some (v, q1.2.h, q1.2.nx)) = some r ↔ icallR fn.res (some q1) = some r := by
    intro q1 r
    obtain ⟨e, s⟩ := q1
    cases e <;> simp [icallR]
  apply Option.ext
  intro r
  rw [KL_icall]
  simp only [mkK, hA, bindO_eq (x := some fn), Option.some.injEq, exists_eq_left', hn, if_true]
  constructor
  · rintro ⟨n, hh⟩
    rw [bindO_eq] at hh
    obtain ⟨q1, h1, h2⟩ := hh
    rw [evC_RUN A X h1]
    exact hc.1 h2
  · intro h
    cases hr : RUN A X fn.body ⟨initF 0 args, ‹Hp›, nx⟩ with
    | none => rw [hr] at h; simp [icallR] at h
    | some q1 =>
      rw [hr] at h
      obtain ⟨n, hn⟩ := (RUN_iff A X).1 hr
      refine ⟨n, ?_⟩
      rw [bindO_eq]
      exact ⟨q1, hn, hc.2 h⟩
end
end Go.Proofs.Ytpanbfainilmpaa.Ev
