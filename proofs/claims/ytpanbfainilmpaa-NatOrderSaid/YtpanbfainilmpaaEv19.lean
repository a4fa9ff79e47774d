/- Code: numbers. -/
import Derived.Test.YtpanbfainilmpaaEv18
set_option linter.unusedVariables false
set_option linter.unusedSimpArgs false
namespace Go.Proofs.Ytpanbfainilmpaa.Ev

/-- Constants name nothing. -/
def ACode.cl : ACode → Bool
  | .reg _ ops => ops.all fun o => o.op.ks.all fun x => x.ids.isEmpty
  | .seq a b => a.cl && b.cl
  | .cond _ a b => a.cl && b.cl
  | .block _ a => a.cl
  | .loop _ a => a.cl
  | _ => true

section
variable (A : Nat → Option AFunc) (X : Nat → Option (List PV → Option (List PV)))
/-- What a region may call, with so much fuel. -/
def mkK (n : Nat) : Or where
  call := fun g args => match X g with
    | some e => e args
    | none => bindO (A g) fun fn => if args.length = fn.np then bindO (evC A X n fn.body ⟨initF 0 (args.map PV.toAV), [], 0⟩) fun q =>
        match q.1 with
        | .exit _ => none
        | _ => resAll q.2.f q.2.h fn.res
      else none
  icall := fun g args h nx => bindO (A g) fun fn => if args.length = fn.np then bindO (evC A X n fn.body ⟨initF 0 args, h, nx⟩) fun q =>
        match q.1 with
        | .exit _ => none
        | _ => bindO (resIn q.2.f q.2.h fn.res) fun v => some (v, q.2.h, q.2.nx)
      else none
theorem evC_reg (n : Nat) (draw : Bool) (ops : List AOper) (st : St) : evC A X (n + 1) (.reg draw ops) st = bindO (iteB draw (evOpsD (mkK A X n) 0 [] ops st) (evOps (mkK A X n) ops st)) fun st' => some (.norm, st') := by
  rw [evC]
  rfl
end

section
variable {A : Nat → Option AFunc} {X : Nat → Option (List PV → Option (List PV))}

theorem initF_get : ∀ (vs : List AV) (i s : Nat), (initF i vs).get s = if i ≤ s then (vs[s - i]?).getD .top else .top
  | [], i, s => by simp [initF, Fr.get]
  | v :: r, i, s => by
    simp only [initF, Fr.get, initF_get r]
    by_cases h : s = i
    · subst h; simp
    · rw [if_neg h]
      by_cases h2 : i ≤ s
      · rw [if_pos (by omega), if_pos h2]
        have : s - i = s - (i + 1) + 1 := by omega
        rw [this]; simp
      · rw [if_neg (by omega), if_neg h2]
theorem initF_wf {vs : List AV} {nx : Nat} (h : ∀ v ∈ vs, Lt v.ids nx) : WFr (initF 0 vs) nx := by
  intro s
  rw [initF_get]
  simp only [Nat.zero_le, if_true, Nat.sub_zero]
  cases hs : vs[s]? with
  | none => exact Lt.nil
  | some v => exact h v (List.mem_of_getElem? hs)

theorem old_c {n : Nat} (c : C) : Lt (c.old n).ids n := by
  cases c with
  | d x => exact Lt.nil
  | nil => exact Lt.nil
  | gr t es =>
    simp only [C.old]
    split
    · exact lt_single (by assumption)
    · exact Lt.nil
theorem old_v {n : Nat} (v : AV) (h : ∀ xs, v ≠ .tu xs ∨ True) : Lt (v.old n).ids n := by
  cases v with
  | c x =>
    cases x with
    | d x => exact Lt.nil
    | nil => exact Lt.nil
    | gr t es =>
      simp only [AV.old]
      split
      · exact lt_single (by assumption)
      · exact Lt.nil
  | ag cs =>
    refine cells_lt.2 fun c hc => ?_
    obtain ⟨x, _, rfl⟩ := List.mem_map.1 hc
    exact old_c x
  | tu xs => exact Lt.nil
  | ref id off len =>
    simp only [AV.old]
    split
    · exact lt_single (by assumption)
    · exact Lt.nil
  | ptr id off =>
    simp only [AV.old]
    split
    · exact lt_single (by assumption)
    · exact Lt.nil
  | fptr xs => exact Lt.nil
  | top => exact Lt.nil
theorem maskF_get (f : Fr) (n : Nat) : ∀ (keep : List Nat) (s : Nat), (maskF f n keep).get s = if s ∈ keep then (f.get s).old n else .top
  | [], s => by simp [maskF, Fr.get]
  | k :: r, s => by
    simp only [maskF, Fr.get, maskF_get f n r, List.mem_cons]
    by_cases h : s = k
    · subst h; simp
    · simp [h]
theorem head_wf (keep : List Nat) (n : Nat) (st : St) : WFr (st.head keep n).f n := by
  intro s
  show Lt ((maskF st.f n keep).get s).ids n
  rw [maskF_get]
  split
  · exact old_v _ fun _ => .inr trivial
  · exact Lt.nil
theorem old_l {n : Nat} (l : Loc) : Lt (l.old n).ids n := by
  cases l with
  | arr cells =>
    refine cells_lt.2 fun c hc => ?_
    obtain ⟨x, _, rfl⟩ := List.mem_map.1 hc
    exact old_c x
  | tok a b => exact Lt.nil
theorem cutH_wh (n : Nat) : ∀ (h : Hp), WH (cutH n h) n
  | [] => fun e he => by cases he
  | (i, l) :: r => by
    simp only [cutH]
    split
    · rename_i hi
      intro e he
      rcases List.mem_cons.1 he with rfl | he
      · exact ⟨hi, old_l l⟩
      · exact cutH_wh n r e he
    · exact cutH_wh n r
theorem head_wh (keep : List Nat) (n : Nat) (st : St) : WH (st.head keep n).h n := cutH_wh n st.h

theorem evOps_lt {K : Or} (hK : KWF K) : ∀ {ops : List AOper} {st st' : St}, (∀ o ∈ ops, ∀ c ∈ o.op.ks, c.ids = []) → evOps K ops st = some st' → WFr st.f st.nx → WH st.h st.nx → st.nx ≤ st'.nx ∧ WFr st'.f st'.nx ∧ WH st'.h st'.nx
  | [], st, st', _, h, h1, h2 => by simp only [evOps, Option.some.injEq] at h; subst h; exact ⟨Nat.le_refl _, h1, h2⟩
  | o :: os, st, st', hc, h, h1, h2 => by
    simp only [evOps, bindO_eq] at h
    obtain ⟨re, hre, h⟩ := h
    have hr := evStep_lt hK h1 h2 (hc o List.mem_cons_self) hre
    obtain ⟨q1, q2, q3⟩ := evOps_lt hK (fun o ho => hc o (List.mem_cons_of_mem _ ho)) h (put_wf h1 hr) (put_wh h2 hr)
    exact ⟨Nat.le_trans hr.1 q1, q2, q3⟩
theorem evOpsD_lt {K : Or} (hK : KWF K) : ∀ {ops : List AOper} {i : Nat} {prev : List Fp} {st st' : St}, (∀ o ∈ ops, ∀ c ∈ o.op.ks, c.ids = []) → evOpsD K i prev ops st = some st' → WFr st.f st.nx → WH st.h st.nx → st.nx ≤ st'.nx ∧ WFr st'.f st'.nx ∧ WH st'.h st'.nx
  | [], i, prev, st, st', _, h, h1, h2 => by simp only [evOpsD, Option.some.injEq] at h; subst h; exact ⟨Nat.le_refl _, h1, h2⟩
  | o :: os, i, prev, st, st', hc, h, h1, h2 => by
    simp only [evOpsD, bindO_eq] at h
    obtain ⟨re, hre, h⟩ := h
    have hr := evStep_lt hK h1 h2 (hc o List.mem_cons_self) hre
    unfold iteB at h
    split at h
    · obtain ⟨q1, q2, q3⟩ := evOpsD_lt hK (fun o ho => hc o (List.mem_cons_of_mem _ ho)) h (put_wf h1 hr) (put_wh h2 hr)
      exact ⟨Nat.le_trans hr.1 q1, q2, q3⟩
    · cases h

theorem cl_reg {ops : List AOper} {d : Bool} (h : (ACode.reg d ops).cl = true) : ∀ o ∈ ops, ∀ c ∈ o.op.ks, c.ids = [] := by
  simp only [ACode.cl, List.all_eq_true] at h
  intro o ho c hc
  have := h o ho c hc
  simpa using this

theorem resIn_lt {f : Fr} {h : Hp} {rs : List ARes} {v : AV} {n : Nat} (hr : resIn f h rs = some v) (hf : WFr f n) : Lt v.ids n := by
  unfold resIn at hr
  split at hr
  · cases hr; exact Lt.nil
  · cases hr; exact hf _
  · simp only [bindO_eq] at hr
    obtain ⟨b, hb, hr⟩ := hr
    split at hr
    · cases hr
      unfold outAV
      split
      · rename_i x; rw [PV.toAV_ids]; exact Lt.nil
      · exact Lt.nil
    · cases hr

mutual
theorem evC_lt (hA : ∀ f fn, A f = some fn → fn.body.cl = true) : ∀ (n : Nat) {c : ACode} {st : St} {q : Ex × St}, c.cl = true → evC A X n c st = some q → WFr st.f st.nx → WH st.h st.nx → st.nx ≤ q.2.nx ∧ WFr q.2.f q.2.nx ∧ WH q.2.h q.2.nx
  | 0, c, st, q, hc, h, h1, h2 => by rw [evC] at h; cases h
  | n + 1, c, st, q, hc, h, h1, h2 => by
    have ih := @evC_lt hA n
    cases c with
    | skip => rw [evC] at h; cases h; exact ⟨Nat.le_refl _, h1, h2⟩
    | exit id => rw [evC] at h; cases h; exact ⟨Nat.le_refl _, h1, h2⟩
    | ret => rw [evC] at h; cases h; exact ⟨Nat.le_refl _, h1, h2⟩
    | bad => rw [evC] at h; cases h
    | reg draw ops =>
      rw [evC_reg] at h
      simp only [bindO_eq] at h
      obtain ⟨st', h, he⟩ := h
      cases he
      unfold iteB at h
      split at h
      · exact evOpsD_lt (mkK_wf hA n) (cl_reg hc) h h1 h2
      · exact evOps_lt (mkK_wf hA n) (cl_reg hc) h h1 h2
    | seq a b =>
      simp only [ACode.cl, Bool.and_eq_true] at hc
      rw [evC] at h
      simp only [bindO_eq] at h
      obtain ⟨q1, hq, h⟩ := h
      obtain ⟨k1, k2, k3⟩ := ih hc.1 hq h1 h2
      split at h
      · obtain ⟨r1, r2, r3⟩ := ih hc.2 h k2 k3
        exact ⟨Nat.le_trans k1 r1, r2, r3⟩
      · cases h; exact ⟨k1, k2, k3⟩
    | cond x a b =>
      simp only [ACode.cl, Bool.and_eq_true] at hc
      rw [evC] at h
      simp only [bindO_eq] at h
      obtain ⟨q1, hq, h⟩ := h
      unfold iteB at h
      split at h
      · exact ih hc.1 h h1 h2
      · exact ih hc.2 h h1 h2
    | block id a =>
      rw [evC] at h
      simp only [bindO_eq] at h
      obtain ⟨q1, hq, h⟩ := h
      have := ih (c := a) hc hq h1 h2
      split at h
      · split at h <;> (cases h; exact this)
      · cases h; exact this
    | loop keep a =>
      rw [evC] at h
      simp only [bindO_eq] at h
      obtain ⟨q1, hq, h⟩ := h
      obtain ⟨k1, k2, k3⟩ := ih (c := a) hc hq (head_wf keep _ st) (head_wh keep _ st)
      split at h
      · exact ih (c := .loop keep a) (st := q1.2.head keep st.nx) hc h (head_wf keep _ q1.2) (head_wh keep _ q1.2)
      · cases h; exact ⟨k1, k2, k3⟩
theorem mkK_wf (hA : ∀ f fn, A f = some fn → fn.body.cl = true) (n : Nat) : KWF (mkK A X n) := by
  intro g vs h nx q hq hv hw
  simp only [mkK, bindO_eq] at hq
  obtain ⟨fn, hfn, hq⟩ := hq
  split at hq
  case isFalse => cases hq
  simp only [bindO_eq] at hq
  obtain ⟨r, hr, hq⟩ := hq
  obtain ⟨k1, k2, k3⟩ := evC_lt hA n (hA g fn hfn) hr (initF_wf hv) hw
  split at hq
  · cases hq
  · simp only [bindO_eq] at hq
    obtain ⟨v, hv, he⟩ := hq
    cases he
    exact ⟨k1, resIn_lt hv k2, k3⟩
end
end
end Go.Proofs.Ytpanbfainilmpaa.Ev
