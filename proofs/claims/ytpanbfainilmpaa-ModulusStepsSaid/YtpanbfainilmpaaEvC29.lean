/- One power more is a product with the number; the power nought is what one leaves; numbers that leave the same have the same powers; no condition beyond the row's. -/
import Derived.Test.YtpanbfainilmpaaEvH5
set_option linter.unusedVariables false
set_option maxRecDepth 100000
namespace Go.Proofs.Ytpanbfainilmpaa.Ev.N.modulusSteps
open Go.Proofs Go.Proofs.Ytpanbfainilmpaa Go.Proofs.Ytpanbfainilmpaa.Ev Go.Proofs.Ytpanbfainilmpaa.Ev.N Go.ChangeShapes Go.WideShapes Go.ChangeAt Go.RowKit
theorem lifted (os : Os) (started : os.Started) (H : Type) (enc : TypeId × Value → H) :
    ReturnsInHanded {} Try.checked os 29 .any (Rows.modulusStepsSpec.pre6 enc Try.prog Try.f29 Rows.modulusStepsRow.domain false) (Rows.modulusStepsSpec.post enc Try.prog Try.f29 false true false false) := by
  refine returnsInHanded_of_change_sized (C := Try.checked) own started (by kernel_rfl) Try.func29
    (ChangeSpec.witness6 (enc := enc) (C := Try.checked) false ⟨#[], #[.slice none 0 0, .slice none 0 0, .slice none 0 0], []⟩ 8 (by kernel_rfl) (by kernel_rfl) (by kernel_rfl) (by kernel_rfl)) ?_
  intro W base args ds gs before hval0 hW hcnd hwt _
  have hval : ∀ (j : Nat) t v, Try.f29.params[j]? = some t → args[j]? = some v → Value.okWide Try.prog W .any base t v := hval0
  have hW' := hW
  obtain ⟨p, q, hA0, hV, rfl, hfz, hnd⟩ := hW
  have hA : DataW.TrodAll enc Try.prog W 0 (fun _ => true) true Try.f29.params.toList args.toList ds p := hA0
  have hAll := hA
  rw [Try.params29] at hA hval
  obtain ⟨v0, vs0, d0, ds0, p0, q0, hargs, rfl, rfl, h0, t0⟩ := trodAll_cons hA
  obtain ⟨v1, vs1, d1, ds1, p1, q1, rfl, rfl, rfl, h1, t1⟩ := trodAll_cons t0
  obtain ⟨v2, vs2, d2, ds2, p2, q2, rfl, rfl, rfl, h2, t2⟩ := trodAll_cons t1
  obtain ⟨rfl, rfl, rfl⟩ := trodAll_nil t2
  obtain rfl : args = #[v0, v1, v2] := by cases args; simp_all
  obtain ⟨rfl, rfl⟩ := trodVars_none hV
  have hwt0 : (DataW.weightsEach Try.prog (Try.f29.params.toList ++ Rows.modulusStepsSpec.plain.varTypes Try.prog) ([d0, d1, d2] ++ [])).all (· ≤ reachBytes) = true := hwt
  rw [Try.params29] at hwt0
  simp only [List.append_nil, List.cons_append, DataW.weightsEach, List.all_append, Bool.and_eq_true] at hwt0
  obtain ⟨w0, w1, w2, _⟩ := hwt0
  obtain ⟨a0, b0, k0⟩ := r64.argS Try.underlying64 (hval 0 64 v0 rfl rfl) h0 w0
  obtain ⟨a1, b1, k1⟩ := r64.argS Try.underlying64 (hval 1 64 v1 rfl rfl) h1 w1
  obtain ⟨a2, b2, k2⟩ := r64.argS Try.underlying64 (hval 2 64 v2 rfl rfl) h2 w2
  obtain ⟨n, hn⟩ := (KL_call AA XX).1 (law29 a0 a1 a2 k0 k1 k2)
  refine (law_calls env (k := 29) (fa := a29) rfl hn (RelL.cons b0 (RelL.cons b1 (RelL.cons b2 RelL.nil)))).mono fun e W' ⟨he, hb⟩ => ?_
  subst he
  have hlt : ∀ x ∈ (p0 ++ (p1 ++ (p2 ++ []))), x.block < W.heap.size := fun x hx => hW'.lt x (by simpa using hx)
  refine ⟨_, rfl, post_of_below (pa := (p0 ++ (p1 ++ (p2 ++ [])))) (pv := []) hW' (fun _ _ _ => trodAll_cons_mk (shut_bool Try.underlying4 _) trodAll_mk0) (fun sp hsp => ?_) (fun _ _ => rfl) rfl hb (ok_one (by kernel_rfl) rfl (okWide_bool_mk Try.underlying4 _))⟩
  exact trodAll_stays laid (by rw [Try.params29]; exact fun t ht => size t (List.mem_of_elem_eq_true (by revert ht; revert t; decide))) hAll (fun x hx => sameAt_below hb (hlt x hx)) (fun x hx => hsp x (by simpa using hx))
theorem facts : joinedFacts Try.prog 29 Try.f29 Rows.modulusStepsSpec Rows.modulusStepsRow = true := by
  unfold joinedFacts
  refine (and_i (and_i (and_i (and_i (and_i (and_i (and_i (and_i (and_i (and_i (and_i (and_i (and_i (and_i (and_i (and_i (and_i (and_i (and_i (and_i (and_i (and_i (and_i (and_i (and_i (and_i (and_i (and_i (and_i (and_i (and_i ?_ fLaid) fMaps) ?_) ?_) ?_) ?_) ?_) ?_) ?_) ?_) ?_) ?_) ?_) ?_) ?_) ?_) ?_) ?_) ?_) ?_) ?_) fPlain) ?_) fHeard) fEnter) fLifts) fMake) ?_) ?_) ?_) ?_) <;> (as_aux_lemma => kernel_rfl)
theorem over : Rows.modulusStepsRow.holds Try.pinned (OpenSpec.ofChange Rows.modulusStepsSpec) :=
  OpenClaim.holds_of_wide 29 Try.f29 rfl rfl rfl rfl rfl rfl rfl ⟨rfl, rfl, rfl, rfl, rfl⟩ rfl rfl rfl rfl rfl (by kernel_rfl) Try.func29 facts
    (of_decide_eq_true (by kernel_rfl)) (by unfold Func.isWrapper; first | (rw [if_pos (by decide +kernel)]; kernel_rfl) | (rw [if_neg (by decide +kernel)]; exact ⟨rfl, rfl⟩))
    (fun os started H enc _ => lifted os started H enc)
end Go.Proofs.Ytpanbfainilmpaa.Ev.N.modulusSteps
namespace Go.Proofs.Ytpanbfainilmpaa
theorem modulusSteps_holds : Rows.ModulusStepsSaid := Go.Proofs.Ytpanbfainilmpaa.Ev.N.modulusSteps.over
#print axioms modulusSteps_holds
end Go.Proofs.Ytpanbfainilmpaa
