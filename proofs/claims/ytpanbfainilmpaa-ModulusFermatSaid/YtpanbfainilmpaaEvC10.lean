/- Of a small prime each number's power of one less is one, unless it leaves nothing; no condition beyond the row's. -/
import Derived.Test.YtpanbfainilmpaaEvH5
set_option linter.unusedVariables false
set_option maxRecDepth 100000
namespace Go.Proofs.Ytpanbfainilmpaa.Ev.N.modulusFermat
open Go.Proofs Go.Proofs.Ytpanbfainilmpaa Go.Proofs.Ytpanbfainilmpaa.Ev Go.Proofs.Ytpanbfainilmpaa.Ev.N Go.ChangeShapes Go.WideShapes Go.ChangeAt Go.RowKit
theorem lifted (os : Os) (started : os.Started) (H : Type) (enc : TypeId × Value → H) :
    ReturnsInHanded {} Try.checked os 10 .any (Rows.modulusFermatSpec.pre6 enc Try.prog Try.f10 Rows.modulusFermatRow.domain false) (Rows.modulusFermatSpec.post enc Try.prog Try.f10 false true false false) := by
  refine returnsInHanded_of_change_sized (C := Try.checked) own started (by kernel_rfl) Try.func10
    (ChangeSpec.witness6 (enc := enc) (C := Try.checked) false ⟨#[], #[.slice none 0 0, .int .u8 0], []⟩ 8 (by kernel_rfl) (by kernel_rfl) (by kernel_rfl) (by kernel_rfl)) ?_
  intro W base args ds gs before hval0 hW hcnd hwt _
  have hval : ∀ (j : Nat) t v, Try.f10.params[j]? = some t → args[j]? = some v → Value.okWide Try.prog W .any base t v := hval0
  have hW' := hW
  obtain ⟨p, q, hA0, hV, rfl, hfz, hnd⟩ := hW
  have hA : DataW.TrodAll enc Try.prog W 0 (fun _ => true) true Try.f10.params.toList args.toList ds p := hA0
  have hAll := hA
  rw [Try.params10] at hA hval
  obtain ⟨v0, vs0, d0, ds0, p0, q0, hargs, rfl, rfl, h0, t0⟩ := trodAll_cons hA
  obtain ⟨v1, vs1, d1, ds1, p1, q1, rfl, rfl, rfl, h1, t1⟩ := trodAll_cons t0
  obtain ⟨rfl, rfl, rfl⟩ := trodAll_nil t1
  obtain rfl : args = #[v0, v1] := by cases args; simp_all
  obtain ⟨rfl, rfl⟩ := trodVars_none hV
  have hwt0 : (DataW.weightsEach Try.prog (Try.f10.params.toList ++ Rows.modulusFermatSpec.plain.varTypes Try.prog) ([d0, d1] ++ [])).all (· ≤ reachBytes) = true := hwt
  rw [Try.params10] at hwt0
  simp only [List.append_nil, List.cons_append, DataW.weightsEach, List.all_append, Bool.and_eq_true] at hwt0
  obtain ⟨w0, w1, _⟩ := hwt0
  obtain ⟨a0, b0, k0⟩ := r64.argS Try.underlying64 (hval 0 64 v0 rfl rfl) h0 w0
  obtain ⟨a1, b1, k1⟩ := r5.argI Try.underlying5 (hval 1 5 v1 rfl rfl) h1 w1
  obtain ⟨n, hn⟩ := (KL_call AA XX).1 (law10 a0 a1 k0 k1)
  refine (law_calls env (k := 10) (fa := a10) rfl hn (RelL.cons b0 (RelL.cons b1 RelL.nil))).mono fun e W' ⟨he, hb⟩ => ?_
  subst he
  have hlt : ∀ x ∈ (p0 ++ (p1 ++ [])), x.block < W.heap.size := fun x hx => hW'.lt x (by simpa using hx)
  refine ⟨_, rfl, post_of_below (pa := (p0 ++ (p1 ++ []))) (pv := []) hW' (fun _ _ _ => trodAll_cons_mk (shut_bool Try.underlying4 _) trodAll_mk0) (fun sp hsp => ?_) (fun _ _ => rfl) rfl hb (ok_one (by kernel_rfl) rfl (okWide_bool_mk Try.underlying4 _))⟩
  exact trodAll_stays laid (by rw [Try.params10]; exact fun t ht => size t (List.mem_of_elem_eq_true (by revert ht; revert t; decide))) hAll (fun x hx => sameAt_below hb (hlt x hx)) (fun x hx => hsp x (by simpa using hx))
theorem facts : joinedFacts Try.prog 10 Try.f10 Rows.modulusFermatSpec Rows.modulusFermatRow = true := by
  unfold joinedFacts
  refine (and_i (and_i (and_i (and_i (and_i (and_i (and_i (and_i (and_i (and_i (and_i (and_i (and_i (and_i (and_i (and_i (and_i (and_i (and_i (and_i (and_i (and_i (and_i (and_i (and_i (and_i (and_i (and_i (and_i (and_i (and_i ?_ fLaid) fMaps) ?_) ?_) ?_) ?_) ?_) ?_) ?_) ?_) ?_) ?_) ?_) ?_) ?_) ?_) ?_) ?_) ?_) ?_) ?_) fPlain) ?_) fHeard) fEnter) fLifts) fMake) ?_) ?_) ?_) ?_) <;> (as_aux_lemma => kernel_rfl)
theorem over : Rows.modulusFermatRow.holds Try.pinned (OpenSpec.ofChange Rows.modulusFermatSpec) :=
  OpenClaim.holds_of_wide 10 Try.f10 rfl rfl rfl rfl rfl rfl rfl ⟨rfl, rfl, rfl, rfl, rfl⟩ rfl rfl rfl rfl rfl (by kernel_rfl) Try.func10 facts
    (of_decide_eq_true (by kernel_rfl)) (by unfold Func.isWrapper; first | (rw [if_pos (by decide +kernel)]; kernel_rfl) | (rw [if_neg (by decide +kernel)]; exact ⟨rfl, rfl⟩))
    (fun os started H enc _ => lifted os started H enc)
end Go.Proofs.Ytpanbfainilmpaa.Ev.N.modulusFermat
namespace Go.Proofs.Ytpanbfainilmpaa
theorem modulusFermat_holds : Rows.ModulusFermatSaid := Go.Proofs.Ytpanbfainilmpaa.Ev.N.modulusFermat.over
#print axioms modulusFermat_holds
end Go.Proofs.Ytpanbfainilmpaa
