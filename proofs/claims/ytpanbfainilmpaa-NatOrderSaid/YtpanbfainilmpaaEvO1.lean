/- Their texts are the program's. -/
import Derived.Test.YtpanbfainilmpaaProg
import Derived.Test.YtpanbfainilmpaaEv23
import Derived.Test.YtpanbfainilmpaaEvO0
set_option linter.unusedVariables false
set_option linter.unusedSimpArgs false
set_option maxRecDepth 100000
namespace Go.Proofs.Ytpanbfainilmpaa.Ev.O
open Go.Proofs Go.Proofs.Ytpanbfainilmpaa.Ev
def NI : Nat → Bool := fun _ => false
def Ent (f : Nat) (a : AFunc) : Prop := ∃ fn, Try.prog.funcs[f]? = some fn ∧ a.bare = compF Try.prog NI fn ∧ a.body.cl = true ∧ okF Try.prog fn = true
theorem e68 : Ent 68 a68 := ⟨Try.f68, by kernel_rfl, by kernel_rfl, by kernel_rfl, by kernel_rfl⟩
theorem e104 : Ent 104 a104 := ⟨Try.f104, by kernel_rfl, by kernel_rfl, by kernel_rfl, by kernel_rfl⟩
theorem e123 : Ent 123 a123 := ⟨Try.f123, by kernel_rfl, by kernel_rfl, by kernel_rfl, by kernel_rfl⟩
theorem env : Env Try.prog NI AA XX := by
  refine ⟨by kernel_rfl, fun f fn' h => ?_, fun f e h => by cases h⟩
  unfold AA at h
  split at h
  · cases h; exact e68
  · cases h; exact e104
  · cases h; exact e123
  · cases h
end Go.Proofs.Ytpanbfainilmpaa.Ev.O
