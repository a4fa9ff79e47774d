/- The functions' texts are the program's. -/
import Derived.Test.YtpanbfainilmpaaProg
import Derived.Test.YtpanbfainilmpaaEv23
import Derived.Test.YtpanbfainilmpaaEvN0
set_option linter.unusedVariables false
set_option linter.unusedSimpArgs false
set_option maxRecDepth 100000
namespace Go.Proofs.Ytpanbfainilmpaa.Ev.N
open Go.Proofs Go.Proofs.Ytpanbfainilmpaa.Ev
def NI : Nat → Bool := fun f => f == 117 || f == 118 || f == 121 || f == 126 || f == 127
def Ent (f : Nat) (a : AFunc) : Prop := ∃ fn, Try.prog.funcs[f]? = some fn ∧ a.bare = compF Try.prog NI fn ∧ a.body.cl = true ∧ okF Try.prog fn = true
theorem e10 : Ent 10 a10 := ⟨Try.f10, by kernel_rfl, by kernel_rfl, by kernel_rfl, by kernel_rfl⟩
theorem e13 : Ent 13 a13 := ⟨Try.f13, by kernel_rfl, by kernel_rfl, by kernel_rfl, by kernel_rfl⟩
theorem e15 : Ent 15 a15 := ⟨Try.f15, by kernel_rfl, by kernel_rfl, by kernel_rfl, by kernel_rfl⟩
theorem e16 : Ent 16 a16 := ⟨Try.f16, by kernel_rfl, by kernel_rfl, by kernel_rfl, by kernel_rfl⟩
theorem e17 : Ent 17 a17 := ⟨Try.f17, by kernel_rfl, by kernel_rfl, by kernel_rfl, by kernel_rfl⟩
theorem e18 : Ent 18 a18 := ⟨Try.f18, by kernel_rfl, by kernel_rfl, by kernel_rfl, by kernel_rfl⟩
theorem e19 : Ent 19 a19 := ⟨Try.f19, by kernel_rfl, by kernel_rfl, by kernel_rfl, by kernel_rfl⟩
theorem e22 : Ent 22 a22 := ⟨Try.f22, by kernel_rfl, by kernel_rfl, by kernel_rfl, by kernel_rfl⟩
theorem e23 : Ent 23 a23 := ⟨Try.f23, by kernel_rfl, by kernel_rfl, by kernel_rfl, by kernel_rfl⟩
theorem e24 : Ent 24 a24 := ⟨Try.f24, by kernel_rfl, by kernel_rfl, by kernel_rfl, by kernel_rfl⟩
theorem e25 : Ent 25 a25 := ⟨Try.f25, by kernel_rfl, by kernel_rfl, by kernel_rfl, by kernel_rfl⟩
theorem e26 : Ent 26 a26 := ⟨Try.f26, by kernel_rfl, by kernel_rfl, by kernel_rfl, by kernel_rfl⟩
theorem e27 : Ent 27 a27 := ⟨Try.f27, by kernel_rfl, by kernel_rfl, by kernel_rfl, by kernel_rfl⟩
theorem e28 : Ent 28 a28 := ⟨Try.f28, by kernel_rfl, by kernel_rfl, by kernel_rfl, by kernel_rfl⟩
theorem e29 : Ent 29 a29 := ⟨Try.f29, by kernel_rfl, by kernel_rfl, by kernel_rfl, by kernel_rfl⟩
theorem e52 : Ent 52 a52 := ⟨Try.f52, by kernel_rfl, by kernel_rfl, by kernel_rfl, by kernel_rfl⟩
theorem e53 : Ent 53 a53 := ⟨Try.f53, by kernel_rfl, by kernel_rfl, by kernel_rfl, by kernel_rfl⟩
theorem e54 : Ent 54 a54 := ⟨Try.f54, by kernel_rfl, by kernel_rfl, by kernel_rfl, by kernel_rfl⟩
theorem e55 : Ent 55 a55 := ⟨Try.f55, by kernel_rfl, by kernel_rfl, by kernel_rfl, by kernel_rfl⟩
theorem e56 : Ent 56 a56 := ⟨Try.f56, by kernel_rfl, by kernel_rfl, by kernel_rfl, by kernel_rfl⟩
theorem e57 : Ent 57 a57 := ⟨Try.f57, by kernel_rfl, by kernel_rfl, by kernel_rfl, by kernel_rfl⟩
theorem e58 : Ent 58 a58 := ⟨Try.f58, by kernel_rfl, by kernel_rfl, by kernel_rfl, by kernel_rfl⟩
theorem e59 : Ent 59 a59 := ⟨Try.f59, by kernel_rfl, by kernel_rfl, by kernel_rfl, by kernel_rfl⟩
theorem e60 : Ent 60 a60 := ⟨Try.f60, by kernel_rfl, by kernel_rfl, by kernel_rfl, by kernel_rfl⟩
theorem e61 : Ent 61 a61 := ⟨Try.f61, by kernel_rfl, by kernel_rfl, by kernel_rfl, by kernel_rfl⟩
theorem e62 : Ent 62 a62 := ⟨Try.f62, by kernel_rfl, by kernel_rfl, by kernel_rfl, by kernel_rfl⟩
theorem e64 : Ent 64 a64 := ⟨Try.f64, by kernel_rfl, by kernel_rfl, by kernel_rfl, by kernel_rfl⟩
theorem e65 : Ent 65 a65 := ⟨Try.f65, by kernel_rfl, by kernel_rfl, by kernel_rfl, by kernel_rfl⟩
theorem e68 : Ent 68 a68 := ⟨Try.f68, by kernel_rfl, by kernel_rfl, by kernel_rfl, by kernel_rfl⟩
theorem e69 : Ent 69 a69 := ⟨Try.f69, by kernel_rfl, by kernel_rfl, by kernel_rfl, by kernel_rfl⟩
theorem e70 : Ent 70 a70 := ⟨Try.f70, by kernel_rfl, by kernel_rfl, by kernel_rfl, by kernel_rfl⟩
theorem e71 : Ent 71 a71 := ⟨Try.f71, by kernel_rfl, by kernel_rfl, by kernel_rfl, by kernel_rfl⟩
theorem e72 : Ent 72 a72 := ⟨Try.f72, by kernel_rfl, by kernel_rfl, by kernel_rfl, by kernel_rfl⟩
theorem e73 : Ent 73 a73 := ⟨Try.f73, by kernel_rfl, by kernel_rfl, by kernel_rfl, by kernel_rfl⟩
theorem e74 : Ent 74 a74 := ⟨Try.f74, by kernel_rfl, by kernel_rfl, by kernel_rfl, by kernel_rfl⟩
theorem e82 : Ent 82 a82 := ⟨Try.f82, by kernel_rfl, by kernel_rfl, by kernel_rfl, by kernel_rfl⟩
theorem e83 : Ent 83 a83 := ⟨Try.f83, by kernel_rfl, by kernel_rfl, by kernel_rfl, by kernel_rfl⟩
theorem e84 : Ent 84 a84 := ⟨Try.f84, by kernel_rfl, by kernel_rfl, by kernel_rfl, by kernel_rfl⟩
theorem e85 : Ent 85 a85 := ⟨Try.f85, by kernel_rfl, by kernel_rfl, by kernel_rfl, by kernel_rfl⟩
theorem e86 : Ent 86 a86 := ⟨Try.f86, by kernel_rfl, by kernel_rfl, by kernel_rfl, by kernel_rfl⟩
theorem e87 : Ent 87 a87 := ⟨Try.f87, by kernel_rfl, by kernel_rfl, by kernel_rfl, by kernel_rfl⟩
theorem e88 : Ent 88 a88 := ⟨Try.f88, by kernel_rfl, by kernel_rfl, by kernel_rfl, by kernel_rfl⟩
theorem e89 : Ent 89 a89 := ⟨Try.f89, by kernel_rfl, by kernel_rfl, by kernel_rfl, by kernel_rfl⟩
theorem e90 : Ent 90 a90 := ⟨Try.f90, by kernel_rfl, by kernel_rfl, by kernel_rfl, by kernel_rfl⟩
theorem e94 : Ent 94 a94 := ⟨Try.f94, by kernel_rfl, by kernel_rfl, by kernel_rfl, by kernel_rfl⟩
theorem e95 : Ent 95 a95 := ⟨Try.f95, by kernel_rfl, by kernel_rfl, by kernel_rfl, by kernel_rfl⟩
theorem e96 : Ent 96 a96 := ⟨Try.f96, by kernel_rfl, by kernel_rfl, by kernel_rfl, by kernel_rfl⟩
theorem e97 : Ent 97 a97 := ⟨Try.f97, by kernel_rfl, by kernel_rfl, by kernel_rfl, by kernel_rfl⟩
theorem e98 : Ent 98 a98 := ⟨Try.f98, by kernel_rfl, by kernel_rfl, by kernel_rfl, by kernel_rfl⟩
theorem e99 : Ent 99 a99 := ⟨Try.f99, by kernel_rfl, by kernel_rfl, by kernel_rfl, by kernel_rfl⟩
theorem e101 : Ent 101 a101 := ⟨Try.f101, by kernel_rfl, by kernel_rfl, by kernel_rfl, by kernel_rfl⟩
theorem e104 : Ent 104 a104 := ⟨Try.f104, by kernel_rfl, by kernel_rfl, by kernel_rfl, by kernel_rfl⟩
theorem e115 : Ent 115 a115 := ⟨Try.f115, by kernel_rfl, by kernel_rfl, by kernel_rfl, by kernel_rfl⟩
theorem e116 : Ent 116 a116 := ⟨Try.f116, by kernel_rfl, by kernel_rfl, by kernel_rfl, by kernel_rfl⟩
theorem e117 : Ent 117 a117 := ⟨Try.f117, by kernel_rfl, by kernel_rfl, by kernel_rfl, by kernel_rfl⟩
theorem e118 : Ent 118 a118 := ⟨Try.f118, by kernel_rfl, by kernel_rfl, by kernel_rfl, by kernel_rfl⟩
theorem e119 : Ent 119 a119 := ⟨Try.f119, by kernel_rfl, by kernel_rfl, by kernel_rfl, by kernel_rfl⟩
theorem e120 : Ent 120 a120 := ⟨Try.f120, by kernel_rfl, by kernel_rfl, by kernel_rfl, by kernel_rfl⟩
theorem e121 : Ent 121 a121 := ⟨Try.f121, by kernel_rfl, by kernel_rfl, by kernel_rfl, by kernel_rfl⟩
theorem e123 : Ent 123 a123 := ⟨Try.f123, by kernel_rfl, by kernel_rfl, by kernel_rfl, by kernel_rfl⟩
theorem e126 : Ent 126 a126 := ⟨Try.f126, by kernel_rfl, by kernel_rfl, by kernel_rfl, by kernel_rfl⟩
theorem e127 : Ent 127 a127 := ⟨Try.f127, by kernel_rfl, by kernel_rfl, by kernel_rfl, by kernel_rfl⟩
theorem ents : ∀ f a, AA f = some a → Ent f a := by
  intro f fn' h
  unfold AA at h
  split at h
  · cases h; exact e10
  · cases h; exact e13
  · cases h; exact e15
  · cases h; exact e16
  · cases h; exact e17
  · cases h; exact e18
  · cases h; exact e19
  · cases h; exact e22
  · cases h; exact e23
  · cases h; exact e24
  · cases h; exact e25
  · cases h; exact e26
  · cases h; exact e27
  · cases h; exact e28
  · cases h; exact e29
  · cases h; exact e52
  · cases h; exact e53
  · cases h; exact e54
  · cases h; exact e55
  · cases h; exact e56
  · cases h; exact e57
  · cases h; exact e58
  · cases h; exact e59
  · cases h; exact e60
  · cases h; exact e61
  · cases h; exact e62
  · cases h; exact e64
  · cases h; exact e65
  · cases h; exact e68
  · cases h; exact e69
  · cases h; exact e70
  · cases h; exact e71
  · cases h; exact e72
  · cases h; exact e73
  · cases h; exact e74
  · cases h; exact e82
  · cases h; exact e83
  · cases h; exact e84
  · cases h; exact e85
  · cases h; exact e86
  · cases h; exact e87
  · cases h; exact e88
  · cases h; exact e89
  · cases h; exact e90
  · cases h; exact e94
  · cases h; exact e95
  · cases h; exact e96
  · cases h; exact e97
  · cases h; exact e98
  · cases h; exact e99
  · cases h; exact e101
  · cases h; exact e104
  · cases h; exact e115
  · cases h; exact e116
  · cases h; exact e117
  · cases h; exact e118
  · cases h; exact e119
  · cases h; exact e120
  · cases h; exact e121
  · cases h; exact e123
  · cases h; exact e126
  · cases h; exact e127
  · cases h
end Go.Proofs.Ytpanbfainilmpaa.Ev.N
