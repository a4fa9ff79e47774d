/- The functions' texts are the program's. -/
import Derived.Test.YtpanbfainilmpaaProg
import Derived.Test.YtpanbfainilmpaaEv23
import Derived.Test.YtpanbfainilmpaaEvS0
set_option linter.unusedVariables false
set_option linter.unusedSimpArgs false
set_option maxRecDepth 100000
namespace Go.Proofs.Ytpanbfainilmpaa.Ev.S
open Go.Proofs Go.Proofs.Ytpanbfainilmpaa.Ev
def NI : Nat → Bool := fun _ => false
def Ent (f : Nat) (a : AFunc) : Prop := ∃ fn, Try.prog.funcs[f]? = some fn ∧ a.bare = compF Try.prog NI fn ∧ a.body.cl = true ∧ okF Try.prog fn = true
theorem e3 : Ent 3 a3 := ⟨Try.f3, by kernel_rfl, by kernel_rfl, by kernel_rfl, by kernel_rfl⟩
theorem e4 : Ent 4 a4 := ⟨Try.f4, by kernel_rfl, by kernel_rfl, by kernel_rfl, by kernel_rfl⟩
theorem e5 : Ent 5 a5 := ⟨Try.f5, by kernel_rfl, by kernel_rfl, by kernel_rfl, by kernel_rfl⟩
theorem e6 : Ent 6 a6 := ⟨Try.f6, by kernel_rfl, by kernel_rfl, by kernel_rfl, by kernel_rfl⟩
theorem e7 : Ent 7 a7 := ⟨Try.f7, by kernel_rfl, by kernel_rfl, by kernel_rfl, by kernel_rfl⟩
theorem e8 : Ent 8 a8 := ⟨Try.f8, by kernel_rfl, by kernel_rfl, by kernel_rfl, by kernel_rfl⟩
theorem e9 : Ent 9 a9 := ⟨Try.f9, by kernel_rfl, by kernel_rfl, by kernel_rfl, by kernel_rfl⟩
theorem e11 : Ent 11 a11 := ⟨Try.f11, by kernel_rfl, by kernel_rfl, by kernel_rfl, by kernel_rfl⟩
theorem e12 : Ent 12 a12 := ⟨Try.f12, by kernel_rfl, by kernel_rfl, by kernel_rfl, by kernel_rfl⟩
theorem e14 : Ent 14 a14 := ⟨Try.f14, by kernel_rfl, by kernel_rfl, by kernel_rfl, by kernel_rfl⟩
theorem e20 : Ent 20 a20 := ⟨Try.f20, by kernel_rfl, by kernel_rfl, by kernel_rfl, by kernel_rfl⟩
theorem e21 : Ent 21 a21 := ⟨Try.f21, by kernel_rfl, by kernel_rfl, by kernel_rfl, by kernel_rfl⟩
theorem e30 : Ent 30 a30 := ⟨Try.f30, by kernel_rfl, by kernel_rfl, by kernel_rfl, by kernel_rfl⟩
theorem e31 : Ent 31 a31 := ⟨Try.f31, by kernel_rfl, by kernel_rfl, by kernel_rfl, by kernel_rfl⟩
theorem e32 : Ent 32 a32 := ⟨Try.f32, by kernel_rfl, by kernel_rfl, by kernel_rfl, by kernel_rfl⟩
theorem e33 : Ent 33 a33 := ⟨Try.f33, by kernel_rfl, by kernel_rfl, by kernel_rfl, by kernel_rfl⟩
theorem e34 : Ent 34 a34 := ⟨Try.f34, by kernel_rfl, by kernel_rfl, by kernel_rfl, by kernel_rfl⟩
theorem e35 : Ent 35 a35 := ⟨Try.f35, by kernel_rfl, by kernel_rfl, by kernel_rfl, by kernel_rfl⟩
theorem e36 : Ent 36 a36 := ⟨Try.f36, by kernel_rfl, by kernel_rfl, by kernel_rfl, by kernel_rfl⟩
theorem e37 : Ent 37 a37 := ⟨Try.f37, by kernel_rfl, by kernel_rfl, by kernel_rfl, by kernel_rfl⟩
theorem e38 : Ent 38 a38 := ⟨Try.f38, by kernel_rfl, by kernel_rfl, by kernel_rfl, by kernel_rfl⟩
theorem e39 : Ent 39 a39 := ⟨Try.f39, by kernel_rfl, by kernel_rfl, by kernel_rfl, by kernel_rfl⟩
theorem e40 : Ent 40 a40 := ⟨Try.f40, by kernel_rfl, by kernel_rfl, by kernel_rfl, by kernel_rfl⟩
theorem e41 : Ent 41 a41 := ⟨Try.f41, by kernel_rfl, by kernel_rfl, by kernel_rfl, by kernel_rfl⟩
theorem e42 : Ent 42 a42 := ⟨Try.f42, by kernel_rfl, by kernel_rfl, by kernel_rfl, by kernel_rfl⟩
theorem e43 : Ent 43 a43 := ⟨Try.f43, by kernel_rfl, by kernel_rfl, by kernel_rfl, by kernel_rfl⟩
theorem e44 : Ent 44 a44 := ⟨Try.f44, by kernel_rfl, by kernel_rfl, by kernel_rfl, by kernel_rfl⟩
theorem e45 : Ent 45 a45 := ⟨Try.f45, by kernel_rfl, by kernel_rfl, by kernel_rfl, by kernel_rfl⟩
theorem e46 : Ent 46 a46 := ⟨Try.f46, by kernel_rfl, by kernel_rfl, by kernel_rfl, by kernel_rfl⟩
theorem e47 : Ent 47 a47 := ⟨Try.f47, by kernel_rfl, by kernel_rfl, by kernel_rfl, by kernel_rfl⟩
theorem e48 : Ent 48 a48 := ⟨Try.f48, by kernel_rfl, by kernel_rfl, by kernel_rfl, by kernel_rfl⟩
theorem e49 : Ent 49 a49 := ⟨Try.f49, by kernel_rfl, by kernel_rfl, by kernel_rfl, by kernel_rfl⟩
theorem e50 : Ent 50 a50 := ⟨Try.f50, by kernel_rfl, by kernel_rfl, by kernel_rfl, by kernel_rfl⟩
theorem e51 : Ent 51 a51 := ⟨Try.f51, by kernel_rfl, by kernel_rfl, by kernel_rfl, by kernel_rfl⟩
theorem e75 : Ent 75 a75 := ⟨Try.f75, by kernel_rfl, by kernel_rfl, by kernel_rfl, by kernel_rfl⟩
theorem e76 : Ent 76 a76 := ⟨Try.f76, by kernel_rfl, by kernel_rfl, by kernel_rfl, by kernel_rfl⟩
theorem e77 : Ent 77 a77 := ⟨Try.f77, by kernel_rfl, by kernel_rfl, by kernel_rfl, by kernel_rfl⟩
theorem e78 : Ent 78 a78 := ⟨Try.f78, by kernel_rfl, by kernel_rfl, by kernel_rfl, by kernel_rfl⟩
theorem e79 : Ent 79 a79 := ⟨Try.f79, by kernel_rfl, by kernel_rfl, by kernel_rfl, by kernel_rfl⟩
theorem e80 : Ent 80 a80 := ⟨Try.f80, by kernel_rfl, by kernel_rfl, by kernel_rfl, by kernel_rfl⟩
theorem e81 : Ent 81 a81 := ⟨Try.f81, by kernel_rfl, by kernel_rfl, by kernel_rfl, by kernel_rfl⟩
theorem e91 : Ent 91 a91 := ⟨Try.f91, by kernel_rfl, by kernel_rfl, by kernel_rfl, by kernel_rfl⟩
theorem e92 : Ent 92 a92 := ⟨Try.f92, by kernel_rfl, by kernel_rfl, by kernel_rfl, by kernel_rfl⟩
theorem e93 : Ent 93 a93 := ⟨Try.f93, by kernel_rfl, by kernel_rfl, by kernel_rfl, by kernel_rfl⟩
theorem e105 : Ent 105 a105 := ⟨Try.f105, by kernel_rfl, by kernel_rfl, by kernel_rfl, by kernel_rfl⟩
theorem e106 : Ent 106 a106 := ⟨Try.f106, by kernel_rfl, by kernel_rfl, by kernel_rfl, by kernel_rfl⟩
theorem e107 : Ent 107 a107 := ⟨Try.f107, by kernel_rfl, by kernel_rfl, by kernel_rfl, by kernel_rfl⟩
theorem e108 : Ent 108 a108 := ⟨Try.f108, by kernel_rfl, by kernel_rfl, by kernel_rfl, by kernel_rfl⟩
theorem e109 : Ent 109 a109 := ⟨Try.f109, by kernel_rfl, by kernel_rfl, by kernel_rfl, by kernel_rfl⟩
theorem e110 : Ent 110 a110 := ⟨Try.f110, by kernel_rfl, by kernel_rfl, by kernel_rfl, by kernel_rfl⟩
theorem e111 : Ent 111 a111 := ⟨Try.f111, by kernel_rfl, by kernel_rfl, by kernel_rfl, by kernel_rfl⟩
theorem e112 : Ent 112 a112 := ⟨Try.f112, by kernel_rfl, by kernel_rfl, by kernel_rfl, by kernel_rfl⟩
theorem e113 : Ent 113 a113 := ⟨Try.f113, by kernel_rfl, by kernel_rfl, by kernel_rfl, by kernel_rfl⟩
theorem e114 : Ent 114 a114 := ⟨Try.f114, by kernel_rfl, by kernel_rfl, by kernel_rfl, by kernel_rfl⟩
theorem e124 : Ent 124 a124 := ⟨Try.f124, by kernel_rfl, by kernel_rfl, by kernel_rfl, by kernel_rfl⟩
theorem e125 : Ent 125 a125 := ⟨Try.f125, by kernel_rfl, by kernel_rfl, by kernel_rfl, by kernel_rfl⟩
theorem env : Env Try.prog NI AA XX := by
  refine ⟨by kernel_rfl, fun f fn' h => ?_, fun f e h => by cases h⟩
  unfold AA at h
  split at h
  · cases h; exact e3
  · cases h; exact e4
  · cases h; exact e5
  · cases h; exact e6
  · cases h; exact e7
  · cases h; exact e8
  · cases h; exact e9
  · cases h; exact e11
  · cases h; exact e12
  · cases h; exact e14
  · cases h; exact e20
  · cases h; exact e21
  · cases h; exact e30
  · cases h; exact e31
  · cases h; exact e32
  · cases h; exact e33
  · cases h; exact e34
  · cases h; exact e35
  · cases h; exact e36
  · cases h; exact e37
  · cases h; exact e38
  · cases h; exact e39
  · cases h; exact e40
  · cases h; exact e41
  · cases h; exact e42
  · cases h; exact e43
  · cases h; exact e44
  · cases h; exact e45
  · cases h; exact e46
  · cases h; exact e47
  · cases h; exact e48
  · cases h; exact e49
  · cases h; exact e50
  · cases h; exact e51
  · cases h; exact e75
  · cases h; exact e76
  · cases h; exact e77
  · cases h; exact e78
  · cases h; exact e79
  · cases h; exact e80
  · cases h; exact e81
  · cases h; exact e91
  · cases h; exact e92
  · cases h; exact e93
  · cases h; exact e105
  · cases h; exact e106
  · cases h; exact e107
  · cases h; exact e108
  · cases h; exact e109
  · cases h; exact e110
  · cases h; exact e111
  · cases h; exact e112
  · cases h; exact e113
  · cases h; exact e114
  · cases h; exact e124
  · cases h; exact e125
  · cases h
end Go.Proofs.Ytpanbfainilmpaa.Ev.S
