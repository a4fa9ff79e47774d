/-
  No cell of these rows narrows 'for every input' (looked for: loops, veiled, ifaces, maps, wideKeys, modest, calm, conditions, laid).
  DERIVED. THE GIVEN ROWS OF THIS SEAT. 27 by the template 'for every input the law returns true; each argument reads behind the call as it read before'; 0 by the template 'total and deterministic' (their statements: YtpanbfainilmpaaTotals.lean).
  GIVEN WITH THE SEED: the statements are not yours to turn. If you find one false, say at which input.
  Laid BY PROGRAM, IN A SANDBOX (cutbox-rows.mjs): the forced cells as the released guide's own fill.sh prints them over the translation 47d49e9c99252f14… (all of the seat's roots in one cut). By AI agents, Wed Nov 11 2026. No macro, syntax, notation, axiom, sorry.
-/
import Derived.Test.YtpanbfainilmpaaChecked
import GoSem.Claim
import GoSem.ClaimJoined
import GoSem.ClaimMapViews
import Derived.JoinedTies
import Derived.KernelRfl
namespace Go.Proofs.Ytpanbfainilmpaa
/- THE CELL 'sum', in the pinned program and in every row, IS THE sha256 OF THE DUMP (.gsa) THAT YtpanbfainilmpaaProg.lean LOADS. Nothing in Lean hashes anything: it is a label: what it is worth is what the hold of that sum in a sandbox is worth. -/
noncomputable def Try.pinned : Pinned := { name := "ytpanbfainilmpaa", sum := "47d49e9c99252f1432e2956b9aebfa4faf5ee94919299901f4f6baf2e0c2c7c6", checked := Try.checked }
namespace Rows
def none {H : Type} : Left H := { results := [], args := [] }

/-- 'lodgelaw19.StreamAdds': WHATEVER THE INPUT: true; the input reads as it did. -/
def streamAddsSpec : ChangeSpec := { name := "streamAdds", fn := fun _ => fun
  | [d1, d2] => { results := [.lit (.bool true)], args := [d1, d2] }
  | _ => none }
def streamAddsRow : OpenClaim := { program := "ytpanbfainilmpaa", sum := "47d49e9c99252f1432e2956b9aebfa4faf5ee94919299901f4f6baf2e0c2c7c6", func := "lodge/lodgelaw19.StreamAdds", spec := "streamAdds", apart := false }
def StreamAddsSaid : Prop := streamAddsRow.holds Try.pinned (OpenSpec.ofChange streamAddsSpec)

/-- ITS FALSE NEIGHBOUR: 'it returns false'. Refute it at one input. -/
def streamAddsWrong : ChangeSpec := { name := "streamAdds", fn := fun _ => fun
  | [d1, d2] => { results := [.lit (.bool false)], args := [d1, d2] }
  | _ => none }
def StreamAddsWrongFalsely : Prop := streamAddsRow.holds Try.pinned (OpenSpec.ofChange streamAddsWrong)

/-- 'lodgelaw19.StreamHolds': WHATEVER THE INPUT: true; the input reads as it did. -/
def streamHoldsSpec : ChangeSpec := { name := "streamHolds", fn := fun _ => fun
  | [d1, d2] => { results := [.lit (.bool true)], args := [d1, d2] }
  | _ => none }
def streamHoldsRow : OpenClaim := { program := "ytpanbfainilmpaa", sum := "47d49e9c99252f1432e2956b9aebfa4faf5ee94919299901f4f6baf2e0c2c7c6", func := "lodge/lodgelaw19.StreamHolds", spec := "streamHolds", apart := false }
def StreamHoldsSaid : Prop := streamHoldsRow.holds Try.pinned (OpenSpec.ofChange streamHoldsSpec)

/-- ITS FALSE NEIGHBOUR: 'it returns false'. Refute it at one input. -/
def streamHoldsWrong : ChangeSpec := { name := "streamHolds", fn := fun _ => fun
  | [d1, d2] => { results := [.lit (.bool false)], args := [d1, d2] }
  | _ => none }
def StreamHoldsWrongFalsely : Prop := streamHoldsRow.holds Try.pinned (OpenSpec.ofChange streamHoldsWrong)

/-- 'lodgelaw19.StreamOrder': WHATEVER THE INPUT: true; the input reads as it did. -/
def streamOrderSpec : ChangeSpec := { name := "streamOrder", fn := fun _ => fun
  | [d] => { results := [.lit (.bool true)], args := [d] }
  | _ => none }
def streamOrderRow : OpenClaim := { program := "ytpanbfainilmpaa", sum := "47d49e9c99252f1432e2956b9aebfa4faf5ee94919299901f4f6baf2e0c2c7c6", func := "lodge/lodgelaw19.StreamOrder", spec := "streamOrder", apart := false }
def StreamOrderSaid : Prop := streamOrderRow.holds Try.pinned (OpenSpec.ofChange streamOrderSpec)

/-- ITS FALSE NEIGHBOUR: 'it returns false'. Refute it at one input. -/
def streamOrderWrong : ChangeSpec := { name := "streamOrder", fn := fun _ => fun
  | [d] => { results := [.lit (.bool false)], args := [d] }
  | _ => none }
def StreamOrderWrongFalsely : Prop := streamOrderRow.holds Try.pinned (OpenSpec.ofChange streamOrderWrong)

/-- 'lodgelaw19.StreamOnce': WHATEVER THE INPUT: true; the input reads as it did. -/
def streamOnceSpec : ChangeSpec := { name := "streamOnce", fn := fun _ => fun
  | [d1, d2] => { results := [.lit (.bool true)], args := [d1, d2] }
  | _ => none }
def streamOnceRow : OpenClaim := { program := "ytpanbfainilmpaa", sum := "47d49e9c99252f1432e2956b9aebfa4faf5ee94919299901f4f6baf2e0c2c7c6", func := "lodge/lodgelaw19.StreamOnce", spec := "streamOnce", apart := false }
def StreamOnceSaid : Prop := streamOnceRow.holds Try.pinned (OpenSpec.ofChange streamOnceSpec)

/-- ITS FALSE NEIGHBOUR: 'it returns false'. Refute it at one input. -/
def streamOnceWrong : ChangeSpec := { name := "streamOnce", fn := fun _ => fun
  | [d1, d2] => { results := [.lit (.bool false)], args := [d1, d2] }
  | _ => none }
def StreamOnceWrongFalsely : Prop := streamOnceRow.holds Try.pinned (OpenSpec.ofChange streamOnceWrong)

/-- 'lodgelaw19.StreamNext': WHATEVER THE INPUT: true; the input reads as it did. -/
def streamNextSpec : ChangeSpec := { name := "streamNext", fn := fun _ => fun
  | [d1, d2] => { results := [.lit (.bool true)], args := [d1, d2] }
  | _ => none }
def streamNextRow : OpenClaim := { program := "ytpanbfainilmpaa", sum := "47d49e9c99252f1432e2956b9aebfa4faf5ee94919299901f4f6baf2e0c2c7c6", func := "lodge/lodgelaw19.StreamNext", spec := "streamNext", apart := false }
def StreamNextSaid : Prop := streamNextRow.holds Try.pinned (OpenSpec.ofChange streamNextSpec)

/-- ITS FALSE NEIGHBOUR: 'it returns false'. Refute it at one input. -/
def streamNextWrong : ChangeSpec := { name := "streamNext", fn := fun _ => fun
  | [d1, d2] => { results := [.lit (.bool false)], args := [d1, d2] }
  | _ => none }
def StreamNextWrongFalsely : Prop := streamNextRow.holds Try.pinned (OpenSpec.ofChange streamNextWrong)

/-- 'lodgelaw20.FlushUnites': WHATEVER THE INPUT: true; the input reads as it did. -/
def flushUnitesSpec : ChangeSpec := { name := "flushUnites", fn := fun _ => fun
  | [d1, d2] => { results := [.lit (.bool true)], args := [d1, d2] }
  | _ => none }
def flushUnitesRow : OpenClaim := { program := "ytpanbfainilmpaa", sum := "47d49e9c99252f1432e2956b9aebfa4faf5ee94919299901f4f6baf2e0c2c7c6", func := "lodge/lodgelaw20.FlushUnites", spec := "flushUnites", apart := false }
def FlushUnitesSaid : Prop := flushUnitesRow.holds Try.pinned (OpenSpec.ofChange flushUnitesSpec)

/-- ITS FALSE NEIGHBOUR: 'it returns false'. Refute it at one input. -/
def flushUnitesWrong : ChangeSpec := { name := "flushUnites", fn := fun _ => fun
  | [d1, d2] => { results := [.lit (.bool false)], args := [d1, d2] }
  | _ => none }
def FlushUnitesWrongFalsely : Prop := flushUnitesRow.holds Try.pinned (OpenSpec.ofChange flushUnitesWrong)

/-- 'lodgelaw20.FlushLacks': WHATEVER THE INPUT: true; the input reads as it did. -/
def flushLacksSpec : ChangeSpec := { name := "flushLacks", fn := fun _ => fun
  | [d1, d2, d3] => { results := [.lit (.bool true)], args := [d1, d2, d3] }
  | _ => none }
def flushLacksRow : OpenClaim := { program := "ytpanbfainilmpaa", sum := "47d49e9c99252f1432e2956b9aebfa4faf5ee94919299901f4f6baf2e0c2c7c6", func := "lodge/lodgelaw20.FlushLacks", spec := "flushLacks", apart := false }
def FlushLacksSaid : Prop := flushLacksRow.holds Try.pinned (OpenSpec.ofChange flushLacksSpec)

/-- ITS FALSE NEIGHBOUR: 'it returns false'. Refute it at one input. -/
def flushLacksWrong : ChangeSpec := { name := "flushLacks", fn := fun _ => fun
  | [d1, d2, d3] => { results := [.lit (.bool false)], args := [d1, d2, d3] }
  | _ => none }
def FlushLacksWrongFalsely : Prop := flushLacksRow.holds Try.pinned (OpenSpec.ofChange flushLacksWrong)

/-- 'lodgelaw04.ModulusFermat': WHATEVER THE INPUT: true; the input reads as it did. -/
def modulusFermatSpec : ChangeSpec := { name := "modulusFermat", fn := fun _ => fun
  | [d1, d2] => { results := [.lit (.bool true)], args := [d1, d2] }
  | _ => none }
def modulusFermatRow : OpenClaim := { program := "ytpanbfainilmpaa", sum := "47d49e9c99252f1432e2956b9aebfa4faf5ee94919299901f4f6baf2e0c2c7c6", func := "lodge/lodgelaw04.ModulusFermat", spec := "modulusFermat", inPlace := ["math/bits.Add64", "math/bits.Sub64"], unfollowed := true, recurses := true, named := ["math/bits.divideError", "math/bits.overflowError"], apart := false }
def ModulusFermatSaid : Prop := modulusFermatRow.holds Try.pinned (OpenSpec.ofChange modulusFermatSpec)

/-- ITS FALSE NEIGHBOUR: 'it returns false'. Refute it at one input. -/
def modulusFermatWrong : ChangeSpec := { name := "modulusFermat", fn := fun _ => fun
  | [d1, d2] => { results := [.lit (.bool false)], args := [d1, d2] }
  | _ => none }
def ModulusFermatWrongFalsely : Prop := modulusFermatRow.holds Try.pinned (OpenSpec.ofChange modulusFermatWrong)

/-- 'lodgelaw20.FlushLevels': WHATEVER THE INPUT: true; the input reads as it did. -/
def flushLevelsSpec : ChangeSpec := { name := "flushLevels", fn := fun _ => fun
  | [d1, d2] => { results := [.lit (.bool true)], args := [d1, d2] }
  | _ => none }
def flushLevelsRow : OpenClaim := { program := "ytpanbfainilmpaa", sum := "47d49e9c99252f1432e2956b9aebfa4faf5ee94919299901f4f6baf2e0c2c7c6", func := "lodge/lodgelaw20.FlushLevels", spec := "flushLevels", apart := false }
def FlushLevelsSaid : Prop := flushLevelsRow.holds Try.pinned (OpenSpec.ofChange flushLevelsSpec)

/-- ITS FALSE NEIGHBOUR: 'it returns false'. Refute it at one input. -/
def flushLevelsWrong : ChangeSpec := { name := "flushLevels", fn := fun _ => fun
  | [d1, d2] => { results := [.lit (.bool false)], args := [d1, d2] }
  | _ => none }
def FlushLevelsWrongFalsely : Prop := flushLevelsRow.holds Try.pinned (OpenSpec.ofChange flushLevelsWrong)

/-- 'lodgelaw20.FlushOrder': WHATEVER THE INPUT: true; the input reads as it did. -/
def flushOrderSpec : ChangeSpec := { name := "flushOrder", fn := fun _ => fun
  | [d1, d2, d3] => { results := [.lit (.bool true)], args := [d1, d2, d3] }
  | _ => none }
def flushOrderRow : OpenClaim := { program := "ytpanbfainilmpaa", sum := "47d49e9c99252f1432e2956b9aebfa4faf5ee94919299901f4f6baf2e0c2c7c6", func := "lodge/lodgelaw20.FlushOrder", spec := "flushOrder", apart := false }
def FlushOrderSaid : Prop := flushOrderRow.holds Try.pinned (OpenSpec.ofChange flushOrderSpec)

/-- ITS FALSE NEIGHBOUR: 'it returns false'. Refute it at one input. -/
def flushOrderWrong : ChangeSpec := { name := "flushOrder", fn := fun _ => fun
  | [d1, d2, d3] => { results := [.lit (.bool false)], args := [d1, d2, d3] }
  | _ => none }
def FlushOrderWrongFalsely : Prop := flushOrderRow.holds Try.pinned (OpenSpec.ofChange flushOrderWrong)

/-- 'lodgelaw04.ModulusRings': WHATEVER THE INPUT: true; the input reads as it did. -/
def modulusRingsSpec : ChangeSpec := { name := "modulusRings", fn := fun _ => fun
  | [d1, d2, d3] => { results := [.lit (.bool true)], args := [d1, d2, d3] }
  | _ => none }
def modulusRingsRow : OpenClaim := { program := "ytpanbfainilmpaa", sum := "47d49e9c99252f1432e2956b9aebfa4faf5ee94919299901f4f6baf2e0c2c7c6", func := "lodge/lodgelaw04.ModulusRings", spec := "modulusRings", inPlace := ["math/bits.Add64", "math/bits.Sub64"], unfollowed := true, recurses := true, named := ["math/bits.divideError", "math/bits.overflowError"], apart := false }
def ModulusRingsSaid : Prop := modulusRingsRow.holds Try.pinned (OpenSpec.ofChange modulusRingsSpec)

/-- ITS FALSE NEIGHBOUR: 'it returns false'. Refute it at one input. -/
def modulusRingsWrong : ChangeSpec := { name := "modulusRings", fn := fun _ => fun
  | [d1, d2, d3] => { results := [.lit (.bool false)], args := [d1, d2, d3] }
  | _ => none }
def ModulusRingsWrongFalsely : Prop := modulusRingsRow.holds Try.pinned (OpenSpec.ofChange modulusRingsWrong)

/-- 'lodgelaw20.FlushAgain': WHATEVER THE INPUT: true; the input reads as it did. -/
def flushAgainSpec : ChangeSpec := { name := "flushAgain", fn := fun _ => fun
  | [d1, d2, d3] => { results := [.lit (.bool true)], args := [d1, d2, d3] }
  | _ => none }
def flushAgainRow : OpenClaim := { program := "ytpanbfainilmpaa", sum := "47d49e9c99252f1432e2956b9aebfa4faf5ee94919299901f4f6baf2e0c2c7c6", func := "lodge/lodgelaw20.FlushAgain", spec := "flushAgain", apart := false }
def FlushAgainSaid : Prop := flushAgainRow.holds Try.pinned (OpenSpec.ofChange flushAgainSpec)

/-- ITS FALSE NEIGHBOUR: 'it returns false'. Refute it at one input. -/
def flushAgainWrong : ChangeSpec := { name := "flushAgain", fn := fun _ => fun
  | [d1, d2, d3] => { results := [.lit (.bool false)], args := [d1, d2, d3] }
  | _ => none }
def FlushAgainWrongFalsely : Prop := flushAgainRow.holds Try.pinned (OpenSpec.ofChange flushAgainWrong)

/-- 'lodgelaw01.NatTells': WHATEVER THE INPUT: true; the input reads as it did. -/
def natTellsSpec : ChangeSpec := { name := "natTells", fn := fun _ => fun
  | [d1, d2] => { results := [.lit (.bool true)], args := [d1, d2] }
  | _ => none }
def natTellsRow : OpenClaim := { program := "ytpanbfainilmpaa", sum := "47d49e9c99252f1432e2956b9aebfa4faf5ee94919299901f4f6baf2e0c2c7c6", func := "lodge/lodgelaw01.NatTells", spec := "natTells", inPlace := ["math/bits.Add64", "math/bits.Sub64"], unfollowed := true, recurses := true, apart := false }
def NatTellsSaid : Prop := natTellsRow.holds Try.pinned (OpenSpec.ofChange natTellsSpec)

/-- ITS FALSE NEIGHBOUR: 'it returns false'. Refute it at one input. -/
def natTellsWrong : ChangeSpec := { name := "natTells", fn := fun _ => fun
  | [d1, d2] => { results := [.lit (.bool false)], args := [d1, d2] }
  | _ => none }
def NatTellsWrongFalsely : Prop := natTellsRow.holds Try.pinned (OpenSpec.ofChange natTellsWrong)

/-- 'lodgelaw01.NatBits': WHATEVER THE INPUT: true; the input reads as it did. -/
def natBitsSpec : ChangeSpec := { name := "natBits", fn := fun _ => fun
  | [d1, d2] => { results := [.lit (.bool true)], args := [d1, d2] }
  | _ => none }
def natBitsRow : OpenClaim := { program := "ytpanbfainilmpaa", sum := "47d49e9c99252f1432e2956b9aebfa4faf5ee94919299901f4f6baf2e0c2c7c6", func := "lodge/lodgelaw01.NatBits", spec := "natBits", inPlace := ["math/bits.Add64", "math/bits.Sub64"], unfollowed := true, recurses := true, apart := false }
def NatBitsSaid : Prop := natBitsRow.holds Try.pinned (OpenSpec.ofChange natBitsSpec)

/-- ITS FALSE NEIGHBOUR: 'it returns false'. Refute it at one input. -/
def natBitsWrong : ChangeSpec := { name := "natBits", fn := fun _ => fun
  | [d1, d2] => { results := [.lit (.bool false)], args := [d1, d2] }
  | _ => none }
def NatBitsWrongFalsely : Prop := natBitsRow.holds Try.pinned (OpenSpec.ofChange natBitsWrong)

/-- 'lodgelaw01.NatAdds': WHATEVER THE INPUT: true; the input reads as it did. -/
def natAddsSpec : ChangeSpec := { name := "natAdds", fn := fun _ => fun
  | [d1, d2, d3] => { results := [.lit (.bool true)], args := [d1, d2, d3] }
  | _ => none }
def natAddsRow : OpenClaim := { program := "ytpanbfainilmpaa", sum := "47d49e9c99252f1432e2956b9aebfa4faf5ee94919299901f4f6baf2e0c2c7c6", func := "lodge/lodgelaw01.NatAdds", spec := "natAdds", inPlace := ["math/bits.Add64", "math/bits.Sub64"], unfollowed := true, recurses := true, apart := false }
def NatAddsSaid : Prop := natAddsRow.holds Try.pinned (OpenSpec.ofChange natAddsSpec)

/-- ITS FALSE NEIGHBOUR: 'it returns false'. Refute it at one input. -/
def natAddsWrong : ChangeSpec := { name := "natAdds", fn := fun _ => fun
  | [d1, d2, d3] => { results := [.lit (.bool false)], args := [d1, d2, d3] }
  | _ => none }
def NatAddsWrongFalsely : Prop := natAddsRow.holds Try.pinned (OpenSpec.ofChange natAddsWrong)

/-- 'lodgelaw01.NatOrder': WHATEVER THE INPUT: true; the input reads as it did. -/
def natOrderSpec : ChangeSpec := { name := "natOrder", fn := fun _ => fun
  | [d1, d2] => { results := [.lit (.bool true)], args := [d1, d2] }
  | _ => none }
def natOrderRow : OpenClaim := { program := "ytpanbfainilmpaa", sum := "47d49e9c99252f1432e2956b9aebfa4faf5ee94919299901f4f6baf2e0c2c7c6", func := "lodge/lodgelaw01.NatOrder", spec := "natOrder", inPlace := ["math/bits.Add64", "math/bits.Sub64"], unfollowed := true, recurses := true, apart := false }
def NatOrderSaid : Prop := natOrderRow.holds Try.pinned (OpenSpec.ofChange natOrderSpec)

/-- ITS FALSE NEIGHBOUR: 'it returns false'. Refute it at one input. -/
def natOrderWrong : ChangeSpec := { name := "natOrder", fn := fun _ => fun
  | [d1, d2] => { results := [.lit (.bool false)], args := [d1, d2] }
  | _ => none }
def NatOrderWrongFalsely : Prop := natOrderRow.holds Try.pinned (OpenSpec.ofChange natOrderWrong)

/-- 'lodgelaw01.NatDoubles': WHATEVER THE INPUT: true; the input reads as it did. -/
def natDoublesSpec : ChangeSpec := { name := "natDoubles", fn := fun _ => fun
  | [d] => { results := [.lit (.bool true)], args := [d] }
  | _ => none }
def natDoublesRow : OpenClaim := { program := "ytpanbfainilmpaa", sum := "47d49e9c99252f1432e2956b9aebfa4faf5ee94919299901f4f6baf2e0c2c7c6", func := "lodge/lodgelaw01.NatDoubles", spec := "natDoubles", inPlace := ["math/bits.Add64", "math/bits.Sub64"], unfollowed := true, recurses := true, apart := false }
def NatDoublesSaid : Prop := natDoublesRow.holds Try.pinned (OpenSpec.ofChange natDoublesSpec)

/-- ITS FALSE NEIGHBOUR: 'it returns false'. Refute it at one input. -/
def natDoublesWrong : ChangeSpec := { name := "natDoubles", fn := fun _ => fun
  | [d] => { results := [.lit (.bool false)], args := [d] }
  | _ => none }
def NatDoublesWrongFalsely : Prop := natDoublesRow.holds Try.pinned (OpenSpec.ofChange natDoublesWrong)

/-- 'lodgelaw25.TraceParts': WHATEVER THE INPUT: true; the input reads as it did. -/
def tracePartsSpec : ChangeSpec := { name := "traceParts", fn := fun _ => fun
  | [d] => { results := [.lit (.bool true)], args := [d] }
  | _ => none }
def tracePartsRow : OpenClaim := { program := "ytpanbfainilmpaa", sum := "47d49e9c99252f1432e2956b9aebfa4faf5ee94919299901f4f6baf2e0c2c7c6", func := "lodge/lodgelaw25.TraceParts", spec := "traceParts", unfollowed := true, recurses := true, apart := false }
def TracePartsSaid : Prop := tracePartsRow.holds Try.pinned (OpenSpec.ofChange tracePartsSpec)

/-- ITS FALSE NEIGHBOUR: 'it returns false'. Refute it at one input. -/
def tracePartsWrong : ChangeSpec := { name := "traceParts", fn := fun _ => fun
  | [d] => { results := [.lit (.bool false)], args := [d] }
  | _ => none }
def TracePartsWrongFalsely : Prop := tracePartsRow.holds Try.pinned (OpenSpec.ofChange tracePartsWrong)

/-- 'lodgelaw25.TraceSecrets': WHATEVER THE INPUT: true; the input reads as it did. -/
def traceSecretsSpec : ChangeSpec := { name := "traceSecrets", fn := fun _ => fun
  | [d1, d2] => { results := [.lit (.bool true)], args := [d1, d2] }
  | _ => none }
def traceSecretsRow : OpenClaim := { program := "ytpanbfainilmpaa", sum := "47d49e9c99252f1432e2956b9aebfa4faf5ee94919299901f4f6baf2e0c2c7c6", func := "lodge/lodgelaw25.TraceSecrets", spec := "traceSecrets", unfollowed := true, recurses := true, apart := false }
def TraceSecretsSaid : Prop := traceSecretsRow.holds Try.pinned (OpenSpec.ofChange traceSecretsSpec)

/-- ITS FALSE NEIGHBOUR: 'it returns false'. Refute it at one input. -/
def traceSecretsWrong : ChangeSpec := { name := "traceSecrets", fn := fun _ => fun
  | [d1, d2] => { results := [.lit (.bool false)], args := [d1, d2] }
  | _ => none }
def TraceSecretsWrongFalsely : Prop := traceSecretsRow.holds Try.pinned (OpenSpec.ofChange traceSecretsWrong)

/-- 'lodgelaw02.LongTells': WHATEVER THE INPUT: true; the input reads as it did. -/
def longTellsSpec : ChangeSpec := { name := "longTells", fn := fun _ => fun
  | [d1, d2] => { results := [.lit (.bool true)], args := [d1, d2] }
  | _ => none }
def longTellsRow : OpenClaim := { program := "ytpanbfainilmpaa", sum := "47d49e9c99252f1432e2956b9aebfa4faf5ee94919299901f4f6baf2e0c2c7c6", func := "lodge/lodgelaw02.LongTells", spec := "longTells", inPlace := ["math/bits.Add64", "math/bits.Sub64"], unfollowed := true, recurses := true, named := ["math/bits.divideError", "math/bits.overflowError"], apart := false }
def LongTellsSaid : Prop := longTellsRow.holds Try.pinned (OpenSpec.ofChange longTellsSpec)

/-- ITS FALSE NEIGHBOUR: 'it returns false'. Refute it at one input. -/
def longTellsWrong : ChangeSpec := { name := "longTells", fn := fun _ => fun
  | [d1, d2] => { results := [.lit (.bool false)], args := [d1, d2] }
  | _ => none }
def LongTellsWrongFalsely : Prop := longTellsRow.holds Try.pinned (OpenSpec.ofChange longTellsWrong)

/-- 'lodgelaw02.LongEuclid': WHATEVER THE INPUT: true; the input reads as it did. -/
def longEuclidSpec : ChangeSpec := { name := "longEuclid", fn := fun _ => fun
  | [d1, d2] => { results := [.lit (.bool true)], args := [d1, d2] }
  | _ => none }
def longEuclidRow : OpenClaim := { program := "ytpanbfainilmpaa", sum := "47d49e9c99252f1432e2956b9aebfa4faf5ee94919299901f4f6baf2e0c2c7c6", func := "lodge/lodgelaw02.LongEuclid", spec := "longEuclid", inPlace := ["math/bits.Add64", "math/bits.Sub64"], unfollowed := true, recurses := true, named := ["math/bits.divideError", "math/bits.overflowError"], apart := false }
def LongEuclidSaid : Prop := longEuclidRow.holds Try.pinned (OpenSpec.ofChange longEuclidSpec)

/-- ITS FALSE NEIGHBOUR: 'it returns false'. Refute it at one input. -/
def longEuclidWrong : ChangeSpec := { name := "longEuclid", fn := fun _ => fun
  | [d1, d2] => { results := [.lit (.bool false)], args := [d1, d2] }
  | _ => none }
def LongEuclidWrongFalsely : Prop := longEuclidRow.holds Try.pinned (OpenSpec.ofChange longEuclidWrong)

/-- 'lodgelaw02.LongBack': WHATEVER THE INPUT: true; the input reads as it did. -/
def longBackSpec : ChangeSpec := { name := "longBack", fn := fun _ => fun
  | [d1, d2, d3] => { results := [.lit (.bool true)], args := [d1, d2, d3] }
  | _ => none }
def longBackRow : OpenClaim := { program := "ytpanbfainilmpaa", sum := "47d49e9c99252f1432e2956b9aebfa4faf5ee94919299901f4f6baf2e0c2c7c6", func := "lodge/lodgelaw02.LongBack", spec := "longBack", inPlace := ["math/bits.Add64", "math/bits.Sub64"], unfollowed := true, recurses := true, named := ["math/bits.divideError", "math/bits.overflowError"], apart := false }
def LongBackSaid : Prop := longBackRow.holds Try.pinned (OpenSpec.ofChange longBackSpec)

/-- ITS FALSE NEIGHBOUR: 'it returns false'. Refute it at one input. -/
def longBackWrong : ChangeSpec := { name := "longBack", fn := fun _ => fun
  | [d1, d2, d3] => { results := [.lit (.bool false)], args := [d1, d2, d3] }
  | _ => none }
def LongBackWrongFalsely : Prop := longBackRow.holds Try.pinned (OpenSpec.ofChange longBackWrong)

/-- 'lodgelaw02.LongRings': WHATEVER THE INPUT: true; the input reads as it did. -/
def longRingsSpec : ChangeSpec := { name := "longRings", fn := fun _ => fun
  | [d1, d2, d3] => { results := [.lit (.bool true)], args := [d1, d2, d3] }
  | _ => none }
def longRingsRow : OpenClaim := { program := "ytpanbfainilmpaa", sum := "47d49e9c99252f1432e2956b9aebfa4faf5ee94919299901f4f6baf2e0c2c7c6", func := "lodge/lodgelaw02.LongRings", spec := "longRings", inPlace := ["math/bits.Add64", "math/bits.Sub64"], unfollowed := true, recurses := true, named := ["math/bits.divideError", "math/bits.overflowError"], apart := false }
def LongRingsSaid : Prop := longRingsRow.holds Try.pinned (OpenSpec.ofChange longRingsSpec)

/-- ITS FALSE NEIGHBOUR: 'it returns false'. Refute it at one input. -/
def longRingsWrong : ChangeSpec := { name := "longRings", fn := fun _ => fun
  | [d1, d2, d3] => { results := [.lit (.bool false)], args := [d1, d2, d3] }
  | _ => none }
def LongRingsWrongFalsely : Prop := longRingsRow.holds Try.pinned (OpenSpec.ofChange longRingsWrong)

/-- 'lodgelaw02.LongLimbs': WHATEVER THE INPUT: true; the input reads as it did. -/
def longLimbsSpec : ChangeSpec := { name := "longLimbs", fn := fun _ => fun
  | [d] => { results := [.lit (.bool true)], args := [d] }
  | _ => none }
def longLimbsRow : OpenClaim := { program := "ytpanbfainilmpaa", sum := "47d49e9c99252f1432e2956b9aebfa4faf5ee94919299901f4f6baf2e0c2c7c6", func := "lodge/lodgelaw02.LongLimbs", spec := "longLimbs", inPlace := ["math/bits.Add64", "math/bits.Sub64"], unfollowed := true, recurses := true, named := ["math/bits.divideError", "math/bits.overflowError"], apart := false }
def LongLimbsSaid : Prop := longLimbsRow.holds Try.pinned (OpenSpec.ofChange longLimbsSpec)

/-- ITS FALSE NEIGHBOUR: 'it returns false'. Refute it at one input. -/
def longLimbsWrong : ChangeSpec := { name := "longLimbs", fn := fun _ => fun
  | [d] => { results := [.lit (.bool false)], args := [d] }
  | _ => none }
def LongLimbsWrongFalsely : Prop := longLimbsRow.holds Try.pinned (OpenSpec.ofChange longLimbsWrong)

/-- 'lodgelaw04.ModulusTells': WHATEVER THE INPUT: true; the input reads as it did. -/
def modulusTellsSpec : ChangeSpec := { name := "modulusTells", fn := fun _ => fun
  | [d1, d2, d3] => { results := [.lit (.bool true)], args := [d1, d2, d3] }
  | _ => none }
def modulusTellsRow : OpenClaim := { program := "ytpanbfainilmpaa", sum := "47d49e9c99252f1432e2956b9aebfa4faf5ee94919299901f4f6baf2e0c2c7c6", func := "lodge/lodgelaw04.ModulusTells", spec := "modulusTells", inPlace := ["math/bits.Add64", "math/bits.Sub64"], unfollowed := true, recurses := true, named := ["math/bits.divideError", "math/bits.overflowError"], apart := false }
def ModulusTellsSaid : Prop := modulusTellsRow.holds Try.pinned (OpenSpec.ofChange modulusTellsSpec)

/-- ITS FALSE NEIGHBOUR: 'it returns false'. Refute it at one input. -/
def modulusTellsWrong : ChangeSpec := { name := "modulusTells", fn := fun _ => fun
  | [d1, d2, d3] => { results := [.lit (.bool false)], args := [d1, d2, d3] }
  | _ => none }
def ModulusTellsWrongFalsely : Prop := modulusTellsRow.holds Try.pinned (OpenSpec.ofChange modulusTellsWrong)

/-- 'lodgelaw04.ModulusPowers': WHATEVER THE INPUT: true; the input reads as it did. -/
def modulusPowersSpec : ChangeSpec := { name := "modulusPowers", fn := fun _ => fun
  | [d1, d2, d3] => { results := [.lit (.bool true)], args := [d1, d2, d3] }
  | _ => none }
def modulusPowersRow : OpenClaim := { program := "ytpanbfainilmpaa", sum := "47d49e9c99252f1432e2956b9aebfa4faf5ee94919299901f4f6baf2e0c2c7c6", func := "lodge/lodgelaw04.ModulusPowers", spec := "modulusPowers", inPlace := ["math/bits.Add64", "math/bits.Sub64"], unfollowed := true, recurses := true, named := ["math/bits.divideError", "math/bits.overflowError"], apart := false }
def ModulusPowersSaid : Prop := modulusPowersRow.holds Try.pinned (OpenSpec.ofChange modulusPowersSpec)

/-- ITS FALSE NEIGHBOUR: 'it returns false'. Refute it at one input. -/
def modulusPowersWrong : ChangeSpec := { name := "modulusPowers", fn := fun _ => fun
  | [d1, d2, d3] => { results := [.lit (.bool false)], args := [d1, d2, d3] }
  | _ => none }
def ModulusPowersWrongFalsely : Prop := modulusPowersRow.holds Try.pinned (OpenSpec.ofChange modulusPowersWrong)

/-- 'lodgelaw04.ModulusSteps': WHATEVER THE INPUT: true; the input reads as it did. -/
def modulusStepsSpec : ChangeSpec := { name := "modulusSteps", fn := fun _ => fun
  | [d1, d2, d3] => { results := [.lit (.bool true)], args := [d1, d2, d3] }
  | _ => none }
def modulusStepsRow : OpenClaim := { program := "ytpanbfainilmpaa", sum := "47d49e9c99252f1432e2956b9aebfa4faf5ee94919299901f4f6baf2e0c2c7c6", func := "lodge/lodgelaw04.ModulusSteps", spec := "modulusSteps", inPlace := ["math/bits.Add64", "math/bits.Sub64"], unfollowed := true, recurses := true, named := ["math/bits.divideError", "math/bits.overflowError"], apart := false }
def ModulusStepsSaid : Prop := modulusStepsRow.holds Try.pinned (OpenSpec.ofChange modulusStepsSpec)

/-- ITS FALSE NEIGHBOUR: 'it returns false'. Refute it at one input. -/
def modulusStepsWrong : ChangeSpec := { name := "modulusSteps", fn := fun _ => fun
  | [d1, d2, d3] => { results := [.lit (.bool false)], args := [d1, d2, d3] }
  | _ => none }
def ModulusStepsWrongFalsely : Prop := modulusStepsRow.holds Try.pinned (OpenSpec.ofChange modulusStepsWrong)

/- THE SECOND FORM. 'bulk': how many values and letters a reading holds, each counted each time it is reached (what is shared counts as often as it is met; a slice's spare places count too). A statement '..UptoSaid' is the law's where the arguments, and the package variables that the reading takes, are together of bulk at most 1048576: NARROWER than '..Said'. Prove '..Said' where nothing that the law and all that it calls make is longer than what came in: it says more and counts as full. Else prove '..UptoSaid'. A law counts once. -/
mutual
def uptoBulk {H : Type} : DataW H → Nat
  | .lit (.string bytes) => bytes.length + 1
  | .lit _ => 1
  | .nil => 1
  | .ptr d => uptoBulk d + 1
  | .slice elems spare => uptoBulkAll elems + uptoBulkAll spare + 1
  | .agg parts => uptoBulkAll parts + 1
  | .iface _ d => uptoBulk d + 1
  | .map entries => uptoBulkEntries entries + 1
  | .held _ => 1
def uptoBulkAll {H : Type} : List (DataW H) → Nat
  | [] => 0
  | d :: r => uptoBulk d + uptoBulkAll r
def uptoBulkEntries {H : Type} : List (Lit × DataW H) → Nat
  | [] => 0
  | x :: r => uptoBulkEntry x + uptoBulkEntries r
def uptoBulkEntry {H : Type} : Lit × DataW H → Nat
  | (.string bytes, d) => bytes.length + uptoBulk d + 1
  | (_, d) => uptoBulk d + 1
 end
def uptoSmall : (H : Type) → List (DataW H) → Bool := fun _ ds => decide (uptoBulkAll ds ≤ 1048576)
def OpenSpec.upto (s : _root_.Go.ChangeSpec) : _root_.Go.OpenSpec := { _root_.Go.OpenSpec.ofChange s with cond := some uptoSmall }

/-- 'lodgelaw19.StreamAdds', WHERE WHAT IT READS IS OF BULK AT MOST 1048576: true; the input reads as it did. -/
def streamAddsUptoRow : OpenClaim := { program := "ytpanbfainilmpaa", sum := "47d49e9c99252f1432e2956b9aebfa4faf5ee94919299901f4f6baf2e0c2c7c6", func := "lodge/lodgelaw19.StreamAdds", spec := "streamAdds", apart := false, narrowed := true }
def StreamAddsUptoSaid : Prop := streamAddsUptoRow.holds Try.pinned (OpenSpec.upto streamAddsSpec)

/-- 'lodgelaw19.StreamHolds', WHERE WHAT IT READS IS OF BULK AT MOST 1048576: true; the input reads as it did. -/
def streamHoldsUptoRow : OpenClaim := { program := "ytpanbfainilmpaa", sum := "47d49e9c99252f1432e2956b9aebfa4faf5ee94919299901f4f6baf2e0c2c7c6", func := "lodge/lodgelaw19.StreamHolds", spec := "streamHolds", apart := false, narrowed := true }
def StreamHoldsUptoSaid : Prop := streamHoldsUptoRow.holds Try.pinned (OpenSpec.upto streamHoldsSpec)

/-- 'lodgelaw19.StreamOrder', WHERE WHAT IT READS IS OF BULK AT MOST 1048576: true; the input reads as it did. -/
def streamOrderUptoRow : OpenClaim := { program := "ytpanbfainilmpaa", sum := "47d49e9c99252f1432e2956b9aebfa4faf5ee94919299901f4f6baf2e0c2c7c6", func := "lodge/lodgelaw19.StreamOrder", spec := "streamOrder", apart := false, narrowed := true }
def StreamOrderUptoSaid : Prop := streamOrderUptoRow.holds Try.pinned (OpenSpec.upto streamOrderSpec)

/-- 'lodgelaw19.StreamOnce', WHERE WHAT IT READS IS OF BULK AT MOST 1048576: true; the input reads as it did. -/
def streamOnceUptoRow : OpenClaim := { program := "ytpanbfainilmpaa", sum := "47d49e9c99252f1432e2956b9aebfa4faf5ee94919299901f4f6baf2e0c2c7c6", func := "lodge/lodgelaw19.StreamOnce", spec := "streamOnce", apart := false, narrowed := true }
def StreamOnceUptoSaid : Prop := streamOnceUptoRow.holds Try.pinned (OpenSpec.upto streamOnceSpec)

/-- 'lodgelaw19.StreamNext', WHERE WHAT IT READS IS OF BULK AT MOST 1048576: true; the input reads as it did. -/
def streamNextUptoRow : OpenClaim := { program := "ytpanbfainilmpaa", sum := "47d49e9c99252f1432e2956b9aebfa4faf5ee94919299901f4f6baf2e0c2c7c6", func := "lodge/lodgelaw19.StreamNext", spec := "streamNext", apart := false, narrowed := true }
def StreamNextUptoSaid : Prop := streamNextUptoRow.holds Try.pinned (OpenSpec.upto streamNextSpec)

/-- 'lodgelaw20.FlushUnites', WHERE WHAT IT READS IS OF BULK AT MOST 1048576: true; the input reads as it did. -/
def flushUnitesUptoRow : OpenClaim := { program := "ytpanbfainilmpaa", sum := "47d49e9c99252f1432e2956b9aebfa4faf5ee94919299901f4f6baf2e0c2c7c6", func := "lodge/lodgelaw20.FlushUnites", spec := "flushUnites", apart := false, narrowed := true }
def FlushUnitesUptoSaid : Prop := flushUnitesUptoRow.holds Try.pinned (OpenSpec.upto flushUnitesSpec)

/-- 'lodgelaw20.FlushLacks', WHERE WHAT IT READS IS OF BULK AT MOST 1048576: true; the input reads as it did. -/
def flushLacksUptoRow : OpenClaim := { program := "ytpanbfainilmpaa", sum := "47d49e9c99252f1432e2956b9aebfa4faf5ee94919299901f4f6baf2e0c2c7c6", func := "lodge/lodgelaw20.FlushLacks", spec := "flushLacks", apart := false, narrowed := true }
def FlushLacksUptoSaid : Prop := flushLacksUptoRow.holds Try.pinned (OpenSpec.upto flushLacksSpec)

/-- 'lodgelaw04.ModulusFermat', WHERE WHAT IT READS IS OF BULK AT MOST 1048576: true; the input reads as it did. -/
def modulusFermatUptoRow : OpenClaim := { program := "ytpanbfainilmpaa", sum := "47d49e9c99252f1432e2956b9aebfa4faf5ee94919299901f4f6baf2e0c2c7c6", func := "lodge/lodgelaw04.ModulusFermat", spec := "modulusFermat", inPlace := ["math/bits.Add64", "math/bits.Sub64"], unfollowed := true, recurses := true, named := ["math/bits.divideError", "math/bits.overflowError"], apart := false, narrowed := true }
def ModulusFermatUptoSaid : Prop := modulusFermatUptoRow.holds Try.pinned (OpenSpec.upto modulusFermatSpec)

/-- 'lodgelaw20.FlushLevels', WHERE WHAT IT READS IS OF BULK AT MOST 1048576: true; the input reads as it did. -/
def flushLevelsUptoRow : OpenClaim := { program := "ytpanbfainilmpaa", sum := "47d49e9c99252f1432e2956b9aebfa4faf5ee94919299901f4f6baf2e0c2c7c6", func := "lodge/lodgelaw20.FlushLevels", spec := "flushLevels", apart := false, narrowed := true }
def FlushLevelsUptoSaid : Prop := flushLevelsUptoRow.holds Try.pinned (OpenSpec.upto flushLevelsSpec)

/-- 'lodgelaw20.FlushOrder', WHERE WHAT IT READS IS OF BULK AT MOST 1048576: true; the input reads as it did. -/
def flushOrderUptoRow : OpenClaim := { program := "ytpanbfainilmpaa", sum := "47d49e9c99252f1432e2956b9aebfa4faf5ee94919299901f4f6baf2e0c2c7c6", func := "lodge/lodgelaw20.FlushOrder", spec := "flushOrder", apart := false, narrowed := true }
def FlushOrderUptoSaid : Prop := flushOrderUptoRow.holds Try.pinned (OpenSpec.upto flushOrderSpec)

/-- 'lodgelaw04.ModulusRings', WHERE WHAT IT READS IS OF BULK AT MOST 1048576: true; the input reads as it did. -/
def modulusRingsUptoRow : OpenClaim := { program := "ytpanbfainilmpaa", sum := "47d49e9c99252f1432e2956b9aebfa4faf5ee94919299901f4f6baf2e0c2c7c6", func := "lodge/lodgelaw04.ModulusRings", spec := "modulusRings", inPlace := ["math/bits.Add64", "math/bits.Sub64"], unfollowed := true, recurses := true, named := ["math/bits.divideError", "math/bits.overflowError"], apart := false, narrowed := true }
def ModulusRingsUptoSaid : Prop := modulusRingsUptoRow.holds Try.pinned (OpenSpec.upto modulusRingsSpec)

/-- 'lodgelaw20.FlushAgain', WHERE WHAT IT READS IS OF BULK AT MOST 1048576: true; the input reads as it did. -/
def flushAgainUptoRow : OpenClaim := { program := "ytpanbfainilmpaa", sum := "47d49e9c99252f1432e2956b9aebfa4faf5ee94919299901f4f6baf2e0c2c7c6", func := "lodge/lodgelaw20.FlushAgain", spec := "flushAgain", apart := false, narrowed := true }
def FlushAgainUptoSaid : Prop := flushAgainUptoRow.holds Try.pinned (OpenSpec.upto flushAgainSpec)

/-- 'lodgelaw01.NatTells', WHERE WHAT IT READS IS OF BULK AT MOST 1048576: true; the input reads as it did. -/
def natTellsUptoRow : OpenClaim := { program := "ytpanbfainilmpaa", sum := "47d49e9c99252f1432e2956b9aebfa4faf5ee94919299901f4f6baf2e0c2c7c6", func := "lodge/lodgelaw01.NatTells", spec := "natTells", inPlace := ["math/bits.Add64", "math/bits.Sub64"], unfollowed := true, recurses := true, apart := false, narrowed := true }
def NatTellsUptoSaid : Prop := natTellsUptoRow.holds Try.pinned (OpenSpec.upto natTellsSpec)

/-- 'lodgelaw01.NatBits', WHERE WHAT IT READS IS OF BULK AT MOST 1048576: true; the input reads as it did. -/
def natBitsUptoRow : OpenClaim := { program := "ytpanbfainilmpaa", sum := "47d49e9c99252f1432e2956b9aebfa4faf5ee94919299901f4f6baf2e0c2c7c6", func := "lodge/lodgelaw01.NatBits", spec := "natBits", inPlace := ["math/bits.Add64", "math/bits.Sub64"], unfollowed := true, recurses := true, apart := false, narrowed := true }
def NatBitsUptoSaid : Prop := natBitsUptoRow.holds Try.pinned (OpenSpec.upto natBitsSpec)

/-- 'lodgelaw01.NatAdds', WHERE WHAT IT READS IS OF BULK AT MOST 1048576: true; the input reads as it did. -/
def natAddsUptoRow : OpenClaim := { program := "ytpanbfainilmpaa", sum := "47d49e9c99252f1432e2956b9aebfa4faf5ee94919299901f4f6baf2e0c2c7c6", func := "lodge/lodgelaw01.NatAdds", spec := "natAdds", inPlace := ["math/bits.Add64", "math/bits.Sub64"], unfollowed := true, recurses := true, apart := false, narrowed := true }
def NatAddsUptoSaid : Prop := natAddsUptoRow.holds Try.pinned (OpenSpec.upto natAddsSpec)

/-- 'lodgelaw01.NatOrder', WHERE WHAT IT READS IS OF BULK AT MOST 1048576: true; the input reads as it did. -/
def natOrderUptoRow : OpenClaim := { program := "ytpanbfainilmpaa", sum := "47d49e9c99252f1432e2956b9aebfa4faf5ee94919299901f4f6baf2e0c2c7c6", func := "lodge/lodgelaw01.NatOrder", spec := "natOrder", inPlace := ["math/bits.Add64", "math/bits.Sub64"], unfollowed := true, recurses := true, apart := false, narrowed := true }
def NatOrderUptoSaid : Prop := natOrderUptoRow.holds Try.pinned (OpenSpec.upto natOrderSpec)

/-- 'lodgelaw01.NatDoubles', WHERE WHAT IT READS IS OF BULK AT MOST 1048576: true; the input reads as it did. -/
def natDoublesUptoRow : OpenClaim := { program := "ytpanbfainilmpaa", sum := "47d49e9c99252f1432e2956b9aebfa4faf5ee94919299901f4f6baf2e0c2c7c6", func := "lodge/lodgelaw01.NatDoubles", spec := "natDoubles", inPlace := ["math/bits.Add64", "math/bits.Sub64"], unfollowed := true, recurses := true, apart := false, narrowed := true }
def NatDoublesUptoSaid : Prop := natDoublesUptoRow.holds Try.pinned (OpenSpec.upto natDoublesSpec)

/-- 'lodgelaw25.TraceParts', WHERE WHAT IT READS IS OF BULK AT MOST 1048576: true; the input reads as it did. -/
def tracePartsUptoRow : OpenClaim := { program := "ytpanbfainilmpaa", sum := "47d49e9c99252f1432e2956b9aebfa4faf5ee94919299901f4f6baf2e0c2c7c6", func := "lodge/lodgelaw25.TraceParts", spec := "traceParts", unfollowed := true, recurses := true, apart := false, narrowed := true }
def TracePartsUptoSaid : Prop := tracePartsUptoRow.holds Try.pinned (OpenSpec.upto tracePartsSpec)

/-- 'lodgelaw25.TraceSecrets', WHERE WHAT IT READS IS OF BULK AT MOST 1048576: true; the input reads as it did. -/
def traceSecretsUptoRow : OpenClaim := { program := "ytpanbfainilmpaa", sum := "47d49e9c99252f1432e2956b9aebfa4faf5ee94919299901f4f6baf2e0c2c7c6", func := "lodge/lodgelaw25.TraceSecrets", spec := "traceSecrets", unfollowed := true, recurses := true, apart := false, narrowed := true }
def TraceSecretsUptoSaid : Prop := traceSecretsUptoRow.holds Try.pinned (OpenSpec.upto traceSecretsSpec)

/-- 'lodgelaw02.LongTells', WHERE WHAT IT READS IS OF BULK AT MOST 1048576: true; the input reads as it did. -/
def longTellsUptoRow : OpenClaim := { program := "ytpanbfainilmpaa", sum := "47d49e9c99252f1432e2956b9aebfa4faf5ee94919299901f4f6baf2e0c2c7c6", func := "lodge/lodgelaw02.LongTells", spec := "longTells", inPlace := ["math/bits.Add64", "math/bits.Sub64"], unfollowed := true, recurses := true, named := ["math/bits.divideError", "math/bits.overflowError"], apart := false, narrowed := true }
def LongTellsUptoSaid : Prop := longTellsUptoRow.holds Try.pinned (OpenSpec.upto longTellsSpec)

/-- 'lodgelaw02.LongEuclid', WHERE WHAT IT READS IS OF BULK AT MOST 1048576: true; the input reads as it did. -/
def longEuclidUptoRow : OpenClaim := { program := "ytpanbfainilmpaa", sum := "47d49e9c99252f1432e2956b9aebfa4faf5ee94919299901f4f6baf2e0c2c7c6", func := "lodge/lodgelaw02.LongEuclid", spec := "longEuclid", inPlace := ["math/bits.Add64", "math/bits.Sub64"], unfollowed := true, recurses := true, named := ["math/bits.divideError", "math/bits.overflowError"], apart := false, narrowed := true }
def LongEuclidUptoSaid : Prop := longEuclidUptoRow.holds Try.pinned (OpenSpec.upto longEuclidSpec)

/-- 'lodgelaw02.LongBack', WHERE WHAT IT READS IS OF BULK AT MOST 1048576: true; the input reads as it did. -/
def longBackUptoRow : OpenClaim := { program := "ytpanbfainilmpaa", sum := "47d49e9c99252f1432e2956b9aebfa4faf5ee94919299901f4f6baf2e0c2c7c6", func := "lodge/lodgelaw02.LongBack", spec := "longBack", inPlace := ["math/bits.Add64", "math/bits.Sub64"], unfollowed := true, recurses := true, named := ["math/bits.divideError", "math/bits.overflowError"], apart := false, narrowed := true }
def LongBackUptoSaid : Prop := longBackUptoRow.holds Try.pinned (OpenSpec.upto longBackSpec)

/-- 'lodgelaw02.LongRings', WHERE WHAT IT READS IS OF BULK AT MOST 1048576: true; the input reads as it did. -/
def longRingsUptoRow : OpenClaim := { program := "ytpanbfainilmpaa", sum := "47d49e9c99252f1432e2956b9aebfa4faf5ee94919299901f4f6baf2e0c2c7c6", func := "lodge/lodgelaw02.LongRings", spec := "longRings", inPlace := ["math/bits.Add64", "math/bits.Sub64"], unfollowed := true, recurses := true, named := ["math/bits.divideError", "math/bits.overflowError"], apart := false, narrowed := true }
def LongRingsUptoSaid : Prop := longRingsUptoRow.holds Try.pinned (OpenSpec.upto longRingsSpec)

/-- 'lodgelaw02.LongLimbs', WHERE WHAT IT READS IS OF BULK AT MOST 1048576: true; the input reads as it did. -/
def longLimbsUptoRow : OpenClaim := { program := "ytpanbfainilmpaa", sum := "47d49e9c99252f1432e2956b9aebfa4faf5ee94919299901f4f6baf2e0c2c7c6", func := "lodge/lodgelaw02.LongLimbs", spec := "longLimbs", inPlace := ["math/bits.Add64", "math/bits.Sub64"], unfollowed := true, recurses := true, named := ["math/bits.divideError", "math/bits.overflowError"], apart := false, narrowed := true }
def LongLimbsUptoSaid : Prop := longLimbsUptoRow.holds Try.pinned (OpenSpec.upto longLimbsSpec)

/-- 'lodgelaw04.ModulusTells', WHERE WHAT IT READS IS OF BULK AT MOST 1048576: true; the input reads as it did. -/
def modulusTellsUptoRow : OpenClaim := { program := "ytpanbfainilmpaa", sum := "47d49e9c99252f1432e2956b9aebfa4faf5ee94919299901f4f6baf2e0c2c7c6", func := "lodge/lodgelaw04.ModulusTells", spec := "modulusTells", inPlace := ["math/bits.Add64", "math/bits.Sub64"], unfollowed := true, recurses := true, named := ["math/bits.divideError", "math/bits.overflowError"], apart := false, narrowed := true }
def ModulusTellsUptoSaid : Prop := modulusTellsUptoRow.holds Try.pinned (OpenSpec.upto modulusTellsSpec)

/-- 'lodgelaw04.ModulusPowers', WHERE WHAT IT READS IS OF BULK AT MOST 1048576: true; the input reads as it did. -/
def modulusPowersUptoRow : OpenClaim := { program := "ytpanbfainilmpaa", sum := "47d49e9c99252f1432e2956b9aebfa4faf5ee94919299901f4f6baf2e0c2c7c6", func := "lodge/lodgelaw04.ModulusPowers", spec := "modulusPowers", inPlace := ["math/bits.Add64", "math/bits.Sub64"], unfollowed := true, recurses := true, named := ["math/bits.divideError", "math/bits.overflowError"], apart := false, narrowed := true }
def ModulusPowersUptoSaid : Prop := modulusPowersUptoRow.holds Try.pinned (OpenSpec.upto modulusPowersSpec)

/-- 'lodgelaw04.ModulusSteps', WHERE WHAT IT READS IS OF BULK AT MOST 1048576: true; the input reads as it did. -/
def modulusStepsUptoRow : OpenClaim := { program := "ytpanbfainilmpaa", sum := "47d49e9c99252f1432e2956b9aebfa4faf5ee94919299901f4f6baf2e0c2c7c6", func := "lodge/lodgelaw04.ModulusSteps", spec := "modulusSteps", inPlace := ["math/bits.Add64", "math/bits.Sub64"], unfollowed := true, recurses := true, named := ["math/bits.divideError", "math/bits.overflowError"], apart := false, narrowed := true }
def ModulusStepsUptoSaid : Prop := modulusStepsUptoRow.holds Try.pinned (OpenSpec.upto modulusStepsSpec)

end Rows
end Go.Proofs.Ytpanbfainilmpaa
