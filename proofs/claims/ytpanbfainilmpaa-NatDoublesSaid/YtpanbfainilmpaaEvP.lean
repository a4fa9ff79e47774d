/- Closed facts of the program that every claim of this seat asks, each proved alone. -/
import Derived.Test.YtpanbfainilmpaaRows
import Derived.ProofKit
import Derived.OpenShut
set_option linter.unusedVariables false
set_option maxRecDepth 100000
set_option linter.unusedSimpArgs false
namespace Go.Proofs.Ytpanbfainilmpaa.Ev
open Go Go.Proofs
theorem words_app (w r : List Char) (h : ∀ c ∈ w, c ≠ Char.ofNat 32) : wordsSigns (w ++ Char.ofNat 32 :: r) = w :: wordsSigns r := by
  induction w with
  | nil => rfl
  | cons c w ih =>
    rw [List.cons_append, wordsSigns.eq_3 _ _ (fun he => h c (by simp) he), ih fun d hd => h d (by simp [hd])]
def io1 : List Nat := [104, 97, 114, 110, 101, 115, 115]
def io2 : List Nat := [50, 57, 98, 101, 100, 52, 53, 49, 53, 50, 52, 99, 99, 56, 100, 51, 98, 54, 49, 102, 101, 98, 48, 102, 100, 102, 100, 57, 98, 50, 51, 54, 102, 97, 97, 97, 100, 50, 50, 50, 48, 99, 49, 50, 101, 48, 52, 100, 55, 56, 57, 56, 101, 52, 49, 98, 102, 102, 54, 49, 56, 50, 100, 49]
def io3 : List Nat := [99, 117, 116]
def io4 : List Nat := [97, 116, 32, 108, 111, 100, 103, 101, 47, 108, 111, 100, 103, 101, 108, 97, 119, 49, 57, 46, 83, 116, 114, 101, 97, 109, 65, 100, 100, 115, 32, 108, 111, 100, 103, 101, 47, 108, 111, 100, 103, 101, 108, 97, 119, 49, 57, 46, 83, 116, 114, 101, 97, 109, 72, 111, 108, 100, 115, 32, 108, 111, 100, 103, 101, 47, 108, 111, 100, 103, 101, 108, 97, 119, 49, 57, 46, 83, 116, 114, 101, 97, 109, 79, 114, 100, 101, 114, 32, 108, 111, 100, 103, 101, 47, 108, 111, 100, 103, 101, 108, 97, 119, 49, 57, 46, 83, 116, 114, 101, 97, 109, 79, 110, 99, 101, 32, 108, 111, 100, 103, 101, 47, 108, 111, 100, 103, 101, 108, 97, 119, 49, 57, 46, 83, 116, 114, 101, 97, 109, 78, 101, 120, 116, 32, 108, 111, 100, 103, 101, 47, 108, 111, 100, 103, 101, 108, 97, 119, 50, 48, 46, 70, 108, 117, 115, 104, 85, 110, 105, 116, 101, 115, 32, 108, 111, 100, 103, 101, 47, 108, 111, 100, 103, 101, 108, 97, 119, 50, 48, 46, 70, 108, 117, 115, 104, 76, 97, 99, 107, 115, 32, 108, 111, 100, 103, 101, 47, 108, 111, 100, 103, 101, 108, 97, 119, 48, 52, 46, 77, 111, 100, 117, 108, 117, 115, 70, 101, 114, 109, 97, 116, 32, 108, 111, 100, 103, 101, 47, 108, 111, 100, 103, 101, 108, 97, 119, 50, 48, 46, 70, 108, 117, 115, 104, 76, 101, 118, 101, 108, 115, 32, 108, 111, 100, 103, 101, 47, 108, 111, 100, 103, 101, 108, 97, 119, 50, 48, 46, 70, 108, 117, 115, 104, 79, 114, 100, 101, 114, 32, 108, 111, 100, 103, 101, 47, 108, 111, 100, 103, 101, 108, 97, 119, 48, 52, 46, 77, 111, 100, 117, 108, 117, 115, 82, 105, 110, 103, 115, 32, 108, 111, 100, 103, 101, 47, 108, 111, 100, 103, 101, 108, 97, 119, 50, 48, 46, 70, 108, 117, 115, 104, 65, 103, 97, 105, 110, 32, 108, 111, 100, 103, 101, 47, 108, 111, 100, 103, 101, 108, 97, 119, 48, 49, 46, 78, 97, 116, 84, 101, 108, 108, 115, 32, 108, 111, 100, 103, 101, 47, 108, 111, 100, 103, 101, 108, 97, 119, 48, 49, 46, 78, 97, 116, 66, 105, 116, 115, 32, 108, 111, 100, 103, 101, 47, 108, 111, 100, 103, 101, 108, 97, 119, 48, 49, 46, 78, 97, 116, 65, 100, 100, 115, 32, 108, 111, 100, 103, 101, 47, 108, 111, 100, 103, 101, 108, 97, 119, 48, 49, 46, 78, 97, 116, 79, 114, 100, 101, 114, 32, 108, 111, 100, 103, 101, 47, 108, 111, 100, 103, 101, 108, 97, 119, 48, 49, 46, 78, 97, 116, 68, 111, 117, 98, 108, 101, 115, 32, 108, 111, 100, 103, 101, 47, 108, 111, 100, 103, 101, 108, 97, 119, 50, 53, 46, 84, 114, 97, 99, 101, 80, 97, 114, 116, 115, 32, 108, 111, 100, 103, 101, 47, 108, 111, 100, 103, 101, 108, 97, 119, 50, 53, 46, 84, 114, 97, 99, 101, 83, 101, 99, 114, 101, 116, 115, 32, 108, 111, 100, 103, 101, 47, 108, 111, 100, 103, 101, 108, 97, 119, 48, 50, 46, 76, 111, 110, 103, 84, 101, 108, 108, 115, 32, 108, 111, 100, 103, 101, 47, 108, 111, 100, 103, 101, 108, 97, 119, 48, 50, 46, 76, 111, 110, 103, 69, 117, 99, 108, 105, 100, 32, 108, 111, 100, 103, 101, 47, 108, 111, 100, 103, 101, 108, 97, 119, 48, 50, 46, 76, 111, 110, 103, 66, 97, 99, 107, 32, 108, 111, 100, 103, 101, 47, 108, 111, 100, 103, 101, 108, 97, 119, 48, 50, 46, 76, 111, 110, 103, 82, 105, 110, 103, 115, 32, 108, 111, 100, 103, 101, 47, 108, 111, 100, 103, 101, 108, 97, 119, 48, 50, 46, 76, 111, 110, 103, 76, 105, 109, 98, 115, 32, 108, 111, 100, 103, 101, 47, 108, 111, 100, 103, 101, 108, 97, 119, 48, 52, 46, 77, 111, 100, 117, 108, 117, 115, 84, 101, 108, 108, 115, 32, 108, 111, 100, 103, 101, 47, 108, 111, 100, 103, 101, 108, 97, 119, 48, 52, 46, 77, 111, 100, 117, 108, 117, 115, 80, 111, 119, 101, 114, 115, 32, 108, 111, 100, 103, 101, 47, 108, 111, 100, 103, 101, 108, 97, 119, 48, 52, 46, 77, 111, 100, 117, 108, 117, 115, 83, 116, 101, 112, 115]
def ch (l : List Nat) : List Char := l.map Char.ofNat
theorem ioS : Try.prog.initOrder = String.ofList (ch io1 ++ Char.ofNat 32 :: (ch io2 ++ Char.ofNat 32 :: (ch io3 ++ Char.ofNat 32 :: ch io4))) := by kernel_rfl
theorem ioL : wordsSigns Try.prog.initOrder.toList = ch io1 :: ch io2 :: ch io3 :: wordsSigns (ch io4) := by
  rw [ioS, String.toList_ofList, words_app _ _ (by decide), words_app _ _ (by decide), words_app _ _ (by decide)]
theorem ioB (R : List (List Char)) : behindMainWord (ch io1 :: ch io2 :: ch io3 :: R) = ch io3 :: R := by kernel_rfl
theorem ioT (R : List (List Char)) : stripLifts liftWords (ch io3 :: R) = ([], ch io3 :: R) := by kernel_rfl
theorem ioa1 : (ch io3 == "gc".toList) = false := by kernel_rfl
theorem ioa2 : (ch io3 == "spec".toList) = false := by kernel_rfl
theorem ioa3 : (ch io3 == "cut".toList) = true := by kernel_rfl
theorem ioa4 : (ch io3 == "carried".toList) = false := by kernel_rfl
theorem ioa5 : (some (ch io3) == some "cut".toList) = true := by kernel_rfl
theorem ioa6 : (some (ch io3) == some "carried".toList) = false := by kernel_rfl
theorem make_of (P : Program) (R : List (List Char)) (h : wordsSigns P.initOrder.toList = ch io1 :: ch io2 :: ch io3 :: R) : (P.make == some Make.cut) = true := by
  have : P.make = some Make.cut := by
    unfold Program.make
    rw [h, ioB]
    simp only [ioa1, ioa2, ioa3, Bool.false_or, Bool.true_or, Bool.or_false, if_true, Bool.false_eq_true, if_false]
  rw [this]; rfl
theorem lifts_of (P : Program) (R : List (List Char)) (h : wordsSigns P.initOrder.toList = ch io1 :: ch io2 :: ch io3 :: R) : (false == P.liftsFinal) = true := by
  have : P.liftsFinal = false := by
    unfold Program.liftsFinal Program.headLifts
    rw [h, ioB]
    simp only [ioT, ioa5, ioa6, List.head?_cons, Bool.false_and, Bool.false_or, if_true, List.contains_nil]
  rw [this]; rfl
theorem enter_of (P : Program) (R : List (List Char)) (h : wordsSigns P.initOrder.toList = ch io1 :: ch io2 :: ch io3 :: R) (b1 : P.laysLater = false) (b2 : P.bearsReflect = false) (b3 : P.doorFits [] = true) : P.mayEnter = true := by
  unfold Program.mayEnter
  rw [h, ioB]
  simp only [ioT, ioa1, ioa2, ioa4, ioa5, b1, b2, b3, List.head?_cons, List.contains_nil, Bool.false_and, Bool.false_or, Bool.not_false, Bool.or_true, Bool.and_true, Bool.true_and]
theorem lays : Try.prog.laysLater = false := by kernel_rfl
theorem bears : Try.prog.bearsReflect = false := by kernel_rfl
theorem door : Try.prog.doorFits [] = true := by kernel_rfl
theorem fMake : (Try.prog.make == some Make.cut) = true := make_of _ _ ioL
theorem fLifts : (false == Try.prog.liftsFinal) = true := lifts_of _ _ ioL
theorem fEnter : Try.prog.mayEnter = true := enter_of _ _ ioL lays bears door
theorem fLaid : laidOutB Try.prog = true := by kernel_rfl
theorem fMaps : mapsRowed Try.prog = true := by kernel_rfl
theorem fPlain : (true == Try.prog.plainKeys) = true := by kernel_rfl
theorem fHeard : Try.prog.stopsHeard = true := by kernel_rfl
theorem fOwn : ownKnob Try.prog.godebug = none := by kernel_rfl
theorem and_i {a b : Bool} (ha : a = true) (hb : b = true) : (a && b) = true := by rw [ha, hb]; rfl
end Go.Proofs.Ytpanbfainilmpaa.Ev
