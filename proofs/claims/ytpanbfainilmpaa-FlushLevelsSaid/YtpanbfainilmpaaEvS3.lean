/- How the arguments of the claims read. -/
import Derived.Test.YtpanbfainilmpaaRows
import Derived.Test.YtpanbfainilmpaaEvS1
import Derived.Test.YtpanbfainilmpaaEvP
import Derived.Test.YtpanbfainilmpaaEv24
import Derived.Test.YtpanbfainilmpaaEv28
import Derived.Test.YtpanbfainilmpaaEvSt
set_option linter.unusedSimpArgs false
set_option linter.unusedVariables false
set_option maxRecDepth 100000
namespace Go.Proofs.Ytpanbfainilmpaa.Ev.S
open Go.Proofs Go.Proofs.Ytpanbfainilmpaa.Ev Go.ChangeShapes Go.WideShapes Go.RowKit

noncomputable abbrev P := Try.prog
theorem r3 : RD P 3 (fun n : Int => [.sc (.int .i64 n)]) (fun n => (Lit.int .i64 n).wf = true) := RD.int Try.underlying3
theorem r4 : RD P 4 (fun n : Bool => [.sc (.bool n)]) (fun _ => True) := RD.bool Try.underlying4
theorem r9 : RD P 9 tenc (fun s => s.size ≤ reachBytes) := RD.str Try.underlying9
theorem cel3 : P.cellsOf 3 = 1 := by kernel_rfl
theorem cel4 : P.cellsOf 4 = 1 := by kernel_rfl
theorem cel9 : P.cellsOf 9 = 1 := by kernel_rfl
theorem r27 : RD P 27 Mem.enc (fun _ => True) :=
  (RD.struct Try.underlying27 (by kernel_rfl) (RDs.cons rfl cel3 (fun _ => rfl) r3 (RDs.cons rfl cel3 (fun _ => rfl) r3 (RDs.nil 2)))).iso (fun p => ⟨p.1, p.2.1⟩) (fun _ => rfl) (fun _ _ => trivial)
theorem cel27 : P.cellsOf 27 = 2 := by kernel_rfl
theorem r35 : RD P 35 Vid.enc (fun _ => True) :=
  (RD.struct Try.underlying35 (by kernel_rfl) (RDs.cons rfl cel3 (fun _ => rfl) r3 (RDs.cons rfl cel3 (fun _ => rfl) r3 (RDs.cons rfl cel3 (fun _ => rfl) r3 (RDs.nil 3))))).iso (fun p => ⟨p.1, p.2.1, p.2.2.1⟩) (fun _ => rfl) (fun _ _ => trivial)
theorem cel35 : P.cellsOf 35 = 3 := by kernel_rfl
theorem r45 : RD P 45 (fun l : List ByteArray => [.sl (l.map tenc)]) (fun l => l.length * 16 ≤ reachBytes) :=
  (RD.slice Try.underlying45 (by kernel_rfl) cel9 (by omega) (fun _ => rfl) r9).iso id (fun _ => rfl) (fun _ h => h.1)
theorem cel45 : P.cellsOf 45 = 1 := by kernel_rfl
def Strm.ok (s : Strm) : Prop := s.texts.length * 16 ≤ reachBytes
theorem r47 : RD P 47 Strm.enc Strm.ok :=
  (RD.struct Try.underlying47 (by kernel_rfl) (RDs.cons rfl cel27 (fun _ => rfl) r27 (RDs.cons rfl cel45 (fun _ => rfl) r45 (RDs.nil 3)))).iso (fun p => ⟨p.1, p.2.1⟩) (fun _ => rfl) (fun _ h => h.2.1)
theorem cel47 : P.cellsOf 47 = 3 := by kernel_rfl
theorem r22 : RD P 22 (fun l : List Strm => [.sl (l.map Strm.enc)]) (fun l => l.length * 40 ≤ reachBytes ∧ ∀ s ∈ l, s.ok) :=
  RD.slice Try.underlying22 (by kernel_rfl) cel47 (by omega) (fun _ => rfl) r47
theorem cel22 : P.cellsOf 22 = 1 := by kernel_rfl
theorem r29 : RD P 29 Txt.enc (fun _ => True) :=
  (RD.struct Try.underlying29 (by kernel_rfl) (RDs.cons rfl cel27 (fun _ => rfl) r27 (RDs.cons rfl cel9 (fun _ => rfl) r9 (RDs.nil 3)))).iso (fun p => ⟨p.1, p.2.1⟩) (fun _ => rfl) (fun _ h => trivial)
theorem cel29 : P.cellsOf 29 = 3 := by kernel_rfl
theorem r23 : RD P 23 (fun l : List Txt => [.sl (l.map Txt.enc)]) (fun l => l.length * 32 ≤ reachBytes) :=
  (RD.slice Try.underlying23 (by kernel_rfl) cel29 (by omega) (fun _ => rfl) r29).iso id (fun _ => rfl) (fun _ h => h.1)
theorem r37 : RD P 37 Hld.enc (fun _ => True) :=
  (RD.struct Try.underlying37 (by kernel_rfl) (RDs.cons rfl cel27 (fun _ => rfl) r27 (RDs.cons rfl cel35 (fun _ => rfl) r35 (RDs.cons rfl cel3 (fun _ => rfl) r3 (RDs.cons rfl cel9 (fun _ => rfl) r9 (RDs.nil 7)))))).iso (fun p => ⟨p.1, p.2.1, p.2.2.1, p.2.2.2.1⟩) (fun _ => rfl) (fun _ h => trivial)
theorem cel37 : P.cellsOf 37 = 7 := by kernel_rfl
theorem r33 : RD P 33 (fun l : List Hld => [.sl (l.map Hld.enc)]) (fun l => l.length * 64 ≤ reachBytes) :=
  (RD.slice Try.underlying33 (by kernel_rfl) cel37 (by omega) (fun _ => rfl) r37).iso id (fun _ => rfl) (fun _ h => h.1)
theorem r5 : RD P 5 (fun n : Int => [.sc (.int .u8 n)]) (fun n => (Lit.int .u8 n).wf = true) := RD.int Try.underlying5
theorem cel5 : P.cellsOf 5 = 1 := by kernel_rfl
theorem r49 : RD P 49 (fun l : List Int => [.sl (l.map fun n => [.sc (.int .u8 n)])]) (fun l => l.length ≤ reachBytes ∧ ∀ n ∈ l, (Lit.int .u8 n).wf = true) :=
  (RD.slice (by' := 1) Try.underlying49 (by kernel_rfl) cel5 (by omega) (fun _ => rfl) r5).iso id (fun _ => rfl) (fun _ h => ⟨by simpa using h.1, h.2⟩)
theorem cel49 : P.cellsOf 49 = 1 := by kernel_rfl
theorem r75 : RD P 75 (fun l : List (List Int) => [.sl (l.map fun l => [.sl (l.map fun n => [.sc (.int .u8 n)])])]) (fun l => l.length * 24 ≤ reachBytes ∧ ∀ x ∈ l, x.length ≤ reachBytes ∧ ∀ n ∈ x, (Lit.int .u8 n).wf = true) :=
  RD.slice Try.underlying75 (by kernel_rfl) cel49 (by omega) (fun _ => rfl) r49
theorem r74 : RD P 74 (fun l : List (List ByteArray) => [.sl (l.map fun l => [.sl (l.map tenc)])]) (fun l => l.length * 24 ≤ reachBytes ∧ ∀ x ∈ l, x.length * 16 ≤ reachBytes) :=
  RD.slice Try.underlying74 (by kernel_rfl) cel45 (by omega) (fun _ => rfl) r45
theorem r134 : RD P 134 Spot.enc (fun _ => True) :=
  (RD.struct Try.underlying134 (by kernel_rfl) (RDs.cons rfl cel4 (fun _ => rfl) r4 (RDs.cons rfl cel27 (fun _ => rfl) r27 (RDs.nil 3)))).iso (fun p => ⟨p.1, p.2.1⟩) (fun _ => rfl) (fun _ h => trivial)
theorem cel134 : P.cellsOf 134 = 3 := by kernel_rfl
theorem r54 : RD P 54 (fun l : List Spot => [.sl (l.map Spot.enc)]) (fun l => l.length * 24 ≤ reachBytes) :=
  (RD.slice Try.underlying54 (by kernel_rfl) cel134 (by omega) (fun _ => rfl) r134).iso id (fun _ => rfl) (fun _ h => h.1)
theorem cel54 : P.cellsOf 54 = 1 := by kernel_rfl
theorem r56 : RD P 56 (fun p : Vid × List Spot => [.sc (.int .i64 p.1.c), .sc (.int .i64 p.1.n), .sc (.int .i64 p.1.i), .sl (p.2.map Spot.enc)]) (fun p => p.2.length * 24 ≤ reachBytes) :=
  (RD.struct Try.underlying56 (by kernel_rfl) (RDs.cons rfl cel35 (fun _ => rfl) r35 (RDs.cons rfl cel54 (fun _ => rfl) r54 (RDs.nil 4)))).iso (fun p => (p.1, p.2.1)) (fun _ => rfl) (fun _ h => h.2.1)
theorem cel56 : P.cellsOf 56 = 4 := by kernel_rfl
def Flu.ok (s : Flu) : Prop := s.streams.length * 40 ≤ reachBytes ∧ ∀ x ∈ s.streams, x.ok
theorem r58 : RD P 58 Flu.enc Flu.ok :=
  (RD.struct Try.underlying58 (by kernel_rfl) (RDs.cons rfl cel27 (fun _ => rfl) r27 (RDs.cons rfl cel35 (fun _ => rfl) r35 (RDs.cons rfl cel22 (fun _ => rfl) r22 (RDs.cons rfl cel56 (fun _ => rfl) r56 (RDs.cons rfl cel4 (fun _ => rfl) r4 (RDs.nil 11))))))).iso
    (fun p => ⟨p.1, p.2.1, p.2.2.1, p.2.2.2.1.1, p.2.2.2.1.2, p.2.2.2.2.1⟩) (fun _ => rfl) (fun _ h => h.2.2.1)
theorem cel58 : P.cellsOf 58 = 11 := by kernel_rfl
theorem r52 : RD P 52 (fun l : List Flu => [.sl (l.map Flu.enc)]) (fun l => l.length * 120 ≤ reachBytes ∧ ∀ s ∈ l, s.ok) :=
  RD.slice Try.underlying52 (by kernel_rfl) cel58 (by omega) (fun _ => rfl) r58
theorem r89 : RD P 89 (fun l : List Mem => [.sl (l.map Mem.enc)]) (fun l => l.length * 16 ≤ reachBytes) :=
  (RD.slice Try.underlying89 (by kernel_rfl) cel27 (by omega) (fun _ => rfl) r27).iso id (fun _ => rfl) (fun _ h => h.1)
theorem cel89 : P.cellsOf 89 = 1 := by kernel_rfl
def View.ok (v : View) : Prop := v.mems.length * 16 ≤ reachBytes
theorem r93 : RD P 93 View.enc View.ok :=
  (RD.struct Try.underlying93 (by kernel_rfl) (RDs.cons rfl cel35 (fun _ => rfl) r35 (RDs.cons rfl cel89 (fun _ => rfl) r89 (RDs.nil 4)))).iso (fun p => ⟨p.1, p.2.1⟩) (fun _ => rfl) (fun _ h => h.2.1)
theorem cel93 : P.cellsOf 93 = 4 := by kernel_rfl
def Evt.ok (s : Evt) : Prop := s.view.ok ∧ s.tree.length * 24 ≤ reachBytes
theorem r95 : RD P 95 Evt.enc Evt.ok :=
  (RD.struct Try.underlying95 (by kernel_rfl) (RDs.cons rfl cel3 (fun _ => rfl) r3 (RDs.cons rfl cel3 (fun _ => rfl) r3 (RDs.cons rfl cel27 (fun _ => rfl) r27 (RDs.cons rfl cel93 (fun _ => rfl) r93 (RDs.cons rfl cel27 (fun _ => rfl) r27 (RDs.cons rfl cel3 (fun _ => rfl) r3 (RDs.cons rfl cel9 (fun _ => rfl) r9 (RDs.cons rfl cel54 (fun _ => rfl) r54 (RDs.cons rfl cel9 (fun _ => rfl) r9 (RDs.nil 14))))))))))).iso
    (fun p => ⟨p.1, p.2.1, p.2.2.1, p.2.2.2.1, p.2.2.2.2.1, p.2.2.2.2.2.1, p.2.2.2.2.2.2.1, p.2.2.2.2.2.2.2.1, p.2.2.2.2.2.2.2.2.1⟩) (fun _ => rfl) (fun _ h => ⟨h.2.2.2.1, h.2.2.2.2.2.2.2.1⟩)
theorem cel95 : P.cellsOf 95 = 14 := by kernel_rfl
theorem r87 : RD P 87 (fun l : List Evt => [.sl (l.map Evt.enc)]) (fun l => l.length * 160 ≤ reachBytes ∧ ∀ s ∈ l, s.ok) :=
  RD.slice Try.underlying87 (by kernel_rfl) cel95 (by omega) (fun _ => rfl) r95

theorem laid : laidOutB P = true := fLaid
theorem own : ownKnob P.godebug = none := fOwn
theorem size : ∀ t ∈ [3, 5, 22, 23, 33, 35, 37, 49, 52, 74, 75, 81, 87, 93, 27], P.readableRec t = true ∧ t < P.types.size := by
  intro t ht
  have : ∀ t ∈ [3, 5, 22, 23, 33, 35, 37, 49, 52, 74, 75, 81, 87, 93, 27], (P.readableRec t && decide (t < P.types.size)) = true := by
    rw [← List.all_eq_true]
    kernel_rfl
  simpa using this t ht
end Go.Proofs.Ytpanbfainilmpaa.Ev.S
