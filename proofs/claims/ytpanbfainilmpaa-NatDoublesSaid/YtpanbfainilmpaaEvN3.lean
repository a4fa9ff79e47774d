/- What the numbers' laws stand on: the functions that are not walked, how arguments read. -/
import Derived.Test.YtpanbfainilmpaaRows
import Derived.Test.YtpanbfainilmpaaEvN1
import Derived.Test.YtpanbfainilmpaaEvP
import Derived.Test.YtpanbfainilmpaaEv24
import Derived.Test.YtpanbfainilmpaaEv28
import Derived.Test.YtpanbfainilmpaaEvX5
set_option linter.unusedSimpArgs false
set_option linter.unusedVariables false
set_option maxRecDepth 100000
namespace Go.Proofs.Ytpanbfainilmpaa.Ev.N
open Go.Proofs Go.Proofs.Ytpanbfainilmpaa.Ev Go.ChangeShapes Go.WideShapes Go.RowKit

theorem env : Env Try.prog NI AA XX := by
  refine ⟨by kernel_rfl, ents, fun f e h args rs he => ?_⟩
  unfold XX at h
  split at h
  · cases h; exact ok63 args rs he
  · cases h; exact ok66 args rs he
  · cases h; exact ok67 args rs he
  · cases h; exact ok100 args rs he
  · cases h; exact ok103 args rs he
  · cases h
noncomputable abbrev P := Try.prog
theorem r3 : RD P 3 (fun n : Int => [.sc (.int .i64 n)]) (fun n => (Lit.int .i64 n).wf = true) := RD.int Try.underlying3
theorem r5 : RD P 5 (fun n : Int => [.sc (.int .u8 n)]) (fun n => (Lit.int .u8 n).wf = true) := RD.int Try.underlying5
theorem r66 : RD P 66 (fun n : Int => [.sc (.int .u64 n)]) (fun n => (Lit.int .u64 n).wf = true) := RD.int Try.underlying66
theorem cel66 : P.cellsOf 66 = 1 := by kernel_rfl
theorem r64 : RD P 64 (fun l : List Int => [.sl (l.map fun n => [.sc (.int .u64 n)])]) (fun l => l.length * 8 ≤ reachBytes ∧ ∀ n ∈ l, (Lit.int .u64 n).wf = true) :=
  RD.slice Try.underlying64 (by kernel_rfl) cel66 (by omega) (fun _ => rfl) r66
/-- An argument's words are naturals. -/
theorem words (l : List Int) (h : l.length * 8 ≤ reachBytes ∧ ∀ n ∈ l, (Lit.int .u64 n).wf = true) : ∃ m : List Nat, (l.map fun n => [D.sc (.int .u64 n)]) = m.map n64 ∧ Limbs m ∧ m.length ≤ 140737488351232 / 8 := by
  refine ⟨l.map Int.toNat, ?_, ?_, ?_⟩
  · rw [List.map_map]
    refine List.map_congr_left fun n hn => ?_
    have := h.2 n hn
    simp only [Lit.wf, Bool.and_eq_true, decide_eq_true_eq] at this
    have h0 : (0 : Int) ≤ n := this.1
    show [D.sc (.int .u64 n)] = [D.sc (.int .u64 ((n.toNat : Nat) : Int))]
    rw [Int.toNat_of_nonneg h0]
  · intro x hx
    obtain ⟨n, hn, rfl⟩ := List.mem_map.1 hx
    have := h.2 n hn
    simp only [Lit.wf, Bool.and_eq_true, decide_eq_true_eq] at this
    have h0 : (0 : Int) ≤ n := this.1
    have h1 : n ≤ 18446744073709551615 := this.2
    have hB : B64 = 18446744073709551616 := rfl
    omega
  · have h1 : l.length * 8 ≤ 140737488351232 := h.1
    rw [List.length_map]; omega
theorem laid : laidOutB P = true := fLaid
theorem own : ownKnob P.godebug = none := fOwn
theorem size : ∀ t ∈ [3, 5, 64, 66], P.readableRec t = true ∧ t < P.types.size := by
  intro t ht
  have : ∀ t ∈ [3, 5, 64, 66], (P.readableRec t && decide (t < P.types.size)) = true := by
    rw [← List.all_eq_true]
    kernel_rfl
  simpa using this t ht
end Go.Proofs.Ytpanbfainilmpaa.Ev.N
