/- bits.Add64, bits.Sub64: what the model gives. -/
import Derived.Test.YtpanbfainilmpaaEvX2
import Derived.Shelf.Spec.BitsCarry
set_option linter.unusedVariables false
set_option linter.unusedSimpArgs false
namespace Go.Proofs.Ytpanbfainilmpaa.Ev.N
open Go Go.Proofs Go.RowKit Go.Shelf Go.Proofs.Ytpanbfainilmpaa.Ev

theorem run100 (x y c : Nat) (hc : c ≤ 1) (w : World) : (callFunc 100 #[.int .u64 (x : Int), .int .u64 (y : Int), .int .u64 (c : Int)]).run Try.prog w =
    .ok (.value (.tuple #[.int .u64 (((x + y + c) % B64 : Nat) : Int), .int .u64 (((x + y + c) / B64 : Nat) : Int)])) w := by
  rw [run_callFunc_extern Try.func100 (by kernel_rfl) (by kernel_rfl) (by kernel_rfl) (e := add64Entry) (by kernel_rfl)]
  have : c = 0 ∨ c = 1 := by omega
  rcases this with rfl | rfl <;> rfl
theorem run103 (x y c : Nat) (hc : c ≤ 1) (w : World) : (callFunc 103 #[.int .u64 (x : Int), .int .u64 (y : Int), .int .u64 (c : Int)]).run Try.prog w =
    .ok (.value (.tuple #[.int .u64 (((x + B64 - y - c) % B64 : Nat) : Int), .int .u64 ((if x < y + c then 1 else 0 : Nat) : Int)])) w := by
  rw [run_callFunc_extern Try.func103 (by kernel_rfl) (by kernel_rfl) (by kernel_rfl) (e := sub64Entry) (by kernel_rfl)]
  have : c = 0 ∨ c = 1 := by omega
  rcases this with rfl | rfl <;> rfl
theorem three64_inv {f : Nat → Nat → Nat → Nat × Nat} {args rs : List PV} (h : three64 f args = some rs) : ∃ x y c : Nat, args = [.one (.sc (.int .u64 (x : Int))), .one (.sc (.int .u64 (y : Int))), .one (.sc (.int .u64 (c : Int)))] ∧ c ≤ 1 ∧ rs = [.one (.sc (.int .u64 ((f x y c).1 : Nat))), .one (.sc (.int .u64 ((f x y c).2 : Nat)))] := by
  unfold three64 at h
  split at h
  · rename_i x y c
    split at h
    · rename_i hx
      cases h
      refine ⟨x.toNat, y.toNat, c.toNat, ?_, by omega, rfl⟩
      rw [Int.toNat_of_nonneg hx.1, Int.toNat_of_nonneg hx.2.1, Int.toNat_of_nonneg hx.2.2.1]
    · cases h
  · cases h
theorem three_args {w : World} {S : Nat → Nat → Prop} {x y z : Value} {vs : List Value} (h : RelL (PR w S) [.one (.sc x), .one (.sc y), .one (.sc z)] vs) : vs = [x, y, z] := by
  obtain ⟨u, hu, h1⟩ := h.get (i := 0) rfl
  obtain ⟨v, hv, h2⟩ := h.get (i := 1) rfl
  obtain ⟨t, ht, h3⟩ := h.get (i := 2) rfl
  have hl := h.1
  have e1 : u = x := dr_sc h1
  have e2 : v = y := dr_sc h2
  have e3 : t = z := dr_sc h3
  match vs, hl with
  | [a, b, c], _ =>
    simp only [List.getElem?_cons_zero, List.getElem?_cons_succ, Option.some.injEq] at hu hv ht
    rw [hu, hv, ht, e1, e2, e3]
theorem two_out {w : World} {S : Nat → Nat → Prop} (x y : Int) : PRs w S [.one (.sc (.int .u64 x)), .one (.sc (.int .u64 y))] (.tuple #[.int .u64 x, .int .u64 y]) :=
  ⟨[.int .u64 x, .int .u64 y], rfl, RelL.cons (DR.sc rfl) (RelL.cons (DR.sc rfl) RelL.nil)⟩
theorem ok100 (args rs : List PV) (h : x100 args = some rs) : FnOk Try.prog 100 args rs := by
  obtain ⟨x, y, c, rfl, hc, rfl⟩ := three64_inv h
  intro w S vs hS hargs
  obtain rfl := three_args hargs
  exact .inr ⟨_, w, run100 x y c hc w, Below.refl _ _, two_out _ _⟩
theorem ok103 (args rs : List PV) (h : x103 args = some rs) : FnOk Try.prog 103 args rs := by
  obtain ⟨x, y, c, rfl, hc, rfl⟩ := three64_inv h
  intro w S vs hS hargs
  obtain rfl := three_args hargs
  exact .inr ⟨_, w, run103 x y c hc w, Below.refl _ _, two_out _ _⟩
end Go.Proofs.Ytpanbfainilmpaa.Ev.N
