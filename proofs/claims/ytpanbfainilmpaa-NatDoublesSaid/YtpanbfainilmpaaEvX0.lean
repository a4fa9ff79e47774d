/- What the functions that are not walked here give: numbers as limbs. -/
import Derived.Test.YtpanbfainilmpaaEv0
set_option linter.unusedVariables false
set_option linter.unusedSimpArgs false
namespace Go.Proofs.Ytpanbfainilmpaa.Ev.N
open Go Go.Proofs.Ytpanbfainilmpaa.Ev
def B64 : Nat := 18446744073709551616
/-- What limbs are worth: the lowest first. -/
def val : List Nat → Nat
  | [] => 0
  | x :: l => x + B64 * val l
/-- The lowest k limbs of a number. -/
def digs (k n : Nat) : List Nat := (List.range k).map fun j => n / B64 ^ j % B64
/-- How many limbs it has. -/
def nlen (n : Nat) : Nat := if n = 0 then 0 else n.log2 / 64 + 1
/-- A number's limbs, without a nought on top. -/
def dig (n : Nat) : List Nat := digs (nlen n) n
abbrev n64 (x : Nat) : List D := [.sc (.int .u64 (x : Int))]
abbrev nl (l : List Nat) : PV := .one (.sl (l.map n64))
def un64 : List (List D) → Option (List Nat)
  | [] => some []
  | [.sc (.int .u64 x)] :: r => if 0 ≤ x ∧ x < 18446744073709551616 then (un64 r).map fun l => x.toNat :: l else none
  | _ => none
def two64 (f : List Nat → List Nat → Option (List PV)) : List PV → Option (List PV)
  | [.one (.sl a), .one (.sl b)] => (un64 a).bind fun a => (un64 b).bind fun b => if a.length ≤ 1000000 ∧ b.length ≤ 1000000 then f a b else none
  | _ => none
def cmpI (a b : Nat) : Int := if a < b then -1 else if b < a then 1 else 0
def subV (a b : Nat) : List PV := if b ≤ a then [nl (dig (a - b)), .one (.sc (.bool true))] else [nl [], .one (.sc (.bool false))]
/-- nat.Compare, nat.Add, nat.Sub (each ranges over a function) -/
def x67 : List PV → Option (List PV) := two64 fun a b => some [.one (.sc (.int .i64 (cmpI (val a) (val b))))]
def x66 : List PV → Option (List PV) := two64 fun a b => some [nl (dig (val a + val b))]
def x63 : List PV → Option (List PV) := two64 fun a b => some (subV (val a) (val b))
/-- bits.Add64, bits.Sub64 (without a text) -/
def three64 (f : Nat → Nat → Nat → Nat × Nat) : List PV → Option (List PV)
  | [.one (.sc (.int .u64 x)), .one (.sc (.int .u64 y)), .one (.sc (.int .u64 c))] => if 0 ≤ x ∧ 0 ≤ y ∧ 0 ≤ c ∧ c ≤ 1 then some [.one (.sc (.int .u64 ((f x.toNat y.toNat c.toNat).1 : Nat))), .one (.sc (.int .u64 ((f x.toNat y.toNat c.toNat).2 : Nat)))] else none
  | _ => none
def x100 : List PV → Option (List PV) := three64 fun x y c => ((x + y + c) % B64, (x + y + c) / B64)
def x103 : List PV → Option (List PV) := three64 fun x y c => ((x + B64 - y - c) % B64, if x < y + c then 1 else 0)
def XX : Nat → Option (List PV → Option (List PV))
  | 63 => some x63
  | 66 => some x66
  | 67 => some x67
  | 100 => some x100
  | 103 => some x103
  | _ => none
end Go.Proofs.Ytpanbfainilmpaa.Ev.N
