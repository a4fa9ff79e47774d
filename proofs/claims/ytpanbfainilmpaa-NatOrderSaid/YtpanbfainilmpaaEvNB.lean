/- Words for the walks through the numbers' functions. -/
import Derived.Test.YtpanbfainilmpaaEvN2
import Derived.Test.YtpanbfainilmpaaEvM0
set_option linter.unusedVariables false
set_option linter.unusedSimpArgs false
set_option maxRecDepth 100000
namespace Go.Proofs.Ytpanbfainilmpaa.Ev.N
open Go Go.Proofs.Ytpanbfainilmpaa.Ev

theorem iter {α : Type} {F : Nat → α} {m k : Nat} (h : m ≤ k) (step : ∀ i, m ≤ i → i < k → F i = F (i + 1)) : F m = F k := by
  induction k with
  | zero => obtain rfl : m = 0 := by omega
            rfl
  | succ k ih =>
    rcases Nat.lt_or_ge k m with hk | hk
    · obtain rfl : m = k + 1 := by omega
      rfl
    · rw [ih hk (fun i h1 h2 => step i h1 (by omega)), step k hk (by omega)]
theorem ltT {i n : Nat} (h : i < n) : decide ((i : Int) < (n : Int)) = true := by simp; omega
theorem ltF {i n : Nat} (h : n ≤ i) : decide ((i : Int) < (n : Int)) = false := by simp; omega
theorem getn {l : List Nat} {i : Nat} (h : i < l.length) : (l.map n64)[i]? = some [D.sc (.int .u64 (l[i] : Nat))] := by simp [h, n64]
theorem tk64 (l : List Nat) (n : Nat) : (l.map n64).take n = (l.take n).map n64 := by rw [List.map_take]
theorem dr64 (l : List Nat) (n : Nat) : (l.map n64).drop n = (l.drop n).map n64 := by rw [List.map_drop]
theorem app64 (l m : List Nat) : l.map n64 ++ m.map n64 = (l ++ m).map n64 := by rw [List.map_append]
theorem all64 (l : List Nat) : ((l.map n64).all fun e => e.length == 1) = true := by simp [n64]
theorem wrap_u64 (n : Nat) : IntKind.u64.wrap (n : Int) = ((n % B64 : Nat) : Int) := by
  show ((n : Int) % 18446744073709551616) = _
  rw [show B64 = 18446744073709551616 from rfl]; omega
theorem wrap_u64_lt {n : Nat} (h : n < B64) : IntKind.u64.wrap (n : Int) = (n : Int) := by rw [wrap_u64, Nat.mod_eq_of_lt h]
theorem wrap_u64_sub {a b : Nat} (hb : b ≤ B64) : IntKind.u64.wrap ((a : Int) - (b : Int)) = (((a + B64 - b) % B64 : Nat) : Int) := by
  show (((a : Int) - (b : Int)) % 18446744073709551616) = _
  have hB : B64 = 18446744073709551616 := rfl
  rw [hB] at hb ⊢
  omega
theorem wrap_i64_pred (n : Nat) (h : n < 2305843009213693952) : IntKind.i64.wrap ((n : Int) - 1) = (n : Int) - 1 := wrap_i64 _ (by omega) (by omega)
theorem castL (n : Nat) : ((no_index (OfNat.ofNat n) : Nat) : Int) = OfNat.ofNat n := rfl
/-- bounds for an append -/
theorem mbk {n m b : Nat} (h : n ≤ 10000000) (k : m ≤ n) (hb : b ≤ 1000) : (m * b ≤ maxBytes) = True := by
  have h1 : maxBytes = 140737488355328 := rfl
  rw [h1]
  have : m * b ≤ 10000000 * 1000 := Nat.mul_le_mul (by omega) hb
  exact eq_true (by omega)
def tS (n sz : Nat) : Nat := if n = 0 then 0 else sz
theorem tS0 (sz : Nat) : tS 0 sz = 0 := rfl
theorem tS1 (n sz : Nat) : tS (n + 1) sz = sz := rfl
theorem tSok (n sz : Nat) : (tS n sz = sz ∨ tS n sz = 0) = True := by unfold tS; split <;> simp

/-! ### the functions that are not walked here -/
theorem two64_eq {f : List Nat → List Nat → Option (List PV)} {a b : List Nat} (ha : Limbs a) (hb : Limbs b) (la : a.length ≤ 1000000) (lb : b.length ≤ 1000000) : two64 f [(PV.one (D.sl (List.map n64 (a)))), (PV.one (D.sl (List.map n64 (b))))] = f a b := by
  unfold two64
  simp only [un64_map ha, un64_map hb, Option.bind_some, la, lb, and_self, if_true]
theorem Add66 {a b : List Nat} (ha : Limbs a) (hb : Limbs b) (la : a.length ≤ 1000000) (lb : b.length ≤ 1000000) : (KL AA XX).call 66 [(PV.one (D.sl (List.map n64 (a)))), (PV.one (D.sl (List.map n64 (b))))] = some [(PV.one (D.sl (List.map n64 (dig (val a + val b)))))] := by
  rw [CALL_x AA XX (e := x66) rfl]
  exact two64_eq ha hb la lb
theorem Sub63 {a b : List Nat} (ha : Limbs a) (hb : Limbs b) (la : a.length ≤ 1000000) (lb : b.length ≤ 1000000) : (KL AA XX).call 63 [(PV.one (D.sl (List.map n64 (a)))), (PV.one (D.sl (List.map n64 (b))))] = some (subV (val a) (val b)) := by
  rw [CALL_x AA XX (e := x63) rfl]
  exact two64_eq ha hb la lb
theorem Cmp67 {a b : List Nat} (ha : Limbs a) (hb : Limbs b) (la : a.length ≤ 1000000) (lb : b.length ≤ 1000000) : (KL AA XX).call 67 [(PV.one (D.sl (List.map n64 (a)))), (PV.one (D.sl (List.map n64 (b))))] = some [(PV.one (D.sc (Value.int IntKind.i64 (cmpI (val a) (val b)))))] := by
  rw [CALL_x AA XX (e := x67) rfl]
  exact two64_eq ha hb la lb
theorem Add100 (x y : Nat) {c : Nat} (hc : c ≤ 1) : (KL AA XX).call 100 [(PV.one (D.sc (Value.int IntKind.u64 ((x : Nat))))), (PV.one (D.sc (Value.int IntKind.u64 ((y : Nat))))), (PV.one (D.sc (Value.int IntKind.u64 ((c : Nat)))))] = some [(PV.one (D.sc (Value.int IntKind.u64 (((x + y + c) % B64 : Nat))))), (PV.one (D.sc (Value.int IntKind.u64 (((x + y + c) / B64 : Nat)))))] := by
  rw [CALL_x AA XX (e := x100) rfl]
  unfold x100 three64
  simp only [Int.toNat_natCast]
  rw [if_pos ⟨by omega, by omega, by omega, by omega⟩]
theorem Sub103 (x y : Nat) {c : Nat} (hc : c ≤ 1) : (KL AA XX).call 103 [(PV.one (D.sc (Value.int IntKind.u64 ((x : Nat))))), (PV.one (D.sc (Value.int IntKind.u64 ((y : Nat))))), (PV.one (D.sc (Value.int IntKind.u64 ((c : Nat)))))] = some [(PV.one (D.sc (Value.int IntKind.u64 (((x + B64 - y - c) % B64 : Nat))))), (PV.one (D.sc (Value.int IntKind.u64 (((if x < y + c then 1 else 0 : Nat) : Nat)))))] := by
  rw [CALL_x AA XX (e := x103) rfl]
  unfold x103 three64
  simp only [Int.toNat_natCast]
  rw [if_pos ⟨by omega, by omega, by omega, by omega⟩]

/-! ### a byte of a string -/
def sidxB (nx : Nat) : Option UInt8 → Option Re
  | some b => some ⟨.c (.d (.sc (.int .u8 b.toNat))), [], [], nx⟩
  | none => none
def sidxS (nx : Nat) (i : Int) : AV → Option Re
  | .c (.d (.sc (.string s))) => if 0 ≤ i then sidxB nx s[i.toNat]? else none
  | _ => none
theorem evOp_sidx (K : Or) (dr : Bool) (f : Fr) (h : Hp) (nx : Nat) (x i : AO) : evOp K dr f h nx (.sidx x i) = bindO (asInt (i.ev f)) fun q => sidxS nx q.2 (x.ev f) := by
  show bindO _ _ = bindO _ _
  congr 1
theorem sidxS_s (nx : Nat) (i : Int) (s : ByteArray) : sidxS nx i (.c (.d (.sc (.string s)))) = if 0 ≤ i then sidxB nx s[i.toNat]? else none := rfl
theorem sidxB_some (nx : Nat) (b : UInt8) : sidxB nx (some b) = some ⟨.c (.d (.sc (.int .u8 b.toNat))), [], [], nx⟩ := rfl

/-! ### and, or -/
def bandI (k : IntKind) (a b : Int) : Int := k.wrap (BitVec.ofInt k.bits a &&& BitVec.ofInt k.bits b).toNat
def borI (k : IntKind) (a b : Int) : Int := k.wrap (BitVec.ofInt k.bits a ||| BitVec.ofInt k.bits b).toNat
theorem bin_andI (k : IntKind) (a b : Int) : evBin .and (.int k a) (.int k b) = some (.int k (bandI k a b)) := bin_and k a b
theorem bin_orI (k : IntKind) (a b : Int) : evBin .or (.int k a) (.int k b) = some (.int k (borI k a b)) := bin_or k a b
theorem and64 (x : Int) (m : Nat) : (BitVec.ofInt 64 x &&& BitVec.ofInt 64 (m : Int)).toNat = (x % 18446744073709551616).toNat &&& (m % 18446744073709551616) := by
  rw [BitVec.toNat_and, BitVec.toNat_ofInt, BitVec.toNat_ofInt]
  congr 1
theorem and_one64 (x : Int) : (((BitVec.ofInt 64 x &&& BitVec.ofInt 64 1).toNat : Nat) : Int) = x % 2 := by
  have := and64 x 1
  rw [show ((1 : Nat) : Int) = 1 from rfl] at this
  rw [this, show 1 % 18446744073709551616 = 1 from rfl, Nat.and_one_is_mod]
  omega
theorem bandI_u1 (x : Nat) : bandI .u64 (x : Int) 1 = ((x % 2 : Nat) : Int) := by
  unfold bandI
  rw [show (((BitVec.ofInt IntKind.u64.bits (x : Int) &&& BitVec.ofInt IntKind.u64.bits 1).toNat : Nat) : Int) = (x : Int) % 2 from and_one64 x, show (x : Int) % 2 = ((x % 2 : Nat) : Int) by omega]
  exact wrap_u64_lt (Nat.lt_trans (Nat.mod_lt _ (by decide)) (by decide))
theorem bandI_i1 (x : Int) : bandI .i64 x 1 = x % 2 := by
  unfold bandI
  rw [show (((BitVec.ofInt IntKind.i64.bits x &&& BitVec.ofInt IntKind.i64.bits 1).toNat : Nat) : Int) = x % 2 from and_one64 x]
  exact wrap_i64 _ (by omega) (by omega)
theorem borI_u {a c : Nat} (ha : a < B64) (hc : c < B64) : borI .u64 (a : Int) (c : Int) = ((a ||| c : Nat) : Int) := by
  unfold borI
  have : (BitVec.ofInt IntKind.u64.bits (a : Int) ||| BitVec.ofInt IntKind.u64.bits (c : Int)).toNat = a ||| c := by
    show (BitVec.ofInt 64 (a : Int) ||| BitVec.ofInt 64 (c : Int)).toNat = _
    rw [BitVec.toNat_or, BitVec.toNat_ofInt, BitVec.toNat_ofInt]
    have hB : B64 = 18446744073709551616 := rfl
    rw [hB] at ha hc
    have e1 : ((a : Int) % ((2 ^ 64 : Nat) : Int)).toNat = a := by omega
    have e2 : ((c : Int) % ((2 ^ 64 : Nat) : Int)).toNat = c := by omega
    rw [e1, e2]
  rw [this]
  exact wrap_u64_lt (Nat.or_lt_two_pow (n := 64) ha hc)
theorem min32u : min 32 IntKind.u64.bits = 32 := rfl
theorem min64 {s : Nat} (h : s < 64) : min s 64 = s := by omega
end Go.Proofs.Ytpanbfainilmpaa.Ev.N
