/- The iterator over two numbers' limbs: its contract. -/
import Derived.RangeFuncNested
import Derived.RangeFuncBound
import Derived.RangeFuncCalls
import Derived.RangeFuncLeaves
import Derived.RangeFuncBox
import Derived.Shelf.Abstract
import Derived.Shelf.RegionOpen
import Derived.WalkKit
import Derived.OwnWalkIn
import Derived.TacticsInMore
import Derived.LoopNIn
import Derived.LoopIn
import Derived.Maps.AppendAt
import Derived.Test.YtpanbfainilmpaaProg
import Derived.Test.YtpanbfainilmpaaEvM1
import Derived.Test.YtpanbfainilmpaaEv13
set_option linter.unusedVariables false
set_option linter.unusedSimpArgs false
namespace Go.Proofs.Ytpanbfainilmpaa.Ev.N
open Go Go.Proofs Go.RowKit Go.Shelf Go.Proofs.Ytpanbfainilmpaa.Ev
attribute [local go_sem] Oper.semAt_some

/-- What has come when k rounds are over. -/
def upto {α : Type} (f : Nat → α) (k : Nat) : List α := (List.range k).map f
theorem upto_succ {α : Type} (f : Nat → α) (k : Nat) : upto f (k + 1) = upto f k ++ [f k] := by simp [upto, List.range_succ]
theorem upto_length {α : Type} (f : Nat → α) (k : Nat) : (upto f k).length = k := by simp [upto]

/-- The slice value holds these limbs, below n₀. -/
def HL (n₀ : Nat) (W : World) (p : Option Addr) (l : List Nat) : Prop :=
  ∀ j, j < l.length → ∃ b off, p = some ⟨b, off, none⟩ ∧ b < n₀ ∧ W.cell? ⟨b, off + j, none⟩ = some (.int .u64 (limb l j : Nat))
theorem HL.below {n₀ : Nat} {A B : World} (h : Below n₀ A B) {p : Option Addr} {l : List Nat} (hl : HL n₀ A p l) : HL n₀ B p l := fun j hj => by
  obtain ⟨b, off, e, hb, hc⟩ := hl j hj
  exact ⟨b, off, e, hb, (h.cell (p := ⟨b, off + j, none⟩) hb).trans hc⟩
/-- What a round keeps: what lay below n₀, and the two boxes. -/
def KpB (n₀ Ba Bb : Nat) (W W' : World) : Prop := Below n₀ W W' ∧ W'.heap[Ba]? = W.heap[Ba]? ∧ W'.heap[Bb]? = W.heap[Bb]?
theorem KpB.refl (n₀ Ba Bb : Nat) (W : World) : KpB n₀ Ba Bb W W := ⟨Below.refl _ _, rfl, rfl⟩
theorem KpB.trans {n₀ Ba Bb : Nat} {A B C : World} (h : KpB n₀ Ba Bb A B) (k : KpB n₀ Ba Bb B C) : KpB n₀ Ba Bb A C := ⟨h.1.trans k.1, k.2.1.trans h.2.1, k.2.2.trans h.2.2⟩
theorem KpB.book {n₀ Ba Bb : Nat} {w : World} (hn : n₀ ≤ w.heap.size) (ha : Ba < w.heap.size) (hb : Bb < w.heap.size) (W : World) (l : Nat) (o o' : Obj) (hl : w.heap.size ≤ l) (h : W.heap[l]? = some o) (hc : o.isCells = false) (hw : o.isWalk = false) : KpB n₀ Ba Bb W (W.putObj l o') :=
  ⟨belowK_b hn W l o o' hl h hc hw, World.putObj_heap_other (by omega), World.putObj_heap_other (by omega)⟩
abbrev UU := { p : Nat × Nat // p.1 < B64 ∧ p.2 < B64 }
abbrev encs (x : UU) : Array Value := #[.int .u64 (x.1.1 : Int), .int .u64 (x.1.2 : Int)]
abbrev prs {a b : List Nat} (ha : Limbs a) (hb : Limbs b) (j : Nat) : UU := ⟨(limb a j, limb b j), limb_lt ha j, limb_lt hb j⟩

set_option maxRecDepth 100000 in
set_option maxHeartbeats 4000000 in
theorem limbs1_in (F : Fence) (n : Nat) (h7 : F.fn 122) (hro : F.round = none) (hn : 1 ≤ n) (l Ba Bb n₀ : Nat) (pa pb : Option Addr) (ca cb : Nat) (a b : List Nat) (ha : Limbs a) (hb : Limbs b) (la : a.length ≤ 1000000) (lb : b.length ≤ 1000000) (J Jx : List UU → World → Prop)
    (hY : ∀ pre x W, J pre W → pre.length < max a.length b.length → YieldAt F (n - 1) Try.prog l (encs x) W fun e W' =>
      (e = .returned (.bool true) ∧ J (pre ++ [x]) W' ∧ KpB n₀ Ba Bb W W') ∨ (e = .returned (.bool false) ∧ Jx (pre ++ [x]) W'))
    (W : World) (hBa : W.cell? ⟨Ba, 0, none⟩ = some (.slice pa a.length ca)) (hBb : W.cell? ⟨Bb, 0, none⟩ = some (.slice pb b.length cb)) (hca : HL n₀ W pa a) (hcb : HL n₀ W pb b) (h0 : J [] W) :
    CallsIn F n Try.prog 122 #[.func (.yield l) #[] #[], .pointer (some ⟨Ba, 0, none⟩), .pointer (some ⟨Bb, 0, none⟩)] W fun e W' => (∃ v, e = .returned v) ∧
      ((∃ ys, ys = upto (prs ha hb) (max a.length b.length) ∧ J ys W') ∨ (∃ pre, (∃ k, k ≤ max a.length b.length ∧ pre = upto (prs ha hb) k) ∧ Jx pre W')) := by
  refine callsIn_of_wp Try.func122 rfl h7 ?_ hro
  simp only [Try.ntmps122, List.size_toArray, List.length_cons, List.length_nil, Nat.reduceAdd, Nat.reduceSub, Array.replicate_succ, Array.replicate_zero, List.push_toArray, List.append_toArray, List.nil_append, List.cons_append]
  rcases Nat.lt_or_ge a.length b.length with hab | hab
  · have hm : max a.length b.length = b.length := by omega
    rw [hm] at hY ⊢
    gi_wp2
    gi_loopw [12] (fun i wr => ∃ k : Nat, k ≤ b.length ∧ i = .int .i64 k ∧ J (upto (prs ha hb) k) wr ∧ KpB n₀ Ba Bb W wr)
      (fun i _ => b.length - (intOf i).toNat)
    case atStart => exact ⟨0, Nat.zero_le _, rfl, h0, KpB.refl _ _ _ _⟩
    case round =>
      obtain ⟨k, hk, rfl, hJs, hnx⟩ := hrel
      by_cases hlt : k < b.length
      · obtain ⟨fn, tmps, assign, body, hy, hR⟩ := hY _ (prs ha hb k) wr hJs (by rw [upto_length]; exact hlt)
        have ha1 := (World.cell?_of_block (a := ⟨Ba, 0, none⟩) hnx.2.1).trans hBa
        have hb1 := (World.cell?_of_block (a := ⟨Bb, 0, none⟩) hnx.2.2).trans hBb
        obtain ⟨bb, ob, rfl, hbb, hcb'⟩ := hcb.below hnx.1 k hlt
        by_cases hka : k < a.length
        · obtain ⟨ba, oa, rfl, hba, hca'⟩ := hca.below hnx.1 k hka
          gi_wp2
          refine hR.mono ?_
          rintro e W3 (⟨rfl, hJ3, hk3⟩ | ⟨rfl, hJx3⟩)
          · gi_wp2
            go_roundw
            case rel => exact ⟨k + 1, by omega, by simp, by rw [upto_succ]; exact hJ3, hnx.trans hk3⟩
            case measure => simp [intOf]; omega
          · gi_wp2
            refine bodyPost_ret (results_none rfl _ _ _) rfl ?_
            exact ⟨⟨_, rfl⟩, .inr ⟨_, ⟨k + 1, by omega, (upto_succ _ _).symm⟩, hJx3⟩⟩
        · have hz : limb a k = 0 := limb_none (by omega)
          simp only [prs, encs, hz, Int.natCast_zero] at hy
          gi_wp2
          refine hR.mono ?_
          rintro e W3 (⟨rfl, hJ3, hk3⟩ | ⟨rfl, hJx3⟩)
          · gi_wp2
            go_roundw
            case rel => exact ⟨k + 1, by omega, by simp, by rw [upto_succ]; exact hJ3, hnx.trans hk3⟩
            case measure => simp [intOf]; omega
          · gi_wp2
            refine bodyPost_ret (results_none rfl _ _ _) rfl ?_
            exact ⟨⟨_, rfl⟩, .inr ⟨_, ⟨k + 1, by omega, (upto_succ _ _).symm⟩, hJx3⟩⟩
      · obtain rfl : k = b.length := by omega
        gi_wp2
        go_end0
        exact ⟨⟨_, rfl⟩, .inl ⟨_, rfl, hJs⟩⟩
  · have hm : max a.length b.length = a.length := by omega
    rw [hm] at hY ⊢
    gi_wp2
    gi_loopw [12] (fun i wr => ∃ k : Nat, k ≤ a.length ∧ i = .int .i64 k ∧ J (upto (prs ha hb) k) wr ∧ KpB n₀ Ba Bb W wr)
      (fun i _ => a.length - (intOf i).toNat)
    case atStart => exact ⟨0, Nat.zero_le _, rfl, h0, KpB.refl _ _ _ _⟩
    case round =>
      obtain ⟨k, hk, rfl, hJs, hnx⟩ := hrel
      by_cases hlt : k < a.length
      · obtain ⟨fn, tmps, assign, body, hy, hR⟩ := hY _ (prs ha hb k) wr hJs (by rw [upto_length]; exact hlt)
        have ha1 := (World.cell?_of_block (a := ⟨Ba, 0, none⟩) hnx.2.1).trans hBa
        have hb1 := (World.cell?_of_block (a := ⟨Bb, 0, none⟩) hnx.2.2).trans hBb
        obtain ⟨ba, oa, rfl, hba, hca'⟩ := hca.below hnx.1 k hlt
        by_cases hkb : k < b.length
        · obtain ⟨bb, ob, rfl, hbb, hcb'⟩ := hcb.below hnx.1 k hkb
          gi_wp2
          refine hR.mono ?_
          rintro e W3 (⟨rfl, hJ3, hk3⟩ | ⟨rfl, hJx3⟩)
          · gi_wp2
            go_roundw
            case rel => exact ⟨k + 1, by omega, by simp, by rw [upto_succ]; exact hJ3, hnx.trans hk3⟩
            case measure => simp [intOf]; omega
          · gi_wp2
            refine bodyPost_ret (results_none rfl _ _ _) rfl ?_
            exact ⟨⟨_, rfl⟩, .inr ⟨_, ⟨k + 1, by omega, (upto_succ _ _).symm⟩, hJx3⟩⟩
        · have hz : limb b k = 0 := limb_none (by omega)
          simp only [prs, encs, hz, Int.natCast_zero] at hy
          gi_wp2
          refine hR.mono ?_
          rintro e W3 (⟨rfl, hJ3, hk3⟩ | ⟨rfl, hJx3⟩)
          · gi_wp2
            go_roundw
            case rel => exact ⟨k + 1, by omega, by simp, by rw [upto_succ]; exact hJ3, hnx.trans hk3⟩
            case measure => simp [intOf]; omega
          · gi_wp2
            refine bodyPost_ret (results_none rfl _ _ _) rfl ?_
            exact ⟨⟨_, rfl⟩, .inr ⟨_, ⟨k + 1, by omega, (upto_succ _ _).symm⟩, hJx3⟩⟩
      · obtain rfl : k = a.length := by omega
        gi_wp2
        go_end0
        exact ⟨⟨_, rfl⟩, .inl ⟨_, rfl, hJs⟩⟩

set_option maxRecDepth 100000 in
set_option maxHeartbeats 1000000 in
/-- limbs(a, b): both slices are boxed; the function value captures the boxes. -/
theorem limbs_in (F : Fence) (n : Nat) (h5 : F.fn 102) (hro : F.round = none) (pa pb : Option Addr) (la ca lb cb : Nat) (w : World) :
    CallsIn F n Try.prog 102 #[.slice pa la ca, .slice pb lb cb] w fun e w' => e = .returned (.func (.func 122) #[] #[.pointer (some ⟨w.heap.size, 0, none⟩), .pointer (some ⟨w.heap.size + 1, 0, none⟩)]) ∧ w' = (w.alloc (.cells #[.slice pa la ca] 64)).alloc (.cells #[.slice pb lb cb] 64) := by
  refine callsIn_of_wp Try.func102 rfl h5 ?_ hro
  simp only [Try.ntmps102, List.size_toArray, List.length_cons, List.length_nil, Nat.reduceAdd, Nat.reduceSub, Array.replicate_succ, Array.replicate_zero, List.push_toArray, List.append_toArray, List.nil_append, List.cons_append]
  gi_wp2
  go_ret
  exact ⟨rfl, rfl⟩
/-- It hands back a value that gives all pairs of limbs, or the first ones. -/
theorem limbs_stops (F : Fence) (n : Nat) (h7 : F.fn 122) (hro : F.round = none) (hn : 1 ≤ n) (Ba Bb n₀ : Nat) (pa pb : Option Addr) (ca cb : Nat) (a b : List Nat) (ha : Limbs a) (hb : Limbs b) (la : a.length ≤ 1000000) (lb : b.length ≤ 1000000) (w : World)
    (hBa0 : Ba < w.heap.size) (hBb0 : Bb < w.heap.size) (hn₀ : n₀ ≤ w.heap.size) (hBa : w.cell? ⟨Ba, 0, none⟩ = some (.slice pa a.length ca)) (hBb : w.cell? ⟨Bb, 0, none⟩ = some (.slice pb b.length cb)) (hca : HL n₀ w pa a) (hcb : HL n₀ w pb b) :
    SeqStopsK F n Try.prog 122 #[.pointer (some ⟨Ba, 0, none⟩), .pointer (some ⟨Bb, 0, none⟩)] encs (KpB n₀ Ba Bb) (fun ys => ys = upto (prs ha hb) (max a.length b.length))
      (fun pre => ∃ k, k ≤ max a.length b.length ∧ pre = upto (prs ha hb) k) (max a.length b.length) w := fun l J Jx W hW _ _ hY h0 => by
  have hbw := hW.mono hn₀
  exact limbs1_in F n h7 hro hn l Ba Bb n₀ pa pb ca cb a b ha hb la lb J Jx hY W ((hW.cell (p := ⟨Ba, 0, none⟩) hBa0).trans hBa) ((hW.cell (p := ⟨Bb, 0, none⟩) hBb0).trans hBb) (hca.below hbw) (hcb.below hbw) h0
theorem dr_sc {w : World} {S : Nat → Nat → Prop} {x v : Value} (h : DR w S (.sc x) v) : v = x := by cases h; rfl
/-- What an argument by value says of its cells. -/
theorem HL.of {w : World} {S : Nat → Nat → Prop} (hS : ∀ b o, S b o → b < w.heap.size) {l : List Nat} {v : Value} (h : PR w S (nl l) v) : ∃ p c, v = .slice p l.length c ∧ HL w.heap.size w p l := by
  have h : DR w S (.sl (l.map n64)) v := h
  cases h with
  | @sl es a n c sz b o vs hn hc hsz ha hr =>
    rw [List.length_map] at hn
    subst hn
    refine ⟨a, c, rfl, fun j hj => ?_⟩
    have hg : (l.map n64)[j]? = some (n64 l[j]) := by simp [hj]
    have h1 := ha j _ 0 _ hg rfl
    have h2 := hr j _ 0 _ hg rfl
    have hs : sz = 1 := (hsz j _ hg).symm
    subst hs
    refine ⟨b, o, h1.1, hS _ _ h1.2.2, ?_⟩
    have e : vs j 0 = .int .u64 (l[j] : Int) := dr_sc h2
    rw [limb_get hj, ← e]
    simpa using h1.2.1
end Go.Proofs.Ytpanbfainilmpaa.Ev.N
