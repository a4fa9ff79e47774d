/- nat.Sub: its contract. -/
import Derived.Test.YtpanbfainilmpaaEvX4
set_option linter.unusedVariables false
set_option linter.unusedSimpArgs false
namespace Go.Proofs.Ytpanbfainilmpaa.Ev.N
open Go Go.Proofs Go.RowKit Go.Shelf Go.Proofs.Ytpanbfainilmpaa.Ev
attribute [local go_sem] Oper.semAt_some

theorem dr_nil {w : World} {S : Nat → Nat → Prop} : PR w S (nl []) (.slice none 0 0) :=
  show DR w S (.sl []) _ from .sl (sz := 1) (b := 0) (o := 0) (fun _ _ => .bool false) rfl (Nat.le_refl _) (fun _ _ h => by cases h) (fun _ _ _ _ h => by cases h) (fun _ _ _ _ h => by cases h)
def bst (x y c : Nat) : Nat := if x < y + c then 1 else 0
def subS (pre : List UU) : List Nat × Nat := pre.foldl (fun s p => (s.1 ++ [(p.1.1 + B64 - p.1.2 - s.2) % B64], bst p.1.1 p.1.2 s.2)) ([], 0)
theorem subS_snoc (pre : List UU) (x : UU) : subS (pre ++ [x]) = ((subS pre).1 ++ [(x.1.1 + B64 - x.1.2 - (subS pre).2) % B64], bst x.1.1 x.1.2 (subS pre).2) := by unfold subS; rw [List.foldl_append]; rfl
theorem subS_len (pre : List UU) : (subS pre).1.length = pre.length := by
  have : ∀ (pre : List UU) (s : List Nat × Nat), (pre.foldl (fun s p => (s.1 ++ [(p.1.1 + B64 - p.1.2 - s.2) % B64], bst p.1.1 p.1.2 s.2)) s).1.length = s.1.length + pre.length := by
    intro pre
    induction pre with
    | nil => intro s; rfl
    | cons x pre ih =>
      intro s
      rw [List.foldl_cons, ih]
      simp; omega
  have h := this pre ([], 0)
  simpa [subS] using h
theorem subS_cry (pre : List UU) : (subS pre).2 ≤ 1 := by
  have : ∀ (pre : List UU) (s : List Nat × Nat), s.2 ≤ 1 → (pre.foldl (fun s p => (s.1 ++ [(p.1.1 + B64 - p.1.2 - s.2) % B64], bst p.1.1 p.1.2 s.2)) s).2 ≤ 1 := by
    intro pre
    induction pre with
    | nil => intro s h; exact h
    | cons x pre ih =>
      intro s h
      rw [List.foldl_cons]
      apply ih
      show bst _ _ _ ≤ 1
      unfold bst
      split <;> omega
  exact this pre ([], 0) (Nat.zero_le _)
theorem subS_upto {a b : List Nat} (ha : Limbs a) (hb : Limbs b) {n : Nat} (hn : b.length ≤ n) (k : Nat) (hk : k ≤ n) : subS (upto (prs ha hb) k) = (digs k (val a + B64 ^ n - val b), bor (val a) (val b) k) := by
  have hB : val b < B64 ^ n := Nat.lt_of_lt_of_le (val_lt hb) (Nat.pow_le_pow_right B_pos hn)
  induction k with
  | zero => simp [upto, subS, digs, bor_zero]
  | succ k ih =>
    rw [upto_succ, subS_snoc, ih (by omega)]
    simp only [prs]
    unfold bst
    rw [limb_eq ha, limb_eq hb, ← dif_digit _ _ _ n (by omega) hB, ← bor_succ, digs_succ]
theorem fin_sub {a b : List Nat} (ha : Limbs a) (hb : Limbs b) : (bor (val a) (val b) (max a.length b.length) = if val a < val b then 1 else 0) ∧ (¬ val a < val b → val (digs (max a.length b.length) (val a + B64 ^ (max a.length b.length) - val b)) = val a - val b) := by
  have e1 : B64 ^ a.length ≤ B64 ^ max a.length b.length := Nat.pow_le_pow_right B_pos (by omega)
  have e2 : B64 ^ b.length ≤ B64 ^ max a.length b.length := Nat.pow_le_pow_right B_pos (by omega)
  have hA := Nat.lt_of_lt_of_le (val_lt ha) e1
  have hB := Nat.lt_of_lt_of_le (val_lt hb) e2
  refine ⟨?_, fun h => ?_⟩
  · unfold bor
    rw [Nat.mod_eq_of_lt hA, Nat.mod_eq_of_lt hB]
  · rw [val_digs, show val a + B64 ^ max a.length b.length - val b = val a - val b + B64 ^ max a.length b.length by omega, Nat.add_mod_right, Nat.mod_eq_of_lt (by omega)]
set_option maxRecDepth 100000 in
set_option maxHeartbeats 4000000 in
theorem Sub_in (pa pb : Option Addr) (ca cb : Nat) (a b : List Nat) (ha : Limbs a) (hb : Limbs b) (la : a.length ≤ 1000000) (lb : b.length ≤ 1000000) (w : World) (hA : HL w.heap.size w pa a) (hB : HL w.heap.size w pb b) :
    CallsIn Fence.wide 5 Try.prog 63 #[.slice pa a.length ca, .slice pb b.length cb] w fun e W' => ∃ v, e = .returned v ∧ Below w.heap.size w W' ∧ PRs W' (fun b _ => w.heap.size ≤ b ∧ b < W'.heap.size) (subV (val a) (val b)) v := by
  refine callsIn_of_wp_marks Try.func63 rfl trivial ?_ rfl
  obtain ⟨i0, hi, hz0, hz1, hz2⟩ := info_parts info66
  simp only [Try.ntmps63, List.size_toArray, List.length_cons, List.length_nil, Nat.reduceAdd, Nat.reduceSub, Array.replicate_succ, Array.replicate_zero, List.push_toArray, List.append_toArray, List.nil_append, List.cons_append]
  gi_wp2_with (refine ⟨trivial, ?_⟩; gi_at_call 102; refine (limbs_in Fence.wide 4 trivial rfl _ _ _ _ _ _ _).mono ?_; rintro e w' ⟨rfl, rfl⟩)
  obtain ⟨W0, hW0⟩ : ∃ W0, ((((w.alloc (.cells #[.slice none 0 0] 64)).alloc (.cells #[.int .u64 0] 66)).alloc (.cells #[.int .u64 0] 66)).alloc (.cells #[.slice pa a.length ca] 64)).alloc (.cells #[.slice pb b.length cb] 64) = W0 := ⟨_, rfl⟩
  have hsz : W0.heap.size = w.heap.size + 5 := by rw [← hW0]; simp
  have hB0 : Below w.heap.size w W0 := by
    rw [← hW0]
    exact (((((Below.refl _ w).alloc (Nat.le_refl _) _).alloc (by simp) _).alloc (by simp; omega) _).alloc (by simp; omega) _).alloc (by simp; omega) _
  have bO0 : Boxed W0 w.heap.size 64 (.slice none 0 0) := by rw [← hW0]; exact ((((Boxed.new w _ _).alloc _).alloc _).alloc _).alloc _
  have bN0 : Boxed W0 (w.heap.size + 1) 66 (.int .u64 0) := by
    rw [← hW0]
    have := Boxed.new (w.alloc (.cells #[.slice none 0 0] 64)) 66 (.int .u64 0)
    rw [World.size_alloc] at this
    exact ((this.alloc _).alloc _).alloc _
  have bC0 : Boxed W0 (w.heap.size + 1 + 1) 66 (.int .u64 0) := by
    rw [← hW0]
    have := Boxed.new ((w.alloc (.cells #[.slice none 0 0] 64)).alloc (.cells #[.int .u64 0] 66)) 66 (.int .u64 0)
    rw [World.size_alloc, World.size_alloc] at this
    exact (this.alloc _).alloc _
  have bA0 : Boxed W0 (w.heap.size + 1 + 1 + 1) 64 (.slice pa a.length ca) := by
    rw [← hW0]
    have := Boxed.new (((w.alloc (.cells #[.slice none 0 0] 64)).alloc (.cells #[.int .u64 0] 66)).alloc (.cells #[.int .u64 0] 66)) 64 (.slice pa a.length ca)
    rw [World.size_alloc, World.size_alloc, World.size_alloc] at this
    exact this.alloc _
  have bB0 : Boxed W0 (w.heap.size + 1 + 1 + 1 + 1) 64 (.slice pb b.length cb) := by
    rw [← hW0]
    have := Boxed.new ((((w.alloc (.cells #[.slice none 0 0] 64)).alloc (.cells #[.int .u64 0] 66)).alloc (.cells #[.int .u64 0] 66)).alloc (.cells #[.slice pa a.length ca] 64)) 64 (.slice pb b.length cb)
    rw [World.size_alloc, World.size_alloc, World.size_alloc, World.size_alloc] at this
    exact this
  rw [hW0]
  clear hW0
  refine wpIn_rangeFunc_ownG rfl (by omega) (gf := 122) (lb := #[.pointer (some ⟨w.heap.size + 1 + 1 + 1, 0, none⟩), .pointer (some ⟨w.heap.size + 1 + 1 + 1 + 1, 0, none⟩)]) rfl trivial (enters_of Try.func122 (by kernel_rfl) rfl)
    (limbs_stops Fence.wide 4 trivial rfl (by omega) (w.heap.size + 1 + 1 + 1) (w.heap.size + 1 + 1 + 1 + 1) w.heap.size pa pb ca cb a b ha hb la lb W0 (by omega) (by omega) (by omega) bA0.cell bB0.cell (hA.below hB0) (hB.below hB0)) KpB.trans (KpB.book (by omega) (by omega) (by omega)) (Below.refl _ _) (fun _ => rfl)
    (fun pre W => ((∃ v, Boxed W w.heap.size 64 v ∧ W.ownsRow W0.heap.size 66 1 v (subS pre).1.length ((subS pre).1.map fun x : Nat => Value.int .u64 (x : Int)) ∧ True) ∧ (∃ y : Nat, Boxed W (w.heap.size + 1) 66 (.int .u64 (y : Int))) ∧ Boxed W (w.heap.size + 1 + 1) 66 (.int .u64 ((subS pre).2 : Int))) ∧ Below w.heap.size W0 W)
    (fun _ _ _ => False)
    (OwnFrom.and (Own.from (fun s A B row hs hg hr => ⟨holdsRow_own W0.heap.size w.heap.size 64 66 1 (fun pre : List UU => (subS pre).1.length) (fun pre => (subS pre).1.map fun x : Nat => Value.int .u64 (x : Int)) (fun _ _ => True) s A B row hs.1 hg hr, hs.2.1.imp fun y hy => hy.kept hg (fun e => by obtain ⟨o, ho, hc⟩ := hr _ e.symm; rw [show A.heap[_]? = _ from hy] at ho; cases ho; cases hc), hs.2.2.kept hg (fun e => by obtain ⟨o, ho, hc⟩ := hr _ e.symm; rw [show A.heap[_]? = _ from hs.2.2] at ho; cases ho; cases hc)⟩) _) (ownFrom_below (by omega) (by omega)))
    (fun _ _ _ _ _ hs _ _ => hs)
    ⟨⟨⟨_, bO0, World.ownsRow_nil _ _ _ _, trivial⟩, ⟨0, bN0⟩, bC0⟩, Below.refl _ _⟩
    (fun x => { tmps := #[.slice pa a.length ca, .slice pb b.length cb, undef, undef, .slice none 0 0, .bool false, .pointer (some ⟨w.heap.size, 0, none⟩), .pointer (some ⟨w.heap.size + 1, 0, none⟩), .pointer (some ⟨w.heap.size + 1 + 1, 0, none⟩), .int .u64 (x.1.1 : Int), .int .u64 (x.1.2 : Int), .slice pa a.length ca, .slice pb b.length cb, .func (.func 122) #[] #[.pointer (some ⟨w.heap.size + 1 + 1 + 1, 0, none⟩), .pointer (some ⟨w.heap.size + 1 + 1 + 1 + 1, 0, none⟩)], .int .u64 (x.1.1 : Int), .int .u64 (x.1.2 : Int), undef, undef, undef, undef, undef, undef, undef, undef, undef, undef, undef, undef, undef, undef, undef], defers := [] }) ?assign ?body ?done ?stop
  case assign =>
    intro l x W K hK
    gi_wp2
    exact hK
  case body =>
    rintro l pre x W ⟨⟨⟨v, hv, hrow, _⟩, ⟨y, hn⟩, hc⟩, hBW⟩ hlt
    have hadd := run103 x.1.1 x.1.2 (subS pre).2 (subS_cry pre)
    rw [show (if x.1.1 < x.1.2 + (subS pre).2 then 1 else 0) = bst x.1.1 x.1.2 (subS pre).2 from rfl] at hadd
    obtain ⟨d, hd⟩ : ∃ d, (x.1.1 + B64 - x.1.2 - (subS pre).2) % B64 = d := ⟨_, rfl⟩
    obtain ⟨e, he⟩ : ∃ e, (bst x.1.1 x.1.2 (subS pre).2) = e := ⟨_, rfl⟩
    have hsn := subS_snoc pre x
    have hlen := subS_len pre
    rw [hd, he] at hadd hsn
    obtain ⟨c0, hc0⟩ : ∃ c0, (subS pre).2 = c0 := ⟨_, rfl⟩
    rw [hc0] at hadd hc
    obtain ⟨o, ho⟩ : ∃ o, (subS pre).1 = o := ⟨_, rfl⟩
    rw [ho] at hrow hsn hlen
    clear hd he
    have hvc := hv.cell
    have hnc := hn.cell
    have hnf := hn.frozen
    have hcc := hc.cell
    have hcf := hc.frozen
    have hm1 : some (w.heap.size + 1) ≠ v.ownBlock := own_ne hrow (by omega)
    have hm2 : some (w.heap.size + 1 + 1) ≠ v.ownBlock := own_ne hrow (by omega)
    have hm0 : some w.heap.size ≠ v.ownBlock := own_ne hrow (by omega)
    have hv1 : Boxed (W.setCell ⟨w.heap.size + 1, 0, none⟩ (.int .u64 (d : Int))) w.heap.size 64 v := hv.kept (grownBy_setCell' W _ _) (by simp)
    have hv2 : Boxed ((W.setCell ⟨w.heap.size + 1, 0, none⟩ (.int .u64 (d : Int))).setCell ⟨w.heap.size + 1 + 1, 0, none⟩ (.int .u64 (e : Int))) w.heap.size 64 v := hv1.kept (grownBy_setCell' _ _ _) (by simp; omega)
    have hc1 : Boxed (W.setCell ⟨w.heap.size + 1, 0, none⟩ (.int .u64 (d : Int))) (w.heap.size + 1 + 1) 66 (.int .u64 (c0 : Int)) := hc.kept (grownBy_setCell' W _ _) (by simp)
    have hc2 : Boxed ((W.setCell ⟨w.heap.size + 1, 0, none⟩ (.int .u64 (d : Int))).setCell ⟨w.heap.size + 1 + 1, 0, none⟩ (.int .u64 (e : Int))) (w.heap.size + 1 + 1) 66 (.int .u64 (e : Int)) := hc1.set _
    have hn1 : Boxed (W.setCell ⟨w.heap.size + 1, 0, none⟩ (.int .u64 (d : Int))) (w.heap.size + 1) 66 (.int .u64 (d : Int)) := hn.set _
    have hn2 : Boxed ((W.setCell ⟨w.heap.size + 1, 0, none⟩ (.int .u64 (d : Int))).setCell ⟨w.heap.size + 1 + 1, 0, none⟩ (.int .u64 (e : Int))) (w.heap.size + 1) 66 (.int .u64 (d : Int)) := hn1.kept (grownBy_setCell' _ _ _) (by simp)
    have hrow1 := hrow.kept (grownBy_setCell' W (w.heap.size + 1) (.int .u64 (d : Int))) (.inr hm1.symm)
    have hrow2 := hrow1.kept (grownBy_setCell' _ (w.heap.size + 1 + 1) (.int .u64 (e : Int))) (.inr hm2.symm)
    have hc1c := hc1.cell
    have hc1f := hc1.frozen
    have hv2c := hv2.cell
    have hn2c := hn2.cell
    have hW := hBW.size
    have hml : 1000001 ≤ maxLen := by decide +kernel
    have hpl : o.length ≤ 999999 := by omega
    have hnew := cell_one_new ((W.setCell ⟨w.heap.size + 1, 0, none⟩ (.int .u64 (d : Int))).setCell ⟨w.heap.size + 1 + 1, 0, none⟩ (.int .u64 (e : Int))) (.int .u64 (d : Int)) 66
    simp only [World.size_setCell] at hnew
    gi_wp2_with first
      | (refine ⟨trivial, ?_⟩)
      | (gi_at_builtin; refine wpListIn_append_own _ rfl _ _ 64 rfl W0.heap.size 66 i0 (.int .u64 0) 1 8 Try.underlying64 hi hz0 hz1 hz2 rfl (by decide) _ _ _ rfl (hrow2.alloc _) ⟨W.heap.size, 0, none⟩ 1 1 [.int .u64 (d : Int)] rfl rfl hnew (by simp [Value.oneCell']) (by omega) (by omega) (by simp; omega) ?_; intro v' w1 hown' hgrow _; obtain ⟨g', cap', rfl⟩ := ownsRow_succ hown'; have hv3 := (hv2.alloc _).kept hgrow hm0; have hv3c := hv3.cell; have hv3f := hv3.frozen)
    obtain ⟨hk, hkp⟩ := step_world hrow2 hgrow (by omega) (by omega) (.slice (some ⟨g', 0, none⟩) (o.length + 1) cap')
    have hn3 := (hn2.alloc _).kept hgrow hm1
    have hc3 := (hc2.alloc _).kept hgrow hm2
    rw [← hlen]
    refine ⟨hk.from _, hkp, ⟨⟨_, hv3.set _, ?_, trivial⟩, ⟨d, hn3.kept (grownBy_setCell' _ _ _) (by simp)⟩, ?_⟩, hBW.trans hkp.1⟩
    · have h4 := hown'.kept (grownBy_setCell' w1 w.heap.size (.slice (some ⟨g', 0, none⟩) (o.length + 1) cap')) (.inr (own_ne hown' (by omega)).symm)
      rw [hsn]
      simpa using h4
    · rw [hsn]
      exact hc3.kept (grownBy_setCell' _ _ _) (by simp; omega)
  case done =>
    rintro D ys W hD rfl ⟨⟨⟨v, hv, hrow, _⟩, ⟨y, hn⟩, hc⟩, hBW⟩ hK
    have hsu := subS_upto ha hb (n := max a.length b.length) (by omega) (max a.length b.length) (Nat.le_refl _)
    rw [hsu] at hrow hc
    obtain ⟨hf1, hf2⟩ := fin_sub ha hb
    have hvc := hv.cell
    have hcc := hc.cell
    have hW := hBW.size
    have hdl := digs_len (max a.length b.length) (val a + B64 ^ (max a.length b.length) - val b)
    have hlm := digs_limbs (max a.length b.length) (val a + B64 ^ (max a.length b.length) - val b)
    obtain ⟨o, ho⟩ : ∃ o, digs (max a.length b.length) (val a + B64 ^ (max a.length b.length) - val b) = o := ⟨_, rfl⟩
    rw [ho] at hrow hdl hf2 hlm
    simp only at hrow hc hcc
    rw [hf1] at hcc
    by_cases hlt : val a < val b
    · rw [if_pos hlt] at hcc
      have hs : subV (val a) (val b) = [nl [], .one (.sc (.bool false))] := if_neg (by omega)
      simp only [Int.natCast_one, show ((1 : Nat) : Int) = 1 from rfl] at hcc
      gi_wp2
      refine ⟨by simp, .inl ⟨_, _, rfl, run_takeDeferred hK, ?_⟩⟩
      refine ⟨_, results_tmp2 rfl _ _ _, _, rfl, (hB0.trans hBW).trans (belowK_b (w := W0) (by omega) W D _ _ (by omega) hK rfl rfl), ?_⟩
      rw [hs]
      exact ⟨[.slice none 0 0, .bool false], rfl, RelL.cons dr_nil (RelL.cons (DR.sc rfl) RelL.nil)⟩
    · rw [if_neg hlt] at hcc
      have hs : subV (val a) (val b) = [nl (dig (val a - val b)), .one (.sc (.bool true))] := if_pos (by omega)
      simp only [show ((0 : Nat) : Int) = 0 from rfl] at hcc
      gi_wp2_with (refine ⟨trivial, ?_⟩; gi_at_call 68; refine (callsIn_wide.2 (trim68 (l := o) hlm (by omega) (base := W0.heap.size) (by omega) hrow)).mono ?_; rintro e w' ⟨v2, rfl, hb', hr⟩)
      have hK2 : w'.heap[D]? = some (.deferred (some [])) := (hb'.block D (Array.getElem?_eq_some_iff.1 hK).1).trans hK
      have hb'' := hb'.size
      have hDw : D < w'.heap.size := (Array.getElem?_eq_some_iff.1 hK2).1
      refine ⟨by simp, .inl ⟨_, _, rfl, run_takeDeferred hK2, ?_⟩⟩
      refine ⟨_, results_tmp2 rfl _ _ _, _, rfl, ((hB0.trans hBW).trans (hb'.mono (by omega))).trans (belowK_b (w := W0) (by omega) w' D _ _ (by omega) hK2 rfl rfl), ?_⟩
      rw [hs]
      rw [hf2 hlt] at hr
      have h2 : PRs (w'.putObj D (.deferred none)) (fun b _ => w.heap.size ≤ b ∧ b < (w'.putObj D (.deferred none)).heap.size) [nl (dig (val a - val b))] v2 := by
        refine PRs.move (fun b o u hs hu => ?_) hr
        have hbD : b ≠ D := by
          intro e
          subst e
          simp [World.cell?, hK2] at hu
        exact ⟨⟨by omega, by simp; omega⟩, (World.cell?_of_block (a := ⟨b, o, none⟩) (World.putObj_heap_other hbD)).trans hu⟩
      exact ⟨[v2, .bool true], rfl, RelL.cons h2 (RelL.cons (DR.sc rfl) RelL.nil)⟩
  case stop =>
    rintro D c pre W _ _ h _
    exact h.elim
/-- nat.Sub -/
theorem ok63 (args rs : List PV) (h : x63 args = some rs) : FnOk Try.prog 63 args rs := by
  obtain ⟨a, b, rfl, ha, hb, la, lb, hf⟩ := two64_inv h
  cases hf
  intro w S vs hS hargs
  obtain ⟨pa, ca, pb, cb, rfl, hA, hB⟩ := two_args hS hargs
  refine .inl ⟨enters_of Try.func63 (by kernel_rfl) rfl _ _, (callsIn_wide.1 (Sub_in pa pb ca cb a b ha hb la lb w hA hB)).mono ?_⟩
  rintro e W' ⟨v, rfl, hb', hr⟩
  exact ⟨hb', PRs.move (fun b o u hs hu => ⟨.inr hs, hu⟩) hr⟩
end Go.Proofs.Ytpanbfainilmpaa.Ev.N
