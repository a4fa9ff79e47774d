/- nat.Add: its contract. -/
import Derived.Test.YtpanbfainilmpaaEvX3
set_option linter.unusedVariables false
set_option linter.unusedSimpArgs false
namespace Go.Proofs.Ytpanbfainilmpaa.Ev.N
open Go Go.Proofs Go.RowKit Go.Shelf Go.Proofs.Ytpanbfainilmpaa.Ev
attribute [local go_sem] Oper.semAt_some

theorem info66 : (Try.prog.info? 66).map (fun i => (i.zero, i.size, i.bytes)) = some (some (.int .u64 0), 1, 8) := by kernel_rfl
def addS (pre : List UU) : List Nat × Nat := pre.foldl (fun s p => (s.1 ++ [(p.1.1 + p.1.2 + s.2) % B64], (p.1.1 + p.1.2 + s.2) / B64)) ([], 0)
theorem addS_snoc (pre : List UU) (x : UU) : addS (pre ++ [x]) = ((addS pre).1 ++ [(x.1.1 + x.1.2 + (addS pre).2) % B64], (x.1.1 + x.1.2 + (addS pre).2) / B64) := by simp [addS]
theorem addS_len (pre : List UU) : (addS pre).1.length = pre.length := by
  have : ∀ (pre : List UU) (s : List Nat × Nat), (pre.foldl (fun s p => (s.1 ++ [(p.1.1 + p.1.2 + s.2) % B64], (p.1.1 + p.1.2 + s.2) / B64)) s).1.length = s.1.length + pre.length := by
    intro pre
    induction pre with
    | nil => intro s; rfl
    | cons x pre ih =>
      intro s
      rw [List.foldl_cons, ih]
      simp; omega
  have h := this pre ([], 0)
  simpa [addS] using h
theorem addS_cry (pre : List UU) : (addS pre).2 ≤ 1 := by
  have : ∀ (pre : List UU) (s : List Nat × Nat), s.2 ≤ 1 → (pre.foldl (fun s p => (s.1 ++ [(p.1.1 + p.1.2 + s.2) % B64], (p.1.1 + p.1.2 + s.2) / B64)) s).2 ≤ 1 := by
    intro pre
    induction pre with
    | nil => intro s h; exact h
    | cons x pre ih =>
      intro s h
      rw [List.foldl_cons]
      apply ih
      have h1 := x.2.1
      have h2 := x.2.2
      show (x.1.1 + x.1.2 + s.2) / B64 ≤ 1
      rw [← Nat.lt_succ_iff, Nat.div_lt_iff_lt_mul B_pos]
      omega
  exact this pre ([], 0) (Nat.zero_le _)
theorem addS_upto {a b : List Nat} (ha : Limbs a) (hb : Limbs b) (k : Nat) : addS (upto (prs ha hb) k) = (digs k (val a + val b), cry (val a) (val b) k) := by
  induction k with
  | zero => simp [upto, addS, digs, cry_zero]
  | succ k ih =>
    rw [upto_succ, addS_snoc, ih]
    simp only [prs]
    rw [limb_eq ha, limb_eq hb, ← sum_digit, ← cry_succ, digs_succ]

theorem own_ne {W : World} {base : Nat} {e : TypeId} {size : Nat} {v : Value} {k : Nat} {xs : List Value} (h : W.ownsRow base e size v k xs) {B : Nat} (hB : B < base) : some B ≠ v.ownBlock := by
  rcases h.2 with ⟨rfl, _⟩ | ⟨g, cap, cur, rfl, hb, _⟩
  · simp [Value.ownBlock]
  · intro e'
    obtain rfl : B = g := by simpa [Value.ownBlock] using e'
    omega
theorem step_world {W w1 : World} {n0 m : Nat} {v x2 x3 : Value} {tmp : Obj} {k : Nat} {xs : List Value} (h2 : ((W.setCell ⟨n0 + 1, 0, none⟩ x2).setCell ⟨n0 + 1 + 1, 0, none⟩ x3).ownsRow m 66 1 v k xs)
    (hg : (((W.setCell ⟨n0 + 1, 0, none⟩ x2).setCell ⟨n0 + 1 + 1, 0, none⟩ x3).alloc tmp).grownBy w1 v.ownBlock) (hm : n0 + 5 ≤ m) (hs : m ≤ W.heap.size) (v' : Value) :
    KeepsOthers W (w1.setCell ⟨n0, 0, none⟩ v') ∧ KpB n0 (n0 + 1 + 1 + 1) (n0 + 1 + 1 + 1 + 1) W (w1.setCell ⟨n0, 0, none⟩ v') := by
  have hne : ∀ k, n0 < k → k < m → k ≠ n0 + 1 → k ≠ n0 + 1 + 1 → (w1.setCell ⟨n0, 0, none⟩ v').heap[k]? = W.heap[k]? := fun k h0 h1 h3 h4 => by
    rw [Below.heap_setCell _ _ _ _ (show k ≠ n0 by omega), hg.block k (by simp; omega) (own_ne h2 h1), Below.heap_alloc _ _ _ (by simp; omega), Below.heap_setCell _ _ _ _ h4, Below.heap_setCell _ _ _ _ h3]
  refine ⟨?_, ?_, hne _ (by omega) (by omega) (by omega) (by omega), hne _ (by omega) (by omega) (by omega) (by omega)⟩
  · refine ((((KeepsOthers.setCell W _ _).trans (KeepsOthers.setCell _ _ _)).trans (KeepsOthers.alloc _ tmp)).trans (KeepsOthers.of_grownBy hg fun j o ej hj => ?_)).trans (KeepsOthers.setCell _ _ _)
    rcases (h2.alloc tmp).2 with ⟨rfl, _⟩ | ⟨g, cap, cur, rfl, _, hgb, _⟩
    · simp [Value.ownBlock] at ej
    · obtain rfl : g = j := by simpa [Value.ownBlock] using ej
      rw [hgb] at hj; cases hj; rfl
  · refine (((((Below.refl n0 W).setCell (p := ⟨n0 + 1, 0, none⟩) (by simp) x2).setCell (p := ⟨n0 + 1 + 1, 0, none⟩) (by simp; omega) x3).alloc (by simp; omega) tmp).grown hg (by simp; omega) fun j ej => ?_).setCell (p := ⟨n0, 0, none⟩) (Nat.le_refl _) v'
    rcases Nat.lt_or_ge j n0 with h | h
    · exact absurd ej.symm (own_ne h2 (by omega))
    · exact h
theorem fin_list {a b : List Nat} (ha : Limbs a) (hb : Limbs b) : Limbs (digs (max a.length b.length) (val a + val b) ++ [cry (val a) (val b) (max a.length b.length)]) ∧ val (digs (max a.length b.length) (val a + val b) ++ [cry (val a) (val b) (max a.length b.length)]) = val a + val b := by
  have e1 : B64 ^ a.length ≤ B64 ^ max a.length b.length := Nat.pow_le_pow_right B_pos (by omega)
  have e2 : B64 ^ b.length ≤ B64 ^ max a.length b.length := Nat.pow_le_pow_right B_pos (by omega)
  have hA := Nat.lt_of_lt_of_le (val_lt ha) e1
  have hB := Nat.lt_of_lt_of_le (val_lt hb) e2
  rw [sum_digs hA hB]
  exact ⟨digs_limbs _ _, sum_val hA hB⟩
/-- An owned row as an argument. -/
theorem row_arg {w : World} {base : Nat} {v : Value} {l : List Nat} (h : w.ownsRow base 66 1 v l.length (l.map fun x : Nat => Value.int .u64 (x : Int))) : PR w (fun b _ => base ≤ b ∧ b < w.heap.size) (nl l) v := by
  show DR w _ (.sl (l.map n64)) v
  rcases h.2 with ⟨rfl, h0⟩ | ⟨g, cap, cur, rfl, hb, hg, hc1, _, _, hx⟩
  · have : l = [] := List.length_eq_zero_iff.1 h0
    subst this
    exact .sl (sz := 1) (b := 0) (o := 0) (fun _ _ => .bool false) rfl (Nat.le_refl _) (fun _ _ h => by cases h) (fun _ _ _ _ h => by cases h) (fun _ _ _ _ h => by cases h)
  · have hlt : g < w.heap.size := (Array.getElem?_eq_some_iff.1 hg).1
    have hcell : ∀ i (hi : i < l.length), w.cell? ⟨g, i, none⟩ = some (.int .u64 (l[i] : Int)) := fun i hi => by
      have h1 : (cur.toList.take (l.length * 1))[i]? = (l.map fun x : Nat => Value.int .u64 (x : Int))[i]? := by rw [hx]
      rw [List.getElem?_take, if_pos (by omega), List.getElem?_map, List.getElem?_eq_getElem hi] at h1
      simp [World.cell?, hg]
      simpa using h1
    refine .sl (sz := 1) (b := g) (o := 0) (fun i _ => .int .u64 (limb l i : Int)) (by simp) hc1 (fun i e he => ?_) (fun i e j x he hx => ?_) (fun i e j x he hx => ?_)
    · rw [List.getElem?_map] at he
      obtain ⟨y, _, rfl⟩ := Option.map_eq_some_iff.1 he
      rfl
    · rw [List.getElem?_map] at he
      obtain ⟨y, hy, rfl⟩ := Option.map_eq_some_iff.1 he
      obtain ⟨hi, rfl⟩ := List.getElem?_eq_some_iff.1 hy
      have hj : j = 0 := by
        have := (List.getElem?_eq_some_iff.1 hx).1
        simp at this; omega
      subst hj
      refine ⟨rfl, ?_, hb, hlt⟩
      rw [limb_get hi]
      simpa using hcell i hi
    · rw [List.getElem?_map] at he
      obtain ⟨y, hy, rfl⟩ := Option.map_eq_some_iff.1 he
      obtain ⟨hi, rfl⟩ := List.getElem?_eq_some_iff.1 hy
      have hj : j = 0 := by
        have := (List.getElem?_eq_some_iff.1 hx).1
        simp at this; omega
      subst hj
      cases hx
      rw [limb_get hi]
      exact .sc rfl
theorem trim68 {l : List Nat} (hl : Limbs l) (hlen : l.length ≤ 2000000) {w : World} {base : Nat} (hbase : base ≤ w.heap.size) {v : Value} (h : w.ownsRow base 66 1 v l.length (l.map fun x : Nat => Value.int .u64 (x : Int))) :
    Calls Try.prog 68 #[v] w fun e w' => ∃ v2, e = .returned v2 ∧ Below w.heap.size w w' ∧ PRs w' (fun b _ => base ≤ b ∧ b < w'.heap.size) [nl (dig (val l))] v2 := by
  obtain ⟨n, hn⟩ := (KL_call O.AA O.XX).1 (O.Trim68 hl hlen)
  have h := (kOk O.env n).call _ _ _ hn w _ [v] (fun _ _ h => h.2) (RelL.cons (row_arg h) RelL.nil)
  refine (gives_calls (enters_of Try.func68 (by kernel_rfl) rfl _ _) h).mono fun e w' he => ?_
  cases e with
  | returned v2 =>
    obtain ⟨hb, hr⟩ := he
    refine ⟨v2, rfl, hb, PRs.move (fun b o u hs hu => ⟨?_, hu⟩) hr⟩
    have := hb.size
    rcases hs with hs | hs
    · exact ⟨hs.1, by omega⟩
    · exact ⟨by omega, hs.2⟩
  | panicked c => exact he.elim
  | outgrown => exact he.elim
set_option maxRecDepth 100000 in
set_option maxHeartbeats 4000000 in
theorem Add_in (pa pb : Option Addr) (ca cb : Nat) (a b : List Nat) (ha : Limbs a) (hb : Limbs b) (la : a.length ≤ 1000000) (lb : b.length ≤ 1000000) (w : World) (hA : HL w.heap.size w pa a) (hB : HL w.heap.size w pb b) :
    CallsIn Fence.wide 5 Try.prog 66 #[.slice pa a.length ca, .slice pb b.length cb] w fun e W' => ∃ v, e = .returned v ∧ Below w.heap.size w W' ∧ PRs W' (fun b _ => w.heap.size ≤ b ∧ b < W'.heap.size) [nl (dig (val a + val b))] v := by
  refine callsIn_of_wp_marks Try.func66 rfl trivial ?_ rfl
  obtain ⟨i0, hi, hz0, hz1, hz2⟩ := info_parts info66
  simp only [Try.ntmps66, List.size_toArray, List.length_cons, List.length_nil, Nat.reduceAdd, Nat.reduceSub, Array.replicate_succ, Array.replicate_zero, List.push_toArray, List.append_toArray, List.nil_append, List.cons_append]
  gi_wp2_with (refine ⟨trivial, ?_⟩; gi_at_call 102; refine (limbs_in Fence.wide 4 trivial rfl _ _ _ _ _ _ _).mono ?_; rintro e w' ⟨rfl, rfl⟩)
  obtain ⟨W0, hW0⟩ : ∃ W0, ((((w.alloc (.cells #[.slice none 0 0] 64)).alloc (.cells #[.int .u64 0] 66)).alloc (.cells #[.int .u64 0] 66)).alloc (.cells #[.slice pa a.length ca] 64)).alloc (.cells #[.slice pb b.length cb] 64) = W0 := ⟨_, rfl⟩
  have hsz : W0.heap.size = w.heap.size + 5 := by rw [← hW0]; simp
  have hB0 : Below w.heap.size w W0 := by
    rw [← hW0]
    exact (((((Below.refl _ w).alloc (Nat.le_refl _) _).alloc (by simp) _).alloc (by simp; omega) _).alloc (by simp; omega) _).alloc (by simp; omega) _
  have bO0 : Boxed W0 w.heap.size 64 (.slice none 0 0) := by rw [← hW0]; exact ((((Boxed.new w _ _).alloc _).alloc _).alloc _).alloc _
  have bN0 : Boxed W0 (w.heap.size + 1) 66 (.int .u64 0) := by
    rw [← hW0]
    have := Boxed.new (w.alloc (.cells #[.slice none 0 0] 64)) 66 (.int .u64 0)
    rw [World.size_alloc] at this
    exact ((this.alloc _).alloc _).alloc _
  have bC0 : Boxed W0 (w.heap.size + 1 + 1) 66 (.int .u64 0) := by
    rw [← hW0]
    have := Boxed.new ((w.alloc (.cells #[.slice none 0 0] 64)).alloc (.cells #[.int .u64 0] 66)) 66 (.int .u64 0)
    rw [World.size_alloc, World.size_alloc] at this
    exact (this.alloc _).alloc _
  have bA0 : Boxed W0 (w.heap.size + 1 + 1 + 1) 64 (.slice pa a.length ca) := by
    rw [← hW0]
    have := Boxed.new (((w.alloc (.cells #[.slice none 0 0] 64)).alloc (.cells #[.int .u64 0] 66)).alloc (.cells #[.int .u64 0] 66)) 64 (.slice pa a.length ca)
    rw [World.size_alloc, World.size_alloc, World.size_alloc] at this
    exact this.alloc _
  have bB0 : Boxed W0 (w.heap.size + 1 + 1 + 1 + 1) 64 (.slice pb b.length cb) := by
    rw [← hW0]
    have := Boxed.new ((((w.alloc (.cells #[.slice none 0 0] 64)).alloc (.cells #[.int .u64 0] 66)).alloc (.cells #[.int .u64 0] 66)).alloc (.cells #[.slice pa a.length ca] 64)) 64 (.slice pb b.length cb)
    rw [World.size_alloc, World.size_alloc, World.size_alloc, World.size_alloc] at this
    exact this
  rw [hW0]
  clear hW0
  refine wpIn_rangeFunc_ownG rfl (by omega) (gf := 122) (lb := #[.pointer (some ⟨w.heap.size + 1 + 1 + 1, 0, none⟩), .pointer (some ⟨w.heap.size + 1 + 1 + 1 + 1, 0, none⟩)]) rfl trivial (enters_of Try.func122 (by kernel_rfl) rfl)
    (limbs_stops Fence.wide 4 trivial rfl (by omega) (w.heap.size + 1 + 1 + 1) (w.heap.size + 1 + 1 + 1 + 1) w.heap.size pa pb ca cb a b ha hb la lb W0 (by omega) (by omega) (by omega) bA0.cell bB0.cell (hA.below hB0) (hB.below hB0)) KpB.trans (KpB.book (by omega) (by omega) (by omega)) (Below.refl _ _) (fun _ => rfl)
    (fun pre W => ((∃ v, Boxed W w.heap.size 64 v ∧ W.ownsRow W0.heap.size 66 1 v (addS pre).1.length ((addS pre).1.map fun x : Nat => Value.int .u64 (x : Int)) ∧ True) ∧ (∃ y : Nat, Boxed W (w.heap.size + 1) 66 (.int .u64 (y : Int))) ∧ Boxed W (w.heap.size + 1 + 1) 66 (.int .u64 ((addS pre).2 : Int))) ∧ Below w.heap.size W0 W)
    (fun _ _ _ => False)
    (OwnFrom.and (Own.from (fun s A B row hs hg hr => ⟨holdsRow_own W0.heap.size w.heap.size 64 66 1 (fun pre : List UU => (addS pre).1.length) (fun pre => (addS pre).1.map fun x : Nat => Value.int .u64 (x : Int)) (fun _ _ => True) s A B row hs.1 hg hr, hs.2.1.imp fun y hy => hy.kept hg (fun e => by obtain ⟨o, ho, hc⟩ := hr _ e.symm; rw [show A.heap[_]? = _ from hy] at ho; cases ho; cases hc), hs.2.2.kept hg (fun e => by obtain ⟨o, ho, hc⟩ := hr _ e.symm; rw [show A.heap[_]? = _ from hs.2.2] at ho; cases ho; cases hc)⟩) _) (ownFrom_below (by omega) (by omega)))
    (fun _ _ _ _ _ hs _ _ => hs)
    ⟨⟨⟨_, bO0, World.ownsRow_nil _ _ _ _, trivial⟩, ⟨0, bN0⟩, bC0⟩, Below.refl _ _⟩
    (fun x => { tmps := #[.slice pa a.length ca, .slice pb b.length cb, undef, undef, .slice none 0 0, .pointer (some ⟨w.heap.size, 0, none⟩), .pointer (some ⟨w.heap.size + 1, 0, none⟩), .pointer (some ⟨w.heap.size + 1 + 1, 0, none⟩), .int .u64 (x.1.1 : Int), .int .u64 (x.1.2 : Int), .slice pa a.length ca, .slice pb b.length cb, .func (.func 122) #[] #[.pointer (some ⟨w.heap.size + 1 + 1 + 1, 0, none⟩), .pointer (some ⟨w.heap.size + 1 + 1 + 1 + 1, 0, none⟩)], .int .u64 (x.1.1 : Int), .int .u64 (x.1.2 : Int), undef, undef, undef, undef, undef, undef, undef, undef, undef, undef, undef, undef, undef, undef, undef, undef], defers := [] }) ?assign ?body ?done ?stop
  case assign =>
    intro l x W K hK
    gi_wp2
    exact hK
  case body =>
    rintro l pre x W ⟨⟨⟨v, hv, hrow, _⟩, ⟨y, hn⟩, hc⟩, hBW⟩ hlt
    have hadd := run100 x.1.1 x.1.2 (addS pre).2 (addS_cry pre)
    obtain ⟨d, hd⟩ : ∃ d, (x.1.1 + x.1.2 + (addS pre).2) % B64 = d := ⟨_, rfl⟩
    obtain ⟨e, he⟩ : ∃ e, (x.1.1 + x.1.2 + (addS pre).2) / B64 = e := ⟨_, rfl⟩
    have hsn := addS_snoc pre x
    have hlen := addS_len pre
    rw [hd, he] at hadd hsn
    obtain ⟨c0, hc0⟩ : ∃ c0, (addS pre).2 = c0 := ⟨_, rfl⟩
    rw [hc0] at hadd hc
    obtain ⟨o, ho⟩ : ∃ o, (addS pre).1 = o := ⟨_, rfl⟩
    rw [ho] at hrow hsn hlen
    clear hd he
    have hvc := hv.cell
    have hnc := hn.cell
    have hnf := hn.frozen
    have hcc := hc.cell
    have hcf := hc.frozen
    have hm1 : some (w.heap.size + 1) ≠ v.ownBlock := own_ne hrow (by omega)
    have hm2 : some (w.heap.size + 1 + 1) ≠ v.ownBlock := own_ne hrow (by omega)
    have hm0 : some w.heap.size ≠ v.ownBlock := own_ne hrow (by omega)
    have hv1 : Boxed (W.setCell ⟨w.heap.size + 1, 0, none⟩ (.int .u64 (d : Int))) w.heap.size 64 v := hv.kept (grownBy_setCell' W _ _) (by simp)
    have hv2 : Boxed ((W.setCell ⟨w.heap.size + 1, 0, none⟩ (.int .u64 (d : Int))).setCell ⟨w.heap.size + 1 + 1, 0, none⟩ (.int .u64 (e : Int))) w.heap.size 64 v := hv1.kept (grownBy_setCell' _ _ _) (by simp; omega)
    have hc1 : Boxed (W.setCell ⟨w.heap.size + 1, 0, none⟩ (.int .u64 (d : Int))) (w.heap.size + 1 + 1) 66 (.int .u64 (c0 : Int)) := hc.kept (grownBy_setCell' W _ _) (by simp)
    have hc2 : Boxed ((W.setCell ⟨w.heap.size + 1, 0, none⟩ (.int .u64 (d : Int))).setCell ⟨w.heap.size + 1 + 1, 0, none⟩ (.int .u64 (e : Int))) (w.heap.size + 1 + 1) 66 (.int .u64 (e : Int)) := hc1.set _
    have hn1 : Boxed (W.setCell ⟨w.heap.size + 1, 0, none⟩ (.int .u64 (d : Int))) (w.heap.size + 1) 66 (.int .u64 (d : Int)) := hn.set _
    have hn2 : Boxed ((W.setCell ⟨w.heap.size + 1, 0, none⟩ (.int .u64 (d : Int))).setCell ⟨w.heap.size + 1 + 1, 0, none⟩ (.int .u64 (e : Int))) (w.heap.size + 1) 66 (.int .u64 (d : Int)) := hn1.kept (grownBy_setCell' _ _ _) (by simp)
    have hrow1 := hrow.kept (grownBy_setCell' W (w.heap.size + 1) (.int .u64 (d : Int))) (.inr hm1.symm)
    have hrow2 := hrow1.kept (grownBy_setCell' _ (w.heap.size + 1 + 1) (.int .u64 (e : Int))) (.inr hm2.symm)
    have hc1c := hc1.cell
    have hc1f := hc1.frozen
    have hv2c := hv2.cell
    have hn2c := hn2.cell
    have hW := hBW.size
    have hml : 1000001 ≤ maxLen := by decide +kernel
    have hpl : o.length ≤ 999999 := by omega
    have hnew := cell_one_new ((W.setCell ⟨w.heap.size + 1, 0, none⟩ (.int .u64 (d : Int))).setCell ⟨w.heap.size + 1 + 1, 0, none⟩ (.int .u64 (e : Int))) (.int .u64 (d : Int)) 66
    simp only [World.size_setCell] at hnew
    gi_wp2_with first
      | (refine ⟨trivial, ?_⟩)
      | (gi_at_builtin; refine wpListIn_append_own _ rfl _ _ 64 rfl W0.heap.size 66 i0 (.int .u64 0) 1 8 Try.underlying64 hi hz0 hz1 hz2 rfl (by decide) _ _ _ rfl (hrow2.alloc _) ⟨W.heap.size, 0, none⟩ 1 1 [.int .u64 (d : Int)] rfl rfl hnew (by simp [Value.oneCell']) (by omega) (by omega) (by simp; omega) ?_; intro v' w1 hown' hgrow _; obtain ⟨g', cap', rfl⟩ := ownsRow_succ hown'; have hv3 := (hv2.alloc _).kept hgrow hm0; have hv3c := hv3.cell; have hv3f := hv3.frozen)
    obtain ⟨hk, hkp⟩ := step_world hrow2 hgrow (by omega) (by omega) (.slice (some ⟨g', 0, none⟩) (o.length + 1) cap')
    have hn3 := (hn2.alloc _).kept hgrow hm1
    have hc3 := (hc2.alloc _).kept hgrow hm2
    rw [← hlen]
    refine ⟨hk.from _, hkp, ⟨⟨_, hv3.set _, ?_, trivial⟩, ⟨d, hn3.kept (grownBy_setCell' _ _ _) (by simp)⟩, ?_⟩, hBW.trans hkp.1⟩
    · have h4 := hown'.kept (grownBy_setCell' w1 w.heap.size (.slice (some ⟨g', 0, none⟩) (o.length + 1) cap')) (.inr (own_ne hown' (by omega)).symm)
      rw [hsn]
      simpa using h4
    · rw [hsn]
      exact hc3.kept (grownBy_setCell' _ _ _) (by simp; omega)
  case done =>
    rintro D ys W hD rfl ⟨⟨⟨v, hv, hrow, _⟩, ⟨y, hn⟩, hc⟩, hBW⟩ hK
    have hsu := addS_upto ha hb (max a.length b.length)
    rw [hsu] at hrow hc
    have hvc := hv.cell
    have hcc := hc.cell
    have hW := hBW.size
    have hml : 1000001 ≤ maxLen := by decide +kernel
    have hdl := digs_len (max a.length b.length) (val a + val b)
    have hnew := cell_one_new W (.int .u64 (cry (val a) (val b) (max a.length b.length) : Int)) 66
    have hcl := cry_le (val a) (val b) (max a.length b.length)
    obtain ⟨c0, hc0⟩ : ∃ c0, cry (val a) (val b) (max a.length b.length) = c0 := ⟨_, rfl⟩
    have hfin := fin_list ha hb
    rw [hc0] at hc hcc hnew hcl hfin
    obtain ⟨o, ho⟩ : ∃ o, digs (max a.length b.length) (val a + val b) = o := ⟨_, rfl⟩
    rw [ho] at hrow hdl hfin
    simp only at hrow hc hcc
    gi_wp2_with first
      | (gi_at_builtin; refine wpListIn_append_own _ rfl _ _ 64 rfl W0.heap.size 66 i0 (.int .u64 0) 1 8 Try.underlying64 hi hz0 hz1 hz2 rfl (by decide) _ _ _ rfl (hrow.alloc _) ⟨W.heap.size, 0, none⟩ 1 1 [.int .u64 (c0 : Int)] rfl rfl hnew (by simp [Value.oneCell']) (by omega) (by omega) (by simp; omega) ?_; intro v' w1 hown' hgrow _; obtain ⟨g', cap', rfl⟩ := ownsRow_succ hown')
      | (refine ⟨trivial, ?_⟩; gi_at_call 68; refine (callsIn_wide.2 (trim68 (l := o ++ [c0]) hfin.1 (by simp; omega) (base := W0.heap.size) (by have := hgrow.size; simp at this; omega) (by simpa [hdl] using hown'))).mono ?_; rintro e w' ⟨v2, rfl, hb', hr⟩)
    have hDW : D < W.heap.size := (Array.getElem?_eq_some_iff.1 hK).1
    have hne : some D ≠ v.ownBlock := by
      rcases hrow.2 with ⟨rfl, _⟩ | ⟨g, cap, cur, rfl, _, hgb, _⟩
      · simp [Value.ownBlock]
      · intro e'
        obtain rfl : D = g := by simpa [Value.ownBlock] using e'
        rw [hgb] at hK; cases hK
    have hK1 : w1.heap[D]? = some (.deferred (some [])) := by rw [hgrow.block D (by simp; omega) hne, Below.heap_alloc _ _ _ hDW]; exact hK
    have hK2 : w'.heap[D]? = some (.deferred (some [])) := (hb'.block D (by have := (Array.getElem?_eq_some_iff.1 hK1).1; omega)).trans hK1
    have hg1 := hgrow.size
    simp at hg1
    have hBw1 : Below w.heap.size W w1 := ((Below.refl _ W).alloc (by omega) _).grown hgrow (by simp; omega) (fun j ej => by
      rcases Nat.lt_or_ge j w.heap.size with h | h
      · exact absurd ej.symm (own_ne hrow (by omega))
      · exact h)
    have hb'' := hb'.size
    have hDw : D < w'.heap.size := (Array.getElem?_eq_some_iff.1 hK2).1
    refine ⟨by simp, .inl ⟨_, _, rfl, run_takeDeferred hK2, ?_⟩⟩
    refine ⟨_, results_tmp rfl _ _ _, v2, rfl, ((hB0.trans hBW).trans (hBw1.trans (hb'.mono (by omega)))).trans (belowK_b (w := W0) (by omega) w' D _ _ (by omega) hK2 rfl rfl), ?_⟩
    rw [hfin.2] at hr
    refine PRs.move (fun b o u hs hu => ?_) hr
    have hbD : b ≠ D := by
      intro e
      subst e
      simp [World.cell?, hK2] at hu
    exact ⟨⟨by omega, by simp; omega⟩, (World.cell?_of_block (a := ⟨b, o, none⟩) (World.putObj_heap_other hbD)).trans hu⟩
  case stop =>
    rintro D c pre W _ _ h _
    exact h.elim
/-- nat.Add -/
theorem ok66 (args rs : List PV) (h : x66 args = some rs) : FnOk Try.prog 66 args rs := by
  obtain ⟨a, b, rfl, ha, hb, la, lb, hf⟩ := two64_inv h
  cases hf
  intro w S vs hS hargs
  obtain ⟨pa, ca, pb, cb, rfl, hA, hB⟩ := two_args hS hargs
  refine .inl ⟨enters_of Try.func66 (by kernel_rfl) rfl _ _, (callsIn_wide.1 (Add_in pa pb ca cb a b ha hb la lb w hA hB)).mono ?_⟩
  rintro e W' ⟨v, rfl, hb', hr⟩
  exact ⟨hb', PRs.move (fun b o u hs hu => ⟨.inr hs, hu⟩) hr⟩
end Go.Proofs.Ytpanbfainilmpaa.Ev.N
