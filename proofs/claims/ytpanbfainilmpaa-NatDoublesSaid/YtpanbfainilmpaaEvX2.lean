/- Comparing: its contract. -/
import Derived.Test.YtpanbfainilmpaaEvX1
import Derived.Test.YtpanbfainilmpaaEvOF
set_option linter.unusedVariables false
set_option linter.unusedSimpArgs false
namespace Go.Proofs.Ytpanbfainilmpaa.Ev.N
open Go Go.Proofs Go.RowKit Go.Shelf Go.Proofs.Ytpanbfainilmpaa.Ev
attribute [local go_sem] Oper.semAt_some

theorem gives_calls {P : Program} {f : FuncId} {vs : Array Value} {w : World} {R : Value → World → Prop} (he : (callFunc f vs).run P w = .ok (.enter f vs) w) (h : Gives P f vs w R) : Calls P f vs w (fun | .returned v, w2 => R v w2 | _, _ => False) := by
  rcases h with ⟨_, h⟩ | ⟨v, w1, h1, _⟩
  · exact h
  · rw [he] at h1; cases h1
theorem cmp104 (x y : Nat) (w : World) : Calls Try.prog 104 #[.int .u64 (x : Int), .int .u64 (y : Int)] w fun e w' => e = .returned (.int .i64 (cmpI x y)) ∧ Below w.heap.size w w' := by
  obtain ⟨n, hn⟩ := (KL_call O.AA O.XX).1 (O.Cmp104 x y)
  have h := (kOk O.env n).call _ _ _ hn w (fun _ _ => False) [.int .u64 (x : Int), .int .u64 (y : Int)] (fun _ _ h => h.elim) (RelL.cons (DR.sc rfl) (RelL.cons (DR.sc rfl) RelL.nil))
  refine (gives_calls (enters_of Try.func104 (by kernel_rfl) rfl _ _) h).mono fun e w' he => ?_
  cases e with
  | returned v =>
    obtain ⟨hb, hr⟩ := he
    have : v = .int .i64 (cmpI x y) := dr_sc hr
    exact ⟨by rw [this], hb⟩
  | panicked c => exact he.elim
  | outgrown => exact he.elim
/-- The last pair that is not the same. -/
def accC (pre : List UU) : Int := pre.foldl (fun o p => if cmpI p.1.1 p.1.2 = 0 then o else cmpI p.1.1 p.1.2) 0
theorem accC_snoc (pre : List UU) (x : UU) : accC (pre ++ [x]) = if cmpI x.1.1 x.1.2 = 0 then accC pre else cmpI x.1.1 x.1.2 := by simp [accC]

theorem KeepsOthers.of_below {W W' : World} (h : Below W.heap.size W W') : KeepsOthers W W' := ⟨h.size, fun k o hk _ => (h.block k (Array.getElem?_eq_some_iff.1 hk).1).trans hk⟩
theorem KpB.of_below {n₀ Ba Bb : Nat} {W W' : World} (h : Below W.heap.size W W') (hn : n₀ ≤ W.heap.size) (ha : Ba < W.heap.size) (hb : Bb < W.heap.size) : KpB n₀ Ba Bb W W' := ⟨h.mono hn, h.block _ ha, h.block _ hb⟩
theorem KpB.set {n₀ Ba Bb B : Nat} {W W' : World} (h : KpB n₀ Ba Bb W W') (ha : Ba ≠ B) (hb : Bb ≠ B) (hn : n₀ ≤ B) (v : Value) : KpB n₀ Ba Bb W (W'.setCell ⟨B, 0, none⟩ v) :=
  ⟨h.1.setCell (p := ⟨B, 0, none⟩) hn v, (Below.heap_setCell _ _ _ _ ha).trans h.2.1, (Below.heap_setCell _ _ _ _ hb).trans h.2.2⟩
set_option maxRecDepth 100000 in
set_option maxHeartbeats 4000000 in
theorem Compare_in (pa pb : Option Addr) (ca cb : Nat) (a b : List Nat) (ha : Limbs a) (hb : Limbs b) (la : a.length ≤ 1000000) (lb : b.length ≤ 1000000) (w : World) (hA : HL w.heap.size w pa a) (hB : HL w.heap.size w pb b) :
    CallsIn Fence.wide 5 Try.prog 67 #[.slice pa a.length ca, .slice pb b.length cb] w fun e W' => e = .returned (.int .i64 (accC (upto (prs ha hb) (max a.length b.length)))) ∧ Below w.heap.size w W' := by
  refine callsIn_of_wp_marks Try.func67 rfl trivial ?_ rfl
  simp only [Try.ntmps67, List.size_toArray, List.length_cons, List.length_nil, Nat.reduceAdd, Nat.reduceSub, Array.replicate_succ, Array.replicate_zero, List.push_toArray, List.append_toArray, List.nil_append, List.cons_append]
  gi_wp2_with (refine ⟨trivial, ?_⟩; gi_at_call 102; refine (limbs_in Fence.wide 4 trivial rfl _ _ _ _ _ _ _).mono ?_; rintro e w' ⟨rfl, rfl⟩)
  have bO := Boxed.new w 3 (.int .i64 0)
  have bA := Boxed.new (w.alloc (.cells #[.int .i64 0] 3)) 64 (.slice pa a.length ca)
  have bB := Boxed.new ((w.alloc (.cells #[.int .i64 0] 3)).alloc (.cells #[.slice pa a.length ca] 64)) 64 (.slice pb b.length cb)
  rw [World.size_alloc] at bA
  rw [World.size_alloc, World.size_alloc] at bB
  have hB0 : Below w.heap.size w (((w.alloc (.cells #[.int .i64 0] 3)).alloc (.cells #[.slice pa a.length ca] 64)).alloc (.cells #[.slice pb b.length cb] 64)) := (((Below.refl _ w).alloc (Nat.le_refl _) _).alloc (by simp) _).alloc (by simp; omega) _
  obtain ⟨W0, hW0⟩ : ∃ W0, ((w.alloc (.cells #[.int .i64 0] 3)).alloc (.cells #[.slice pa a.length ca] 64)).alloc (.cells #[.slice pb b.length cb] 64) = W0 := ⟨_, rfl⟩
  have hsz : W0.heap.size = w.heap.size + 3 := by rw [← hW0]; simp
  have bO0 : Boxed W0 w.heap.size 3 (.int .i64 0) := by rw [← hW0]; exact (bO.alloc _).alloc _
  have bA0 : Boxed W0 (w.heap.size + 1) 64 (.slice pa a.length ca) := by rw [← hW0]; exact bA.alloc _
  have bB0 : Boxed W0 (w.heap.size + 1 + 1) 64 (.slice pb b.length cb) := by rw [← hW0]; exact bB
  rw [hW0] at hB0 ⊢
  clear bO bA bB hW0
  refine wpIn_rangeFunc_ownG rfl (by omega) (gf := 122) (lb := #[.pointer (some ⟨w.heap.size + 1, 0, none⟩), .pointer (some ⟨w.heap.size + 1 + 1, 0, none⟩)]) rfl trivial (enters_of Try.func122 (by kernel_rfl) rfl)
    (limbs_stops Fence.wide 4 trivial rfl (by omega) (w.heap.size + 1) (w.heap.size + 1 + 1) w.heap.size pa pb ca cb a b ha hb la lb W0 (by omega) (by omega) (by omega) bA0.cell bB0.cell (hA.below hB0) (hB.below hB0)) KpB.trans (KpB.book (by omega) (by omega) (by omega)) (Below.refl _ _) (fun _ => rfl)
    (fun pre W => (W.cell? ⟨w.heap.size, 0, none⟩ = some (.int .i64 (accC pre)) ∧ W.frozen? ⟨w.heap.size, 0, none⟩ = false) ∧ Below w.heap.size W0 W)
    (fun _ _ _ => False)
    (OwnFrom.and (Own.from (fun s A B row hs hg hr => ⟨cell_kept hs.1 hg hr, (frozen_kept hs.1 hg hr).trans hs.2⟩) _) (ownFrom_below (by omega) (by omega)))
    (fun _ _ _ _ _ hs _ _ => hs)
    ⟨⟨bO0.cell, bO0.frozen⟩, Below.refl _ _⟩
    (fun x => { tmps := #[.slice pa a.length ca, .slice pb b.length cb, undef, undef, .int .i64 0, .pointer (some ⟨w.heap.size, 0, none⟩), .int .u64 (x.1.1 : Int), .int .u64 (x.1.2 : Int), undef, .slice pa a.length ca, .slice pb b.length cb, .func (.func 122) #[] #[.pointer (some ⟨w.heap.size + 1, 0, none⟩), .pointer (some ⟨w.heap.size + 1 + 1, 0, none⟩)], .int .u64 (x.1.1 : Int), .int .u64 (x.1.2 : Int), undef, undef, undef, undef, undef, undef, undef], defers := [] }) ?assign ?body ?done ?stop
  case assign =>
    intro l x W K hK
    gi_wp2
    exact hK
  case body =>
    rintro l pre x W ⟨⟨hc, hf⟩, hBW⟩ _
    have hlt : w.heap.size < W.heap.size := by
      obtain ⟨o, ho, _⟩ := cells_of_cell hc
      exact (Array.getElem?_eq_some_iff.1 ho).1
    gi_wp2_with (refine ⟨trivial, ?_⟩; gi_at_call 104; refine (CallsIn.inRound l (callsIn_wide.2 (cmp104 x.1.1 x.1.2 W))).mono ?_; rintro e w' ⟨rfl, hb'⟩; have hc1 := (hb'.cell (p := ⟨w.heap.size, 0, none⟩) hlt).trans hc; have hf1 := (hb'.frozen (p := ⟨w.heap.size, 0, none⟩) hlt).trans hf)
    · have hne : ¬ cmpI x.1.1 x.1.2 = 0 := by
        have : (cmpI x.val.fst x.val.snd != 0) = true := by assumption
        simpa using this
      have e : accC (pre ++ [x]) = cmpI x.1.1 x.1.2 := by rw [accC_snoc, if_neg hne]
      exact ⟨((KeepsOthers.of_below hb').trans (KeepsOthers.setCell _ _ _)).from _, (KpB.of_below hb' (Nat.le_of_lt hlt) (by have := hBW.size; omega) (by have := hBW.size; omega)).set (by omega) (by omega) (Nat.le_refl _) _,
        ⟨by rw [e]; exact World.cell?_setCell_same' _ _ _ (by rw [hc1]; rfl), by rw [World.frozen?_setCell]; exact hf1⟩, (hBW.trans (hb'.mono (Nat.le_of_lt hlt))).setCell (p := ⟨w.heap.size, 0, none⟩) (Nat.le_refl _) _⟩
    · have he : cmpI x.1.1 x.1.2 = 0 := by
        have : (cmpI x.val.fst x.val.snd != 0) = false := by assumption
        simpa using this
      have e : accC (pre ++ [x]) = accC pre := by rw [accC_snoc, if_pos he]
      exact ⟨(KeepsOthers.of_below hb').from _, KpB.of_below hb' (Nat.le_of_lt hlt) (by have := hBW.size; omega) (by have := hBW.size; omega), ⟨by rw [e]; exact hc1, hf1⟩, hBW.trans (hb'.mono (Nat.le_of_lt hlt))⟩
  case done =>
    rintro D ys W hD rfl ⟨⟨hc, _⟩, hBW⟩ hK
    gi_wp2
    refine ⟨by simp, .inl ⟨_, _, rfl, run_takeDeferred hK, ?_⟩⟩
    exact ⟨_, results_tmp rfl _ _ _, rfl, (hB0.trans hBW).trans (belowK_b (w := w) (Nat.le_refl _) W D _ _ (by omega) hK rfl rfl)⟩
  case stop =>
    rintro D c pre W _ _ h _
    exact h.elim

theorem accC_upto {a b : List Nat} (ha : Limbs a) (hb : Limbs b) (k : Nat) : accC (upto (prs ha hb) k) = cmpI (val a % B64 ^ k) (val b % B64 ^ k) := by
  induction k with
  | zero => simp [upto, accC, Nat.mod_one, cmpI]
  | succ k ih =>
    rw [upto_succ, accC_snoc, ih]
    simp only [prs]
    rw [limb_eq ha, limb_eq hb]
    have ea : val a % B64 ^ (k + 1) / B64 ^ k % B64 = val a / B64 ^ k % B64 := by
      rw [Nat.pow_succ, Nat.mod_mul_right_div_self, Nat.mod_mod]
    have eb : val b % B64 ^ (k + 1) / B64 ^ k % B64 = val b / B64 ^ k % B64 := by
      rw [Nat.pow_succ, Nat.mod_mul_right_div_self, Nat.mod_mod]
    have hz : val a % B64 ^ (k + 1) / B64 ^ (k + 1) = val b % B64 ^ (k + 1) / B64 ^ (k + 1) := by
      rw [Nat.div_eq_of_lt (Nat.mod_lt _ (Bp_pos _)), Nat.div_eq_of_lt (Nat.mod_lt _ (Bp_pos _))]
    by_cases hne : val a / B64 ^ k % B64 = val b / B64 ^ k % B64
    · rw [hne, cmpI_self, if_pos rfl, Nat.mod_pow_succ, Nat.mod_pow_succ, hne]
      unfold cmpI
      simp only [Nat.add_lt_add_iff_right]
    · have h1 := cmp_top hz (by rw [ea, eb]; exact hne)
      rw [ea, eb] at h1
      rw [h1]
      unfold cmpI
      rcases Nat.lt_trichotomy (val a / B64 ^ k % B64) (val b / B64 ^ k % B64) with h | h | h
      · simp [h]
      · exact absurd h hne
      · have h' : ¬ val a / B64 ^ k % B64 < val b / B64 ^ k % B64 := by omega
        simp [h, h']
theorem un64_inv : ∀ {A : List (List D)} {l : List Nat}, un64 A = some l → A = l.map n64 ∧ Limbs l := by
  intro A
  induction A with
  | nil => intro l h; cases h; exact ⟨rfl, Limbs.nil⟩
  | cons e A ih =>
    intro l h
    unfold un64 at h
    split at h
    · rename_i heq; cases heq
    · rename_i x r heq
      cases heq
      split at h
      · rename_i hx
        obtain ⟨m, hm, rfl⟩ := Option.map_eq_some_iff.1 h
        obtain ⟨rfl, hl⟩ := ih hm
        have hB : B64 = 18446744073709551616 := rfl
        refine ⟨?_, Limbs.cons (by omega) hl⟩
        rw [List.map_cons]
        congr 1
        show [D.sc (Value.int .u64 x)] = [D.sc (Value.int .u64 ((x.toNat : Nat) : Int))]
        rw [Int.toNat_of_nonneg hx.1]
      · cases h
    · cases h
theorem two64_inv {f : List Nat → List Nat → Option (List PV)} {args rs : List PV} (h : two64 f args = some rs) : ∃ a b, args = [nl a, nl b] ∧ Limbs a ∧ Limbs b ∧ a.length ≤ 1000000 ∧ b.length ≤ 1000000 ∧ f a b = some rs := by
  unfold two64 at h
  split at h
  · rename_i A B
    cases ha : un64 A with
    | none => rw [ha] at h; cases h
    | some a =>
      cases hb : un64 B with
      | none => rw [ha, hb] at h; cases h
      | some b =>
        rw [ha, hb] at h
        simp only [Option.bind_some] at h
        split at h
        · rename_i hl
          obtain ⟨rfl, la⟩ := un64_inv ha
          obtain ⟨rfl, lb⟩ := un64_inv hb
          exact ⟨a, b, rfl, la, lb, hl.1, hl.2, h⟩
        · cases h
  · cases h
theorem two_args {w : World} {S : Nat → Nat → Prop} (hS : ∀ b o, S b o → b < w.heap.size) {a b : List Nat} {vs : List Value} (h : RelL (PR w S) [nl a, nl b] vs) : ∃ pa ca pb cb, vs = [.slice pa a.length ca, .slice pb b.length cb] ∧ HL w.heap.size w pa a ∧ HL w.heap.size w pb b := by
  obtain ⟨u, hu, h1⟩ := h.get (i := 0) rfl
  obtain ⟨v, hv, h2⟩ := h.get (i := 1) rfl
  have hl := h.1
  obtain ⟨pa, ca, rfl, ha⟩ := HL.of hS h1
  obtain ⟨pb, cb, rfl, hb⟩ := HL.of hS h2
  match vs, hl with
  | [x, y], _ =>
    simp only [List.getElem?_cons_zero, List.getElem?_cons_succ, Option.some.injEq] at hu hv
    exact ⟨pa, ca, pb, cb, by rw [hu, hv], ha, hb⟩
theorem cmpI_mod {a b : List Nat} (ha : Limbs a) (hb : Limbs b) : accC (upto (prs ha hb) (max a.length b.length)) = cmpI (val a) (val b) := by
  rw [accC_upto ha hb]
  have h1 := val_lt ha
  have h2 := val_lt hb
  have e1 : B64 ^ a.length ≤ B64 ^ max a.length b.length := Nat.pow_le_pow_right B_pos (by omega)
  have e2 : B64 ^ b.length ≤ B64 ^ max a.length b.length := Nat.pow_le_pow_right B_pos (by omega)
  rw [Nat.mod_eq_of_lt (by omega), Nat.mod_eq_of_lt (by omega)]
/-- nat.Compare -/
theorem ok67 (args rs : List PV) (h : x67 args = some rs) : FnOk Try.prog 67 args rs := by
  obtain ⟨a, b, rfl, ha, hb, la, lb, hf⟩ := two64_inv h
  cases hf
  intro w S vs hS hargs
  obtain ⟨pa, ca, pb, cb, rfl, hA, hB⟩ := two_args hS hargs
  refine .inl ⟨enters_of Try.func67 (by kernel_rfl) rfl _ _, (callsIn_wide.1 (Compare_in pa pb ca cb a b ha hb la lb w hA hB)).mono ?_⟩
  rintro e W' ⟨rfl, hb'⟩
  refine ⟨hb', ?_⟩
  rw [cmpI_mod ha hb]
  exact DR.sc rfl
end Go.Proofs.Ytpanbfainilmpaa.Ev.N
