/- The law FlushLevels in the evaluator: it answers true. -/
import Derived.Test.YtpanbfainilmpaaEvT3
import Derived.Test.YtpanbfainilmpaaEvL14
set_option linter.unusedVariables false
set_option linter.unusedSimpArgs false
set_option maxRecDepth 100000
set_option maxHeartbeats 4000000
namespace Go.Proofs.Ytpanbfainilmpaa.Ev.S
open Go Go.Proofs.Ytpanbfainilmpaa.Ev

def id1 : Vid := ⟨1, 0, 1⟩
def cn (T : List (List ByteArray)) (c : List Int) (k : Nat) : Nat := match c[k]? with
  | some x => x.toNat % ((tk T k).length + 1)
  | none => 0
theorem cn_le (T : List (List ByteArray)) (c : List Int) (k : Nat) : cn T c k ≤ (tk T k).length := by
  unfold cn
  split
  · have := Nat.mod_lt ‹Int›.toNat (show 0 < (tk T k).length + 1 by omega); omega
  · omega
def cAt (Cs : List (List Int)) (i : Nat) : List Int := (Cs[i]?).getD []
def flu (T : List (List ByteArray)) (Cs : List (List Int)) (i : Nat) : Flu := ⟨mk i, id1, lv T (cn T (cAt Cs i)) T.length, ⟨0, 0, 0⟩, [], false⟩
def fls (T : List (List ByteArray)) (Cs : List (List Int)) (i : Nat) : List Flu := (List.range i).map (flu T Cs)
def lg (T : List (List ByteArray)) (Cs : List (List Int)) : Nat → Nat → Nat
  | 0, _ => 0
  | i + 1, j => max (lg T Cs i j) (cn T (cAt Cs i) j)
theorem lg_le (T : List (List ByteArray)) (Cs : List (List Int)) (i j : Nat) : lg T Cs i j ≤ (tk T j).length := by
  induction i with
  | zero => exact Nat.zero_le _
  | succ i ih => exact Nat.max_le.2 ⟨ih, cn_le T _ j⟩
theorem cn_lg (T : List (List ByteArray)) (Cs : List (List Int)) {i m : Nat} (h : i < m) (j : Nat) : cn T (cAt Cs i) j ≤ lg T Cs m j := by
  induction m with
  | zero => omega
  | succ m ih =>
    show _ ≤ max (lg T Cs m j) (cn T (cAt Cs m) j)
    by_cases hi : i = m
    · subst hi; exact Nat.le_max_right _ _
    · exact Nat.le_trans (ih (by omega)) (Nat.le_max_left _ _)
theorem fls_succ (T : List (List ByteArray)) (Cs : List (List Int)) (i : Nat) : fls T Cs (i + 1) = fls T Cs i ++ [flu T Cs i] := by
  unfold fls
  rw [List.range_succ, List.map_append]; rfl
theorem fls_len (T : List (List ByteArray)) (Cs : List (List Int)) (i : Nat) : (fls T Cs i).length = i := by simp [fls]
theorem union_fls (T : List (List ByteArray)) (Cs : List (List Int)) (i : Nat) : unionF (fls T Cs i) id1 = lv T (lg T Cs i) T.length := by
  induction i with
  | zero =>
    have : ∀ k, lv T (lg T Cs 0) k = [] := by
      intro k
      induction k with
      | zero => rfl
      | succ k ih => rw [lv_succ, ih]; simp [st, lg]
    rw [this]; rfl
  | succ i ih =>
    have e : unionF (fls T Cs (i + 1)) id1 = tells (unionF (fls T Cs i) id1) (flu T Cs i) id1 := by
      unfold unionF
      rw [fls_succ, List.foldl_append]; rfl
    rw [e, ih]
    have t : tells (lv T (lg T Cs i) T.length) (flu T Cs i) id1 = (lv T (cn T (cAt Cs i)) T.length).foldl grow (lv T (lg T Cs i) T.length) := by
      unfold tells
      rw [if_neg (by simp only [flu]; decide)]
      rfl
    rw [t, grows_lv T (fun j _ => lg_le T Cs i j) (fun j _ => cn_le T _ j) T.length (Nat.le_refl _)]
    exact lv_ext T fun j hj => by rw [if_pos hj]; rfl
/-- The longest so far, while the i-th is told up to k. -/
def lgk (T : List (List ByteArray)) (Cs : List (List Int)) (i k j : Nat) : Nat := if j < k then lg T Cs (i + 1) j else lg T Cs i j
def lgC (g : Nat → Nat) (K : Nat) : List C := (List.range K).map fun j => C.d (.sc (.int .i64 (g j : Nat)))
theorem lgC_get (g : Nat → Nat) {K k : Nat} (h : k < K) : (lgC g K)[k]? = some (C.d (.sc (.int .i64 (g k : Nat)))) := by simp [lgC, h]
theorem lgC_len (g : Nat → Nat) (K : Nat) : (lgC g K).length = K := by simp [lgC]
theorem lgC_old (g : Nat → Nat) (K n : Nat) : (lgC g K).map (C.old n) = lgC g K := by
  unfold lgC
  rw [List.map_map]
  rfl
theorem lgC_set (g h : Nat → Nat) {K k n : Nat} (e : h k = n) (e2 : ∀ j, j ≠ k → h j = g j) : (lgC g K).set k (C.d (.sc (.int .i64 (n : Nat)))) = lgC h K := by
  apply List.ext_getElem
  · simp [lgC]
  · intro i h1 h2
    rw [List.getElem_set]
    simp only [lgC, List.getElem_map, List.getElem_range]
    split
    · rename_i hk; subst hk; rw [e]
    · rename_i hk; rw [e2 i (fun h => hk h.symm)]
theorem lgC_zero (K : Nat) : (List.replicate K [C.d (.sc (.int .i64 0))]).flatten = lgC (fun _ => 0) K := by
  induction K with
  | zero => rfl
  | succ K ih =>
    rw [List.replicate_succ', List.flatten_append, ih]
    unfold lgC
    rw [List.range_succ, List.map_append]
    rfl
theorem lgC_ext {g h : Nat → Nat} {K : Nat} (e : ∀ j, j < K → g j = h j) : lgC g K = lgC h K := by
  unfold lgC
  apply List.map_congr_left
  intro j hj
  rw [e j (List.mem_range.1 hj)]
theorem max_int (a b : Nat) : (if (a : Int) < (b : Int) then (b : Int) else (a : Int)) = ((max a b : Nat) : Int) := by
  split <;> omega

abbrev bxs (T : List (List ByteArray)) (Cs : List (List Int)) (i k : Nat) : List Strm := lv T (cn T (cAt Cs i)) k
abbrev h11 (T : List (List ByteArray)) (Cs : List (List Int)) (i k : Nat) : Hp :=
  [(0, .arr [(C.d (D.sc (Value.int IntKind.i64 (1)))), (C.d (D.sc (Value.int IntKind.i64 (0)))), (C.d (D.sc (Value.int IntKind.i64 (1))))]), (1, .tok (fls T Cs i).length (tS (fls T Cs i).length 11)), (2, .arr (lgC (lgk T Cs i k) T.length)), (3, .tok 0 0), (4, .tok 0 0),
   (5, .arr [(C.d (D.sc (Value.int IntKind.i64 (i)))), (C.d (D.sc (Value.int IntKind.i64 (1)))), (C.d (D.sc (Value.int IntKind.i64 (1)))), (C.d (D.sc (Value.int IntKind.i64 (0)))), (C.d (D.sc (Value.int IntKind.i64 (1)))), .gr 6 ((bxs T Cs i k).map Strm.enc), (C.d (D.sc (Value.int IntKind.i64 (0)))), (C.d (D.sc (Value.int IntKind.i64 (0)))), (C.d (D.sc (Value.int IntKind.i64 (0)))), .gr 7 [], (C.d (D.sc (Value.bool (false))))]), (6, .tok (bxs T Cs i k).length (tS (bxs T Cs i k).length 3)), (7, .tok 0 0)]
abbrev s11 (T : List (List ByteArray)) (Cs : List (List Int)) (i k : Nat) : St :=
  ⟨[(0, (AV.c (C.d (D.sl (T.map fun l => [.sl (l.map tenc)]))))), (1, (AV.c (C.d (D.sl (Cs.map fun l => [.sl (l.map fun n => [.sc (.int .u8 n)])]))))), (5, .ptr 0 0), (6, (AV.c (C.gr 1 ((fls T Cs i).map Flu.enc)))), (7, .ref 2 0 T.length), (8, (AV.c (C.d (D.sc (Value.int IntKind.i64 (i)))))), (9, .ptr 5 0), (10, (AV.c (C.d (D.sc (Value.int IntKind.i64 (k))))))], h11 T Cs i k, 8⟩
theorem law11_step (T : List (List ByteArray)) (Cs : List (List Int)) (hT : T.length ≤ 6) (hC : Cs.length ≤ 6) (hwf : ∀ c ∈ Cs, ∀ n ∈ c, 0 ≤ n ∧ n ≤ 255) (hcl : ∀ c ∈ Cs, c.length ≤ 140737488351232) (i : Nat) (hi : i < Cs.length) (k : Nat) (hk : k < T.length) (h20 : T[k].length ≤ 20) :
    loopR AA XX [0, 1, 5, 6, 7, 8, 9, 10] 8 b11_1 (RUN AA XX b11_1 (s11 T Cs i k)) = loopR AA XX [0, 1, 5, 6, 7, 8, 9, 10] 8 b11_1 (RUN AA XX b11_1 (s11 T Cs i (k + 1))) := by
  have hlt := ltT hk
  have hgT := getm T (fun l => [D.sl (l.map tenc)]) hk
  have hgC := getm Cs (fun l => [D.sl (l.map fun n => [.sc (.int .u8 n)])]) hi
  have hw := wrap_succ k (by omega)
  have hw2 := wrap_succ T[k].length (by omega)
  have d20 : decide ((20 : Int) < (T[k].length : Int)) = false := by simp; omega
  have htk : tk T k = T[k] := by unfold tk; rw [List.getElem?_eq_getElem hk]; rfl
  have hca : cAt Cs i = Cs[i] := by unfold cAt; rw [List.getElem?_eq_getElem hi]; rfl
  have hwfi := hwf _ (List.getElem_mem hi)
  have hci := hcl _ (List.getElem_mem hi)
  have q1 : ((k : Int) < (T.length : Int)) = True := eq_true (by omega)
  have q2 : (k < T.length) = True := eq_true hk
  have hcne : (((T[k].length + 1 : Nat) : Int) = 0) = False := eq_false (by omega)
  have hlen : (bxs T Cs i k).length ≤ 6 := Nat.le_trans (lv_len T _ k) (by omega)
  have mb := mbk (show (bxs T Cs i k).length + 1 ≤ 1000000 by omega) (Nat.le_refl _) (show 40 ≤ 1000 by omega)
  have hget := lgC_get (lgk T Cs i k) hk
  have hlk : lgk T Cs i k k = lg T Cs i k := by simp [lgk]
  have hset : (lgC (lgk T Cs i k) T.length).set k (C.d (.sc (.int .i64 ((max (lg T Cs i k) (cn T (cAt Cs i) k) : Nat) : Int)))) = lgC (lgk T Cs i (k + 1)) T.length := by
    refine lgC_set _ _ ?_ ?_
    · simp only [lgk, if_pos (Nat.lt_succ_self k)]; rfl
    · intro j hj
      unfold lgk
      by_cases h1 : j < k
      · rw [if_pos h1, if_pos (by omega)]
      · rw [if_neg h1, if_neg (by omega)]
  have hst : bxs T Cs i (k + 1) = bxs T Cs i k ++ st T (cn T (cAt Cs i)) k := lv_succ T _ k
  have hne := cn_le T (cAt Cs i) k
  rw [htk] at hne
  have hmx := max_int (lg T Cs i k) (cn T (cAt Cs i) k)
  rw [b11_1_run]
  by_cases hkc : k < Cs[i].length
  · have hdc := ltT hkc
    have hg2 := getm Cs[i] (fun n => [D.sc (.int .u8 n)]) hkc
    have hx := hwfi _ (List.getElem_mem hkc)
    have hcv : IntKind.i64.wrap Cs[i][k] = Cs[i][k] := wrap_i64 _ (by omega) (by omega)
    have hcn : Cs[i][k].tmod ((T[k].length + 1 : Nat) : Int) = ((cn T (cAt Cs i) k : Nat) : Int) := by
      rw [hca]
      unfold cn
      rw [List.getElem?_eq_getElem hkc, htk]
      simp only
      obtain ⟨x, hxx⟩ : ∃ x : Nat, Cs[i][k] = (x : Int) := ⟨Cs[i][k].toNat, by omega⟩
      rw [hxx, Int.toNat_natCast]
      rfl
    rcases Nat.eq_zero_or_pos (cn T (cAt Cs i) k) with hz | hz
    · have d0 : decide ((0 : Int) < ((cn T (cAt Cs i) k : Nat) : Int)) = false := by simp; omega
      have hst0 : bxs T Cs i (k + 1) = bxs T Cs i k := by rw [hst]; simp [st, hz]
      simp only [s11, h11, go_sem, ↓reduceIte, Nat.reduceAdd, Nat.reduceSub, Nat.reduceMul, Nat.reduceEqDiff, Nat.reduceLT, Nat.reduceShiftRight, Nat.reduceAnd, Nat.reduceBNe, Nat.reduceLeDiff, Nat.reduceBEq, Nat.testBit, Nat.zero_lt_one, Int.reduceToNat, Int.reduceNeg, Int.reduceLE, Int.reduceLT, Int.reduceEq, decide_true, decide_false, Bool.and_true, Bool.true_and, Bool.and_false, Bool.false_and, Bool.or_true, Bool.true_or, Bool.or_false, Bool.false_or, Bool.not_true, Bool.not_false, beq_self_eq_true, reduceCtorEq, Int.le_refl, Nat.add_zero, and_self, and_true, true_and, or_true, true_or, if_true, if_false, Nat.le_refl, Bool.and_self, eq_self, Bool.not_false, Bool.not_true, hlt, hgT, hgC, hg2, hw, hw2, d20, hdc, hcv, hcn, hcne, d0, q1, q2, hget, hlk, hmx, hset, lgC_len, lgC_old, hst0, Nat.mul_one]
    · have d0 : decide ((0 : Int) < ((cn T (cAt Cs i) k : Nat) : Int)) = true := by simp; omega
      have hst1 : bxs T Cs i (k + 1) = bxs T Cs i k ++ [⟨mk k, T[k].take (cn T (cAt Cs i) k)⟩] := by rw [hst]; unfold st; rw [if_pos hz, htk]
      have q3 : (((cn T (cAt Cs i) k : Nat) : Int) ≤ (T[k].length : Int)) = True := eq_true (by omega)
      simp only [s11, h11, go_sem, ↓reduceIte, Nat.reduceAdd, Nat.reduceSub, Nat.reduceMul, Nat.reduceEqDiff, Nat.reduceLT, Nat.reduceShiftRight, Nat.reduceAnd, Nat.reduceBNe, Nat.reduceLeDiff, Nat.reduceBEq, Nat.testBit, Nat.zero_lt_one, Int.reduceToNat, Int.reduceNeg, Int.reduceLE, Int.reduceLT, Int.reduceEq, decide_true, decide_false, Bool.and_true, Bool.true_and, Bool.and_false, Bool.false_and, Bool.or_true, Bool.true_or, Bool.or_false, Bool.false_or, Bool.not_true, Bool.not_false, beq_self_eq_true, reduceCtorEq, Int.le_refl, Nat.add_zero, and_self, and_true, true_and, or_true, true_or, if_true, if_false, Nat.le_refl, Bool.and_self, eq_self, Bool.not_false, Bool.not_true, hlt, hgT, hgC, hg2, hw, hw2, d20, hdc, hcv, hcn, hcne, d0, q1, q2, q3, hget, hlk, hmx, hset, lgC_len, lgC_old, hst1, Nat.mul_one, mb, tSok, tS1, all1, List.length_append, List.map_append, Strm.enc, mk, take_enc]
  · have hdc : decide ((k : Int) < (Cs[i].length : Int)) = false := ltF (by omega)
    have hz : cn T (cAt Cs i) k = 0 := by
      rw [hca]
      unfold cn
      rw [List.getElem?_eq_none (by omega)]
    have hst0 : bxs T Cs i (k + 1) = bxs T Cs i k := by rw [hst]; simp [st, hz]
    rw [hz] at hset
    have hm0 := max_int (lg T Cs i k) 0
    simp only [Nat.max_zero, Int.natCast_zero] at hset hm0
    simp only [s11, h11, go_sem, ↓reduceIte, Nat.reduceAdd, Nat.reduceSub, Nat.reduceMul, Nat.reduceEqDiff, Nat.reduceLT, Nat.reduceShiftRight, Nat.reduceAnd, Nat.reduceBNe, Nat.reduceLeDiff, Nat.reduceBEq, Nat.testBit, Nat.zero_lt_one, Int.reduceToNat, Int.reduceNeg, Int.reduceLE, Int.reduceLT, Int.reduceEq, decide_true, decide_false, Bool.and_true, Bool.true_and, Bool.and_false, Bool.false_and, Bool.or_true, Bool.true_or, Bool.or_false, Bool.false_or, Bool.not_true, Bool.not_false, beq_self_eq_true, reduceCtorEq, Int.le_refl, Nat.add_zero, and_self, and_true, true_and, or_true, true_or, if_true, if_false, Nat.le_refl, Bool.and_self, eq_self, Bool.not_false, Bool.not_true, hlt, hgT, hgC, hw, d20, hdc, Int.lt_irrefl, q1, q2, hget, hlk, hm0, hset, lgC_len, lgC_old, hst0, Nat.mul_one]

theorem law11_inner (T : List (List ByteArray)) (Cs : List (List Int)) (hT : T.length ≤ 6) (hC : Cs.length ≤ 6) (hwf : ∀ c ∈ Cs, ∀ n ∈ c, 0 ≤ n ∧ n ≤ 255) (hcl : ∀ c ∈ Cs, c.length ≤ 140737488351232) (i : Nat) (hi : i < Cs.length) (m : Nat) (hm : m ≤ T.length) (h20 : ∀ k (hk : k < m) (hl : k < T.length), T[k].length ≤ 20) :
    loopR AA XX [0, 1, 5, 6, 7, 8, 9, 10] 8 b11_1 (RUN AA XX b11_1 ⟨[(0, (AV.c (C.d (D.sl (T.map fun l => [.sl (l.map tenc)]))))), (1, (AV.c (C.d (D.sl (Cs.map fun l => [.sl (l.map fun n => [.sc (.int .u8 n)])]))))), (5, .ptr 0 0), (6, (AV.c (C.gr 1 ((fls T Cs i).map Flu.enc)))), (7, .ref 2 0 T.length), (8, (AV.c (C.d (D.sc (Value.int IntKind.i64 (i)))))), (9, .ptr 5 0), (10, (AV.c (C.d (D.sc (Value.int IntKind.i64 (0))))))], [(0, .arr [(C.d (D.sc (Value.int IntKind.i64 (1)))), (C.d (D.sc (Value.int IntKind.i64 (0)))), (C.d (D.sc (Value.int IntKind.i64 (1))))]), (1, .tok (fls T Cs i).length (tS (fls T Cs i).length 11)), (2, .arr (lgC (lg T Cs i) T.length)), (3, .tok 0 0), (4, .tok 0 0),
   (5, .arr [(C.d (D.sc (Value.int IntKind.i64 (i)))), (C.d (D.sc (Value.int IntKind.i64 (1)))), (C.d (D.sc (Value.int IntKind.i64 (1)))), (C.d (D.sc (Value.int IntKind.i64 (0)))), (C.d (D.sc (Value.int IntKind.i64 (1)))), .gr 6 [], (C.d (D.sc (Value.int IntKind.i64 (0)))), (C.d (D.sc (Value.int IntKind.i64 (0)))), (C.d (D.sc (Value.int IntKind.i64 (0)))), .gr 7 [], (C.d (D.sc (Value.bool (false))))]), (6, .tok 0 0), (7, .tok 0 0)], 8⟩) = loopR AA XX [0, 1, 5, 6, 7, 8, 9, 10] 8 b11_1 (RUN AA XX b11_1 (s11 T Cs i m)) := by
  have := iter (F := fun (k : Nat) => loopR AA XX [0, 1, 5, 6, 7, 8, 9, 10] 8 b11_1 (RUN AA XX b11_1 (s11 T Cs i k))) (Nat.zero_le m) fun k _ hk => law11_step T Cs hT hC hwf hcl i hi k (by omega) (h20 k hk (by omega))
  have e0 : lgC (lgk T Cs i 0) T.length = lgC (lg T Cs i) T.length := lgC_ext fun j _ => by simp [lgk]
  have e1 : bxs T Cs i 0 = [] := rfl
  simp only [s11, h11, e0, e1, List.map_nil, List.length_nil, tS0] at this
  rw [show (((0 : Nat) : Int)) = 0 from rfl] at this
  exact this
abbrev s10 (T : List (List ByteArray)) (Cs : List (List Int)) (i : Nat) : St :=
  ⟨[(0, (AV.c (C.d (D.sl (T.map fun l => [.sl (l.map tenc)]))))), (1, (AV.c (C.d (D.sl (Cs.map fun l => [.sl (l.map fun n => [.sc (.int .u8 n)])]))))), (5, .ptr 0 0), (6, (AV.c (C.gr 1 ((fls T Cs i).map Flu.enc)))), (7, .ref 2 0 T.length), (8, (AV.c (C.d (D.sc (Value.int IntKind.i64 (i))))))], [(0, .arr [(C.d (D.sc (Value.int IntKind.i64 (1)))), (C.d (D.sc (Value.int IntKind.i64 (0)))), (C.d (D.sc (Value.int IntKind.i64 (1))))]), (1, .tok (fls T Cs i).length (tS (fls T Cs i).length 11)), (2, .arr (lgC (lg T Cs i) T.length))], 3⟩
theorem law11_round (T : List (List ByteArray)) (Cs : List (List Int)) (hT : T.length ≤ 6) (hC : Cs.length ≤ 6) (hwf : ∀ c ∈ Cs, ∀ n ∈ c, 0 ≤ n ∧ n ≤ 255) (hcl : ∀ c ∈ Cs, c.length ≤ 140737488351232) (i : Nat) (hi : i < Cs.length) (h20 : ∀ k (_ : k < T.length) (hl : k < T.length), T[k].length ≤ 20) :
    loopR AA XX [0, 1, 5, 6, 7, 8] 3 b11_0 (RUN AA XX b11_0 (s10 T Cs i)) = loopR AA XX [0, 1, 5, 6, 7, 8] 3 b11_0 (RUN AA XX b11_0 (s10 T Cs (i + 1))) := by
  have hlt := ltT hi
  have hw := wrap_succ i (by omega)
  have inner := law11_inner T Cs hT hC hwf hcl i hi T.length (Nat.le_refl _) h20
  have hfl := fls_len T Cs i
  have mb := mbk (show (fls T Cs i).length + 1 ≤ 1000000 by omega) (Nat.le_refl _) (show 120 ≤ 1000 by omega)
  have e1 : lgC (lgk T Cs i T.length) T.length = lgC (lg T Cs (i + 1)) T.length := lgC_ext fun j hj => by simp only [lgk, if_pos hj]
  have e2 : fls T Cs (i + 1) = fls T Cs i ++ [flu T Cs i] := fls_succ T Cs i
  have e3 : (flu T Cs i).enc = [.sc (.int .i64 i), .sc (.int .i64 1), .sc (.int .i64 1), .sc (.int .i64 0), .sc (.int .i64 1), .sl ((bxs T Cs i T.length).map Strm.enc), .sc (.int .i64 0), .sc (.int .i64 0), .sc (.int .i64 0), .sl [], .sc (.bool false)] := rfl
  rw [b11_0_run]
  simp only [s10, go_sem, ↓reduceIte, Nat.reduceAdd, Nat.reduceSub, Nat.reduceMul, Nat.reduceEqDiff, Nat.reduceLT, Nat.reduceShiftRight, Nat.reduceAnd, Nat.reduceBNe, Nat.reduceLeDiff, Nat.reduceBEq, Nat.testBit, Nat.zero_lt_one, Int.reduceToNat, Int.reduceNeg, Int.reduceLE, Int.reduceLT, Int.reduceEq, decide_true, decide_false, Bool.and_true, Bool.true_and, Bool.and_false, Bool.false_and, Bool.or_true, Bool.true_or, Bool.or_false, Bool.false_or, Bool.not_true, Bool.not_false, beq_self_eq_true, reduceCtorEq, Int.le_refl, Nat.add_zero, and_self, and_true, true_and, or_true, true_or, if_true, if_false, Nat.le_refl, Bool.and_self, eq_self, Bool.not_false, Bool.not_true, hlt, hw, lgC_old]
  rw [inner, b11_1_run]
  simp only [s11, h11, go_sem, ↓reduceIte, Nat.reduceAdd, Nat.reduceSub, Nat.reduceMul, Nat.reduceEqDiff, Nat.reduceLT, Nat.reduceShiftRight, Nat.reduceAnd, Nat.reduceBNe, Nat.reduceLeDiff, Nat.reduceBEq, Nat.testBit, Nat.zero_lt_one, Int.reduceToNat, Int.reduceNeg, Int.reduceLE, Int.reduceLT, Int.reduceEq, decide_true, decide_false, Bool.and_true, Bool.true_and, Bool.and_false, Bool.false_and, Bool.or_true, Bool.true_or, Bool.or_false, Bool.false_or, Bool.not_true, Bool.not_false, beq_self_eq_true, reduceCtorEq, Int.le_refl, Nat.add_zero, and_self, and_true, true_and, or_true, true_or, if_true, if_false, Nat.le_refl, Bool.and_self, eq_self, Bool.not_false, Bool.not_true, Int.lt_irrefl, hw, lgC_old, e1, e2, e3, mb, tSok, tS1, all1, List.length_append, List.map_append]

theorem total_20 (l : List Strm) (h : ∀ s ∈ l, s.texts.length ≤ 20) : total l ≤ l.length * 20 := by
  induction l with
  | nil => exact Nat.le_refl _
  | cons s l ih =>
    have := ih fun x hx => h x (by simp [hx])
    have h2 := h s (by simp)
    unfold total at *
    rw [List.map_cons, List.sum_cons, List.length_cons]
    omega
theorem tk_20 {T : List (List ByteArray)} (h20 : ∀ k (_ : k < T.length) (hl : k < T.length), T[k].length ≤ 20) (k : Nat) : (tk T k).length ≤ 20 := by
  unfold tk
  by_cases h : k < T.length
  · rw [List.getElem?_eq_getElem h]; exact h20 k h h
  · rw [List.getElem?_eq_none (by omega)]; simp
theorem lv_20 {T : List (List ByteArray)} (h20 : ∀ k (_ : k < T.length) (hl : k < T.length), T[k].length ≤ 20) (g : Nat → Nat) (k : Nat) : ∀ s ∈ lv T g k, s.texts.length ≤ 20 := by
  intro s hs
  obtain ⟨j, _, _, rfl⟩ := (lv_mem T).1 hs
  have := tk_20 h20 j
  simp only [List.length_take]
  omega
theorem total_lv {T : List (List ByteArray)} (h20 : ∀ k (_ : k < T.length) (hl : k < T.length), T[k].length ≤ 20) (hT : T.length ≤ 6) (g : Nat → Nat) : total (lv T g T.length) ≤ 120 := by
  have h1 := total_20 _ (lv_20 h20 g T.length)
  have h2 := lv_len T g T.length
  omega
theorem alltexts_fls {T : List (List ByteArray)} (h20 : ∀ k (_ : k < T.length) (hl : k < T.length), T[k].length ≤ 20) (hT : T.length ≤ 6) (Cs : List (List Int)) (m : Nat) : alltexts (fls T Cs m) ≤ m * 120 := by
  induction m with
  | zero => exact Nat.le_refl _
  | succ m ih =>
    have := total_lv h20 hT (cn T (cAt Cs m))
    unfold alltexts at *
    rw [fls_succ, List.map_append, List.sum_append]
    simp only [List.map_cons, List.map_nil, List.sum_cons, List.sum_nil, flu]
    omega
theorem fls_get (T : List (List ByteArray)) (Cs : List (List Int)) {i m : Nat} (h : i < m) : ((fls T Cs m).map Flu.enc)[i]? = some (flu T Cs i).enc := by simp [fls, h]

abbrev hC (T : List (List ByteArray)) (Cs : List (List Int)) (m : Nat) : Hp := [(0, .arr [(C.d (D.sc (Value.int IntKind.i64 (1)))), (C.d (D.sc (Value.int IntKind.i64 (0)))), (C.d (D.sc (Value.int IntKind.i64 (1))))]), (1, .tok (fls T Cs m).length (tS (fls T Cs m).length 11)), (2, .arr (lgC (lg T Cs m) T.length))]
abbrev s13 (T : List (List ByteArray)) (Cs : List (List Int)) (m i k : Nat) : St :=
  ⟨[(0, (AV.c (C.d (D.sl (T.map fun l => [.sl (l.map tenc)]))))), (5, .ptr 0 0), (6, (AV.c (C.gr 1 ((fls T Cs m).map Flu.enc)))), (7, .ref 2 0 T.length), (12, (AV.c (C.d (D.sl ((lv T (lg T Cs m) T.length).map Strm.enc))))), (13, (AV.c (C.d (D.sc (Value.int IntKind.i64 (i)))))), (14, (AV.c (C.d (D.sl ((lv T (lg T Cs m) T.length).map Strm.enc))))), (15, (AV.c (C.d (D.sc (Value.int IntKind.i64 (k))))))], hC T Cs m, 3⟩
theorem law11_count (T : List (List ByteArray)) (Cs : List (List Int)) (hT : T.length ≤ 6) (m i : Nat) :
    loopR AA XX [0, 5, 6, 7, 12, 13, 14, 15] 3 b11_3 (RUN AA XX b11_3 ⟨[(0, (AV.c (C.d (D.sl (T.map fun l => [.sl (l.map tenc)]))))), (5, .ptr 0 0), (6, (AV.c (C.gr 1 ((fls T Cs m).map Flu.enc)))), (7, .ref 2 0 T.length), (12, (AV.c (C.d (D.sl ((lv T (lg T Cs m) T.length).map Strm.enc))))), (13, (AV.c (C.d (D.sc (Value.int IntKind.i64 (i)))))), (14, (AV.c (C.d (D.sl ((lv T (lg T Cs m) T.length).map Strm.enc))))), (15, (AV.c (C.d (D.sc (Value.int IntKind.i64 (0))))))], hC T Cs m, 3⟩) = loopR AA XX [0, 5, 6, 7, 12, 13, 14, 15] 3 b11_3 (RUN AA XX b11_3 (s13 T Cs m i T.length)) := by
  have := iter (F := fun (k : Nat) => loopR AA XX [0, 5, 6, 7, 12, 13, 14, 15] 3 b11_3 (RUN AA XX b11_3 (s13 T Cs m i k))) (Nat.zero_le T.length) fun k _ hk => by
    have hlt := ltT hk
    have hw := wrap_succ k (by omega)
    have q2 : (k < T.length) = True := eq_true hk
    have q1 : ((k : Int) < (T.length : Int)) = True := eq_true (by omega)
    have hget := lgC_get (lg T Cs m) hk
    have hlen := lv_len T (lg T Cs m) T.length
    have c35 := Count35 (lv T (lg T Cs m) T.length) (mk k) (by omega)
    rw [lv_count T hk (lg_le T Cs m k)] at c35
    simp only [Mem.enc, mk] at c35
    show loopR _ _ _ _ _ (RUN _ _ _ _) = _
    rw [b11_3_run]
    simp only [s13, hC, go_sem, ↓reduceIte, Nat.reduceAdd, Nat.reduceSub, Nat.reduceMul, Nat.reduceEqDiff, Nat.reduceLT, Nat.reduceShiftRight, Nat.reduceAnd, Nat.reduceBNe, Nat.reduceLeDiff, Nat.reduceBEq, Nat.testBit, Nat.zero_lt_one, Int.reduceToNat, Int.reduceNeg, Int.reduceLE, Int.reduceLT, Int.reduceEq, decide_true, decide_false, Bool.and_true, Bool.true_and, Bool.and_false, Bool.false_and, Bool.or_true, Bool.true_or, Bool.or_false, Bool.false_or, Bool.not_true, Bool.not_false, beq_self_eq_true, reduceCtorEq, Int.le_refl, Nat.add_zero, and_self, and_true, true_and, or_true, true_or, if_true, if_false, Nat.le_refl, Bool.and_self, eq_self, Bool.not_false, Bool.not_true, hlt, hw, q1, q2, hget, c35, lgC_len, lgC_old, Nat.mul_one]
  simp only [s13, hC] at this
  rw [show (((0 : Nat) : Int)) = 0 from rfl] at this
  exact this
abbrev s12 (T : List (List ByteArray)) (Cs : List (List Int)) (m i : Nat) : St :=
  ⟨[(0, (AV.c (C.d (D.sl (T.map fun l => [.sl (l.map tenc)]))))), (5, .ptr 0 0), (6, (AV.c (C.gr 1 ((fls T Cs m).map Flu.enc)))), (7, .ref 2 0 T.length), (12, (AV.c (C.d (D.sl ((lv T (lg T Cs m) T.length).map Strm.enc))))), (13, (AV.c (C.d (D.sc (Value.int IntKind.i64 (i))))))], hC T Cs m, 3⟩
theorem law11_check (T : List (List ByteArray)) (Cs : List (List Int)) (hT : T.length ≤ 6) (hCl : Cs.length ≤ 6) (h20 : ∀ k (_ : k < T.length) (hl : k < T.length), T[k].length ≤ 20) (m : Nat) (hm : m ≤ 6) (i : Nat) (hi : i < m) :
    loopR AA XX [0, 5, 6, 7, 12, 13] 3 b11_2 (RUN AA XX b11_2 (s12 T Cs m i)) = loopR AA XX [0, 5, 6, 7, 12, 13] 3 b11_2 (RUN AA XX b11_2 (s12 T Cs m (i + 1))) := by
  have hfl := fls_len T Cs m
  have hlt : decide ((i : Int) < ((fls T Cs m).length : Int)) = true := ltT (by omega)
  have hw := wrap_succ i (by omega)
  have hg := fls_get T Cs hi
  have e3 : (flu T Cs i).enc = [.sc (.int .i64 i), .sc (.int .i64 1), .sc (.int .i64 1), .sc (.int .i64 0), .sc (.int .i64 1), .sl ((lv T (cn T (cAt Cs i)) T.length).map Strm.enc), .sc (.int .i64 0), .sc (.int .i64 0), .sc (.int .i64 0), .sl [], .sc (.bool false)] := rfl
  rw [e3] at hg
  have l1 := lv_len T (cn T (cAt Cs i)) T.length
  have l2 := lv_len T (lg T Cs m) T.length
  have t1 := lv_20 h20 (cn T (cAt Cs i)) T.length
  have t2 := lv_20 h20 (lg T Cs m) T.length
  have tt := total_lv h20 hT (lg T Cs m)
  have ml := miss_len (lv T (cn T (cAt Cs i)) T.length) (lv T (lg T Cs m) T.length) id1
  have a1 := Missing48 (lv T (cn T (cAt Cs i)) T.length) (lv T (lg T Cs m) T.length) id1 (by omega) (by omega) (fun s hs => by have := t2 s hs; omega) (by omega)
  have a2 := Put50 (lv T (cn T (cAt Cs i)) T.length) (missF (lv T (cn T (cAt Cs i)) T.length) (lv T (lg T Cs m) T.length) id1) (by omega) (fun s hs => by have := t1 s hs; omega) (by omega)
  have lev := level T (K := T.length) (g := cn T (cAt Cs i)) (L := lg T Cs m) id1 (fun j _ => cn_lg T Cs hi j) (fun j _ => lg_le T Cs m j) T.length (Nat.le_refl _)
  have lex : lv T (fun j => if j < T.length then lg T Cs m j else cn T (cAt Cs i) j) T.length = lv T (lg T Cs m) T.length := lv_ext T fun j hj => by rw [if_pos hj]
  rw [lev, lex] at a2
  have a3 := Missing48 (lv T (lg T Cs m) T.length) (lv T (lg T Cs m) T.length) id1 (by omega) (by omega) (fun s hs => by have := t2 s hs; omega) (by omega)
  rw [miss_self T id1 (fun j _ => lg_le T Cs m j)] at a3
  have a4 := Same33 (lv T (lg T Cs m) T.length) (by omega) (fun s hs => by have := t2 s hs; omega)
  simp only [Vid.enc, id1] at a1 a2 a3
  have cnt := law11_count T Cs hT m i
  simp only [hC] at cnt
  rw [b11_2_run]
  simp only [s12, hC, go_sem, ↓reduceIte, Nat.reduceAdd, Nat.reduceSub, Nat.reduceMul, Nat.reduceEqDiff, Nat.reduceLT, Nat.reduceShiftRight, Nat.reduceAnd, Nat.reduceBNe, Nat.reduceLeDiff, Nat.reduceBEq, Nat.testBit, Nat.zero_lt_one, Int.reduceToNat, Int.reduceNeg, Int.reduceLE, Int.reduceLT, Int.reduceEq, decide_true, decide_false, Bool.and_true, Bool.true_and, Bool.and_false, Bool.false_and, Bool.or_true, Bool.true_or, Bool.or_false, Bool.false_or, Bool.not_true, Bool.not_false, beq_self_eq_true, reduceCtorEq, Int.le_refl, Nat.add_zero, and_self, and_true, true_and, or_true, true_or, if_true, if_false, Nat.le_refl, Bool.and_self, eq_self, Bool.not_false, Bool.not_true, hlt, hw, hg, a1, a2, lgC_old]
  rw [cnt, b11_3_run]
  simp only [s13, hC, go_sem, ↓reduceIte, Nat.reduceAdd, Nat.reduceSub, Nat.reduceMul, Nat.reduceEqDiff, Nat.reduceLT, Nat.reduceShiftRight, Nat.reduceAnd, Nat.reduceBNe, Nat.reduceLeDiff, Nat.reduceBEq, Nat.testBit, Nat.zero_lt_one, Int.reduceToNat, Int.reduceNeg, Int.reduceLE, Int.reduceLT, Int.reduceEq, decide_true, decide_false, Bool.and_true, Bool.true_and, Bool.and_false, Bool.false_and, Bool.or_true, Bool.true_or, Bool.or_false, Bool.false_or, Bool.not_true, Bool.not_false, beq_self_eq_true, reduceCtorEq, Int.le_refl, Nat.add_zero, and_self, and_true, true_and, or_true, true_or, if_true, if_false, Nat.le_refl, Bool.and_self, eq_self, Bool.not_false, Bool.not_true, Int.lt_irrefl, a3, a4, hw, lgC_old, List.map_nil, List.length_nil, show ((0 : Nat) : Int) = 0 from rfl]

/-- Either some list of texts is too long, or all are short. -/
theorem long_or (T : List (List ByteArray)) : (∃ k, ∃ hk : k < T.length, 20 < T[k].length ∧ ∀ j (_ : j < k) (hl : j < T.length), T[j].length ≤ 20) ∨ ∀ j (_ : j < T.length) (hl : j < T.length), T[j].length ≤ 20 := by
  induction T with
  | nil => exact .inr fun j hj => by simp at hj
  | cons f l ih =>
    by_cases hf : 20 < f.length
    · exact .inl ⟨0, by simp, hf, fun j hj => by omega⟩
    · rcases ih with ⟨k, hk, h1, h2⟩ | h
      · refine .inl ⟨k + 1, by simp; omega, h1, fun j hj hl => ?_⟩
        rcases j with _ | j
        · exact Nat.le_of_not_lt hf
        · exact h2 j (by omega) (by simpa using hl)
      · refine .inr fun j hj hl => ?_
        rcases j with _ | j
        · exact Nat.le_of_not_lt hf
        · exact h j (by simpa using hl) (by simpa using hl)
theorem law11 (T : List (List ByteArray)) (Cs : List (List Int)) (_ : T.length * 24 ≤ 140737488351232 ∧ ∀ l ∈ T, l.length * 16 ≤ 140737488351232) (hC0 : Cs.length * 24 ≤ 140737488351232 ∧ ∀ c ∈ Cs, c.length ≤ 140737488351232 ∧ ∀ n ∈ c, (Lit.int .u8 n).wf = true) :
    (KL AA XX).call 11 [(PV.one (D.sl (T.map fun l => [.sl (l.map tenc)]))), (PV.one (D.sl (Cs.map fun l => [.sl (l.map fun n => [.sc (.int .u8 n)])])))] = some [(PV.one (D.sc (Value.bool (true))))] := by
  have hcl : ∀ c ∈ Cs, c.length ≤ 140737488351232 := fun c hc => (hC0.2 c hc).1
  have hwf : ∀ c ∈ Cs, ∀ n ∈ c, 0 ≤ n ∧ n ≤ 255 := fun c hc n hn => by
    have := (hC0.2 c hc).2 n hn
    simp only [Lit.wf, Bool.and_eq_true, decide_eq_true_eq] at this
    exact this
  rw [c11]
  by_cases hT : 6 < T.length
  · have d1 : decide ((6 : Int) < (T.length : Int)) = true := by simp; omega
    simp only [go_sem, ↓reduceIte, Nat.reduceAdd, Nat.reduceSub, Nat.reduceMul, Nat.reduceEqDiff, Nat.reduceLT, Nat.reduceShiftRight, Nat.reduceAnd, Nat.reduceBNe, Nat.reduceLeDiff, Nat.reduceBEq, Nat.testBit, Nat.zero_lt_one, Int.reduceToNat, Int.reduceNeg, Int.reduceLE, Int.reduceLT, Int.reduceEq, decide_true, decide_false, Bool.and_true, Bool.true_and, Bool.and_false, Bool.false_and, Bool.or_true, Bool.true_or, Bool.or_false, Bool.false_or, Bool.not_true, Bool.not_false, beq_self_eq_true, reduceCtorEq, Int.le_refl, Nat.add_zero, and_self, and_true, true_and, or_true, true_or, if_true, if_false, Nat.le_refl, Bool.and_self, eq_self, Bool.not_false, Bool.not_true, d1, awake45]
  · have d1 : decide ((6 : Int) < (T.length : Int)) = false := by simp; omega
    by_cases hC : 6 < Cs.length
    · have d2 : decide ((6 : Int) < (Cs.length : Int)) = true := by simp; omega
      simp only [go_sem, ↓reduceIte, Nat.reduceAdd, Nat.reduceSub, Nat.reduceMul, Nat.reduceEqDiff, Nat.reduceLT, Nat.reduceShiftRight, Nat.reduceAnd, Nat.reduceBNe, Nat.reduceLeDiff, Nat.reduceBEq, Nat.testBit, Nat.zero_lt_one, Int.reduceToNat, Int.reduceNeg, Int.reduceLE, Int.reduceLT, Int.reduceEq, decide_true, decide_false, Bool.and_true, Bool.true_and, Bool.and_false, Bool.false_and, Bool.or_true, Bool.true_or, Bool.or_false, Bool.false_or, Bool.not_true, Bool.not_false, beq_self_eq_true, reduceCtorEq, Int.le_refl, Nat.add_zero, and_self, and_true, true_and, or_true, true_or, if_true, if_false, Nat.le_refl, Bool.and_self, eq_self, Bool.not_false, Bool.not_true, d1, d2, awake45]
    · have d2 : decide ((6 : Int) < (Cs.length : Int)) = false := by simp; omega
      have hT' : T.length ≤ 6 := by omega
      have hC' : Cs.length ≤ 6 := by omega
      have z0 : lgC (lg T Cs 0) T.length = lgC (fun _ => 0) T.length := rfl
      have mk0 := lgC_zero T.length
      have q0 : ((0 : Int) ≤ (T.length : Int)) = True := eq_true (by omega)
      have q1 : ((T.length : Int) * ((8 : Nat) : Int) ≤ (maxBytes : Int)) = True := by
        have h1 : maxBytes = 140737488355328 := rfl
        rw [h1]; exact eq_true (by omega)
      simp only [go_sem, ↓reduceIte, Nat.reduceAdd, Nat.reduceSub, Nat.reduceMul, Nat.reduceEqDiff, Nat.reduceLT, Nat.reduceShiftRight, Nat.reduceAnd, Nat.reduceBNe, Nat.reduceLeDiff, Nat.reduceBEq, Nat.testBit, Nat.zero_lt_one, Int.reduceToNat, Int.reduceNeg, Int.reduceLE, Int.reduceLT, Int.reduceEq, decide_true, decide_false, Bool.and_true, Bool.true_and, Bool.and_false, Bool.false_and, Bool.or_true, Bool.true_or, Bool.or_false, Bool.false_or, Bool.not_true, Bool.not_false, beq_self_eq_true, reduceCtorEq, Int.le_refl, Nat.add_zero, and_self, and_true, true_and, or_true, true_or, if_true, if_false, Nat.le_refl, Bool.and_self, eq_self, Bool.not_false, Bool.not_true, d1, d2, q0, q1, List.length_cons, List.length_nil, Int.toNat_natCast, mk0, lgC_old]
      have z1 : fls T Cs 0 = [] := rfl
      have z2 : ((0 : Nat) : Int) = 0 := rfl
      by_cases h0 : Cs.length = 0
      · obtain rfl : Cs = [] := List.length_eq_zero_iff.1 h0
        have u := Union46 [] id1 (by simp) (by simp) (by simp [alltexts])
        simp only [Vid.enc, id1, List.map_nil, show unionF [] ⟨1, 0, 1⟩ = [] from rfl] at u
        rw [b11_0_run]
        simp only [go_sem, ↓reduceIte, Nat.reduceAdd, Nat.reduceSub, Nat.reduceMul, Nat.reduceEqDiff, Nat.reduceLT, Nat.reduceShiftRight, Nat.reduceAnd, Nat.reduceBNe, Nat.reduceLeDiff, Nat.reduceBEq, Nat.testBit, Nat.zero_lt_one, Int.reduceToNat, Int.reduceNeg, Int.reduceLE, Int.reduceLT, Int.reduceEq, decide_true, decide_false, Bool.and_true, Bool.true_and, Bool.and_false, Bool.false_and, Bool.or_true, Bool.true_or, Bool.or_false, Bool.false_or, Bool.not_true, Bool.not_false, beq_self_eq_true, reduceCtorEq, Int.le_refl, Nat.add_zero, and_self, and_true, true_and, or_true, true_or, if_true, if_false, Nat.le_refl, Bool.and_self, eq_self, Bool.not_false, Bool.not_true, List.map_nil, List.length_nil, z2, Int.lt_irrefl, u, lgC_old]
        rw [b11_2_run]
        simp only [go_sem, ↓reduceIte, Nat.reduceAdd, Nat.reduceSub, Nat.reduceMul, Nat.reduceEqDiff, Nat.reduceLT, Nat.reduceShiftRight, Nat.reduceAnd, Nat.reduceBNe, Nat.reduceLeDiff, Nat.reduceBEq, Nat.testBit, Nat.zero_lt_one, Int.reduceToNat, Int.reduceNeg, Int.reduceLE, Int.reduceLT, Int.reduceEq, decide_true, decide_false, Bool.and_true, Bool.true_and, Bool.and_false, Bool.false_and, Bool.or_true, Bool.true_or, Bool.or_false, Bool.false_or, Bool.not_true, Bool.not_false, beq_self_eq_true, reduceCtorEq, Int.le_refl, Nat.add_zero, and_self, and_true, true_and, or_true, true_or, if_true, if_false, Nat.le_refl, Bool.and_self, eq_self, Bool.not_false, Bool.not_true, List.map_nil, List.length_nil, z2, Int.lt_irrefl, lgC_old, awake45]
      · have hi : 0 < Cs.length := Nat.pos_of_ne_zero h0
        rcases long_or T with ⟨k, hk, hk1, hk2⟩ | h20
        · have inner := law11_inner T Cs hT' hC' hwf hcl 0 hi k (Nat.le_of_lt hk) hk2
          simp only [z0, z1, z2, List.map_nil, List.length_nil, tS0] at inner
          have hl0 : decide ((0 : Int) < (Cs.length : Int)) = true := decide_eq_true (by omega)
          have hlt := ltT hk
          have hgT := getm T (fun l => [D.sl (l.map tenc)]) hk
          have d20 : decide ((20 : Int) < (T[k].length : Int)) = true := decide_eq_true (by omega)
          rw [b11_0_run]
          simp only [go_sem, ↓reduceIte, Nat.reduceAdd, Nat.reduceSub, Nat.reduceMul, Nat.reduceEqDiff, Nat.reduceLT, Nat.reduceShiftRight, Nat.reduceAnd, Nat.reduceBNe, Nat.reduceLeDiff, Nat.reduceBEq, Nat.testBit, Nat.zero_lt_one, Int.reduceToNat, Int.reduceNeg, Int.reduceLE, Int.reduceLT, Int.reduceEq, decide_true, decide_false, Bool.and_true, Bool.true_and, Bool.and_false, Bool.false_and, Bool.or_true, Bool.true_or, Bool.or_false, Bool.false_or, Bool.not_true, Bool.not_false, beq_self_eq_true, reduceCtorEq, Int.le_refl, Nat.add_zero, and_self, and_true, true_and, or_true, true_or, if_true, if_false, Nat.le_refl, Bool.and_self, eq_self, Bool.not_false, Bool.not_true, hl0, lgC_old]
          rw [inner, b11_1_run]
          simp only [s11, h11, z1, go_sem, ↓reduceIte, Nat.reduceAdd, Nat.reduceSub, Nat.reduceMul, Nat.reduceEqDiff, Nat.reduceLT, Nat.reduceShiftRight, Nat.reduceAnd, Nat.reduceBNe, Nat.reduceLeDiff, Nat.reduceBEq, Nat.testBit, Nat.zero_lt_one, Int.reduceToNat, Int.reduceNeg, Int.reduceLE, Int.reduceLT, Int.reduceEq, decide_true, decide_false, Bool.and_true, Bool.true_and, Bool.and_false, Bool.false_and, Bool.or_true, Bool.true_or, Bool.or_false, Bool.false_or, Bool.not_true, Bool.not_false, beq_self_eq_true, reduceCtorEq, Int.le_refl, Nat.add_zero, and_self, and_true, true_and, or_true, true_or, if_true, if_false, Nat.le_refl, Bool.and_self, eq_self, Bool.not_false, Bool.not_true, hlt, hgT, d20, awake45, lgC_old]
        · have rounds := iter (F := fun (i : Nat) => loopR AA XX [0, 1, 5, 6, 7, 8] 3 b11_0 (RUN AA XX b11_0 (s10 T Cs i))) (Nat.zero_le Cs.length) fun i _ hi => law11_round T Cs hT' hC' hwf hcl i hi h20
          simp only [s10, z0, z1, z2, List.map_nil, List.length_nil, tS0] at rounds
          have hfl := fls_len T Cs Cs.length
          have hat := alltexts_fls h20 hT' Cs Cs.length
          have u := Union46 (fls T Cs Cs.length) id1 (by omega) (fun f hf => by
            obtain ⟨i, _, rfl⟩ := List.mem_map.1 hf
            have := lv_len T (cn T (cAt Cs i)) T.length
            simp only [flu]; omega) (by omega)
          rw [union_fls] at u
          simp only [Vid.enc, id1] at u
          have checks := iter (F := fun (i : Nat) => loopR AA XX [0, 5, 6, 7, 12, 13] 3 b11_2 (RUN AA XX b11_2 (s12 T Cs Cs.length i))) (Nat.zero_le Cs.length) fun i _ hi => law11_check T Cs hT' hC' h20 Cs.length hC' i hi
          simp only [s12, hC, z2] at checks
          rw [rounds, b11_0_run]
          simp only [go_sem, ↓reduceIte, Nat.reduceAdd, Nat.reduceSub, Nat.reduceMul, Nat.reduceEqDiff, Nat.reduceLT, Nat.reduceShiftRight, Nat.reduceAnd, Nat.reduceBNe, Nat.reduceLeDiff, Nat.reduceBEq, Nat.testBit, Nat.zero_lt_one, Int.reduceToNat, Int.reduceNeg, Int.reduceLE, Int.reduceLT, Int.reduceEq, decide_true, decide_false, Bool.and_true, Bool.true_and, Bool.and_false, Bool.false_and, Bool.or_true, Bool.true_or, Bool.or_false, Bool.false_or, Bool.not_true, Bool.not_false, beq_self_eq_true, reduceCtorEq, Int.le_refl, Nat.add_zero, and_self, and_true, true_and, or_true, true_or, if_true, if_false, Nat.le_refl, Bool.and_self, eq_self, Bool.not_false, Bool.not_true, Int.lt_irrefl, u, lgC_old]
          rw [checks, b11_2_run]
          simp only [go_sem, ↓reduceIte, Nat.reduceAdd, Nat.reduceSub, Nat.reduceMul, Nat.reduceEqDiff, Nat.reduceLT, Nat.reduceShiftRight, Nat.reduceAnd, Nat.reduceBNe, Nat.reduceLeDiff, Nat.reduceBEq, Nat.testBit, Nat.zero_lt_one, Int.reduceToNat, Int.reduceNeg, Int.reduceLE, Int.reduceLT, Int.reduceEq, decide_true, decide_false, Bool.and_true, Bool.true_and, Bool.and_false, Bool.false_and, Bool.or_true, Bool.true_or, Bool.or_false, Bool.false_or, Bool.not_true, Bool.not_false, beq_self_eq_true, reduceCtorEq, Int.le_refl, Nat.add_zero, and_self, and_true, true_and, or_true, true_or, if_true, if_false, Nat.le_refl, Bool.and_self, eq_self, Bool.not_false, Bool.not_true, hfl, Int.lt_irrefl, awake45, lgC_old]
end Go.Proofs.Ytpanbfainilmpaa.Ev.S
