/- What the functions of the flush chapter compute. -/
import Derived.Test.YtpanbfainilmpaaEvL7
set_option linter.unusedVariables false
set_option linter.unusedSimpArgs false
set_option maxRecDepth 100000
set_option maxHeartbeats 1000000
namespace Go.Proofs.Ytpanbfainilmpaa.Ev.S
open Go Go.Proofs.Ytpanbfainilmpaa.Ev

def isNone (v : Vid) : Bool := decide (v.c = 0) && (decide (v.n = 0) && decide (v.i = 0))
theorem None92 (v : Vid) : (KL AA XX).call 92 [.agg v.enc] = some [(PV.one (D.sc (Value.bool (isNone v))))] := by
  rw [c92]
  simp only [go_sem, ↓reduceIte, Nat.reduceAdd, Nat.reduceSub, Nat.reduceMul, Nat.reduceEqDiff, Nat.reduceLT, Nat.reduceShiftRight, Nat.reduceAnd, Nat.reduceBNe, Nat.reduceLeDiff, Nat.reduceBEq, Nat.testBit, Nat.zero_lt_one, Int.reduceToNat, Int.reduceNeg, Int.reduceLE, Int.reduceLT, Int.reduceEq, decide_true, decide_false, Bool.and_true, Bool.true_and, Bool.and_false, Bool.false_and, Bool.or_true, Bool.true_or, Bool.or_false, Bool.false_or, Bool.not_true, Bool.not_false, beq_self_eq_true, reduceCtorEq, Int.le_refl, Nat.add_zero, and_self, and_true, true_and, or_true, true_or, if_true, if_false, Nat.le_refl, Bool.and_self, eq_self, Bool.not_false, Bool.not_true, Vid.enc, isNone]
theorem None93 (v : Vid) : (KL AA XX).call 93 [.agg v.enc] = some [(PV.one (D.sc (Value.bool (isNone v))))] := by
  rw [c93]
  simp only [go_sem, ↓reduceIte, Nat.reduceAdd, Nat.reduceSub, Nat.reduceMul, Nat.reduceEqDiff, Nat.reduceLT, Nat.reduceShiftRight, Nat.reduceAnd, Nat.reduceBNe, Nat.reduceLeDiff, Nat.reduceBEq, Nat.testBit, Nat.zero_lt_one, Int.reduceToNat, Int.reduceNeg, Int.reduceLE, Int.reduceLT, Int.reduceEq, decide_true, decide_false, Bool.and_true, Bool.true_and, Bool.and_false, Bool.false_and, Bool.or_true, Bool.true_or, Bool.or_false, Bool.false_or, Bool.not_true, Bool.not_false, beq_self_eq_true, reduceCtorEq, Int.le_refl, Nat.add_zero, and_self, and_true, true_and, or_true, true_or, if_true, if_false, Nat.le_refl, Bool.and_self, eq_self, Bool.not_false, Bool.not_true, Vid.enc, isNone]

/-! ### Few, short streams of unlike members -/
structure Small (l : List Strm) : Prop where
  len : l.length ≤ 10
  tex : ∀ s ∈ l, s.texts.length ≤ 20
  one : ∀ (i j : Nat) (hj : j < i) (hi : i < l.length), (l[j]'(by omega)).who ≠ l[i].who
def twin (l : List Strm) (i : Nat) (w : Mem) : Bool := (l.take i).any fun s => sM s.who w
theorem small_in (l : List Strm) (i : Nat) (hi : i < l.length) (hl : l.length < 2305843009213693952) :
    (twin l i l[i].who = false → ∃ F', blockR 2 (loopR AA XX [0, 3, 4] 0 b44_1 (RUN AA XX b44_1 ⟨[(0, (AV.c (C.d (D.sl (l.map Strm.enc))))), (3, (AV.c (C.d (D.sc (Value.int IntKind.i64 (i)))))), (4, (AV.c (C.d (D.sc (Value.int IntKind.i64 (0))))))], [], 0⟩)) = some (.norm, ⟨F', [], 0⟩) ∧ F'.get 0 = (AV.c (C.d (D.sl (l.map Strm.enc)))) ∧ F'.get 3 = (AV.c (C.d (D.sc (Value.int IntKind.i64 (i)))))) ∧
    (twin l i l[i].who = true → ∃ F', blockR 2 (loopR AA XX [0, 3, 4] 0 b44_1 (RUN AA XX b44_1 ⟨[(0, (AV.c (C.d (D.sl (l.map Strm.enc))))), (3, (AV.c (C.d (D.sc (Value.int IntKind.i64 (i)))))), (4, (AV.c (C.d (D.sc (Value.int IntKind.i64 (0))))))], [], 0⟩)) = some (.ret, ⟨F', [], 0⟩) ∧ F'.get 2 = (AV.c (C.d (D.sc (Value.bool (false)))))) := by
  have hg := getm l Strm.enc hi
  have go : ∀ k, k ≤ i → (∀ j (hj : j < k) (hl : j < l.length), sM l[j].who l[i].who = false) → loopR AA XX [0, 3, 4] 0 b44_1 (RUN AA XX b44_1 ⟨[(0, (AV.c (C.d (D.sl (l.map Strm.enc))))), (3, (AV.c (C.d (D.sc (Value.int IntKind.i64 (i)))))), (4, (AV.c (C.d (D.sc (Value.int IntKind.i64 (0))))))], [], 0⟩) = loopR AA XX [0, 3, 4] 0 b44_1 (RUN AA XX b44_1 ⟨[(0, (AV.c (C.d (D.sl (l.map Strm.enc))))), (3, (AV.c (C.d (D.sc (Value.int IntKind.i64 (i)))))), (4, (AV.c (C.d (D.sc (Value.int IntKind.i64 (k))))))], [], 0⟩) := by
    intro k hk hno
    have := iter (F := fun (j : Nat) => loopR AA XX [0, 3, 4] 0 b44_1 (RUN AA XX b44_1 ⟨[(0, (AV.c (C.d (D.sl (l.map Strm.enc))))), (3, (AV.c (C.d (D.sc (Value.int IntKind.i64 (i)))))), (4, (AV.c (C.d (D.sc (Value.int IntKind.i64 (j))))))], [], 0⟩)) (Nat.zero_le k) fun j _ hj => by
      have hjl : j < l.length := by omega
      have hlt := ltT (show j < i by omega)
      have hg2 := getm l Strm.enc hjl
      have hw := wrap_succ j (by omega)
      have e1 := hno j hj hjl
      simp only [sM] at e1
      show loopR _ _ _ _ _ (RUN _ _ _ _) = _
      rw [b44_1_run]
      simp only [go_sem, ↓reduceIte, Nat.reduceAdd, Nat.reduceSub, Nat.reduceMul, Nat.reduceEqDiff, Nat.reduceLT, Nat.reduceShiftRight, Nat.reduceAnd, Nat.reduceBNe, Nat.reduceLeDiff, Nat.reduceBEq, Nat.testBit, Nat.zero_lt_one, Int.reduceToNat, Int.reduceNeg, Int.reduceLE, Int.reduceLT, Int.reduceEq, decide_true, decide_false, Bool.and_true, Bool.true_and, Bool.and_false, Bool.false_and, Bool.or_true, Bool.true_or, Bool.or_false, Bool.false_or, Bool.not_true, Bool.not_false, beq_self_eq_true, reduceCtorEq, Int.le_refl, Nat.add_zero, and_self, and_true, true_and, or_true, true_or, if_true, if_false, Nat.le_refl, Bool.and_self, eq_self, Bool.not_false, Bool.not_true, hlt, hg, hg2, Strm.enc, hw, e1]
    exact this
  constructor
  · intro ht
    have hno : ∀ j (hj : j < i) (hl : j < l.length), sM l[j].who l[i].who = false := by
      intro j hj hjl
      unfold twin at ht
      rw [List.any_eq_false] at ht
      have := ht l[j] (List.mem_take_iff_getElem.2 ⟨j, by omega, rfl⟩)
      simpa using this
    rw [go i (Nat.le_refl _) hno, b44_1_run]
    simp only [go_sem, ↓reduceIte, Nat.reduceAdd, Nat.reduceSub, Nat.reduceMul, Nat.reduceEqDiff, Nat.reduceLT, Nat.reduceShiftRight, Nat.reduceAnd, Nat.reduceBNe, Nat.reduceLeDiff, Nat.reduceBEq, Nat.testBit, Nat.zero_lt_one, Int.reduceToNat, Int.reduceNeg, Int.reduceLE, Int.reduceLT, Int.reduceEq, decide_true, decide_false, Bool.and_true, Bool.true_and, Bool.and_false, Bool.false_and, Bool.or_true, Bool.true_or, Bool.or_false, Bool.false_or, Bool.not_true, Bool.not_false, beq_self_eq_true, reduceCtorEq, Int.le_refl, Nat.add_zero, and_self, and_true, true_and, or_true, true_or, if_true, if_false, Nat.le_refl, Bool.and_self, eq_self, Bool.not_false, Bool.not_true, Int.lt_irrefl]
    exact ⟨_, rfl, rfl, rfl⟩
  · intro ht
    cases hf : (l.take i).findIdx? (fun s => sM s.who l[i].who) with
    | none =>
      rw [List.findIdx?_eq_none_iff] at hf
      unfold twin at ht
      rw [List.any_eq_true] at ht
      obtain ⟨s, hs, he⟩ := ht
      have := hf s hs
      rw [he] at this
      cases this
    | some k =>
      obtain ⟨hk, h1, h2⟩ := find_some hf
      rw [List.length_take] at hk
      rw [List.getElem_take] at h1
      have hkl : k < l.length := by omega
      have hlt := ltT (show k < i by omega)
      have hg2 := getm l Strm.enc hkl
      simp only [sM] at h1
      rw [go k (by omega) (fun j hj hjl => by have := h2 j hj; rwa [List.getElem_take] at this), b44_1_run]
      simp only [go_sem, ↓reduceIte, Nat.reduceAdd, Nat.reduceSub, Nat.reduceMul, Nat.reduceEqDiff, Nat.reduceLT, Nat.reduceShiftRight, Nat.reduceAnd, Nat.reduceBNe, Nat.reduceLeDiff, Nat.reduceBEq, Nat.testBit, Nat.zero_lt_one, Int.reduceToNat, Int.reduceNeg, Int.reduceLE, Int.reduceLT, Int.reduceEq, decide_true, decide_false, Bool.and_true, Bool.true_and, Bool.and_false, Bool.false_and, Bool.or_true, Bool.true_or, Bool.or_false, Bool.false_or, Bool.not_true, Bool.not_false, beq_self_eq_true, reduceCtorEq, Int.le_refl, Nat.add_zero, and_self, and_true, true_and, or_true, true_or, if_true, if_false, Nat.le_refl, Bool.and_self, eq_self, Bool.not_false, Bool.not_true, hlt, hg, hg2, Strm.enc, h1]
      exact ⟨_, rfl, rfl⟩
def good (l : List Strm) (i : Nat) : Bool := match l[i]? with
  | some s => decide (s.texts.length ≤ 20) && !twin l i s.who
  | none => true
theorem Small44 (l : List Strm) (hl : l.length < 2305843009213693952) (hb : ∀ s ∈ l, s.texts.length < 2305843009213693952) : ∃ b, (KL AA XX).call 44 [(PV.one (D.sl (l.map Strm.enc)))] = some [(PV.one (D.sc (Value.bool (b))))] ∧ (b = true → Small l) := by
  have go : ∀ k, k ≤ l.length → (∀ j (hj : j < k), good l j = true) → loopR AA XX [0, 3] 0 b44_0 (RUN AA XX b44_0 ⟨[(0, (AV.c (C.d (D.sl (l.map Strm.enc))))), (3, (AV.c (C.d (D.sc (Value.int IntKind.i64 (0))))))], [], 0⟩) = loopR AA XX [0, 3] 0 b44_0 (RUN AA XX b44_0 ⟨[(0, (AV.c (C.d (D.sl (l.map Strm.enc))))), (3, (AV.c (C.d (D.sc (Value.int IntKind.i64 (k))))))], [], 0⟩) := by
    intro k hk hgood
    have := iter (F := fun (i : Nat) => loopR AA XX [0, 3] 0 b44_0 (RUN AA XX b44_0 ⟨[(0, (AV.c (C.d (D.sl (l.map Strm.enc))))), (3, (AV.c (C.d (D.sc (Value.int IntKind.i64 (i))))))], [], 0⟩)) (Nat.zero_le k) fun i _ hik => by
      have hi : i < l.length := by omega
      have hlt := ltT hi
      have hg := getm l Strm.enc hi
      have hw := wrap_succ i (by omega)
      have h1 := hgood i hik
      simp only [good, List.getElem?_eq_getElem hi, Bool.and_eq_true, decide_eq_true_eq, Bool.not_eq_true'] at h1
      have hd : decide ((20 : Int) < (l[i].texts.length : Int)) = false := by simp; omega
      obtain ⟨F', g1, g2, g3⟩ := (small_in l i hi hl).1 h1.2
      show loopR _ _ _ _ _ (RUN _ _ _ _) = _
      rw [b44_0_run]
      simp only [go_sem, ↓reduceIte, Nat.reduceAdd, Nat.reduceSub, Nat.reduceMul, Nat.reduceEqDiff, Nat.reduceLT, Nat.reduceShiftRight, Nat.reduceAnd, Nat.reduceBNe, Nat.reduceLeDiff, Nat.reduceBEq, Nat.testBit, Nat.zero_lt_one, Int.reduceToNat, Int.reduceNeg, Int.reduceLE, Int.reduceLT, Int.reduceEq, decide_true, decide_false, Bool.and_true, Bool.true_and, Bool.and_false, Bool.false_and, Bool.or_true, Bool.true_or, Bool.or_false, Bool.false_or, Bool.not_true, Bool.not_false, beq_self_eq_true, reduceCtorEq, Int.le_refl, Nat.add_zero, and_self, and_true, true_and, or_true, true_or, if_true, if_false, Nat.le_refl, Bool.and_self, eq_self, Bool.not_false, Bool.not_true, hlt, hg, Strm.enc, hw, hd, g1, g2, g3]
    exact this
  rw [c44]
  cases hf : (List.range l.length).findIdx? (fun i => !good l i) with
  | none =>
    rw [List.findIdx?_eq_none_iff] at hf
    have hgood : ∀ j (hj : j < l.length), good l j = true := fun j hj => by simpa using hf j (List.mem_range.2 hj)
    refine ⟨decide ((l.length : Int) ≤ 10), ?_, fun hb => ⟨?_, ?_, ?_⟩⟩
    · simp only [go_sem, ↓reduceIte, Nat.reduceAdd, Nat.reduceSub, Nat.reduceMul, Nat.reduceEqDiff, Nat.reduceLT, Nat.reduceShiftRight, Nat.reduceAnd, Nat.reduceBNe, Nat.reduceLeDiff, Nat.reduceBEq, Nat.testBit, Nat.zero_lt_one, Int.reduceToNat, Int.reduceNeg, Int.reduceLE, Int.reduceLT, Int.reduceEq, decide_true, decide_false, Bool.and_true, Bool.true_and, Bool.and_false, Bool.false_and, Bool.or_true, Bool.true_or, Bool.or_false, Bool.false_or, Bool.not_true, Bool.not_false, beq_self_eq_true, reduceCtorEq, Int.le_refl, Nat.add_zero, and_self, and_true, true_and, or_true, true_or, if_true, if_false, Nat.le_refl, Bool.and_self, eq_self, Bool.not_false, Bool.not_true]
      rw [go l.length (Nat.le_refl _) hgood, b44_0_run]
      simp only [go_sem, ↓reduceIte, Nat.reduceAdd, Nat.reduceSub, Nat.reduceMul, Nat.reduceEqDiff, Nat.reduceLT, Nat.reduceShiftRight, Nat.reduceAnd, Nat.reduceBNe, Nat.reduceLeDiff, Nat.reduceBEq, Nat.testBit, Nat.zero_lt_one, Int.reduceToNat, Int.reduceNeg, Int.reduceLE, Int.reduceLT, Int.reduceEq, decide_true, decide_false, Bool.and_true, Bool.true_and, Bool.and_false, Bool.false_and, Bool.or_true, Bool.true_or, Bool.or_false, Bool.false_or, Bool.not_true, Bool.not_false, beq_self_eq_true, reduceCtorEq, Int.le_refl, Nat.add_zero, and_self, and_true, true_and, or_true, true_or, if_true, if_false, Nat.le_refl, Bool.and_self, eq_self, Bool.not_false, Bool.not_true, Int.lt_irrefl]
    · simp only [decide_eq_true_eq] at hb; omega
    · intro s hs
      obtain ⟨i, hi, rfl⟩ := List.mem_iff_getElem.1 hs
      have h1 := hgood i hi
      simp only [good, List.getElem?_eq_getElem hi, Bool.and_eq_true, decide_eq_true_eq] at h1
      exact h1.1
    · intro i j hj hi he
      have h1 := hgood i hi
      simp only [good, List.getElem?_eq_getElem hi, Bool.and_eq_true, Bool.not_eq_true'] at h1
      have h2 := h1.2
      unfold twin at h2
      rw [List.any_eq_false] at h2
      have := h2 l[j] (List.mem_take_iff_getElem.2 ⟨j, by omega, rfl⟩)
      rw [he, sM_self] at this
      exact this rfl
  | some k =>
    obtain ⟨hk, h1, h2⟩ := find_some hf
    rw [List.length_range] at hk
    rw [List.getElem_range] at h1
    refine ⟨false, ?_, fun h => by cases h⟩
    have hlt := ltT hk
    have hg := getm l Strm.enc hk
    simp only [go_sem, ↓reduceIte, Nat.reduceAdd, Nat.reduceSub, Nat.reduceMul, Nat.reduceEqDiff, Nat.reduceLT, Nat.reduceShiftRight, Nat.reduceAnd, Nat.reduceBNe, Nat.reduceLeDiff, Nat.reduceBEq, Nat.testBit, Nat.zero_lt_one, Int.reduceToNat, Int.reduceNeg, Int.reduceLE, Int.reduceLT, Int.reduceEq, decide_true, decide_false, Bool.and_true, Bool.true_and, Bool.and_false, Bool.false_and, Bool.or_true, Bool.true_or, Bool.or_false, Bool.false_or, Bool.not_true, Bool.not_false, beq_self_eq_true, reduceCtorEq, Int.le_refl, Nat.add_zero, and_self, and_true, true_and, or_true, true_or, if_true, if_false, Nat.le_refl, Bool.and_self, eq_self, Bool.not_false, Bool.not_true]
    rw [go k (Nat.le_of_lt hk) (fun j hj => by have := h2 j hj; rw [List.getElem_range] at this; simpa using this), b44_0_run]
    by_cases ht : l[k].texts.length ≤ 20
    · have hd : decide ((20 : Int) < (l[k].texts.length : Int)) = false := by simp; omega
      have ht2 : twin l k l[k].who = true := by
        simp only [good, List.getElem?_eq_getElem hk, ht, decide_true, Bool.true_and, Bool.not_not] at h1
        exact h1
      obtain ⟨F', g1, g2⟩ := (small_in l k hk hl).2 ht2
      simp only [go_sem, ↓reduceIte, Nat.reduceAdd, Nat.reduceSub, Nat.reduceMul, Nat.reduceEqDiff, Nat.reduceLT, Nat.reduceShiftRight, Nat.reduceAnd, Nat.reduceBNe, Nat.reduceLeDiff, Nat.reduceBEq, Nat.testBit, Nat.zero_lt_one, Int.reduceToNat, Int.reduceNeg, Int.reduceLE, Int.reduceLT, Int.reduceEq, decide_true, decide_false, Bool.and_true, Bool.true_and, Bool.and_false, Bool.false_and, Bool.or_true, Bool.true_or, Bool.or_false, Bool.false_or, Bool.not_true, Bool.not_false, beq_self_eq_true, reduceCtorEq, Int.le_refl, Nat.add_zero, and_self, and_true, true_and, or_true, true_or, if_true, if_false, Nat.le_refl, Bool.and_self, eq_self, Bool.not_false, Bool.not_true, hlt, hg, Strm.enc, hd, g1, g2]
    · have hd : decide ((20 : Int) < (l[k].texts.length : Int)) = true := by simp; omega
      simp only [go_sem, ↓reduceIte, Nat.reduceAdd, Nat.reduceSub, Nat.reduceMul, Nat.reduceEqDiff, Nat.reduceLT, Nat.reduceShiftRight, Nat.reduceAnd, Nat.reduceBNe, Nat.reduceLeDiff, Nat.reduceBEq, Nat.testBit, Nat.zero_lt_one, Int.reduceToNat, Int.reduceNeg, Int.reduceLE, Int.reduceLT, Int.reduceEq, decide_true, decide_false, Bool.and_true, Bool.true_and, Bool.and_false, Bool.false_and, Bool.or_true, Bool.true_or, Bool.or_false, Bool.false_or, Bool.not_true, Bool.not_false, beq_self_eq_true, reduceCtorEq, Int.le_refl, Nat.add_zero, and_self, and_true, true_and, or_true, true_or, if_true, if_false, Nat.le_refl, Bool.and_self, eq_self, Bool.not_false, Bool.not_true, hlt, hg, Strm.enc, hd]

/-! ### What is lacking -/
def mS (w : Mem) (id : Vid) : Nat → List ByteArray → List Hld
  | _, [] => []
  | n, t :: ts => ⟨w, id, ((n + 1 : Nat) : Int), t⟩ :: mS w id (n + 1) ts
def missF (own all : List Strm) (id : Vid) : List Hld := all.flatMap fun s => mS s.who id (count own s.who) (s.texts.drop (count own s.who))
theorem mS_len (w : Mem) (id : Vid) (n : Nat) (ts : List ByteArray) : (mS w id n ts).length = ts.length := by
  induction ts generalizing n with
  | nil => rfl
  | cons t ts ih => simp only [mS, List.length_cons, ih]
theorem miss_len (own all : List Strm) (id : Vid) : (missF own all id).length ≤ total all := by
  unfold missF total
  induction all with
  | nil => simp
  | cons s r ih =>
    rw [List.flatMap_cons, List.length_append, mS_len, List.length_drop, List.map_cons, List.sum_cons]
    omega
theorem total_take (l : List Strm) (i : Nat) : total (l.take i) ≤ total l := by
  unfold total
  have : (l.map (·.texts.length)).sum = ((l.take i).map (·.texts.length)).sum + ((l.drop i).map (·.texts.length)).sum := by
    rw [← List.sum_append, ← List.map_append, List.take_append_drop]
  omega
theorem small_total {l : List Strm} (h : Small l) : total l ≤ 200 := by
  have : ∀ l : List Strm, (∀ s ∈ l, s.texts.length ≤ 20) → total l ≤ l.length * 20 := by
    intro l
    induction l with
    | nil => intro _; exact Nat.le_refl _
    | cons s r ih =>
      intro h
      have h1 := ih fun x hx => h x (by simp [hx])
      have h2 := h s (by simp)
      unfold total at h1 ⊢
      rw [List.map_cons, List.sum_cons, List.length_cons]
      omega
  have h1 := this l h.tex
  have h2 := h.len
  omega

theorem miss48_in (own all : List Strm) (id : Vid) (i : Nat) (hi : i < all.length) (hb : all[i].texts.length ≤ 1000000) : ∀ (m n : Nat) (o : List Hld), all[i].texts.length - n = m → o.length + (all[i].texts.length - n) ≤ 100000000 → ∃ F', blockR 2 (loopR AA XX [0, 1, 5, 7, 8, 9, 11, 12] 3 b48_1 (RUN AA XX b48_1 ⟨[(0, (AV.c (C.d (D.sl (own.map Strm.enc))))), (1, (AV.c (C.d (D.sl (all.map Strm.enc))))), (5, .ptr 0 0), (7, (AV.c (C.gr 2 ((o).map Hld.enc)))), (8, (AV.c (C.d (D.sc (Value.int IntKind.i64 (i)))))), (9, (AV.c (C.d (D.sc (Value.int IntKind.i64 (n)))))), (11, (AV.c (C.d (D.sc (Value.int IntKind.i64 (all.length)))))), (12, (AV.c (C.d (D.sc (Value.int IntKind.i64 (i))))))], [(0, .arr [(C.d (D.sc (Value.int IntKind.i64 (id.c)))), (C.d (D.sc (Value.int IntKind.i64 (id.n)))), (C.d (D.sc (Value.int IntKind.i64 (id.i))))]), (1, .tok 0 0), (2, .tok (o).length (tS (o).length 7))], 3⟩)) = some (.norm, ⟨F', [(0, .arr [(C.d (D.sc (Value.int IntKind.i64 (id.c)))), (C.d (D.sc (Value.int IntKind.i64 (id.n)))), (C.d (D.sc (Value.int IntKind.i64 (id.i))))]), (1, .tok 0 0), (2, .tok (o ++ mS all[i].who id n (all[i].texts.drop n)).length (tS (o ++ mS all[i].who id n (all[i].texts.drop n)).length 7))], 3⟩) ∧
    F'.get 0 = (AV.c (C.d (D.sl (own.map Strm.enc)))) ∧ F'.get 1 = (AV.c (C.d (D.sl (all.map Strm.enc)))) ∧ F'.get 5 = .ptr 0 0 ∧ F'.get 7 = (AV.c (C.gr 2 ((o ++ mS all[i].who id n (all[i].texts.drop n)).map Hld.enc))) ∧ F'.get 8 = (AV.c (C.d (D.sc (Value.int IntKind.i64 (i))))) ∧ F'.get 11 = (AV.c (C.d (D.sc (Value.int IntKind.i64 (all.length))))) ∧ F'.get 12 = (AV.c (C.d (D.sc (Value.int IntKind.i64 (i))))) := by
  have hg := getm all Strm.enc hi
  intro m
  induction m with
  | zero =>
    intro n o hn ho
    have hge : all[i].texts.length ≤ n := by omega
    have hd := ltF hge
    rw [List.drop_eq_nil_of_le hge]
    simp only [mS, List.append_nil]
    rw [b48_1_run]
    simp only [go_sem, ↓reduceIte, Nat.reduceAdd, Nat.reduceSub, Nat.reduceMul, Nat.reduceEqDiff, Nat.reduceLT, Nat.reduceShiftRight, Nat.reduceAnd, Nat.reduceBNe, Nat.reduceLeDiff, Nat.reduceBEq, Nat.testBit, Nat.zero_lt_one, Int.reduceToNat, Int.reduceNeg, Int.reduceLE, Int.reduceLT, Int.reduceEq, decide_true, decide_false, Bool.and_true, Bool.true_and, Bool.and_false, Bool.false_and, Bool.or_true, Bool.true_or, Bool.or_false, Bool.false_or, Bool.not_true, Bool.not_false, beq_self_eq_true, reduceCtorEq, Int.le_refl, Nat.add_zero, and_self, and_true, true_and, or_true, true_or, if_true, if_false, Nat.le_refl, Bool.and_self, eq_self, Bool.not_false, Bool.not_true, hd, hg, Strm.enc]
    exact ⟨_, rfl, rfl, rfl, rfl, rfl, rfl, rfl, rfl⟩
  | succ m ih =>
    intro n o hn ho
    have hlt : n < all[i].texts.length := by omega
    have hd := ltT hlt
    have hg2 := getm all[i].texts tenc hlt
    have hw := wrap_succ n (by omega)
    have hdr : all[i].texts.drop n = all[i].texts[n] :: all[i].texts.drop (n + 1) := List.drop_eq_getElem_cons hlt
    have mb : ((o.length + 1) * 64 ≤ maxBytes) = True := by
      have : maxBytes = 140737488355328 := rfl
      rw [this]; exact eq_true (by omega)
    obtain ⟨F', h⟩ := ih (n + 1) (o ++ [⟨all[i].who, id, ((n + 1 : Nat) : Int), all[i].texts[n]⟩]) (by omega) (by simp only [List.length_append, List.length_cons, List.length_nil]; omega)
    refine ⟨F', ?_⟩
    rw [hdr, mS]
    rw [List.append_assoc, List.singleton_append] at h
    refine ⟨?_, h.2⟩
    rw [← h.1, b48_1_run]
    simp only [go_sem, ↓reduceIte, Nat.reduceAdd, Nat.reduceSub, Nat.reduceMul, Nat.reduceEqDiff, Nat.reduceLT, Nat.reduceShiftRight, Nat.reduceAnd, Nat.reduceBNe, Nat.reduceLeDiff, Nat.reduceBEq, Nat.testBit, Nat.zero_lt_one, Int.reduceToNat, Int.reduceNeg, Int.reduceLE, Int.reduceLT, Int.reduceEq, decide_true, decide_false, Bool.and_true, Bool.true_and, Bool.and_false, Bool.false_and, Bool.or_true, Bool.true_or, Bool.or_false, Bool.false_or, Bool.not_true, Bool.not_false, beq_self_eq_true, reduceCtorEq, Int.le_refl, Nat.add_zero, and_self, and_true, true_and, or_true, true_or, if_true, if_false, Nat.le_refl, Bool.and_self, eq_self, Bool.not_false, Bool.not_true, hd, hg, hg2, Strm.enc, tenc, hw, mb, tS1, tSok, Hld.enc, List.map_append, List.length_append]
theorem Missing48 (own all : List Strm) (id : Vid) (ho : own.length < 2305843009213693952) (hl : all.length ≤ 1000000) (hb : ∀ s ∈ all, s.texts.length ≤ 1000000) (ht : total all ≤ 10000000) : (KL AA XX).call 48 [(PV.one (D.sl (own.map Strm.enc))), (PV.one (D.sl (all.map Strm.enc))), .agg id.enc] = some [(PV.one (D.sl ((missF own all id).map Hld.enc)))] := by
  rw [c48]
  have go := iter (F := fun (i : Nat) => loopR AA XX [0, 1, 5, 7, 11, 12] 3 b48_0 (RUN AA XX b48_0 ⟨[(0, (AV.c (C.d (D.sl (own.map Strm.enc))))), (1, (AV.c (C.d (D.sl (all.map Strm.enc))))), (5, .ptr 0 0), (7, (AV.c (C.gr 2 ((missF own (all.take i) id).map Hld.enc)))), (11, (AV.c (C.d (D.sc (Value.int IntKind.i64 (all.length)))))), (12, (AV.c (C.d (D.sc (Value.int IntKind.i64 (i))))))], [(0, .arr [(C.d (D.sc (Value.int IntKind.i64 (id.c)))), (C.d (D.sc (Value.int IntKind.i64 (id.n)))), (C.d (D.sc (Value.int IntKind.i64 (id.i))))]), (1, .tok 0 0), (2, .tok (missF own (all.take i) id).length (tS (missF own (all.take i) id).length 7))], 3⟩)) (Nat.zero_le all.length) fun i _ hi => by
    have hlt := ltT hi
    have hg := getm all Strm.enc hi
    have hw := wrap_succ i (by omega)
    have hbi := hb _ (List.getElem_mem hi)
    have a1 := Count34 own all[i].who ho
    simp only [Mem.enc] at a1
    have hml := miss_len own (all.take i) id
    have htt := total_take all i
    have hs : missF own (all.take (i + 1)) id = missF own (all.take i) id ++ mS all[i].who id (count own all[i].who) (all[i].texts.drop (count own all[i].who)) := by
      unfold missF
      rw [← List.take_append_getElem hi, List.flatMap_append, List.flatMap_cons, List.flatMap_nil, List.append_nil]
    obtain ⟨F', h1, h2⟩ := miss48_in own all id i hi hbi _ (count own all[i].who) (missF own (all.take i) id) rfl (by omega)
    rw [← hs] at h1 h2
    obtain ⟨g0, g1, g5, g7, g8, g11, g12⟩ := h2
    show loopR _ _ _ _ _ (RUN _ _ _ _) = _
    rw [b48_0_run]
    simp only [go_sem, ↓reduceIte, Nat.reduceAdd, Nat.reduceSub, Nat.reduceMul, Nat.reduceEqDiff, Nat.reduceLT, Nat.reduceShiftRight, Nat.reduceAnd, Nat.reduceBNe, Nat.reduceLeDiff, Nat.reduceBEq, Nat.testBit, Nat.zero_lt_one, Int.reduceToNat, Int.reduceNeg, Int.reduceLE, Int.reduceLT, Int.reduceEq, decide_true, decide_false, Bool.and_true, Bool.true_and, Bool.and_false, Bool.false_and, Bool.or_true, Bool.true_or, Bool.or_false, Bool.false_or, Bool.not_true, Bool.not_false, beq_self_eq_true, reduceCtorEq, Int.le_refl, Nat.add_zero, and_self, and_true, true_and, or_true, true_or, if_true, if_false, Nat.le_refl, Bool.and_self, eq_self, Bool.not_false, Bool.not_true, hlt, hg, Strm.enc, hw, a1, h1, g0, g1, g5, g7, g8, g11, g12]
  simp only [List.take_zero, show missF own [] id = [] from rfl, List.map_nil, List.length_nil, tS0] at go
  rw [show (((0 : Nat) : Int)) = 0 from rfl, List.take_length] at go
  simp only [go_sem, ↓reduceIte, Nat.reduceAdd, Nat.reduceSub, Nat.reduceMul, Nat.reduceEqDiff, Nat.reduceLT, Nat.reduceShiftRight, Nat.reduceAnd, Nat.reduceBNe, Nat.reduceLeDiff, Nat.reduceBEq, Nat.testBit, Nat.zero_lt_one, Int.reduceToNat, Int.reduceNeg, Int.reduceLE, Int.reduceLT, Int.reduceEq, decide_true, decide_false, Bool.and_true, Bool.true_and, Bool.and_false, Bool.false_and, Bool.or_true, Bool.true_or, Bool.or_false, Bool.false_or, Bool.not_true, Bool.not_false, beq_self_eq_true, reduceCtorEq, Int.le_refl, Nat.add_zero, and_self, and_true, true_and, or_true, true_or, if_true, if_false, Nat.le_refl, Bool.and_self, eq_self, Bool.not_false, Bool.not_true, Vid.enc]
  rw [go, b48_0_run]
  simp only [go_sem, ↓reduceIte, Nat.reduceAdd, Nat.reduceSub, Nat.reduceMul, Nat.reduceEqDiff, Nat.reduceLT, Nat.reduceShiftRight, Nat.reduceAnd, Nat.reduceBNe, Nat.reduceLeDiff, Nat.reduceBEq, Nat.testBit, Nat.zero_lt_one, Int.reduceToNat, Int.reduceNeg, Int.reduceLE, Int.reduceLT, Int.reduceEq, decide_true, decide_false, Bool.and_true, Bool.true_and, Bool.and_false, Bool.false_and, Bool.or_true, Bool.true_or, Bool.or_false, Bool.false_or, Bool.not_true, Bool.not_false, beq_self_eq_true, reduceCtorEq, Int.le_refl, Nat.add_zero, and_self, and_true, true_and, or_true, true_or, if_true, if_false, Nat.le_refl, Bool.and_self, eq_self, Bool.not_false, Bool.not_true, Int.lt_irrefl]

theorem miss49_in (own all : List Strm) (id : Vid) (i : Nat) (hi : i < all.length) (hb : all[i].texts.length ≤ 1000000) : ∀ (m n : Nat) (o : List Hld), all[i].texts.length - n = m → o.length + (all[i].texts.length - n) ≤ 100000000 → ∃ F', blockR 2 (loopR AA XX [0, 1, 5, 7, 8, 9] 3 b49_1 (RUN AA XX b49_1 ⟨[(0, (AV.c (C.d (D.sl (own.map Strm.enc))))), (1, (AV.c (C.d (D.sl (all.map Strm.enc))))), (5, .ptr 0 0), (7, (AV.c (C.gr 2 ((o).map Hld.enc)))), (8, (AV.c (C.d (D.sc (Value.int IntKind.i64 (i)))))), (9, (AV.c (C.d (D.sc (Value.int IntKind.i64 (n))))))], [(0, .arr [(C.d (D.sc (Value.int IntKind.i64 (id.c)))), (C.d (D.sc (Value.int IntKind.i64 (id.n)))), (C.d (D.sc (Value.int IntKind.i64 (id.i))))]), (1, .tok 0 0), (2, .tok (o).length (tS (o).length 7))], 3⟩)) = some (.norm, ⟨F', [(0, .arr [(C.d (D.sc (Value.int IntKind.i64 (id.c)))), (C.d (D.sc (Value.int IntKind.i64 (id.n)))), (C.d (D.sc (Value.int IntKind.i64 (id.i))))]), (1, .tok 0 0), (2, .tok (o ++ mS all[i].who id n (all[i].texts.drop n)).length (tS (o ++ mS all[i].who id n (all[i].texts.drop n)).length 7))], 3⟩) ∧
    F'.get 0 = (AV.c (C.d (D.sl (own.map Strm.enc)))) ∧ F'.get 1 = (AV.c (C.d (D.sl (all.map Strm.enc)))) ∧ F'.get 5 = .ptr 0 0 ∧ F'.get 7 = (AV.c (C.gr 2 ((o ++ mS all[i].who id n (all[i].texts.drop n)).map Hld.enc))) ∧ F'.get 8 = (AV.c (C.d (D.sc (Value.int IntKind.i64 (i))))) := by
  have hg := getm all Strm.enc hi
  intro m
  induction m with
  | zero =>
    intro n o hn ho
    have hge : all[i].texts.length ≤ n := by omega
    have hd := ltF hge
    rw [List.drop_eq_nil_of_le hge]
    simp only [mS, List.append_nil]
    rw [b49_1_run]
    simp only [go_sem, ↓reduceIte, Nat.reduceAdd, Nat.reduceSub, Nat.reduceMul, Nat.reduceEqDiff, Nat.reduceLT, Nat.reduceShiftRight, Nat.reduceAnd, Nat.reduceBNe, Nat.reduceLeDiff, Nat.reduceBEq, Nat.testBit, Nat.zero_lt_one, Int.reduceToNat, Int.reduceNeg, Int.reduceLE, Int.reduceLT, Int.reduceEq, decide_true, decide_false, Bool.and_true, Bool.true_and, Bool.and_false, Bool.false_and, Bool.or_true, Bool.true_or, Bool.or_false, Bool.false_or, Bool.not_true, Bool.not_false, beq_self_eq_true, reduceCtorEq, Int.le_refl, Nat.add_zero, and_self, and_true, true_and, or_true, true_or, if_true, if_false, Nat.le_refl, Bool.and_self, eq_self, Bool.not_false, Bool.not_true, hd, hg, Strm.enc]
    exact ⟨_, rfl, rfl, rfl, rfl, rfl, rfl⟩
  | succ m ih =>
    intro n o hn ho
    have hlt : n < all[i].texts.length := by omega
    have hd := ltT hlt
    have hg2 := getm all[i].texts tenc hlt
    have hw := wrap_succ n (by omega)
    have hdr : all[i].texts.drop n = all[i].texts[n] :: all[i].texts.drop (n + 1) := List.drop_eq_getElem_cons hlt
    have mb : ((o.length + 1) * 64 ≤ maxBytes) = True := by
      have : maxBytes = 140737488355328 := rfl
      rw [this]; exact eq_true (by omega)
    obtain ⟨F', h⟩ := ih (n + 1) (o ++ [⟨all[i].who, id, ((n + 1 : Nat) : Int), all[i].texts[n]⟩]) (by omega) (by simp only [List.length_append, List.length_cons, List.length_nil]; omega)
    refine ⟨F', ?_⟩
    rw [hdr, mS]
    rw [List.append_assoc, List.singleton_append] at h
    refine ⟨?_, h.2⟩
    rw [← h.1, b49_1_run]
    simp only [go_sem, ↓reduceIte, Nat.reduceAdd, Nat.reduceSub, Nat.reduceMul, Nat.reduceEqDiff, Nat.reduceLT, Nat.reduceShiftRight, Nat.reduceAnd, Nat.reduceBNe, Nat.reduceLeDiff, Nat.reduceBEq, Nat.testBit, Nat.zero_lt_one, Int.reduceToNat, Int.reduceNeg, Int.reduceLE, Int.reduceLT, Int.reduceEq, decide_true, decide_false, Bool.and_true, Bool.true_and, Bool.and_false, Bool.false_and, Bool.or_true, Bool.true_or, Bool.or_false, Bool.false_or, Bool.not_true, Bool.not_false, beq_self_eq_true, reduceCtorEq, Int.le_refl, Nat.add_zero, and_self, and_true, true_and, or_true, true_or, if_true, if_false, Nat.le_refl, Bool.and_self, eq_self, Bool.not_false, Bool.not_true, hd, hg, hg2, Strm.enc, tenc, hw, mb, tS1, tSok, Hld.enc, List.map_append, List.length_append]
theorem Missing49 (own all : List Strm) (id : Vid) (ho : own.length < 2305843009213693952) (hl : all.length ≤ 1000000) (hb : ∀ s ∈ all, s.texts.length ≤ 1000000) (ht : total all ≤ 10000000) : (KL AA XX).call 49 [(PV.one (D.sl (own.map Strm.enc))), (PV.one (D.sl (all.map Strm.enc))), .agg id.enc] = some [(PV.one (D.sl ((missF own all id).map Hld.enc)))] := by
  rw [c49]
  have go := iter (F := fun (i : Nat) => loopR AA XX [0, 1, 5, 7, 8] 3 b49_0 (RUN AA XX b49_0 ⟨[(0, (AV.c (C.d (D.sl (own.map Strm.enc))))), (1, (AV.c (C.d (D.sl (all.map Strm.enc))))), (5, .ptr 0 0), (7, (AV.c (C.gr 2 ((missF own (all.take i) id).map Hld.enc)))), (8, (AV.c (C.d (D.sc (Value.int IntKind.i64 (i))))))], [(0, .arr [(C.d (D.sc (Value.int IntKind.i64 (id.c)))), (C.d (D.sc (Value.int IntKind.i64 (id.n)))), (C.d (D.sc (Value.int IntKind.i64 (id.i))))]), (1, .tok 0 0), (2, .tok (missF own (all.take i) id).length (tS (missF own (all.take i) id).length 7))], 3⟩)) (Nat.zero_le all.length) fun i _ hi => by
    have hlt := ltT hi
    have hg := getm all Strm.enc hi
    have hw := wrap_succ i (by omega)
    have hbi := hb _ (List.getElem_mem hi)
    have a1 := Count35 own all[i].who ho
    simp only [Mem.enc] at a1
    have hml := miss_len own (all.take i) id
    have htt := total_take all i
    have hs : missF own (all.take (i + 1)) id = missF own (all.take i) id ++ mS all[i].who id (count own all[i].who) (all[i].texts.drop (count own all[i].who)) := by
      unfold missF
      rw [← List.take_append_getElem hi, List.flatMap_append, List.flatMap_cons, List.flatMap_nil, List.append_nil]
    obtain ⟨F', h1, h2⟩ := miss49_in own all id i hi hbi _ (count own all[i].who) (missF own (all.take i) id) rfl (by omega)
    rw [← hs] at h1 h2
    obtain ⟨g0, g1, g5, g7, g8⟩ := h2
    show loopR _ _ _ _ _ (RUN _ _ _ _) = _
    rw [b49_0_run]
    simp only [go_sem, ↓reduceIte, Nat.reduceAdd, Nat.reduceSub, Nat.reduceMul, Nat.reduceEqDiff, Nat.reduceLT, Nat.reduceShiftRight, Nat.reduceAnd, Nat.reduceBNe, Nat.reduceLeDiff, Nat.reduceBEq, Nat.testBit, Nat.zero_lt_one, Int.reduceToNat, Int.reduceNeg, Int.reduceLE, Int.reduceLT, Int.reduceEq, decide_true, decide_false, Bool.and_true, Bool.true_and, Bool.and_false, Bool.false_and, Bool.or_true, Bool.true_or, Bool.or_false, Bool.false_or, Bool.not_true, Bool.not_false, beq_self_eq_true, reduceCtorEq, Int.le_refl, Nat.add_zero, and_self, and_true, true_and, or_true, true_or, if_true, if_false, Nat.le_refl, Bool.and_self, eq_self, Bool.not_false, Bool.not_true, hlt, hg, Strm.enc, hw, a1, h1, g0, g1, g5, g7, g8]
  simp only [List.take_zero, show missF own [] id = [] from rfl, List.map_nil, List.length_nil, tS0] at go
  rw [show (((0 : Nat) : Int)) = 0 from rfl, List.take_length] at go
  simp only [go_sem, ↓reduceIte, Nat.reduceAdd, Nat.reduceSub, Nat.reduceMul, Nat.reduceEqDiff, Nat.reduceLT, Nat.reduceShiftRight, Nat.reduceAnd, Nat.reduceBNe, Nat.reduceLeDiff, Nat.reduceBEq, Nat.testBit, Nat.zero_lt_one, Int.reduceToNat, Int.reduceNeg, Int.reduceLE, Int.reduceLT, Int.reduceEq, decide_true, decide_false, Bool.and_true, Bool.true_and, Bool.and_false, Bool.false_and, Bool.or_true, Bool.true_or, Bool.or_false, Bool.false_or, Bool.not_true, Bool.not_false, beq_self_eq_true, reduceCtorEq, Int.le_refl, Nat.add_zero, and_self, and_true, true_and, or_true, true_or, if_true, if_false, Nat.le_refl, Bool.and_self, eq_self, Bool.not_false, Bool.not_true, Vid.enc]
  rw [go, b49_0_run]
  simp only [go_sem, ↓reduceIte, Nat.reduceAdd, Nat.reduceSub, Nat.reduceMul, Nat.reduceEqDiff, Nat.reduceLT, Nat.reduceShiftRight, Nat.reduceAnd, Nat.reduceBNe, Nat.reduceLeDiff, Nat.reduceBEq, Nat.testBit, Nat.zero_lt_one, Int.reduceToNat, Int.reduceNeg, Int.reduceLE, Int.reduceLT, Int.reduceEq, decide_true, decide_false, Bool.and_true, Bool.true_and, Bool.and_false, Bool.false_and, Bool.or_true, Bool.true_or, Bool.or_false, Bool.false_or, Bool.not_true, Bool.not_false, beq_self_eq_true, reduceCtorEq, Int.le_refl, Nat.add_zero, and_self, and_true, true_and, or_true, true_or, if_true, if_false, Nat.le_refl, Bool.and_self, eq_self, Bool.not_false, Bool.not_true, Int.lt_irrefl]

def putF (own : List Strm) (l : List Hld) : List Strm := l.foldl (fun a x => addF a x.who x.text) own
theorem putF_adds (own : List Strm) (l : List Hld) : putF own l = adds own (l.map fun x => ⟨x.who, x.text⟩) := by
  unfold putF adds
  rw [List.foldl_map]
theorem putF_succ (own : List Strm) (l : List Hld) {i : Nat} (h : i < l.length) : putF own (l.take (i + 1)) = addF (putF own (l.take i)) l[i].who l[i].text := by
  unfold putF
  rw [← List.take_append_getElem h, List.foldl_append]
  rfl
theorem putF_len (own : List Strm) (l : List Hld) : (putF own l).length ≤ own.length + l.length := by
  rw [putF_adds]
  have := adds_len own (l.map fun x => ⟨x.who, x.text⟩)
  rwa [List.length_map] at this
theorem putF_texts (own : List Strm) (l : List Hld) (B : Nat) (h : ∀ s ∈ own, s.texts.length ≤ B) : ∀ s ∈ putF own l, s.texts.length ≤ B + l.length := by
  rw [putF_adds]
  have := adds_texts own (l.map fun x => ⟨x.who, x.text⟩) B h
  rwa [List.length_map] at this

theorem Put50 (own : List Strm) (l : List Hld) (ho : own.length ≤ 1000000) (hb : ∀ s ∈ own, s.texts.length ≤ 1000000) (hl : l.length ≤ 1000000) : (KL AA XX).call 50 [(PV.one (D.sl (own.map Strm.enc))), (PV.one (D.sl (l.map Hld.enc)))] = some [(PV.one (D.sl ((putF own l).map Strm.enc)))] := by
  rw [c50]
  have go := iter (F := fun (i : Nat) => loopR AA XX [0, 1, 7, 8] 1 b50_0 (RUN AA XX b50_0 ⟨[(0, (AV.c (C.d (D.sl ((putF own (l.take i)).map Strm.enc))))), (1, (AV.c (C.d (D.sl (l.map Hld.enc))))), (7, (AV.c (C.d (D.sc (Value.int IntKind.i64 (l.length)))))), (8, (AV.c (C.d (D.sc (Value.int IntKind.i64 (i))))))], [(0, .tok 0 0)], 1⟩)) (Nat.zero_le l.length) fun i _ hi => by
    have hlt := ltT hi
    have hg := getm l Hld.enc hi
    have hw := wrap_succ i (by omega)
    have b1 := putF_len own (l.take i)
    have b2 := putF_texts own (l.take i) 1000000 hb
    rw [List.length_take] at b1 b2
    have a1 := Add31 (putF own (l.take i)) l[i].who l[i].text (by omega) (fun s hs => by have := b2 s hs; omega)
    rw [← putF_succ own l hi] at a1
    simp only [Mem.enc] at a1
    show loopR _ _ _ _ _ (RUN _ _ _ _) = _
    rw [b50_0_run]
    simp only [go_sem, ↓reduceIte, Nat.reduceAdd, Nat.reduceSub, Nat.reduceMul, Nat.reduceEqDiff, Nat.reduceLT, Nat.reduceShiftRight, Nat.reduceAnd, Nat.reduceBNe, Nat.reduceLeDiff, Nat.reduceBEq, Nat.testBit, Nat.zero_lt_one, Int.reduceToNat, Int.reduceNeg, Int.reduceLE, Int.reduceLT, Int.reduceEq, decide_true, decide_false, Bool.and_true, Bool.true_and, Bool.and_false, Bool.false_and, Bool.or_true, Bool.true_or, Bool.or_false, Bool.false_or, Bool.not_true, Bool.not_false, beq_self_eq_true, reduceCtorEq, Int.le_refl, Nat.add_zero, and_self, and_true, true_and, or_true, true_or, if_true, if_false, Nat.le_refl, Bool.and_self, eq_self, Bool.not_false, Bool.not_true, hlt, hg, Hld.enc, hw, a1]
  rw [List.take_zero, show putF own [] = own from rfl, show (((0 : Nat) : Int)) = 0 from rfl, List.take_length] at go
  simp only [go_sem, ↓reduceIte, Nat.reduceAdd, Nat.reduceSub, Nat.reduceMul, Nat.reduceEqDiff, Nat.reduceLT, Nat.reduceShiftRight, Nat.reduceAnd, Nat.reduceBNe, Nat.reduceLeDiff, Nat.reduceBEq, Nat.testBit, Nat.zero_lt_one, Int.reduceToNat, Int.reduceNeg, Int.reduceLE, Int.reduceLT, Int.reduceEq, decide_true, decide_false, Bool.and_true, Bool.true_and, Bool.and_false, Bool.false_and, Bool.or_true, Bool.true_or, Bool.or_false, Bool.false_or, Bool.not_true, Bool.not_false, beq_self_eq_true, reduceCtorEq, Int.le_refl, Nat.add_zero, and_self, and_true, true_and, or_true, true_or, if_true, if_false, Nat.le_refl, Bool.and_self, eq_self, Bool.not_false, Bool.not_true]
  rw [go, b50_0_run]
  simp only [go_sem, ↓reduceIte, Nat.reduceAdd, Nat.reduceSub, Nat.reduceMul, Nat.reduceEqDiff, Nat.reduceLT, Nat.reduceShiftRight, Nat.reduceAnd, Nat.reduceBNe, Nat.reduceLeDiff, Nat.reduceBEq, Nat.testBit, Nat.zero_lt_one, Int.reduceToNat, Int.reduceNeg, Int.reduceLE, Int.reduceLT, Int.reduceEq, decide_true, decide_false, Bool.and_true, Bool.true_and, Bool.and_false, Bool.false_and, Bool.or_true, Bool.true_or, Bool.or_false, Bool.false_or, Bool.not_true, Bool.not_false, beq_self_eq_true, reduceCtorEq, Int.le_refl, Nat.add_zero, and_self, and_true, true_and, or_true, true_or, if_true, if_false, Nat.le_refl, Bool.and_self, eq_self, Bool.not_false, Bool.not_true, Int.lt_irrefl]

theorem Put51 (own : List Strm) (l : List Hld) (ho : own.length ≤ 1000000) (hb : ∀ s ∈ own, s.texts.length ≤ 1000000) (hl : l.length ≤ 1000000) : (KL AA XX).call 51 [(PV.one (D.sl (own.map Strm.enc))), (PV.one (D.sl (l.map Hld.enc)))] = some [(PV.one (D.sl ((putF own l).map Strm.enc)))] := by
  rw [c51]
  have go := iter (F := fun (i : Nat) => loopR AA XX [0, 1, 5] 1 b51_0 (RUN AA XX b51_0 ⟨[(0, (AV.c (C.d (D.sl ((putF own (l.take i)).map Strm.enc))))), (1, (AV.c (C.d (D.sl (l.map Hld.enc))))), (5, (AV.c (C.d (D.sc (Value.int IntKind.i64 (i))))))], [(0, .tok 0 0)], 1⟩)) (Nat.zero_le l.length) fun i _ hi => by
    have hlt := ltT hi
    have hg := getm l Hld.enc hi
    have hw := wrap_succ i (by omega)
    have b1 := putF_len own (l.take i)
    have b2 := putF_texts own (l.take i) 1000000 hb
    rw [List.length_take] at b1 b2
    have a1 := Add32 (putF own (l.take i)) l[i].who l[i].text (by omega) (fun s hs => by have := b2 s hs; omega)
    rw [← putF_succ own l hi] at a1
    simp only [Mem.enc] at a1
    show loopR _ _ _ _ _ (RUN _ _ _ _) = _
    rw [b51_0_run]
    simp only [go_sem, ↓reduceIte, Nat.reduceAdd, Nat.reduceSub, Nat.reduceMul, Nat.reduceEqDiff, Nat.reduceLT, Nat.reduceShiftRight, Nat.reduceAnd, Nat.reduceBNe, Nat.reduceLeDiff, Nat.reduceBEq, Nat.testBit, Nat.zero_lt_one, Int.reduceToNat, Int.reduceNeg, Int.reduceLE, Int.reduceLT, Int.reduceEq, decide_true, decide_false, Bool.and_true, Bool.true_and, Bool.and_false, Bool.false_and, Bool.or_true, Bool.true_or, Bool.or_false, Bool.false_or, Bool.not_true, Bool.not_false, beq_self_eq_true, reduceCtorEq, Int.le_refl, Nat.add_zero, and_self, and_true, true_and, or_true, true_or, if_true, if_false, Nat.le_refl, Bool.and_self, eq_self, Bool.not_false, Bool.not_true, hlt, hg, Hld.enc, hw, a1]
  rw [List.take_zero, show putF own [] = own from rfl, show (((0 : Nat) : Int)) = 0 from rfl, List.take_length] at go
  simp only [go_sem, ↓reduceIte, Nat.reduceAdd, Nat.reduceSub, Nat.reduceMul, Nat.reduceEqDiff, Nat.reduceLT, Nat.reduceShiftRight, Nat.reduceAnd, Nat.reduceBNe, Nat.reduceLeDiff, Nat.reduceBEq, Nat.testBit, Nat.zero_lt_one, Int.reduceToNat, Int.reduceNeg, Int.reduceLE, Int.reduceLT, Int.reduceEq, decide_true, decide_false, Bool.and_true, Bool.true_and, Bool.and_false, Bool.false_and, Bool.or_true, Bool.true_or, Bool.or_false, Bool.false_or, Bool.not_true, Bool.not_false, beq_self_eq_true, reduceCtorEq, Int.le_refl, Nat.add_zero, and_self, and_true, true_and, or_true, true_or, if_true, if_false, Nat.le_refl, Bool.and_self, eq_self, Bool.not_false, Bool.not_true]
  rw [go, b51_0_run]
  simp only [go_sem, ↓reduceIte, Nat.reduceAdd, Nat.reduceSub, Nat.reduceMul, Nat.reduceEqDiff, Nat.reduceLT, Nat.reduceShiftRight, Nat.reduceAnd, Nat.reduceBNe, Nat.reduceLeDiff, Nat.reduceBEq, Nat.testBit, Nat.zero_lt_one, Int.reduceToNat, Int.reduceNeg, Int.reduceLE, Int.reduceLT, Int.reduceEq, decide_true, decide_false, Bool.and_true, Bool.true_and, Bool.and_false, Bool.false_and, Bool.or_true, Bool.true_or, Bool.or_false, Bool.false_or, Bool.not_true, Bool.not_false, beq_self_eq_true, reduceCtorEq, Int.le_refl, Nat.add_zero, and_self, and_true, true_and, or_true, true_or, if_true, if_false, Nat.le_refl, Bool.and_self, eq_self, Bool.not_false, Bool.not_true, Int.lt_irrefl]
end Go.Proofs.Ytpanbfainilmpaa.Ev.S
