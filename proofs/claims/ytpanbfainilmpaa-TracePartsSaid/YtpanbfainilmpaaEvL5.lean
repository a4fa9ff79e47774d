/- The law StreamOrder in the evaluator: it answers true. -/
import Derived.Test.YtpanbfainilmpaaEvT1
set_option linter.unusedVariables false
set_option linter.unusedSimpArgs false
set_option maxRecDepth 100000
set_option maxHeartbeats 1000000
namespace Go.Proofs.Ytpanbfainilmpaa.Ev.S
open Go Go.Proofs.Ytpanbfainilmpaa.Ev

theorem wrap_add (a b : Nat) (h : a + b < 2305843009213693952) : IntKind.i64.wrap ((a : Int) + (b : Int)) = ((a + b : Nat) : Int) := by
  rw [wrap_i64 _ (by omega) (by omega)]; rfl
theorem wrap_pred (a : Nat) (h : a + 1 < 2305843009213693952) : IntKind.i64.wrap (((a + 1 : Nat) : Int) - 1) = (a : Int) := by
  rw [wrap_i64 _ (by omega) (by omega)]; omega
theorem law5_in (t : List Txt) (x : List Strm) (i n : Nat) (hi : i < x.length) (hx : x[i].texts = tx t x[i].who) (ht : t.length ≤ 100) : ∃ F', blockR 4 (loopR AA XX [0, 3, 5, 6, 7, 8] 1 b5_2 (RUN AA XX b5_2
      ⟨[(0, (AV.c (C.d (D.sl (t.map Txt.enc))))), (3, (AV.c (C.d (D.sl (x.map Strm.enc))))), (5, (AV.c (C.d (D.sc (Value.int IntKind.i64 (n)))))), (6, (AV.c (C.d (D.sc (Value.int IntKind.i64 (i)))))), (7, (AV.c (C.d (D.sc (Value.int IntKind.i64 (0)))))), (8, (AV.c (C.d (D.sc (Value.int IntKind.i64 (0))))))], [(0, .tok 0 0)], 1⟩)) = some (.norm, ⟨F', [(0, .tok 0 0)], 1⟩) ∧
      F'.get 0 = (AV.c (C.d (D.sl (t.map Txt.enc)))) ∧ F'.get 3 = (AV.c (C.d (D.sl (x.map Strm.enc)))) ∧ F'.get 5 = (AV.c (C.d (D.sc (Value.int IntKind.i64 (n))))) ∧ F'.get 6 = (AV.c (C.d (D.sc (Value.int IntKind.i64 (i))))) ∧ F'.get 7 = (AV.c (C.d (D.sc (Value.int IntKind.i64 ((tx t x[i].who).length))))) := by
  have hg := getm x Strm.enc hi
  have := iter (F := fun (j : Nat) => loopR AA XX [0, 3, 5, 6, 7, 8] 1 b5_2 (RUN AA XX b5_2
      ⟨[(0, (AV.c (C.d (D.sl (t.map Txt.enc))))), (3, (AV.c (C.d (D.sl (x.map Strm.enc))))), (5, (AV.c (C.d (D.sc (Value.int IntKind.i64 (n)))))), (6, (AV.c (C.d (D.sc (Value.int IntKind.i64 (i)))))), (7, (AV.c (C.d (D.sc (Value.int IntKind.i64 ((tx (t.take j) x[i].who).length)))))), (8, (AV.c (C.d (D.sc (Value.int IntKind.i64 (j))))))], [(0, .tok 0 0)], 1⟩)) (Nat.zero_le t.length) fun j _ hj => by
    have hd := ltT hj
    have hg2 := getm t Txt.enc hj
    have hw := wrap_succ j (by omega)
    have hk := tx_take t x[i].who hj
    have hle : (tx (t.take j) x[i].who).length ≤ j := by
      unfold tx
      rw [List.length_map]
      exact Nat.le_trans (List.length_filter_le _ _) (by rw [List.length_take]; omega)
    have hw2 := wrap_succ (tx (t.take j) x[i].who).length (by omega)
    show loopR _ _ _ _ _ (RUN _ _ _ _) = _
    rw [b5_2_run]
    cases e : sM t[j].who x[i].who with
    | false =>
      rw [e] at hk
      simp only [Bool.false_eq_true, if_false, Nat.add_zero] at hk
      simp only [sM] at e
      simp only [go_sem, ↓reduceIte, Nat.reduceAdd, Nat.reduceSub, Nat.reduceMul, Nat.reduceEqDiff, Nat.reduceLT, Nat.reduceShiftRight, Nat.reduceAnd, Nat.reduceBNe, Nat.reduceLeDiff, Nat.reduceBEq, Nat.testBit, Nat.zero_lt_one, Int.reduceToNat, Int.reduceNeg, Int.reduceLE, Int.reduceLT, Int.reduceEq, decide_true, decide_false, Bool.and_true, Bool.true_and, Bool.and_false, Bool.false_and, Bool.or_true, Bool.true_or, Bool.or_false, Bool.false_or, Bool.not_true, Bool.not_false, beq_self_eq_true, reduceCtorEq, and_self, and_true, true_and, or_true, true_or, if_true, if_false, Nat.le_refl, Bool.and_self, eq_self, Bool.not_false, Bool.not_true, hd, hg, hg2, Strm.enc, Txt.enc, hw, e, hk]
    | true =>
      have hget := tx_get t x[i].who hj e
      have hlt : (tx (t.take j) x[i].who).length < (tx t x[i].who).length := (List.getElem?_eq_some_iff.1 hget).1
      have hget2 : ((tx t x[i].who).map tenc)[(tx (t.take j) x[i].who).length]? = some [.sc (.string t[j].text)] := by rw [List.getElem?_map, hget]; rfl
      have hd2 : decide (((tx t x[i].who).length : Int) ≤ ((tx (t.take j) x[i].who).length : Int)) = false := by simp; omega
      rw [e] at hk
      simp only [if_true] at hk
      simp only [sM] at e
      simp only [go_sem, ↓reduceIte, Nat.reduceAdd, Nat.reduceSub, Nat.reduceMul, Nat.reduceEqDiff, Nat.reduceLT, Nat.reduceShiftRight, Nat.reduceAnd, Nat.reduceBNe, Nat.reduceLeDiff, Nat.reduceBEq, Nat.testBit, Nat.zero_lt_one, Int.reduceToNat, Int.reduceNeg, Int.reduceLE, Int.reduceLT, Int.reduceEq, decide_true, decide_false, Bool.and_true, Bool.true_and, Bool.and_false, Bool.false_and, Bool.or_true, Bool.true_or, Bool.or_false, Bool.false_or, Bool.not_true, Bool.not_false, beq_self_eq_true, reduceCtorEq, and_self, and_true, true_and, or_true, true_or, if_true, if_false, Nat.le_refl, Bool.and_self, eq_self, Bool.not_false, Bool.not_true, hd, hg, hg2, Strm.enc, Txt.enc, hw, e, hk, hx, hget2, hd2, hw2]
  rw [List.take_zero, show (tx [] x[i].who).length = 0 from rfl, show (((0 : Nat) : Int)) = 0 from rfl, List.take_length] at this
  rw [this, b5_2_run]
  simp only [go_sem, ↓reduceIte, Nat.reduceAdd, Nat.reduceSub, Nat.reduceMul, Nat.reduceEqDiff, Nat.reduceLT, Nat.reduceShiftRight, Nat.reduceAnd, Nat.reduceBNe, Nat.reduceLeDiff, Nat.reduceBEq, Nat.testBit, Nat.zero_lt_one, Int.reduceToNat, Int.reduceNeg, Int.reduceLE, Int.reduceLT, Int.reduceEq, decide_true, decide_false, Bool.and_true, Bool.true_and, Bool.and_false, Bool.false_and, Bool.or_true, Bool.true_or, Bool.or_false, Bool.false_or, Bool.not_true, Bool.not_false, beq_self_eq_true, reduceCtorEq, and_self, and_true, true_and, or_true, true_or, if_true, if_false, Nat.le_refl, Bool.and_self, eq_self, Bool.not_false, Bool.not_true, Int.lt_irrefl]
  exact ⟨_, rfl, rfl, rfl, rfl, rfl, rfl⟩
theorem law5 (t : List Txt) (ht : t.length * 32 ≤ 140737488351232) : (KL AA XX).call 5 [(PV.one (D.sl (t.map Txt.enc)))] = some [(PV.one (D.sc (Value.bool (true))))] := by
  by_cases h1 : 100 < t.length
  · rw [c5]
    have d1 : decide ((100 : Int) < (t.length : Int)) = true := by simp; omega
    simp only [go_sem, ↓reduceIte, Nat.reduceAdd, Nat.reduceSub, Nat.reduceMul, Nat.reduceEqDiff, Nat.reduceLT, Nat.reduceShiftRight, Nat.reduceAnd, Nat.reduceBNe, Nat.reduceLeDiff, Nat.reduceBEq, Nat.testBit, Nat.zero_lt_one, Int.reduceToNat, Int.reduceNeg, Int.reduceLE, Int.reduceLT, Int.reduceEq, decide_true, decide_false, Bool.and_true, Bool.true_and, Bool.and_false, Bool.false_and, Bool.or_true, Bool.true_or, Bool.or_false, Bool.false_or, Bool.not_true, Bool.not_false, beq_self_eq_true, reduceCtorEq, and_self, and_true, true_and, or_true, true_or, if_true, if_false, Nat.le_refl, Bool.and_self, eq_self, Bool.not_false, Bool.not_true, d1, awake30]
  have d1 : decide ((100 : Int) < (t.length : Int)) = false := by simp; omega
  by_cases h0 : t = []
  · subst h0
    exact (KL_call AA XX).2 ⟨200, by kernel_rfl⟩
  have hpos : 0 < t.length := List.length_pos_iff.2 h0
  rw [c5]
  -- texts in
  have step : ∀ i, i < t.length → ∀ c : C, c.toD = D.sl ((adds [] (t.take i)).map Strm.enc) → AV.old 1 (.c c) = .c c → loopR AA XX [0, 3, 4] 1 b5_0 (RUN AA XX b5_0 ⟨[(0, (AV.c (C.d (D.sl (t.map Txt.enc))))), (3, .c c), (4, (AV.c (C.d (D.sc (Value.int IntKind.i64 (i))))))], [(0, .tok 0 0)], 1⟩) =
      loopR AA XX [0, 3, 4] 1 b5_0 (RUN AA XX b5_0 ⟨[(0, (AV.c (C.d (D.sl (t.map Txt.enc))))), (3, (AV.c (C.d (D.sl ((adds [] (t.take (i + 1))).map Strm.enc))))), (4, (AV.c (C.d (D.sc (Value.int IntKind.i64 ((i + 1 : Nat)))))))], [(0, .tok 0 0)], 1⟩) := by
    intro i hi c hc ho
    have hlt := ltT hi
    have hg := getm t Txt.enc hi
    have hw := wrap_succ i (by omega)
    have b1 := adds_len [] (t.take i)
    have b3 := adds_texts [] (t.take i) 0 (by simp)
    rw [List.length_take, List.length_nil] at b1
    rw [List.length_take] at b3
    have a1 := Add31 (adds [] (t.take i)) t[i].who t[i].text (by omega) (fun s hs => by have := b3 s hs; omega)
    rw [← adds_succ [] t hi] at a1
    simp only [Mem.enc] at a1
    rw [b5_0_run]
    simp only [go_sem, ↓reduceIte, Nat.reduceAdd, Nat.reduceSub, Nat.reduceMul, Nat.reduceEqDiff, Nat.reduceLT, Nat.reduceShiftRight, Nat.reduceAnd, Nat.reduceBNe, Nat.reduceLeDiff, Nat.reduceBEq, Nat.testBit, Nat.zero_lt_one, Int.reduceToNat, Int.reduceNeg, Int.reduceLE, Int.reduceLT, Int.reduceEq, decide_true, decide_false, Bool.and_true, Bool.true_and, Bool.and_false, Bool.false_and, Bool.or_true, Bool.true_or, Bool.or_false, Bool.false_or, Bool.not_true, Bool.not_false, beq_self_eq_true, reduceCtorEq, and_self, and_true, true_and, or_true, true_or, if_true, if_false, Nat.le_refl, Bool.and_self, eq_self, Bool.not_false, Bool.not_true, hlt, hg, hw, Txt.enc, a1, hc, ho]
  have l0 := step 0 hpos (.gr 0 []) rfl rfl
  have l1 := iter (F := fun (i : Nat) => loopR AA XX [0, 3, 4] 1 b5_0 (RUN AA XX b5_0 ⟨[(0, (AV.c (C.d (D.sl (t.map Txt.enc))))), (3, (AV.c (C.d (D.sl ((adds [] (t.take i)).map Strm.enc))))), (4, (AV.c (C.d (D.sc (Value.int IntKind.i64 (i))))))], [(0, .tok 0 0)], 1⟩)) (show 1 ≤ t.length from hpos) fun i _ hi => step i hi _ rfl rfl
  rw [show (((0 : Nat) : Int)) = 0 from rfl] at l0
  have l2 := l0.trans l1
  rw [List.take_length] at l2
  have iv := inv_adds t
  have hlen := adds_len [] t
  have htot := adds_total [] t
  rw [List.length_nil] at hlen
  rw [show total [] = 0 from rfl, Nat.zero_add] at htot
  revert l2
  generalize adds [] t = x at iv hlen htot
  intro l2
  -- member by member
  have hn : ∀ i, i ≤ x.length → total (x.take i) ≤ t.length := by
    intro i _
    rw [← htot]
    unfold total
    have : (x.map (·.texts.length)).sum = ((x.take i).map (·.texts.length)).sum + ((x.drop i).map (·.texts.length)).sum := by
      rw [← List.sum_append, ← List.map_append, List.take_append_drop]
    omega
  have out := iter (F := fun (i : Nat) => loopR AA XX [0, 3, 5, 6] 1 b5_1 (RUN AA XX b5_1 ⟨[(0, (AV.c (C.d (D.sl (t.map Txt.enc))))), (3, (AV.c (C.d (D.sl (x.map Strm.enc))))), (5, (AV.c (C.d (D.sc (Value.int IntKind.i64 (total (x.take i))))))), (6, (AV.c (C.d (D.sc (Value.int IntKind.i64 (i))))))], [(0, .tok 0 0)], 1⟩)) (Nat.zero_le x.length) fun i _ hi => by
    have hlt := ltT hi
    have hg := getm x Strm.enc hi
    have hw := wrap_succ i (by omega)
    have hx := iv.tex _ (List.getElem_mem hi)
    obtain ⟨F', g1, g2, g3, g4, g5, g6⟩ := law5_in t x i (total (x.take i)) hi hx (by omega)
    have hs : total (x.take (i + 1)) = total (x.take i) + x[i].texts.length := by
      unfold total
      rw [← List.take_append_getElem hi, List.map_append, List.sum_append]
      simp
    have h3 := hn (i + 1) hi
    have hw2 := wrap_add (total (x.take i)) x[i].texts.length (by omega)
    rw [← hs] at hw2
    have a1 := Count34 x x[i].who (by omega)
    rw [count_at iv.srt hi] at a1
    simp only [Mem.enc] at a1
    rw [← hx] at g6
    show loopR _ _ _ _ _ (RUN _ _ _ _) = _
    rw [b5_1_run]
    rcases Nat.eq_zero_or_pos i with hz | hz
    · have hp0 : decide ((0 : Int) < (i : Int)) = false := by simp; omega
      simp only [go_sem, ↓reduceIte, Nat.reduceAdd, Nat.reduceSub, Nat.reduceMul, Nat.reduceEqDiff, Nat.reduceLT, Nat.reduceShiftRight, Nat.reduceAnd, Nat.reduceBNe, Nat.reduceLeDiff, Nat.reduceBEq, Nat.testBit, Nat.zero_lt_one, Int.reduceToNat, Int.reduceNeg, Int.reduceLE, Int.reduceLT, Int.reduceEq, decide_true, decide_false, Bool.and_true, Bool.true_and, Bool.and_false, Bool.false_and, Bool.or_true, Bool.true_or, Bool.or_false, Bool.false_or, Bool.not_true, Bool.not_false, beq_self_eq_true, reduceCtorEq, and_self, and_true, true_and, or_true, true_or, if_true, if_false, Nat.le_refl, Bool.and_self, eq_self, Bool.not_false, Bool.not_true, hlt, hg, Strm.enc, g1, g2, g3, g4, g5, g6, hw2, a1, hw, hp0]
    · have hp : IntKind.i64.wrap ((i : Int) - 1) = ((i - 1 : Nat) : Int) := by rw [wrap_i64 _ (by omega) (by omega)]; omega
      have hi' : i - 1 < x.length := by omega
      have hg' := getm x Strm.enc hi'
      have a2 := Less43 x[i - 1].who x[i].who
      rw [iv.srt.lt (show i - 1 < i by omega) hi] at a2
      simp only [Mem.enc] at a2
      have hp0 : decide ((0 : Int) < (i : Int)) = true := by simp; omega
      simp only [go_sem, ↓reduceIte, Nat.reduceAdd, Nat.reduceSub, Nat.reduceMul, Nat.reduceEqDiff, Nat.reduceLT, Nat.reduceShiftRight, Nat.reduceAnd, Nat.reduceBNe, Nat.reduceLeDiff, Nat.reduceBEq, Nat.testBit, Nat.zero_lt_one, Int.reduceToNat, Int.reduceNeg, Int.reduceLE, Int.reduceLT, Int.reduceEq, decide_true, decide_false, Bool.and_true, Bool.true_and, Bool.and_false, Bool.false_and, Bool.or_true, Bool.true_or, Bool.or_false, Bool.false_or, Bool.not_true, Bool.not_false, beq_self_eq_true, reduceCtorEq, and_self, and_true, true_and, or_true, true_or, if_true, if_false, Nat.le_refl, Bool.and_self, eq_self, Bool.not_false, Bool.not_true, hlt, hg, hg', Strm.enc, g1, g2, g3, g4, g5, g6, hw2, a1, a2, hw, hp, hp0]
  rw [List.take_zero, show total [] = 0 from rfl, show (((0 : Nat) : Int)) = 0 from rfl, List.take_length, htot] at out
  simp only [go_sem, ↓reduceIte, Nat.reduceAdd, Nat.reduceSub, Nat.reduceMul, Nat.reduceEqDiff, Nat.reduceLT, Nat.reduceShiftRight, Nat.reduceAnd, Nat.reduceBNe, Nat.reduceLeDiff, Nat.reduceBEq, Nat.testBit, Nat.zero_lt_one, Int.reduceToNat, Int.reduceNeg, Int.reduceLE, Int.reduceLT, Int.reduceEq, decide_true, decide_false, Bool.and_true, Bool.true_and, Bool.and_false, Bool.false_and, Bool.or_true, Bool.true_or, Bool.or_false, Bool.false_or, Bool.not_true, Bool.not_false, beq_self_eq_true, reduceCtorEq, and_self, and_true, true_and, or_true, true_or, if_true, if_false, Nat.le_refl, Bool.and_self, eq_self, Bool.not_false, Bool.not_true, d1]
  rw [l2, b5_0_run]
  simp only [go_sem, ↓reduceIte, Nat.reduceAdd, Nat.reduceSub, Nat.reduceMul, Nat.reduceEqDiff, Nat.reduceLT, Nat.reduceShiftRight, Nat.reduceAnd, Nat.reduceBNe, Nat.reduceLeDiff, Nat.reduceBEq, Nat.testBit, Nat.zero_lt_one, Int.reduceToNat, Int.reduceNeg, Int.reduceLE, Int.reduceLT, Int.reduceEq, decide_true, decide_false, Bool.and_true, Bool.true_and, Bool.and_false, Bool.false_and, Bool.or_true, Bool.true_or, Bool.or_false, Bool.false_or, Bool.not_true, Bool.not_false, beq_self_eq_true, reduceCtorEq, and_self, and_true, true_and, or_true, true_or, if_true, if_false, Nat.le_refl, Bool.and_self, eq_self, Bool.not_false, Bool.not_true, Int.lt_irrefl]
  rw [out, b5_1_run]
  simp only [go_sem, ↓reduceIte, Nat.reduceAdd, Nat.reduceSub, Nat.reduceMul, Nat.reduceEqDiff, Nat.reduceLT, Nat.reduceShiftRight, Nat.reduceAnd, Nat.reduceBNe, Nat.reduceLeDiff, Nat.reduceBEq, Nat.testBit, Nat.zero_lt_one, Int.reduceToNat, Int.reduceNeg, Int.reduceLE, Int.reduceLT, Int.reduceEq, decide_true, decide_false, Bool.and_true, Bool.true_and, Bool.and_false, Bool.false_and, Bool.or_true, Bool.true_or, Bool.or_false, Bool.false_or, Bool.not_true, Bool.not_false, beq_self_eq_true, reduceCtorEq, and_self, and_true, true_and, or_true, true_or, if_true, if_false, Nat.le_refl, Bool.and_self, eq_self, Bool.not_false, Bool.not_true, Int.lt_irrefl, awake30]
end Go.Proofs.Ytpanbfainilmpaa.Ev.S
