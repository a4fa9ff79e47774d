/- The laws FlushLacks and FlushOrder in the evaluator: they answer true. -/
import Derived.Test.YtpanbfainilmpaaEvF4
set_option linter.unusedVariables false
set_option linter.unusedSimpArgs false
set_option maxRecDepth 100000
set_option maxHeartbeats 1000000
namespace Go.Proofs.Ytpanbfainilmpaa.Ev.S
open Go Go.Proofs.Ytpanbfainilmpaa.Ev

theorem law9 (own all : List Strm) (id : Vid) (ho : own.length * 40 ≤ 140737488351232 ∧ ∀ s ∈ own, s.texts.length * 16 ≤ 140737488351232) (hl : all.length * 40 ≤ 140737488351232 ∧ ∀ s ∈ all, s.texts.length * 16 ≤ 140737488351232) (_ : True) :
    (KL AA XX).call 9 [(PV.one (D.sl (own.map Strm.enc))), (PV.one (D.sl (all.map Strm.enc))), .agg id.enc] = some [(PV.one (D.sc (Value.bool (true))))] := by
  obtain ⟨b1, e1, f1⟩ := Small44 own (by omega) (fun s hs => by have := ho.2 s hs; omega)
  obtain ⟨b2, e2, f2⟩ := Small44 all (by omega) (fun s hs => by have := hl.2 s hs; omega)
  rw [c9]
  cases b1 with
  | false => simp only [go_sem, ↓reduceIte, Nat.reduceAdd, Nat.reduceSub, Nat.reduceMul, Nat.reduceEqDiff, Nat.reduceLT, Nat.reduceShiftRight, Nat.reduceAnd, Nat.reduceBNe, Nat.reduceLeDiff, Nat.reduceBEq, Nat.testBit, Nat.zero_lt_one, Int.reduceToNat, Int.reduceNeg, Int.reduceLE, Int.reduceLT, Int.reduceEq, decide_true, decide_false, Bool.and_true, Bool.true_and, Bool.and_false, Bool.false_and, Bool.or_true, Bool.true_or, Bool.or_false, Bool.false_or, Bool.not_true, Bool.not_false, beq_self_eq_true, reduceCtorEq, Int.le_refl, Nat.add_zero, and_self, and_true, true_and, or_true, true_or, if_true, if_false, Nat.le_refl, Bool.and_self, eq_self, Bool.not_false, Bool.not_true, e1, awake45, Vid.enc]
  | true =>
    cases b2 with
    | false => simp only [go_sem, ↓reduceIte, Nat.reduceAdd, Nat.reduceSub, Nat.reduceMul, Nat.reduceEqDiff, Nat.reduceLT, Nat.reduceShiftRight, Nat.reduceAnd, Nat.reduceBNe, Nat.reduceLeDiff, Nat.reduceBEq, Nat.testBit, Nat.zero_lt_one, Int.reduceToNat, Int.reduceNeg, Int.reduceLE, Int.reduceLT, Int.reduceEq, decide_true, decide_false, Bool.and_true, Bool.true_and, Bool.and_false, Bool.false_and, Bool.or_true, Bool.true_or, Bool.or_false, Bool.false_or, Bool.not_true, Bool.not_false, beq_self_eq_true, reduceCtorEq, Int.le_refl, Nat.add_zero, and_self, and_true, true_and, or_true, true_or, if_true, if_false, Nat.le_refl, Bool.and_self, eq_self, Bool.not_false, Bool.not_true, e1, e2, awake45, Vid.enc]
    | true =>
      have s1 := f1 rfl
      have s2 := f2 rfl
      have l1 := s1.len
      have l2 := s2.len
      have t2 := small_total s2
      have hml := miss_len own all id
      have a1 := Missing48 own all id (by omega) (by omega) (fun s hs => by have := s2.tex s hs; omega) (by omega)
      have a2 := Missing49 own all id (by omega) (by omega) (fun s hs => by have := s2.tex s hs; omega) (by omega)
      have a3 := SameH40 (missF own all id) (by omega)
      have p1 := Put50 own (missF own all id) (by omega) (fun s hs => by have := s1.tex s hs; omega) (by omega)
      have p2 := Put51 own (missF own all id) (by omega) (fun s hs => by have := s1.tex s hs; omega) (by omega)
      have q1 := putF_len own (missF own all id)
      have q2 := putF_texts own (missF own all id) 20 s1.tex
      have a4 := Same33 (putF own (missF own all id)) (by omega) (fun s hs => by have := q2 s hs; omega)
      simp only [Vid.enc] at a1 a2
      simp only [go_sem, ↓reduceIte, Nat.reduceAdd, Nat.reduceSub, Nat.reduceMul, Nat.reduceEqDiff, Nat.reduceLT, Nat.reduceShiftRight, Nat.reduceAnd, Nat.reduceBNe, Nat.reduceLeDiff, Nat.reduceBEq, Nat.testBit, Nat.zero_lt_one, Int.reduceToNat, Int.reduceNeg, Int.reduceLE, Int.reduceLT, Int.reduceEq, decide_true, decide_false, Bool.and_true, Bool.true_and, Bool.and_false, Bool.false_and, Bool.or_true, Bool.true_or, Bool.or_false, Bool.false_or, Bool.not_true, Bool.not_false, beq_self_eq_true, reduceCtorEq, Int.le_refl, Nat.add_zero, and_self, and_true, true_and, or_true, true_or, if_true, if_false, Nat.le_refl, Bool.and_self, eq_self, Bool.not_false, Bool.not_true, e1, e2, awake45, Vid.enc, a1, a2, a3, a4, p1, p2]

theorem missF_append (own a b : List Strm) (id : Vid) : missF own (a ++ b) id = missF own a id ++ missF own b id := by
  unfold missF
  rw [List.flatMap_append]
theorem mS_get (w : Mem) (id : Vid) : ∀ (ts : List ByteArray) (n k : Nat) (h : k < ts.length), (mS w id n ts)[k]? = some ⟨w, id, ((n + k + 1 : Nat) : Int), ts[k]⟩ := by
  intro ts
  induction ts with
  | nil => intro n k h; simp at h
  | cons t ts ih =>
    intro n k h
    cases k with
    | zero => rfl
    | succ k =>
      have := ih (n + 1) k (by simpa using h)
      simp only [mS, List.getElem?_cons_succ, this, List.getElem_cons_succ]
      rw [show n + 1 + k + 1 = n + (k + 1) + 1 by omega]
theorem law12_in (own all : List Strm) (id : Vid) (i : Nat) (hi : i < all.length) (hb : all[i].texts.length ≤ 20) (hm : (missF own all id).length ≤ 200) : ∀ (m k : Nat), all[i].texts.length - k = m → count own all[i].who ≤ k → (k ≤ all[i].texts.length ∨ k = count own all[i].who) →
    ∃ F', blockR 2 (loopR AA XX [0, 1, 5, 7, 8, 9, 10] 1 b12_1 (RUN AA XX b12_1 ⟨[(0, (AV.c (C.d (D.sl (own.map Strm.enc))))), (1, (AV.c (C.d (D.sl (all.map Strm.enc))))), (5, .ptr 0 0), (7, (AV.c (C.d (D.sl ((missF own all id).map Hld.enc))))), (8, (AV.c (C.d (D.sc (Value.int IntKind.i64 ((((missF own (all.take i) id).length + (k - count own all[i].who) : Nat) : Int))))))), (9, (AV.c (C.d (D.sc (Value.int IntKind.i64 (i)))))), (10, (AV.c (C.d (D.sc (Value.int IntKind.i64 (k))))))], [(0, .arr [(C.d (D.sc (Value.int IntKind.i64 (id.c)))), (C.d (D.sc (Value.int IntKind.i64 (id.n)))), (C.d (D.sc (Value.int IntKind.i64 (id.i))))])], 1⟩)) = some (.norm, ⟨F', [(0, .arr [(C.d (D.sc (Value.int IntKind.i64 (id.c)))), (C.d (D.sc (Value.int IntKind.i64 (id.n)))), (C.d (D.sc (Value.int IntKind.i64 (id.i))))])], 1⟩) ∧
      F'.get 0 = (AV.c (C.d (D.sl (own.map Strm.enc)))) ∧ F'.get 1 = (AV.c (C.d (D.sl (all.map Strm.enc)))) ∧ F'.get 5 = .ptr 0 0 ∧ F'.get 7 = (AV.c (C.d (D.sl ((missF own all id).map Hld.enc)))) ∧ F'.get 8 = (AV.c (C.d (D.sc (Value.int IntKind.i64 ((missF own (all.take (i + 1)) id).length))))) ∧ F'.get 9 = (AV.c (C.d (D.sc (Value.int IntKind.i64 (i))))) := by
  have hg := getm all Strm.enc hi
  have hsp : missF own all id = missF own (all.take i) id ++ (mS all[i].who id (count own all[i].who) (all[i].texts.drop (count own all[i].who)) ++ missF own (all.drop (i + 1)) id) := by
    conv => lhs; rw [← List.take_append_drop i all, List.drop_eq_getElem_cons hi]
    rw [missF_append]
    rfl
  have hs1 : (missF own (all.take (i + 1)) id).length = (missF own (all.take i) id).length + (all[i].texts.length - count own all[i].who) := by
    rw [← List.take_append_getElem hi, missF_append, List.length_append]
    unfold missF
    rw [List.flatMap_cons, List.flatMap_nil, List.append_nil, mS_len, List.length_drop]
  intro m
  induction m with
  | zero =>
    intro k hk hc hor
    have hge : all[i].texts.length ≤ k := by omega
    have hd := ltF hge
    have he : (missF own (all.take i) id).length + (k - count own all[i].who) = (missF own (all.take (i + 1)) id).length := by rw [hs1]; omega
    rw [he, b12_1_run]
    simp only [go_sem, ↓reduceIte, Nat.reduceAdd, Nat.reduceSub, Nat.reduceMul, Nat.reduceEqDiff, Nat.reduceLT, Nat.reduceShiftRight, Nat.reduceAnd, Nat.reduceBNe, Nat.reduceLeDiff, Nat.reduceBEq, Nat.testBit, Nat.zero_lt_one, Int.reduceToNat, Int.reduceNeg, Int.reduceLE, Int.reduceLT, Int.reduceEq, decide_true, decide_false, Bool.and_true, Bool.true_and, Bool.and_false, Bool.false_and, Bool.or_true, Bool.true_or, Bool.or_false, Bool.false_or, Bool.not_true, Bool.not_false, beq_self_eq_true, reduceCtorEq, Int.le_refl, Nat.add_zero, and_self, and_true, true_and, or_true, true_or, if_true, if_false, Nat.le_refl, Bool.and_self, eq_self, Bool.not_false, Bool.not_true, hd, hg, Strm.enc]
    exact ⟨_, rfl, rfl, rfl, rfl, rfl, rfl, rfl⟩
  | succ m ih =>
    intro k hk hc hor
    have hlt : k < all[i].texts.length := by omega
    have hd := ltT hlt
    have hg2 := getm all[i].texts tenc hlt
    have hw := wrap_succ k (by omega)
    obtain ⟨n, hn⟩ : ∃ n, (missF own (all.take i) id).length + (k - count own all[i].who) = n := ⟨_, rfl⟩
    have hget : (missF own all id)[n]? = some ⟨all[i].who, id, ((k + 1 : Nat) : Int), all[i].texts[k]⟩ := by
      rw [hsp, List.getElem?_append_right (by omega), List.getElem?_append_left (by rw [mS_len, List.length_drop]; omega), mS_get _ _ _ _ _ (by rw [List.length_drop]; omega), List.getElem_drop]
      have e1 : count own all[i].who + (n - (missF own (all.take i) id).length) = k := by omega
      simp only [e1]
    have hnl : n < (missF own all id).length := (List.getElem?_eq_some_iff.1 hget).1
    have hd2 : decide (((missF own all id).length : Int) ≤ (n : Int)) = false := by simp; omega
    have hget2 : ((missF own all id).map Hld.enc)[n]? = some (Hld.enc ⟨all[i].who, id, ((k + 1 : Nat) : Int), all[i].texts[k]⟩) := by rw [List.getElem?_map, hget]; rfl
    have hw2 := wrap_succ n (by omega)
    obtain ⟨F', h⟩ := ih (k + 1) (by omega) (by omega) (by omega)
    rw [show (missF own (all.take i) id).length + (k + 1 - count own all[i].who) = n + 1 by omega] at h
    refine ⟨F', ?_, h.2⟩
    rw [← h.1, hn, b12_1_run]
    simp only [go_sem, ↓reduceIte, Nat.reduceAdd, Nat.reduceSub, Nat.reduceMul, Nat.reduceEqDiff, Nat.reduceLT, Nat.reduceShiftRight, Nat.reduceAnd, Nat.reduceBNe, Nat.reduceLeDiff, Nat.reduceBEq, Nat.testBit, Nat.zero_lt_one, Int.reduceToNat, Int.reduceNeg, Int.reduceLE, Int.reduceLT, Int.reduceEq, decide_true, decide_false, Bool.and_true, Bool.true_and, Bool.and_false, Bool.false_and, Bool.or_true, Bool.true_or, Bool.or_false, Bool.false_or, Bool.not_true, Bool.not_false, beq_self_eq_true, reduceCtorEq, Int.le_refl, Nat.add_zero, and_self, and_true, true_and, or_true, true_or, if_true, if_false, Nat.le_refl, Bool.and_self, eq_self, Bool.not_false, Bool.not_true, hd, hd2, hg, hg2, hget2, Strm.enc, Hld.enc, tenc, hw, hw2]
theorem law12 (own all : List Strm) (id : Vid) (ho : own.length * 40 ≤ 140737488351232 ∧ ∀ s ∈ own, s.texts.length * 16 ≤ 140737488351232) (hl : all.length * 40 ≤ 140737488351232 ∧ ∀ s ∈ all, s.texts.length * 16 ≤ 140737488351232) (_ : True) :
    (KL AA XX).call 12 [(PV.one (D.sl (own.map Strm.enc))), (PV.one (D.sl (all.map Strm.enc))), .agg id.enc] = some [(PV.one (D.sc (Value.bool (true))))] := by
  obtain ⟨b1, e1, f1⟩ := Small44 own (by omega) (fun s hs => by have := ho.2 s hs; omega)
  obtain ⟨b2, e2, f2⟩ := Small44 all (by omega) (fun s hs => by have := hl.2 s hs; omega)
  rw [c12]
  cases b1 with
  | false => simp only [go_sem, ↓reduceIte, Nat.reduceAdd, Nat.reduceSub, Nat.reduceMul, Nat.reduceEqDiff, Nat.reduceLT, Nat.reduceShiftRight, Nat.reduceAnd, Nat.reduceBNe, Nat.reduceLeDiff, Nat.reduceBEq, Nat.testBit, Nat.zero_lt_one, Int.reduceToNat, Int.reduceNeg, Int.reduceLE, Int.reduceLT, Int.reduceEq, decide_true, decide_false, Bool.and_true, Bool.true_and, Bool.and_false, Bool.false_and, Bool.or_true, Bool.true_or, Bool.or_false, Bool.false_or, Bool.not_true, Bool.not_false, beq_self_eq_true, reduceCtorEq, Int.le_refl, Nat.add_zero, and_self, and_true, true_and, or_true, true_or, if_true, if_false, Nat.le_refl, Bool.and_self, eq_self, Bool.not_false, Bool.not_true, e1, awake45, Vid.enc]
  | true =>
    cases b2 with
    | false => simp only [go_sem, ↓reduceIte, Nat.reduceAdd, Nat.reduceSub, Nat.reduceMul, Nat.reduceEqDiff, Nat.reduceLT, Nat.reduceShiftRight, Nat.reduceAnd, Nat.reduceBNe, Nat.reduceLeDiff, Nat.reduceBEq, Nat.testBit, Nat.zero_lt_one, Int.reduceToNat, Int.reduceNeg, Int.reduceLE, Int.reduceLT, Int.reduceEq, decide_true, decide_false, Bool.and_true, Bool.true_and, Bool.and_false, Bool.false_and, Bool.or_true, Bool.true_or, Bool.or_false, Bool.false_or, Bool.not_true, Bool.not_false, beq_self_eq_true, reduceCtorEq, Int.le_refl, Nat.add_zero, and_self, and_true, true_and, or_true, true_or, if_true, if_false, Nat.le_refl, Bool.and_self, eq_self, Bool.not_false, Bool.not_true, e1, e2, awake45, Vid.enc]
    | true =>
      have s1 := f1 rfl
      have s2 := f2 rfl
      have l1 := s1.len
      have l2 := s2.len
      have t2 := small_total s2
      have hml := miss_len own all id
      have a1 := Missing48 own all id (by omega) (by omega) (fun s hs => by have := s2.tex s hs; omega) (by omega)
      simp only [Vid.enc] at a1
      have go := iter (F := fun (i : Nat) => loopR AA XX [0, 1, 5, 7, 8, 9] 1 b12_0 (RUN AA XX b12_0 ⟨[(0, (AV.c (C.d (D.sl (own.map Strm.enc))))), (1, (AV.c (C.d (D.sl (all.map Strm.enc))))), (5, .ptr 0 0), (7, (AV.c (C.d (D.sl ((missF own all id).map Hld.enc))))), (8, (AV.c (C.d (D.sc (Value.int IntKind.i64 ((missF own (all.take i) id).length)))))), (9, (AV.c (C.d (D.sc (Value.int IntKind.i64 (i))))))], [(0, .arr [(C.d (D.sc (Value.int IntKind.i64 (id.c)))), (C.d (D.sc (Value.int IntKind.i64 (id.n)))), (C.d (D.sc (Value.int IntKind.i64 (id.i))))])], 1⟩)) (Nat.zero_le all.length) fun i _ hi => by
        have hlt := ltT hi
        have hg := getm all Strm.enc hi
        have hw := wrap_succ i (by omega)
        have c1 := Count35 own all[i].who (by omega)
        simp only [Mem.enc] at c1
        obtain ⟨F', h1, g0, g1, g5, g7, g8, g9⟩ := law12_in own all id i hi (s2.tex _ (List.getElem_mem hi)) (by omega) _ (count own all[i].who) rfl (Nat.le_refl _) (.inr rfl)
        rw [Nat.sub_self, Nat.add_zero] at h1
        show loopR _ _ _ _ _ (RUN _ _ _ _) = _
        rw [b12_0_run]
        simp only [go_sem, ↓reduceIte, Nat.reduceAdd, Nat.reduceSub, Nat.reduceMul, Nat.reduceEqDiff, Nat.reduceLT, Nat.reduceShiftRight, Nat.reduceAnd, Nat.reduceBNe, Nat.reduceLeDiff, Nat.reduceBEq, Nat.testBit, Nat.zero_lt_one, Int.reduceToNat, Int.reduceNeg, Int.reduceLE, Int.reduceLT, Int.reduceEq, decide_true, decide_false, Bool.and_true, Bool.true_and, Bool.and_false, Bool.false_and, Bool.or_true, Bool.true_or, Bool.or_false, Bool.false_or, Bool.not_true, Bool.not_false, beq_self_eq_true, reduceCtorEq, Int.le_refl, Nat.add_zero, and_self, and_true, true_and, or_true, true_or, if_true, if_false, Nat.le_refl, Bool.and_self, eq_self, Bool.not_false, Bool.not_true, hlt, hg, Strm.enc, hw, c1, h1, g0, g1, g5, g7, g8, g9]
      simp only [List.take_zero, show missF own [] id = [] from rfl, List.length_nil] at go
      rw [show (((0 : Nat) : Int)) = 0 from rfl, List.take_length] at go
      simp only [go_sem, ↓reduceIte, Nat.reduceAdd, Nat.reduceSub, Nat.reduceMul, Nat.reduceEqDiff, Nat.reduceLT, Nat.reduceShiftRight, Nat.reduceAnd, Nat.reduceBNe, Nat.reduceLeDiff, Nat.reduceBEq, Nat.testBit, Nat.zero_lt_one, Int.reduceToNat, Int.reduceNeg, Int.reduceLE, Int.reduceLT, Int.reduceEq, decide_true, decide_false, Bool.and_true, Bool.true_and, Bool.and_false, Bool.false_and, Bool.or_true, Bool.true_or, Bool.or_false, Bool.false_or, Bool.not_true, Bool.not_false, beq_self_eq_true, reduceCtorEq, Int.le_refl, Nat.add_zero, and_self, and_true, true_and, or_true, true_or, if_true, if_false, Nat.le_refl, Bool.and_self, eq_self, Bool.not_false, Bool.not_true, e1, e2, Vid.enc, a1]
      rw [go, b12_0_run]
      simp only [go_sem, ↓reduceIte, Nat.reduceAdd, Nat.reduceSub, Nat.reduceMul, Nat.reduceEqDiff, Nat.reduceLT, Nat.reduceShiftRight, Nat.reduceAnd, Nat.reduceBNe, Nat.reduceLeDiff, Nat.reduceBEq, Nat.testBit, Nat.zero_lt_one, Int.reduceToNat, Int.reduceNeg, Int.reduceLE, Int.reduceLT, Int.reduceEq, decide_true, decide_false, Bool.and_true, Bool.true_and, Bool.and_false, Bool.false_and, Bool.or_true, Bool.true_or, Bool.or_false, Bool.false_or, Bool.not_true, Bool.not_false, beq_self_eq_true, reduceCtorEq, Int.le_refl, Nat.add_zero, and_self, and_true, true_and, or_true, true_or, if_true, if_false, Nat.le_refl, Bool.and_self, eq_self, Bool.not_false, Bool.not_true, Int.lt_irrefl, awake45]
end Go.Proofs.Ytpanbfainilmpaa.Ev.S
