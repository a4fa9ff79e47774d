/- The law FlushAgain in the evaluator: it answers true. -/
import Derived.Test.YtpanbfainilmpaaEvT2
set_option linter.unusedVariables false
set_option linter.unusedSimpArgs false
set_option maxRecDepth 100000
set_option maxHeartbeats 2000000
namespace Go.Proofs.Ytpanbfainilmpaa.Ev.S
open Go Go.Proofs.Ytpanbfainilmpaa.Ev

theorem all11 (l : List Flu) : ((l.map Flu.enc).all fun e => e.length == 11) = true := by simp [Flu.enc]
theorem mbk {n m b : Nat} (h : n ≤ 1000000) (k : m ≤ n) (hb : b ≤ 1000) : (m * b ≤ maxBytes) = True := by
  have h1 : maxBytes = 140737488355328 := rfl
  rw [h1]
  have : m * b ≤ 1000000 * 1000 := Nat.mul_le_mul (by omega) hb
  exact eq_true (by omega)
abbrev hO (old : Vid) : List C := [(C.d (D.sc (Value.int IntKind.i64 (old.c)))), (C.d (D.sc (Value.int IntKind.i64 (old.n)))), (C.d (D.sc (Value.int IntKind.i64 (old.i))))]
abbrev hereF (l : List Flu) (old : Vid) : List Flu := l.filter fun f => sV f.old old


theorem law14_here (l : List Flu) (old : Vid) (u w t : List Strm) (hl : l.length ≤ 8) (a1 b1 a2 b2 : Nat) :
    loopR AA XX [0, 4, 9, 10, 11, 12, 13] 4 b14_1 (RUN AA XX b14_1 ⟨[(0, (AV.c (C.d (D.sl (l.map Flu.enc))))), (4, .ptr 0 0), (9, (AV.c (C.d (D.sl (u.map Strm.enc))))), (10, (AV.c (C.d (D.sl (w.map Strm.enc))))), (11, (AV.c (C.d (D.sl (t.map Strm.enc))))), (12, (AV.c (C.gr 3 []))), (13, (AV.c (C.d (D.sc (Value.int IntKind.i64 (0))))))], [(0, .arr [(C.d (D.sc (Value.int IntKind.i64 (old.c)))), (C.d (D.sc (Value.int IntKind.i64 (old.n)))), (C.d (D.sc (Value.int IntKind.i64 (old.i))))]), (1, .tok a1 b1), (2, .tok a2 b2), (3, .tok 0 0)], 4⟩) =
    loopR AA XX [0, 4, 9, 10, 11, 12, 13] 4 b14_1 (RUN AA XX b14_1 ⟨[(0, (AV.c (C.d (D.sl (l.map Flu.enc))))), (4, .ptr 0 0), (9, (AV.c (C.d (D.sl (u.map Strm.enc))))), (10, (AV.c (C.d (D.sl (w.map Strm.enc))))), (11, (AV.c (C.d (D.sl (t.map Strm.enc))))), (12, (AV.c (C.gr 3 ((hereF l old).map Flu.enc)))), (13, (AV.c (C.d (D.sc (Value.int IntKind.i64 (l.length))))))], [(0, .arr [(C.d (D.sc (Value.int IntKind.i64 (old.c)))), (C.d (D.sc (Value.int IntKind.i64 (old.n)))), (C.d (D.sc (Value.int IntKind.i64 (old.i))))]), (1, .tok a1 b1), (2, .tok a2 b2), (3, .tok (hereF l old).length (tS (hereF l old).length 11))], 4⟩) := by
  have := iter (F := fun (i : Nat) => loopR AA XX [0, 4, 9, 10, 11, 12, 13] 4 b14_1 (RUN AA XX b14_1 ⟨[(0, (AV.c (C.d (D.sl (l.map Flu.enc))))), (4, .ptr 0 0), (9, (AV.c (C.d (D.sl (u.map Strm.enc))))), (10, (AV.c (C.d (D.sl (w.map Strm.enc))))), (11, (AV.c (C.d (D.sl (t.map Strm.enc))))), (12, (AV.c (C.gr 3 ((hereF (l.take i) old).map Flu.enc)))), (13, (AV.c (C.d (D.sc (Value.int IntKind.i64 (i))))))], [(0, .arr [(C.d (D.sc (Value.int IntKind.i64 (old.c)))), (C.d (D.sc (Value.int IntKind.i64 (old.n)))), (C.d (D.sc (Value.int IntKind.i64 (old.i))))]), (1, .tok a1 b1), (2, .tok a2 b2), (3, .tok (hereF (l.take i) old).length (tS (hereF (l.take i) old).length 11))], 4⟩)) (Nat.zero_le l.length) fun i _ hi => by
    have hlt := ltT hi
    have hg := getFl l hi
    have hw := wrap_succ i (by omega)
    have hle : (hereF (l.take i) old).length ≤ i := Nat.le_trans (List.length_filter_le _ _) (by rw [List.length_take]; omega)
    have mb := mbk (show (hereF (l.take i) old).length + 1 ≤ 1000000 by omega) (Nat.le_refl _) (show 120 ≤ 1000 by omega)
    show loopR _ _ _ _ _ (RUN _ _ _ _) = _
    rw [b14_1_run]
    cases e2 : sV l[i].old old <;> (have e3 : hereF (l.take (i + 1)) old = hereF (l.take i) old ++ (if sV l[i].old old then [l[i]] else []) := filter_take _ hi) <;> rw [e2] at e3 <;> simp only [sV] at e2 <;>
      simp only [go_sem, ↓reduceIte, Nat.reduceAdd, Nat.reduceSub, Nat.reduceMul, Nat.reduceEqDiff, Nat.reduceLT, Nat.reduceShiftRight, Nat.reduceAnd, Nat.reduceBNe, Nat.reduceLeDiff, Nat.reduceBEq, Nat.testBit, Nat.zero_lt_one, Int.reduceToNat, Int.reduceNeg, Int.reduceLE, Int.reduceLT, Int.reduceEq, decide_true, decide_false, Bool.and_true, Bool.true_and, Bool.and_false, Bool.false_and, Bool.or_true, Bool.true_or, Bool.or_false, Bool.false_or, Bool.not_true, Bool.not_false, beq_self_eq_true, reduceCtorEq, Int.le_refl, Nat.add_zero, and_self, and_true, true_and, or_true, true_or, if_true, if_false, Nat.le_refl, Bool.and_self, eq_self, Bool.not_false, Bool.not_true, hlt, hg, Flu.enc, hw, e2, e3, List.length_append, tS1, tSok, mb, List.map_append, Bool.false_eq_true]
  simp only [List.take_zero, show hereF [] old = [] from rfl, List.map_nil, List.length_nil, tS0] at this
  rw [show (((0 : Nat) : Int)) = 0 from rfl, List.take_length] at this
  exact this
theorem law14_same (old : Vid) (u w t : List Strm) (hh : List Flu) (hlen : t.length = u.length) (hul : u.length < 2305843009213693952) (hsame : ∀ (i : Nat) (hi : i < t.length) (hj : i < u.length), t[i].who = u[i].who ∧ t[i].texts.length = u[i].texts.length) (a1 b1 a2 b2 a3 b3 : Nat) :
    loopR AA XX [4, 9, 10, 11, 12, 14] 4 b14_2 (RUN AA XX b14_2 ⟨[(4, .ptr 0 0), (9, (AV.c (C.d (D.sl (u.map Strm.enc))))), (10, (AV.c (C.d (D.sl (w.map Strm.enc))))), (11, (AV.c (C.d (D.sl (t.map Strm.enc))))), (12, (AV.c (C.gr 3 (hh.map Flu.enc)))), (14, (AV.c (C.d (D.sc (Value.int IntKind.i64 (0))))))], [(0, .arr [(C.d (D.sc (Value.int IntKind.i64 (old.c)))), (C.d (D.sc (Value.int IntKind.i64 (old.n)))), (C.d (D.sc (Value.int IntKind.i64 (old.i))))]), (1, .tok a1 b1), (2, .tok a2 b2), (3, .tok a3 b3)], 4⟩) =
    loopR AA XX [4, 9, 10, 11, 12, 14] 4 b14_2 (RUN AA XX b14_2 ⟨[(4, .ptr 0 0), (9, (AV.c (C.d (D.sl (u.map Strm.enc))))), (10, (AV.c (C.d (D.sl (w.map Strm.enc))))), (11, (AV.c (C.d (D.sl (t.map Strm.enc))))), (12, (AV.c (C.gr 3 (hh.map Flu.enc)))), (14, (AV.c (C.d (D.sc (Value.int IntKind.i64 (u.length))))))], [(0, .arr [(C.d (D.sc (Value.int IntKind.i64 (old.c)))), (C.d (D.sc (Value.int IntKind.i64 (old.n)))), (C.d (D.sc (Value.int IntKind.i64 (old.i))))]), (1, .tok a1 b1), (2, .tok a2 b2), (3, .tok a3 b3)], 4⟩) := by
  have := iter (F := fun (i : Nat) => loopR AA XX [4, 9, 10, 11, 12, 14] 4 b14_2 (RUN AA XX b14_2 ⟨[(4, .ptr 0 0), (9, (AV.c (C.d (D.sl (u.map Strm.enc))))), (10, (AV.c (C.d (D.sl (w.map Strm.enc))))), (11, (AV.c (C.d (D.sl (t.map Strm.enc))))), (12, (AV.c (C.gr 3 (hh.map Flu.enc)))), (14, (AV.c (C.d (D.sc (Value.int IntKind.i64 (i))))))], [(0, .arr [(C.d (D.sc (Value.int IntKind.i64 (old.c)))), (C.d (D.sc (Value.int IntKind.i64 (old.n)))), (C.d (D.sc (Value.int IntKind.i64 (old.i))))]), (1, .tok a1 b1), (2, .tok a2 b2), (3, .tok a3 b3)], 4⟩)) (Nat.zero_le u.length) fun i _ hi => by
    have hlt := ltT hi
    have hti : i < t.length := by omega
    have hg := getm u Strm.enc hi
    have hg2 := getm t Strm.enc hti
    have hw := wrap_succ i (by omega)
    obtain ⟨e1, e2⟩ := hsame i hti hi
    show loopR _ _ _ _ _ (RUN _ _ _ _) = _
    rw [b14_2_run]
    simp only [go_sem, ↓reduceIte, Nat.reduceAdd, Nat.reduceSub, Nat.reduceMul, Nat.reduceEqDiff, Nat.reduceLT, Nat.reduceShiftRight, Nat.reduceAnd, Nat.reduceBNe, Nat.reduceLeDiff, Nat.reduceBEq, Nat.testBit, Nat.zero_lt_one, Int.reduceToNat, Int.reduceNeg, Int.reduceLE, Int.reduceLT, Int.reduceEq, decide_true, decide_false, Bool.and_true, Bool.true_and, Bool.and_false, Bool.false_and, Bool.or_true, Bool.true_or, Bool.or_false, Bool.false_or, Bool.not_true, Bool.not_false, beq_self_eq_true, reduceCtorEq, Int.le_refl, Nat.add_zero, and_self, and_true, true_and, or_true, true_or, if_true, if_false, Nat.le_refl, Bool.and_self, eq_self, Bool.not_false, Bool.not_true, hlt, hg, hg2, Strm.enc, hw, e1, e2]
  rw [show (((0 : Nat) : Int)) = 0 from rfl] at this
  exact this

theorem law14 (l : List Flu) (old : Vid) (turn : Int) (hl : l.length * 120 ≤ 140737488351232 ∧ ∀ f ∈ l, f.streams.length * 40 ≤ 140737488351232 ∧ ∀ s ∈ f.streams, s.texts.length * 16 ≤ 140737488351232) (_ : True) (ht : (Lit.int .u8 turn).wf = true) :
    (KL AA XX).call 14 [(PV.one (D.sl (l.map Flu.enc))), .agg old.enc, (PV.one (D.sc (Value.int IntKind.u8 (turn))))] = some [(PV.one (D.sc (Value.bool (true))))] := by
  obtain ⟨hl1, hl2⟩ := hl
  have htp : 0 ≤ turn ∧ turn ≤ 255 := by
    simp only [Lit.wf, Bool.and_eq_true, decide_eq_true_eq] at ht
    exact ht
  rw [c14]
  have go : ∀ k, k ≤ l.length → (∀ j (hj : j < k) (hl : j < l.length), Small1 l[j]) → loopR AA XX [0, 2, 4, 7] 1 b14_0 (RUN AA XX b14_0 ⟨[(0, (AV.c (C.d (D.sl (l.map Flu.enc))))), (2, (AV.c (C.d (D.sc (Value.int IntKind.u8 (turn)))))), (4, .ptr 0 0), (7, (AV.c (C.d (D.sc (Value.int IntKind.i64 (0))))))], [(0, .arr (hO old))], 1⟩) = loopR AA XX [0, 2, 4, 7] 1 b14_0 (RUN AA XX b14_0 ⟨[(0, (AV.c (C.d (D.sl (l.map Flu.enc))))), (2, (AV.c (C.d (D.sc (Value.int IntKind.u8 (turn)))))), (4, .ptr 0 0), (7, (AV.c (C.d (D.sc (Value.int IntKind.i64 (k))))))], [(0, .arr (hO old))], 1⟩) := by
    intro k hk hs
    have := iter (F := fun (i : Nat) => loopR AA XX [0, 2, 4, 7] 1 b14_0 (RUN AA XX b14_0 ⟨[(0, (AV.c (C.d (D.sl (l.map Flu.enc))))), (2, (AV.c (C.d (D.sc (Value.int IntKind.u8 (turn)))))), (4, .ptr 0 0), (7, (AV.c (C.d (D.sc (Value.int IntKind.i64 (i))))))], [(0, .arr (hO old))], 1⟩)) (Nat.zero_le k) fun i _ hik => by
      have hi : i < l.length := by omega
      have hlt := ltT hi
      have hg := getFl l hi
      have hw := wrap_succ i (by omega)
      have a1 := hs i hik hi
      unfold Small1 at a1
      show loopR _ _ _ _ _ (RUN _ _ _ _) = _
      rw [b14_0_run]
      simp only [hO, go_sem, ↓reduceIte, Nat.reduceAdd, Nat.reduceSub, Nat.reduceMul, Nat.reduceEqDiff, Nat.reduceLT, Nat.reduceShiftRight, Nat.reduceAnd, Nat.reduceBNe, Nat.reduceLeDiff, Nat.reduceBEq, Nat.testBit, Nat.zero_lt_one, Int.reduceToNat, Int.reduceNeg, Int.reduceLE, Int.reduceLT, Int.reduceEq, decide_true, decide_false, Bool.and_true, Bool.true_and, Bool.and_false, Bool.false_and, Bool.or_true, Bool.true_or, Bool.or_false, Bool.false_or, Bool.not_true, Bool.not_false, beq_self_eq_true, reduceCtorEq, Int.le_refl, Nat.add_zero, and_self, and_true, true_and, or_true, true_or, if_true, if_false, Nat.le_refl, Bool.and_self, eq_self, Bool.not_false, Bool.not_true, hlt, hg, Flu.enc, hw, a1]
    exact this
  simp only [hO] at go
  simp only [go_sem, ↓reduceIte, Nat.reduceAdd, Nat.reduceSub, Nat.reduceMul, Nat.reduceEqDiff, Nat.reduceLT, Nat.reduceShiftRight, Nat.reduceAnd, Nat.reduceBNe, Nat.reduceLeDiff, Nat.reduceBEq, Nat.testBit, Nat.zero_lt_one, Int.reduceToNat, Int.reduceNeg, Int.reduceLE, Int.reduceLT, Int.reduceEq, decide_true, decide_false, Bool.and_true, Bool.true_and, Bool.and_false, Bool.false_and, Bool.or_true, Bool.true_or, Bool.or_false, Bool.false_or, Bool.not_true, Bool.not_false, beq_self_eq_true, reduceCtorEq, Int.le_refl, Nat.add_zero, and_self, and_true, true_and, or_true, true_or, if_true, if_false, Nat.le_refl, Bool.and_self, eq_self, Bool.not_false, Bool.not_true, Vid.enc]
  rcases first_or l with ⟨k, hk, h1, h2⟩ | h
  · have hlt := ltT hk
    have hg := getFl l hk
    obtain ⟨b, e, _⟩ := small_ex l[k] (hl2 _ (List.getElem_mem hk))
    have hb : b = false := by
      cases b with
      | false => rfl
      | true => exact absurd e h1
    rw [hb] at e
    rw [go k (Nat.le_of_lt hk) (fun j hj _ => h2 j hj), b14_0_run]
    simp only [go_sem, ↓reduceIte, Nat.reduceAdd, Nat.reduceSub, Nat.reduceMul, Nat.reduceEqDiff, Nat.reduceLT, Nat.reduceShiftRight, Nat.reduceAnd, Nat.reduceBNe, Nat.reduceLeDiff, Nat.reduceBEq, Nat.testBit, Nat.zero_lt_one, Int.reduceToNat, Int.reduceNeg, Int.reduceLE, Int.reduceLT, Int.reduceEq, decide_true, decide_false, Bool.and_true, Bool.true_and, Bool.and_false, Bool.false_and, Bool.or_true, Bool.true_or, Bool.or_false, Bool.false_or, Bool.not_true, Bool.not_false, beq_self_eq_true, reduceCtorEq, Int.le_refl, Nat.add_zero, and_self, and_true, true_and, or_true, true_or, if_true, if_false, Nat.le_refl, Bool.and_self, eq_self, Bool.not_false, Bool.not_true, hlt, hg, Flu.enc, e, awake45]
  · rw [go l.length (Nat.le_refl _) (fun j _ hj => h j hj), b14_0_run]
    by_cases h8 : 8 < l.length
    · have d1 : decide ((8 : Int) < (l.length : Int)) = true := by simp; omega
      simp only [go_sem, ↓reduceIte, Nat.reduceAdd, Nat.reduceSub, Nat.reduceMul, Nat.reduceEqDiff, Nat.reduceLT, Nat.reduceShiftRight, Nat.reduceAnd, Nat.reduceBNe, Nat.reduceLeDiff, Nat.reduceBEq, Nat.testBit, Nat.zero_lt_one, Int.reduceToNat, Int.reduceNeg, Int.reduceLE, Int.reduceLT, Int.reduceEq, decide_true, decide_false, Bool.and_true, Bool.true_and, Bool.and_false, Bool.false_and, Bool.or_true, Bool.true_or, Bool.or_false, Bool.false_or, Bool.not_true, Bool.not_false, beq_self_eq_true, reduceCtorEq, Int.le_refl, Nat.add_zero, and_self, and_true, true_and, or_true, true_or, if_true, if_false, Nat.le_refl, Bool.and_self, eq_self, Bool.not_false, Bool.not_true, Int.lt_irrefl, d1, awake45]
    · have d1 : decide ((8 : Int) < (l.length : Int)) = false := by simp; omega
      by_cases h0 : l.length = 0
      · have d2 : decide ((l.length : Int) = 0) = true := decide_eq_true (by omega)
        simp only [go_sem, ↓reduceIte, Nat.reduceAdd, Nat.reduceSub, Nat.reduceMul, Nat.reduceEqDiff, Nat.reduceLT, Nat.reduceShiftRight, Nat.reduceAnd, Nat.reduceBNe, Nat.reduceLeDiff, Nat.reduceBEq, Nat.testBit, Nat.zero_lt_one, Int.reduceToNat, Int.reduceNeg, Int.reduceLE, Int.reduceLT, Int.reduceEq, decide_true, decide_false, Bool.and_true, Bool.true_and, Bool.and_false, Bool.false_and, Bool.or_true, Bool.true_or, Bool.or_false, Bool.false_or, Bool.not_true, Bool.not_false, beq_self_eq_true, reduceCtorEq, Int.le_refl, Nat.add_zero, and_self, and_true, true_and, or_true, true_or, if_true, if_false, Nat.le_refl, Bool.and_self, eq_self, Bool.not_false, Bool.not_true, Int.lt_irrefl, d1, d2, awake45]
      · have d2 : decide ((l.length : Int) = 0) = false := decide_eq_false (by omega)
        have hsm : ∀ f ∈ l, Small f.streams := by
          intro f hf
          obtain ⟨j, hj, rfl⟩ := List.mem_iff_getElem.1 hf
          obtain ⟨b, e, hb⟩ := small_ex l[j] (hl2 _ hf)
          have := h j hj
          unfold Small1 at this
          rw [e] at this
          simp only [Option.some.injEq, List.cons.injEq, PV.one.injEq, D.sc.injEq, Value.bool.injEq, and_true] at this
          exact hb this
        have un : ∀ x : List Flu, (∀ f ∈ x, f ∈ l) → x.length ≤ 16 → (KL AA XX).call 46 [(PV.one (D.sl (x.map Flu.enc))), .agg old.enc] = some [(PV.one (D.sl ((unionF x old).map Strm.enc)))] := by
          intro x hx hxl
          have hs : ∀ f ∈ x, Small f.streams := fun f hf => hsm f (hx f hf)
          have hat := all_small hs
          exact Union46 x old (by omega) (fun f hf => by have := (hs f hf).len; omega) (by omega)
        have hat := all_small hsm
        have hbd := Bd.union (l := l) old
        have ulen : (unionF l old).length < 2305843009213693952 := by have := hbd.1; omega
        have s33 := Same33 (unionF l old) ulen (fun s hs => by have := hbd.2 s hs; omega)
        -- the turn
        obtain ⟨k, hk⟩ : ∃ k : Nat, turn.tmod l.length = k := ⟨(turn.tmod l.length).toNat, by
          rw [Int.tmod_eq_emod_of_nonneg htp.1]
          have := Int.emod_nonneg turn (show (l.length : Int) ≠ 0 by omega)
          omega⟩
        have hkl : k < l.length := by
          rw [Int.tmod_eq_emod_of_nonneg htp.1] at hk
          have := Int.emod_lt_of_pos turn (show (0 : Int) < l.length by omega)
          omega
        have ht1 : IntKind.i64.wrap turn = turn := wrap_i64 _ (by omega) (by omega)
        have ht2 : ((l.length : Int) = 0) = False := eq_false (by omega)
        have u1 := un l (fun f hf => hf) (by omega)
        have u2 := un (l ++ l) (fun f hf => by simpa using hf) (by rw [List.length_append]; omega)
        have u3 := un (l.drop k ++ l.take k) (fun f hf => by
          rcases List.mem_append.1 hf with hf | hf
          · exact List.mem_of_mem_drop hf
          · exact List.mem_of_mem_take hf) (by rw [List.length_append, List.length_drop, List.length_take]; omega)
        have u4 := un (hereF l old) (fun f hf => (List.mem_filter.1 hf).1) (Nat.le_trans (List.length_filter_le _ _) (by omega))
        rw [union_twice] at u2
        rw [union_here] at u4
        obtain ⟨v1, v2⟩ := union_lens (a := l.drop k ++ l.take k) (b := l) (old := old) (told_turn l old k)
        simp only [Vid.enc] at u1 u2 u3 u4
        have m1 := mbk (show l.length ≤ 1000000 by omega) (Nat.le_refl _) (show 120 ≤ 1000 by omega)
        have m2 := mbk (show l.length + l.length ≤ 1000000 by omega) (Nat.le_refl _) (show 120 ≤ 1000 by omega)
        have m3 := mbk (show (l.drop k).length ≤ 1000000 by rw [List.length_drop]; omega) (Nat.le_refl _) (show 120 ≤ 1000 by omega)
        have m4 := mbk (show (l.drop k).length + (l.take k).length ≤ 1000000 by rw [List.length_drop, List.length_take]; omega) (Nat.le_refl _) (show 120 ≤ 1000 by omega)
        have q1 : ((k : Int) ≤ (l.length : Int)) = True := eq_true (by omega)
        have he : l.isEmpty = false := by cases l with | nil => simp at h0 | cons _ _ => rfl
        have hem : (l.map Flu.enc).isEmpty = false := by cases l with | nil => simp at h0 | cons _ _ => rfl
        have hh := law14_here l old (unionF l old) (unionF l old) (unionF (l.drop k ++ l.take k) old) (by omega)
        have hs := law14_same old (unionF l old) (unionF l old) (unionF (l.drop k ++ l.take k) old) (hereF l old) v1 ulen v2
        have hlu : ((unionF (l.drop k ++ l.take k) old).length : Int) = ((unionF l old).length : Int) := by rw [v1]
        simp only [go_sem, ↓reduceIte, Nat.reduceAdd, Nat.reduceSub, Nat.reduceMul, Nat.reduceEqDiff, Nat.reduceLT, Nat.reduceShiftRight, Nat.reduceAnd, Nat.reduceBNe, Nat.reduceLeDiff, Nat.reduceBEq, Nat.testBit, Nat.zero_lt_one, Int.reduceToNat, Int.reduceNeg, Int.reduceLE, Int.reduceLT, Int.reduceEq, decide_true, decide_false, Bool.and_true, Bool.true_and, Bool.and_false, Bool.false_and, Bool.or_true, Bool.true_or, Bool.or_false, Bool.false_or, Bool.not_true, Bool.not_false, beq_self_eq_true, reduceCtorEq, Int.le_refl, Nat.add_zero, and_self, and_true, true_and, or_true, true_or, if_true, if_false, Nat.le_refl, Bool.and_self, eq_self, Bool.not_false, Bool.not_true, Int.lt_irrefl, d1, d2, ht1, ht2, hk, u1, m1, m2, m3, m4, q1, all11, take_enc, drop_enc, app_enc, u2, u3, hem]
        rw [hh, b14_1_run]
        simp only [go_sem, ↓reduceIte, Nat.reduceAdd, Nat.reduceSub, Nat.reduceMul, Nat.reduceEqDiff, Nat.reduceLT, Nat.reduceShiftRight, Nat.reduceAnd, Nat.reduceBNe, Nat.reduceLeDiff, Nat.reduceBEq, Nat.testBit, Nat.zero_lt_one, Int.reduceToNat, Int.reduceNeg, Int.reduceLE, Int.reduceLT, Int.reduceEq, decide_true, decide_false, Bool.and_true, Bool.true_and, Bool.and_false, Bool.false_and, Bool.or_true, Bool.true_or, Bool.or_false, Bool.false_or, Bool.not_true, Bool.not_false, beq_self_eq_true, reduceCtorEq, Int.le_refl, Nat.add_zero, and_self, and_true, true_and, or_true, true_or, if_true, if_false, Nat.le_refl, Bool.and_self, eq_self, Bool.not_false, Bool.not_true, Int.lt_irrefl, hlu]
        rw [hs, b14_2_run]
        simp only [go_sem, ↓reduceIte, Nat.reduceAdd, Nat.reduceSub, Nat.reduceMul, Nat.reduceEqDiff, Nat.reduceLT, Nat.reduceShiftRight, Nat.reduceAnd, Nat.reduceBNe, Nat.reduceLeDiff, Nat.reduceBEq, Nat.testBit, Nat.zero_lt_one, Int.reduceToNat, Int.reduceNeg, Int.reduceLE, Int.reduceLT, Int.reduceEq, decide_true, decide_false, Bool.and_true, Bool.true_and, Bool.and_false, Bool.false_and, Bool.or_true, Bool.true_or, Bool.or_false, Bool.false_or, Bool.not_true, Bool.not_false, beq_self_eq_true, reduceCtorEq, Int.le_refl, Nat.add_zero, and_self, and_true, true_and, or_true, true_or, if_true, if_false, Nat.le_refl, Bool.and_self, eq_self, Bool.not_false, Bool.not_true, Int.lt_irrefl, awake45, s33, u4]
end Go.Proofs.Ytpanbfainilmpaa.Ev.S
