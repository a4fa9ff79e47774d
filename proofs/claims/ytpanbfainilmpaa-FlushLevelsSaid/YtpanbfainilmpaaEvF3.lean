/- What the functions of the texts' chapters compute: a text more of a member. -/
import Derived.Test.YtpanbfainilmpaaEvF2
set_option linter.unusedVariables false
set_option linter.unusedSimpArgs false
set_option maxRecDepth 100000
set_option maxHeartbeats 1000000
namespace Go.Proofs.Ytpanbfainilmpaa.Ev.S
open Go Go.Proofs.Ytpanbfainilmpaa.Ev

def insAt (l : List Strm) (m : Mem) : Nat := (l.findIdx? fun s => !less s.who m).getD l.length
def addF (l : List Strm) (m : Mem) (t : ByteArray) : List Strm :=
  match l.findIdx? (fun s => sM s.who m) with
  | some k => match l[k]? with
    | some s => l.set k ⟨s.who, s.texts ++ [t]⟩
    | none => l
  | none => l.take (insAt l m) ++ ⟨m, [t]⟩ :: l.drop (insAt l m)

def cellsS (l : List Strm) : List C := (l.map Strm.enc).flatten.map C.d
theorem cellsS_cons (s : Strm) (l : List Strm) : cellsS (s :: l) = C.d (.sc (.int .i64 s.who.node)) :: C.d (.sc (.int .i64 s.who.inc)) :: C.d (.sl (s.texts.map tenc)) :: cellsS l := rfl
theorem cellsS_len (l : List Strm) : (cellsS l).length = l.length * 3 := by
  induction l with
  | nil => rfl
  | cons s l ih => rw [cellsS_cons]; simp only [List.length_cons, ih]; omega
theorem cellsS_drop (l : List Strm) (i : Nat) : (cellsS l).drop (i * 3) = cellsS (l.drop i) := by
  induction l generalizing i with
  | nil => simp [cellsS]
  | cons s l ih =>
    cases i with
    | zero => simp
    | succ i =>
      rw [cellsS_cons, show (i + 1) * 3 = i * 3 + 1 + 1 + 1 by omega]
      simp only [List.drop_succ_cons, ih]
theorem cellsS_who (l : List Strm) {i : Nat} (h : i < l.length) : ((cellsS l).drop (i * 3)).take 2 = [C.d (.sc (.int .i64 l[i].who.node)), C.d (.sc (.int .i64 l[i].who.inc))] := by
  rw [cellsS_drop, List.drop_eq_getElem_cons h, cellsS_cons]; rfl
theorem cellsS_txt (l : List Strm) {i : Nat} (h : i < l.length) : (cellsS l)[i * 3 + 2]? = some (C.d (.sl (l[i].texts.map tenc))) := by
  rw [← List.getElem?_drop, cellsS_drop, List.drop_eq_getElem_cons h, cellsS_cons]; rfl
theorem cellsS_set (l : List Strm) {i : Nat} (h : i < l.length) (t : Nat) (ts : List ByteArray) : ((cellsS l).set (i * 3 + 2) (.gr t (ts.map tenc))).map C.toD = (cellsS (l.set i ⟨l[i].who, ts⟩)).map C.toD := by
  induction l generalizing i with
  | nil => simp at h
  | cons s l ih =>
    cases i with
    | zero => rfl
    | succ i =>
      have hi : i < l.length := by simpa using h
      rw [show (i + 1) * 3 + 2 = (i * 3 + 2) + 3 by omega]
      show C.toD (C.d _) :: C.toD (C.d _) :: C.toD (C.d _) :: ((cellsS l).set (i * 3 + 2) (.gr t (ts.map tenc))).map C.toD = C.toD (C.d _) :: C.toD (C.d _) :: C.toD (C.d _) :: (cellsS (l.set i ⟨l[i].who, ts⟩)).map C.toD
      rw [ih hi]
theorem cellsS_old (l : List Strm) (n : Nat) : (cellsS l).map (C.old n) = cellsS l := by
  rw [cellsS, List.map_map]
  rfl
theorem chunkS (l : List Strm) : chunk 3 l.length ((cellsS l).map C.toD) = l.map Strm.enc := by
  induction l with
  | nil => rfl
  | cons s l ih =>
    rw [cellsS_cons]
    simp only [List.length_cons, chunk, List.map_cons, List.take_succ_cons, List.take_zero, List.drop_succ_cons, List.drop_zero, ih]
    rfl
theorem chunk_pre (l : List Strm) {k : Nat} (h : k ≤ l.length) : chunk 3 k ((cellsS l).map C.toD) = (l.take k).map Strm.enc := by
  induction l generalizing k with
  | nil => obtain rfl : k = 0 := by simpa using h
           rfl
  | cons s l ih =>
    cases k with
    | zero => rfl
    | succ k =>
      rw [cellsS_cons]
      simp only [chunk, List.map_cons, List.take_succ_cons, List.take_zero, List.drop_succ_cons, List.drop_zero, ih (show k ≤ l.length by simpa using h)]
      rfl
theorem chunk_suf (l : List Strm) {k : Nat} (h : k ≤ l.length) : chunk 3 (l.length - k) (((cellsS l).drop (k * 3)).map C.toD) = (l.drop k).map Strm.enc := by
  rw [cellsS_drop, ← chunkS (l.drop k), List.length_drop]
theorem all3 (l : List Strm) : ((l.map Strm.enc).all fun e => e.length == 3) = true := by simp [Strm.enc]
theorem all1 (l : List ByteArray) : ((l.map tenc).all fun e => e.length == 1) = true := by simp [tenc]
theorem cells_fold (l : List Strm) : (l.map Strm.enc).flatten.map C.d = cellsS l := rfl
theorem mb16 {n : Nat} (h : (n + 1) * 16 ≤ 140737488355328) : (n * 16 ≤ maxBytes) = True ∧ ((n + 1) * 16 ≤ maxBytes) = True := by
  have : maxBytes = 140737488355328 := rfl
  rw [this]
  exact ⟨eq_true (by omega), eq_true h⟩
theorem mb40 {n m : Nat} (h : (n + 1) * 40 ≤ 140737488355328) (k : m ≤ n + 1) : (m * 40 ≤ maxBytes) = True := by
  have : maxBytes = 140737488355328 := rfl
  rw [this]
  exact eq_true (by omega)

theorem Add31 (l : List Strm) (m : Mem) (t : ByteArray) (hl : (l.length + 1) * 40 ≤ 140737488355328) (hb : ∀ s ∈ l, (s.texts.length + 1) * 16 ≤ 140737488355328) : (KL AA XX).call 31 [(PV.one (D.sl (l.map Strm.enc))), .agg m.enc, (PV.one (D.sc (Value.string (t))))] = some [(PV.one (D.sl ((addF l m t).map Strm.enc)))] := by
  rw [c31]
  have hcl := cellsS_len l
  have q0 := mb40 hl (show l.length ≤ l.length + 1 by omega)
  have go : ∀ k, k ≤ l.length → (∀ j (hj : j < k) (hl : j < l.length), sM l[j].who m = false) → loopR AA XX [2, 4, 7, 14, 15] 4 b31_0 (RUN AA XX b31_0 ⟨[(2, (AV.c (C.d (D.sc (Value.string (t)))))), (4, .ptr 0 0), (7, .ref 3 0 l.length), (14, (AV.c (C.d (D.sc (Value.int IntKind.i64 (l.length)))))), (15, (AV.c (C.d (D.sc (Value.int IntKind.i64 (0))))))], [(0, .arr [(C.d (D.sc (Value.int IntKind.i64 (m.node)))), (C.d (D.sc (Value.int IntKind.i64 (m.inc))))]), (1, .tok 0 0), (3, .arr (cellsS l))], 4⟩) = loopR AA XX [2, 4, 7, 14, 15] 4 b31_0 (RUN AA XX b31_0 ⟨[(2, (AV.c (C.d (D.sc (Value.string (t)))))), (4, .ptr 0 0), (7, .ref 3 0 l.length), (14, (AV.c (C.d (D.sc (Value.int IntKind.i64 (l.length)))))), (15, (AV.c (C.d (D.sc (Value.int IntKind.i64 (k))))))], [(0, .arr [(C.d (D.sc (Value.int IntKind.i64 (m.node)))), (C.d (D.sc (Value.int IntKind.i64 (m.inc))))]), (1, .tok 0 0), (3, .arr (cellsS l))], 4⟩) := by
    intro k hk hno
    have := iter (F := fun (i : Nat) => loopR AA XX [2, 4, 7, 14, 15] 4 b31_0 (RUN AA XX b31_0 ⟨[(2, (AV.c (C.d (D.sc (Value.string (t)))))), (4, .ptr 0 0), (7, .ref 3 0 l.length), (14, (AV.c (C.d (D.sc (Value.int IntKind.i64 (l.length)))))), (15, (AV.c (C.d (D.sc (Value.int IntKind.i64 (i))))))], [(0, .arr [(C.d (D.sc (Value.int IntKind.i64 (m.node)))), (C.d (D.sc (Value.int IntKind.i64 (m.inc))))]), (1, .tok 0 0), (3, .arr (cellsS l))], 4⟩)) (Nat.zero_le k) fun i _ hik => by
      have hi : i < l.length := by omega
      have hlt := ltT hi
      have hlt2 : ((i : Int) < (l.length : Int)) = True := eq_true (by omega)
      have hg := cellsS_who l hi
      have hw := wrap_succ i (by omega)
      have e1 := hno i hik hi
      have q1 : (i * 3 + 2 ≤ (cellsS l).length) = True := eq_true (by omega)
      simp only [sM] at e1
      show loopR _ _ _ _ _ (RUN _ _ _ _) = _
      rw [b31_0_run]
      simp only [go_sem, ↓reduceIte, Nat.reduceAdd, Nat.reduceSub, Nat.reduceMul, Nat.reduceEqDiff, Nat.reduceLT, Nat.reduceShiftRight, Nat.reduceAnd, Nat.reduceBNe, Nat.reduceLeDiff, Nat.reduceBEq, Nat.testBit, Nat.zero_lt_one, Int.reduceToNat, Int.reduceNeg, Int.reduceLE, Int.reduceLT, Int.reduceEq, decide_true, decide_false, Bool.and_true, Bool.true_and, Bool.and_false, Bool.false_and, Bool.or_true, Bool.true_or, Bool.or_false, Bool.false_or, Bool.not_true, Bool.not_false, beq_self_eq_true, reduceCtorEq, Int.le_refl, Nat.add_zero, and_self, and_true, true_and, or_true, true_or, if_true, if_false, Nat.le_refl, Bool.and_self, eq_self, Bool.not_false, Bool.not_true, hlt, hlt2, hg, hw, e1, q1, Nat.add_zero, cellsS_old]
    exact this
  simp only [go_sem, ↓reduceIte, Nat.reduceAdd, Nat.reduceSub, Nat.reduceMul, Nat.reduceEqDiff, Nat.reduceLT, Nat.reduceShiftRight, Nat.reduceAnd, Nat.reduceBNe, Nat.reduceLeDiff, Nat.reduceBEq, Nat.testBit, Nat.zero_lt_one, Int.reduceToNat, Int.reduceNeg, Int.reduceLE, Int.reduceLT, Int.reduceEq, decide_true, decide_false, Bool.and_true, Bool.true_and, Bool.and_false, Bool.false_and, Bool.or_true, Bool.true_or, Bool.or_false, Bool.false_or, Bool.not_true, Bool.not_false, beq_self_eq_true, reduceCtorEq, Int.le_refl, Nat.add_zero, and_self, and_true, true_and, or_true, true_or, if_true, if_false, Nat.le_refl, Bool.and_self, eq_self, Bool.not_false, Bool.not_true, Mem.enc, q0, all3, cells_fold, cellsS_old]
  cases hf : l.findIdx? (fun s => sM s.who m) with
  | none =>
    rw [go l.length (Nat.le_refl _) fun j _ hjl => find_none hf hjl, b31_0_run]
    have hlp : l.length < 2305843009213693952 := by omega
    have go2 : ∀ k, k ≤ l.length → (∀ j (hj : j < k) (hl : j < l.length), less l[j].who m = true) → loopR AA XX [2, 4, 7, 9] 4 b31_1 (RUN AA XX b31_1 ⟨[(2, (AV.c (C.d (D.sc (Value.string (t)))))), (4, .ptr 0 0), (7, .ref 3 0 l.length), (9, (AV.c (C.d (D.sc (Value.int IntKind.i64 (0))))))], [(0, .arr [(C.d (D.sc (Value.int IntKind.i64 (m.node)))), (C.d (D.sc (Value.int IntKind.i64 (m.inc))))]), (1, .tok 0 0), (3, .arr (cellsS l))], 4⟩) = loopR AA XX [2, 4, 7, 9] 4 b31_1 (RUN AA XX b31_1 ⟨[(2, (AV.c (C.d (D.sc (Value.string (t)))))), (4, .ptr 0 0), (7, .ref 3 0 l.length), (9, (AV.c (C.d (D.sc (Value.int IntKind.i64 (k))))))], [(0, .arr [(C.d (D.sc (Value.int IntKind.i64 (m.node)))), (C.d (D.sc (Value.int IntKind.i64 (m.inc))))]), (1, .tok 0 0), (3, .arr (cellsS l))], 4⟩) := by
      intro k hk hno
      have := iter (F := fun (i : Nat) => loopR AA XX [2, 4, 7, 9] 4 b31_1 (RUN AA XX b31_1 ⟨[(2, (AV.c (C.d (D.sc (Value.string (t)))))), (4, .ptr 0 0), (7, .ref 3 0 l.length), (9, (AV.c (C.d (D.sc (Value.int IntKind.i64 (i))))))], [(0, .arr [(C.d (D.sc (Value.int IntKind.i64 (m.node)))), (C.d (D.sc (Value.int IntKind.i64 (m.inc))))]), (1, .tok 0 0), (3, .arr (cellsS l))], 4⟩)) (Nat.zero_le k) fun i _ hik => by
        have hi : i < l.length := by omega
        have hlt := ltT hi
        have hlt2 : ((i : Int) < (l.length : Int)) = True := eq_true (by omega)
        have hg := cellsS_who l hi
        have hw := wrap_succ i (by omega)
        have q1 : (i * 3 + 2 ≤ (cellsS l).length) = True := eq_true (by omega)
        have e1 := Less91 l[i].who m
        rw [hno i hik hi] at e1
        simp only [Mem.enc] at e1
        show loopR _ _ _ _ _ (RUN _ _ _ _) = _
        rw [b31_1_run]
        simp only [go_sem, ↓reduceIte, Nat.reduceAdd, Nat.reduceSub, Nat.reduceMul, Nat.reduceEqDiff, Nat.reduceLT, Nat.reduceShiftRight, Nat.reduceAnd, Nat.reduceBNe, Nat.reduceLeDiff, Nat.reduceBEq, Nat.testBit, Nat.zero_lt_one, Int.reduceToNat, Int.reduceNeg, Int.reduceLE, Int.reduceLT, Int.reduceEq, decide_true, decide_false, Bool.and_true, Bool.true_and, Bool.and_false, Bool.false_and, Bool.or_true, Bool.true_or, Bool.or_false, Bool.false_or, Bool.not_true, Bool.not_false, beq_self_eq_true, reduceCtorEq, Int.le_refl, Nat.add_zero, and_self, and_true, true_and, or_true, true_or, if_true, if_false, Nat.le_refl, Bool.and_self, eq_self, Bool.not_false, Bool.not_true, hlt, hlt2, hg, hw, e1, q1, Nat.add_zero, cellsS_old]
      exact this
    have fin : ∀ k, k ≤ l.length → (∀ j (hj : j < k) (hl : j < l.length), less l[j].who m = true) → (∀ hk : k < l.length, less l[k].who m = false) → ∃ F', loopR AA XX [2, 4, 7, 9] 4 b31_1 (RUN AA XX b31_1 ⟨[(2, (AV.c (C.d (D.sc (Value.string (t)))))), (4, .ptr 0 0), (7, .ref 3 0 l.length), (9, (AV.c (C.d (D.sc (Value.int IntKind.i64 (0))))))], [(0, .arr [(C.d (D.sc (Value.int IntKind.i64 (m.node)))), (C.d (D.sc (Value.int IntKind.i64 (m.inc))))]), (1, .tok 0 0), (3, .arr (cellsS l))], 4⟩) = some (.exit 2, ⟨F', [(0, .arr [(C.d (D.sc (Value.int IntKind.i64 (m.node)))), (C.d (D.sc (Value.int IntKind.i64 (m.inc))))]), (1, .tok 0 0), (3, .arr (cellsS l))], 4⟩) ∧ F'.get 2 = (AV.c (C.d (D.sc (Value.string (t))))) ∧ F'.get 4 = .ptr 0 0 ∧ F'.get 7 = .ref 3 0 l.length ∧ F'.get 9 = (AV.c (C.d (D.sc (Value.int IntKind.i64 (k))))) := by
      intro k hk h1 h2
      rw [go2 k hk h1, b31_1_run]
      rcases Nat.lt_or_ge k l.length with hkl | hkl
      · have hlt := ltT hkl
        have hlt2 : ((k : Int) < (l.length : Int)) = True := eq_true (by omega)
        have hg := cellsS_who l hkl
        have q1 : (k * 3 + 2 ≤ (cellsS l).length) = True := eq_true (by omega)
        have e1 := Less91 l[k].who m
        rw [h2 hkl] at e1
        simp only [Mem.enc] at e1
        simp only [go_sem, ↓reduceIte, Nat.reduceAdd, Nat.reduceSub, Nat.reduceMul, Nat.reduceEqDiff, Nat.reduceLT, Nat.reduceShiftRight, Nat.reduceAnd, Nat.reduceBNe, Nat.reduceLeDiff, Nat.reduceBEq, Nat.testBit, Nat.zero_lt_one, Int.reduceToNat, Int.reduceNeg, Int.reduceLE, Int.reduceLT, Int.reduceEq, decide_true, decide_false, Bool.and_true, Bool.true_and, Bool.and_false, Bool.false_and, Bool.or_true, Bool.true_or, Bool.or_false, Bool.false_or, Bool.not_true, Bool.not_false, beq_self_eq_true, reduceCtorEq, Int.le_refl, Nat.add_zero, and_self, and_true, true_and, or_true, true_or, if_true, if_false, Nat.le_refl, Bool.and_self, eq_self, Bool.not_false, Bool.not_true, hlt, hlt2, hg, e1, q1, Nat.add_zero, cellsS_old]
        exact ⟨_, rfl, rfl, rfl, rfl, rfl⟩
      · obtain rfl : k = l.length := by omega
        simp only [go_sem, ↓reduceIte, Nat.reduceAdd, Nat.reduceSub, Nat.reduceMul, Nat.reduceEqDiff, Nat.reduceLT, Nat.reduceShiftRight, Nat.reduceAnd, Nat.reduceBNe, Nat.reduceLeDiff, Nat.reduceBEq, Nat.testBit, Nat.zero_lt_one, Int.reduceToNat, Int.reduceNeg, Int.reduceLE, Int.reduceLT, Int.reduceEq, decide_true, decide_false, Bool.and_true, Bool.true_and, Bool.and_false, Bool.false_and, Bool.or_true, Bool.true_or, Bool.or_false, Bool.false_or, Bool.not_true, Bool.not_false, beq_self_eq_true, reduceCtorEq, Int.le_refl, Nat.add_zero, and_self, and_true, true_and, or_true, true_or, if_true, if_false, Nat.le_refl, Bool.and_self, eq_self, Bool.not_false, Bool.not_true, Int.lt_irrefl, cellsS_old]
        exact ⟨_, rfl, rfl, rfl, rfl, rfl⟩
    have fin2 : ∃ F', loopR AA XX [2, 4, 7, 9] 4 b31_1 (RUN AA XX b31_1 ⟨[(2, (AV.c (C.d (D.sc (Value.string (t)))))), (4, .ptr 0 0), (7, .ref 3 0 l.length), (9, (AV.c (C.d (D.sc (Value.int IntKind.i64 (0))))))], [(0, .arr [(C.d (D.sc (Value.int IntKind.i64 (m.node)))), (C.d (D.sc (Value.int IntKind.i64 (m.inc))))]), (1, .tok 0 0), (3, .arr (cellsS l))], 4⟩) = some (.exit 2, ⟨F', [(0, .arr [(C.d (D.sc (Value.int IntKind.i64 (m.node)))), (C.d (D.sc (Value.int IntKind.i64 (m.inc))))]), (1, .tok 0 0), (3, .arr (cellsS l))], 4⟩) ∧ F'.get 2 = (AV.c (C.d (D.sc (Value.string (t))))) ∧ F'.get 4 = .ptr 0 0 ∧ F'.get 7 = .ref 3 0 l.length ∧ F'.get 9 = (AV.c (C.d (D.sc (Value.int IntKind.i64 (insAt l m))))) ∧ insAt l m ≤ l.length := by
      cases hg : l.findIdx? (fun s => !less s.who m) with
      | none =>
        have : insAt l m = l.length := by simp only [insAt, hg, Option.getD_none]
        rw [this]
        obtain ⟨F', a⟩ := fin l.length (Nat.le_refl _) (fun j _ hjl => by simpa using find_none hg hjl) (fun h => absurd h (Nat.lt_irrefl _))
        exact ⟨F', a.1, a.2.1, a.2.2.1, a.2.2.2.1, a.2.2.2.2, Nat.le_refl _⟩
      | some k =>
        obtain ⟨hk, h1, h2⟩ := find_some hg
        have : insAt l m = k := by simp only [insAt, hg, Option.getD_some]
        rw [this]
        obtain ⟨F', a⟩ := fin k (Nat.le_of_lt hk) (fun j hj _ => by simpa using h2 j hj) (fun _ => by simpa using h1)
        exact ⟨F', a.1, a.2.1, a.2.2.1, a.2.2.2.1, a.2.2.2.2, Nat.le_of_lt hk⟩
    obtain ⟨F', g1, g2, g3, g4, g5, g6⟩ := fin2
    have ha : addF l m t = l.take (insAt l m) ++ ⟨m, [t]⟩ :: l.drop (insAt l m) := by simp only [addF, hf]
    rw [ha]
    revert g5 g6
    generalize insAt l m = k
    intro g5 g6
    have m1 : ((k : Int) ≤ (l.length : Int)) = True := eq_true (by omega)
    have m2 : (k * 3 ≤ (cellsS l).length) = True := eq_true (by omega)
    have m3 : ((k : Int) - 0).toNat = k := by omega
    have m4 : ((l.length : Int) - (k : Int)).toNat = l.length - k := by omega
    have m5 : (k * 3 + (l.length - k) * 3 ≤ (cellsS l).length) = True := eq_true (by omega)
    have m6 := mb40 hl (show (l.take k).length ≤ l.length + 1 by rw [List.length_take]; omega)
    have m7 := mb40 hl (show (l.take k).length + 1 ≤ l.length + 1 by rw [List.length_take]; omega)
    have m8 := mb40 hl (show (l.take k).length + 1 + (l.drop k).length ≤ l.length + 1 by rw [List.length_take, List.length_drop]; omega)
    have w1 := chunk_pre l g6
    have w2 := chunk_suf l g6
    simp only [go_sem, ↓reduceIte, Nat.reduceAdd, Nat.reduceSub, Nat.reduceMul, Nat.reduceEqDiff, Nat.reduceLT, Nat.reduceShiftRight, Nat.reduceAnd, Nat.reduceBNe, Nat.reduceLeDiff, Nat.reduceBEq, Nat.testBit, Nat.zero_lt_one, Int.reduceToNat, Int.reduceNeg, Int.reduceLE, Int.reduceLT, Int.reduceEq, decide_true, decide_false, Bool.and_true, Bool.true_and, Bool.and_false, Bool.false_and, Bool.or_true, Bool.true_or, Bool.or_false, Bool.false_or, Bool.not_true, Bool.not_false, beq_self_eq_true, reduceCtorEq, Int.le_refl, Nat.add_zero, and_self, and_true, true_and, or_true, true_or, if_true, if_false, Nat.le_refl, Bool.and_self, eq_self, Bool.not_false, Bool.not_true, Int.lt_irrefl, cellsS_old, g1, g2, g3, g4, g5, m1, m2, m3, m4, m5, m6, m7, m8, w1, w2, Int.le_refl, Nat.add_zero, Nat.zero_mul, all3, List.length_append]
    simp only [go_sem, ↓reduceIte, Nat.reduceAdd, Nat.reduceSub, Nat.reduceMul, Nat.reduceEqDiff, Nat.reduceLT, Nat.reduceShiftRight, Nat.reduceAnd, Nat.reduceBNe, Nat.reduceLeDiff, Nat.reduceBEq, Nat.testBit, Nat.zero_lt_one, Int.reduceToNat, Int.reduceNeg, Int.reduceLE, Int.reduceLT, Int.reduceEq, decide_true, decide_false, Bool.and_true, Bool.true_and, Bool.and_false, Bool.false_and, Bool.or_true, Bool.true_or, Bool.or_false, Bool.false_or, Bool.not_true, Bool.not_false, beq_self_eq_true, reduceCtorEq, Int.le_refl, Nat.add_zero, and_self, and_true, true_and, or_true, true_or, if_true, if_false, Nat.le_refl, Bool.and_self, eq_self, Bool.not_false, Bool.not_true, Strm.enc, List.map_append, List.append_assoc, tenc]
  | some k =>
    obtain ⟨hk, h1, h2⟩ := find_some hf
    have hlt := ltT hk
    have hlt2 : ((k : Int) < (l.length : Int)) = True := eq_true (by omega)
    have hg := cellsS_who l hk
    have hg2 := cellsS_txt l hk
    have q1 : (k * 3 + 2 ≤ (cellsS l).length) = True := eq_true (by omega)
    have q2 : (k * 3 + 2 < (cellsS l).length) = True := eq_true (by omega)
    have hx : l[k]? = some l[k] := List.getElem?_eq_getElem hk
    have ha : addF l m t = l.set k ⟨l[k].who, l[k].texts ++ [t]⟩ := by simp only [addF, hf, hx]
    obtain ⟨q3, q4⟩ := mb16 (hb _ (List.getElem_mem hk))
    have q5 : ((l.length * 3) ≤ (cellsS l).length) = True := eq_true (by omega)
    have hs : l[k].texts.map tenc ++ [[D.sc (.string t)]] = (l[k].texts ++ [t]).map tenc := by rw [List.map_append]; rfl
    have hset := cellsS_set l hk 4 (l[k].texts ++ [t])
    have hch := chunkS (l.set k ⟨l[k].who, l[k].texts ++ [t]⟩)
    rw [List.length_set] at hch
    simp only [sM] at h1
    rw [go k (Nat.le_of_lt hk) fun j hj _ => h2 j hj, b31_0_run, ha]
    simp only [go_sem, ↓reduceIte, Nat.reduceAdd, Nat.reduceSub, Nat.reduceMul, Nat.reduceEqDiff, Nat.reduceLT, Nat.reduceShiftRight, Nat.reduceAnd, Nat.reduceBNe, Nat.reduceLeDiff, Nat.reduceBEq, Nat.testBit, Nat.zero_lt_one, Int.reduceToNat, Int.reduceNeg, Int.reduceLE, Int.reduceLT, Int.reduceEq, decide_true, decide_false, Bool.and_true, Bool.true_and, Bool.and_false, Bool.false_and, Bool.or_true, Bool.true_or, Bool.or_false, Bool.false_or, Bool.not_true, Bool.not_false, beq_self_eq_true, reduceCtorEq, Int.le_refl, Nat.add_zero, and_self, and_true, true_and, or_true, true_or, if_true, if_false, Nat.le_refl, Bool.and_self, eq_self, Bool.not_false, Bool.not_true, hlt, hlt2, hg, hg2, h1, q1, q2, q3, q4, Nat.add_zero, all1, hs, List.length_set, q5, Nat.zero_mul, hset, hch]

theorem Add32 (l : List Strm) (m : Mem) (t : ByteArray) (hl : (l.length + 1) * 40 ≤ 140737488355328) (hb : ∀ s ∈ l, (s.texts.length + 1) * 16 ≤ 140737488355328) : (KL AA XX).call 32 [(PV.one (D.sl (l.map Strm.enc))), .agg m.enc, (PV.one (D.sc (Value.string (t))))] = some [(PV.one (D.sl ((addF l m t).map Strm.enc)))] := by
  rw [c32]
  have hcl := cellsS_len l
  have q0 := mb40 hl (show l.length ≤ l.length + 1 by omega)
  have go : ∀ k, k ≤ l.length → (∀ j (hj : j < k) (hl : j < l.length), sM l[j].who m = false) → loopR AA XX [2, 4, 7, 8] 4 b32_0 (RUN AA XX b32_0 ⟨[(2, (AV.c (C.d (D.sc (Value.string (t)))))), (4, .ptr 0 0), (7, .ref 3 0 l.length), (8, (AV.c (C.d (D.sc (Value.int IntKind.i64 (0))))))], [(0, .arr [(C.d (D.sc (Value.int IntKind.i64 (m.node)))), (C.d (D.sc (Value.int IntKind.i64 (m.inc))))]), (1, .tok 0 0), (3, .arr (cellsS l))], 4⟩) = loopR AA XX [2, 4, 7, 8] 4 b32_0 (RUN AA XX b32_0 ⟨[(2, (AV.c (C.d (D.sc (Value.string (t)))))), (4, .ptr 0 0), (7, .ref 3 0 l.length), (8, (AV.c (C.d (D.sc (Value.int IntKind.i64 (k))))))], [(0, .arr [(C.d (D.sc (Value.int IntKind.i64 (m.node)))), (C.d (D.sc (Value.int IntKind.i64 (m.inc))))]), (1, .tok 0 0), (3, .arr (cellsS l))], 4⟩) := by
    intro k hk hno
    have := iter (F := fun (i : Nat) => loopR AA XX [2, 4, 7, 8] 4 b32_0 (RUN AA XX b32_0 ⟨[(2, (AV.c (C.d (D.sc (Value.string (t)))))), (4, .ptr 0 0), (7, .ref 3 0 l.length), (8, (AV.c (C.d (D.sc (Value.int IntKind.i64 (i))))))], [(0, .arr [(C.d (D.sc (Value.int IntKind.i64 (m.node)))), (C.d (D.sc (Value.int IntKind.i64 (m.inc))))]), (1, .tok 0 0), (3, .arr (cellsS l))], 4⟩)) (Nat.zero_le k) fun i _ hik => by
      have hi : i < l.length := by omega
      have hlt := ltT hi
      have hlt2 : ((i : Int) < (l.length : Int)) = True := eq_true (by omega)
      have hg := cellsS_who l hi
      have hw := wrap_succ i (by omega)
      have e1 := hno i hik hi
      have q1 : (i * 3 + 2 ≤ (cellsS l).length) = True := eq_true (by omega)
      simp only [sM] at e1
      show loopR _ _ _ _ _ (RUN _ _ _ _) = _
      rw [b32_0_run]
      simp only [go_sem, ↓reduceIte, Nat.reduceAdd, Nat.reduceSub, Nat.reduceMul, Nat.reduceEqDiff, Nat.reduceLT, Nat.reduceShiftRight, Nat.reduceAnd, Nat.reduceBNe, Nat.reduceLeDiff, Nat.reduceBEq, Nat.testBit, Nat.zero_lt_one, Int.reduceToNat, Int.reduceNeg, Int.reduceLE, Int.reduceLT, Int.reduceEq, decide_true, decide_false, Bool.and_true, Bool.true_and, Bool.and_false, Bool.false_and, Bool.or_true, Bool.true_or, Bool.or_false, Bool.false_or, Bool.not_true, Bool.not_false, beq_self_eq_true, reduceCtorEq, Int.le_refl, Nat.add_zero, and_self, and_true, true_and, or_true, true_or, if_true, if_false, Nat.le_refl, Bool.and_self, eq_self, Bool.not_false, Bool.not_true, hlt, hlt2, hg, hw, e1, q1, Nat.add_zero, cellsS_old]
    exact this
  simp only [go_sem, ↓reduceIte, Nat.reduceAdd, Nat.reduceSub, Nat.reduceMul, Nat.reduceEqDiff, Nat.reduceLT, Nat.reduceShiftRight, Nat.reduceAnd, Nat.reduceBNe, Nat.reduceLeDiff, Nat.reduceBEq, Nat.testBit, Nat.zero_lt_one, Int.reduceToNat, Int.reduceNeg, Int.reduceLE, Int.reduceLT, Int.reduceEq, decide_true, decide_false, Bool.and_true, Bool.true_and, Bool.and_false, Bool.false_and, Bool.or_true, Bool.true_or, Bool.or_false, Bool.false_or, Bool.not_true, Bool.not_false, beq_self_eq_true, reduceCtorEq, Int.le_refl, Nat.add_zero, and_self, and_true, true_and, or_true, true_or, if_true, if_false, Nat.le_refl, Bool.and_self, eq_self, Bool.not_false, Bool.not_true, Mem.enc, q0, all3, cells_fold, cellsS_old]
  cases hf : l.findIdx? (fun s => sM s.who m) with
  | none =>
    rw [go l.length (Nat.le_refl _) fun j _ hjl => find_none hf hjl, b32_0_run]
    have hlp : l.length < 2305843009213693952 := by omega
    have go2 : ∀ k, k ≤ l.length → (∀ j (hj : j < k) (hl : j < l.length), less l[j].who m = true) → loopR AA XX [2, 4, 7, 9] 4 b32_1 (RUN AA XX b32_1 ⟨[(2, (AV.c (C.d (D.sc (Value.string (t)))))), (4, .ptr 0 0), (7, .ref 3 0 l.length), (9, (AV.c (C.d (D.sc (Value.int IntKind.i64 (0))))))], [(0, .arr [(C.d (D.sc (Value.int IntKind.i64 (m.node)))), (C.d (D.sc (Value.int IntKind.i64 (m.inc))))]), (1, .tok 0 0), (3, .arr (cellsS l))], 4⟩) = loopR AA XX [2, 4, 7, 9] 4 b32_1 (RUN AA XX b32_1 ⟨[(2, (AV.c (C.d (D.sc (Value.string (t)))))), (4, .ptr 0 0), (7, .ref 3 0 l.length), (9, (AV.c (C.d (D.sc (Value.int IntKind.i64 (k))))))], [(0, .arr [(C.d (D.sc (Value.int IntKind.i64 (m.node)))), (C.d (D.sc (Value.int IntKind.i64 (m.inc))))]), (1, .tok 0 0), (3, .arr (cellsS l))], 4⟩) := by
      intro k hk hno
      have := iter (F := fun (i : Nat) => loopR AA XX [2, 4, 7, 9] 4 b32_1 (RUN AA XX b32_1 ⟨[(2, (AV.c (C.d (D.sc (Value.string (t)))))), (4, .ptr 0 0), (7, .ref 3 0 l.length), (9, (AV.c (C.d (D.sc (Value.int IntKind.i64 (i))))))], [(0, .arr [(C.d (D.sc (Value.int IntKind.i64 (m.node)))), (C.d (D.sc (Value.int IntKind.i64 (m.inc))))]), (1, .tok 0 0), (3, .arr (cellsS l))], 4⟩)) (Nat.zero_le k) fun i _ hik => by
        have hi : i < l.length := by omega
        have hlt := ltT hi
        have hlt2 : ((i : Int) < (l.length : Int)) = True := eq_true (by omega)
        have hg := cellsS_who l hi
        have hw := wrap_succ i (by omega)
        have q1 : (i * 3 + 2 ≤ (cellsS l).length) = True := eq_true (by omega)
        have e1 := Less43 l[i].who m
        rw [hno i hik hi] at e1
        simp only [Mem.enc] at e1
        show loopR _ _ _ _ _ (RUN _ _ _ _) = _
        rw [b32_1_run]
        simp only [go_sem, ↓reduceIte, Nat.reduceAdd, Nat.reduceSub, Nat.reduceMul, Nat.reduceEqDiff, Nat.reduceLT, Nat.reduceShiftRight, Nat.reduceAnd, Nat.reduceBNe, Nat.reduceLeDiff, Nat.reduceBEq, Nat.testBit, Nat.zero_lt_one, Int.reduceToNat, Int.reduceNeg, Int.reduceLE, Int.reduceLT, Int.reduceEq, decide_true, decide_false, Bool.and_true, Bool.true_and, Bool.and_false, Bool.false_and, Bool.or_true, Bool.true_or, Bool.or_false, Bool.false_or, Bool.not_true, Bool.not_false, beq_self_eq_true, reduceCtorEq, Int.le_refl, Nat.add_zero, and_self, and_true, true_and, or_true, true_or, if_true, if_false, Nat.le_refl, Bool.and_self, eq_self, Bool.not_false, Bool.not_true, hlt, hlt2, hg, hw, e1, q1, Nat.add_zero, cellsS_old]
      exact this
    have fin : ∀ k, k ≤ l.length → (∀ j (hj : j < k) (hl : j < l.length), less l[j].who m = true) → (∀ hk : k < l.length, less l[k].who m = false) → ∃ F', loopR AA XX [2, 4, 7, 9] 4 b32_1 (RUN AA XX b32_1 ⟨[(2, (AV.c (C.d (D.sc (Value.string (t)))))), (4, .ptr 0 0), (7, .ref 3 0 l.length), (9, (AV.c (C.d (D.sc (Value.int IntKind.i64 (0))))))], [(0, .arr [(C.d (D.sc (Value.int IntKind.i64 (m.node)))), (C.d (D.sc (Value.int IntKind.i64 (m.inc))))]), (1, .tok 0 0), (3, .arr (cellsS l))], 4⟩) = some (.exit 2, ⟨F', [(0, .arr [(C.d (D.sc (Value.int IntKind.i64 (m.node)))), (C.d (D.sc (Value.int IntKind.i64 (m.inc))))]), (1, .tok 0 0), (3, .arr (cellsS l))], 4⟩) ∧ F'.get 2 = (AV.c (C.d (D.sc (Value.string (t))))) ∧ F'.get 4 = .ptr 0 0 ∧ F'.get 7 = .ref 3 0 l.length ∧ F'.get 9 = (AV.c (C.d (D.sc (Value.int IntKind.i64 (k))))) := by
      intro k hk h1 h2
      rw [go2 k hk h1, b32_1_run]
      rcases Nat.lt_or_ge k l.length with hkl | hkl
      · have hlt := ltT hkl
        have hlt2 : ((k : Int) < (l.length : Int)) = True := eq_true (by omega)
        have hg := cellsS_who l hkl
        have q1 : (k * 3 + 2 ≤ (cellsS l).length) = True := eq_true (by omega)
        have e1 := Less43 l[k].who m
        rw [h2 hkl] at e1
        simp only [Mem.enc] at e1
        simp only [go_sem, ↓reduceIte, Nat.reduceAdd, Nat.reduceSub, Nat.reduceMul, Nat.reduceEqDiff, Nat.reduceLT, Nat.reduceShiftRight, Nat.reduceAnd, Nat.reduceBNe, Nat.reduceLeDiff, Nat.reduceBEq, Nat.testBit, Nat.zero_lt_one, Int.reduceToNat, Int.reduceNeg, Int.reduceLE, Int.reduceLT, Int.reduceEq, decide_true, decide_false, Bool.and_true, Bool.true_and, Bool.and_false, Bool.false_and, Bool.or_true, Bool.true_or, Bool.or_false, Bool.false_or, Bool.not_true, Bool.not_false, beq_self_eq_true, reduceCtorEq, Int.le_refl, Nat.add_zero, and_self, and_true, true_and, or_true, true_or, if_true, if_false, Nat.le_refl, Bool.and_self, eq_self, Bool.not_false, Bool.not_true, hlt, hlt2, hg, e1, q1, Nat.add_zero, cellsS_old]
        exact ⟨_, rfl, rfl, rfl, rfl, rfl⟩
      · obtain rfl : k = l.length := by omega
        simp only [go_sem, ↓reduceIte, Nat.reduceAdd, Nat.reduceSub, Nat.reduceMul, Nat.reduceEqDiff, Nat.reduceLT, Nat.reduceShiftRight, Nat.reduceAnd, Nat.reduceBNe, Nat.reduceLeDiff, Nat.reduceBEq, Nat.testBit, Nat.zero_lt_one, Int.reduceToNat, Int.reduceNeg, Int.reduceLE, Int.reduceLT, Int.reduceEq, decide_true, decide_false, Bool.and_true, Bool.true_and, Bool.and_false, Bool.false_and, Bool.or_true, Bool.true_or, Bool.or_false, Bool.false_or, Bool.not_true, Bool.not_false, beq_self_eq_true, reduceCtorEq, Int.le_refl, Nat.add_zero, and_self, and_true, true_and, or_true, true_or, if_true, if_false, Nat.le_refl, Bool.and_self, eq_self, Bool.not_false, Bool.not_true, Int.lt_irrefl, cellsS_old]
        exact ⟨_, rfl, rfl, rfl, rfl, rfl⟩
    have fin2 : ∃ F', loopR AA XX [2, 4, 7, 9] 4 b32_1 (RUN AA XX b32_1 ⟨[(2, (AV.c (C.d (D.sc (Value.string (t)))))), (4, .ptr 0 0), (7, .ref 3 0 l.length), (9, (AV.c (C.d (D.sc (Value.int IntKind.i64 (0))))))], [(0, .arr [(C.d (D.sc (Value.int IntKind.i64 (m.node)))), (C.d (D.sc (Value.int IntKind.i64 (m.inc))))]), (1, .tok 0 0), (3, .arr (cellsS l))], 4⟩) = some (.exit 2, ⟨F', [(0, .arr [(C.d (D.sc (Value.int IntKind.i64 (m.node)))), (C.d (D.sc (Value.int IntKind.i64 (m.inc))))]), (1, .tok 0 0), (3, .arr (cellsS l))], 4⟩) ∧ F'.get 2 = (AV.c (C.d (D.sc (Value.string (t))))) ∧ F'.get 4 = .ptr 0 0 ∧ F'.get 7 = .ref 3 0 l.length ∧ F'.get 9 = (AV.c (C.d (D.sc (Value.int IntKind.i64 (insAt l m))))) ∧ insAt l m ≤ l.length := by
      cases hg : l.findIdx? (fun s => !less s.who m) with
      | none =>
        have : insAt l m = l.length := by simp only [insAt, hg, Option.getD_none]
        rw [this]
        obtain ⟨F', a⟩ := fin l.length (Nat.le_refl _) (fun j _ hjl => by simpa using find_none hg hjl) (fun h => absurd h (Nat.lt_irrefl _))
        exact ⟨F', a.1, a.2.1, a.2.2.1, a.2.2.2.1, a.2.2.2.2, Nat.le_refl _⟩
      | some k =>
        obtain ⟨hk, h1, h2⟩ := find_some hg
        have : insAt l m = k := by simp only [insAt, hg, Option.getD_some]
        rw [this]
        obtain ⟨F', a⟩ := fin k (Nat.le_of_lt hk) (fun j hj _ => by simpa using h2 j hj) (fun _ => by simpa using h1)
        exact ⟨F', a.1, a.2.1, a.2.2.1, a.2.2.2.1, a.2.2.2.2, Nat.le_of_lt hk⟩
    obtain ⟨F', g1, g2, g3, g4, g5, g6⟩ := fin2
    have ha : addF l m t = l.take (insAt l m) ++ ⟨m, [t]⟩ :: l.drop (insAt l m) := by simp only [addF, hf]
    rw [ha]
    revert g5 g6
    generalize insAt l m = k
    intro g5 g6
    have m1 : ((k : Int) ≤ (l.length : Int)) = True := eq_true (by omega)
    have m2 : (k * 3 ≤ (cellsS l).length) = True := eq_true (by omega)
    have m3 : ((k : Int) - 0).toNat = k := by omega
    have m4 : ((l.length : Int) - (k : Int)).toNat = l.length - k := by omega
    have m5 : (k * 3 + (l.length - k) * 3 ≤ (cellsS l).length) = True := eq_true (by omega)
    have m6 := mb40 hl (show (l.take k).length ≤ l.length + 1 by rw [List.length_take]; omega)
    have m7 := mb40 hl (show (l.take k).length + 1 ≤ l.length + 1 by rw [List.length_take]; omega)
    have m8 := mb40 hl (show (l.take k).length + 1 + (l.drop k).length ≤ l.length + 1 by rw [List.length_take, List.length_drop]; omega)
    have w1 := chunk_pre l g6
    have w2 := chunk_suf l g6
    simp only [go_sem, ↓reduceIte, Nat.reduceAdd, Nat.reduceSub, Nat.reduceMul, Nat.reduceEqDiff, Nat.reduceLT, Nat.reduceShiftRight, Nat.reduceAnd, Nat.reduceBNe, Nat.reduceLeDiff, Nat.reduceBEq, Nat.testBit, Nat.zero_lt_one, Int.reduceToNat, Int.reduceNeg, Int.reduceLE, Int.reduceLT, Int.reduceEq, decide_true, decide_false, Bool.and_true, Bool.true_and, Bool.and_false, Bool.false_and, Bool.or_true, Bool.true_or, Bool.or_false, Bool.false_or, Bool.not_true, Bool.not_false, beq_self_eq_true, reduceCtorEq, Int.le_refl, Nat.add_zero, and_self, and_true, true_and, or_true, true_or, if_true, if_false, Nat.le_refl, Bool.and_self, eq_self, Bool.not_false, Bool.not_true, Int.lt_irrefl, cellsS_old, g1, g2, g3, g4, g5, m1, m2, m3, m4, m5, m6, m7, m8, w1, w2, Int.le_refl, Nat.add_zero, Nat.zero_mul, all3, List.length_append]
    simp only [go_sem, ↓reduceIte, Nat.reduceAdd, Nat.reduceSub, Nat.reduceMul, Nat.reduceEqDiff, Nat.reduceLT, Nat.reduceShiftRight, Nat.reduceAnd, Nat.reduceBNe, Nat.reduceLeDiff, Nat.reduceBEq, Nat.testBit, Nat.zero_lt_one, Int.reduceToNat, Int.reduceNeg, Int.reduceLE, Int.reduceLT, Int.reduceEq, decide_true, decide_false, Bool.and_true, Bool.true_and, Bool.and_false, Bool.false_and, Bool.or_true, Bool.true_or, Bool.or_false, Bool.false_or, Bool.not_true, Bool.not_false, beq_self_eq_true, reduceCtorEq, Int.le_refl, Nat.add_zero, and_self, and_true, true_and, or_true, true_or, if_true, if_false, Nat.le_refl, Bool.and_self, eq_self, Bool.not_false, Bool.not_true, Strm.enc, List.map_append, List.append_assoc, tenc]
  | some k =>
    obtain ⟨hk, h1, h2⟩ := find_some hf
    have hlt := ltT hk
    have hlt2 : ((k : Int) < (l.length : Int)) = True := eq_true (by omega)
    have hg := cellsS_who l hk
    have hg2 := cellsS_txt l hk
    have q1 : (k * 3 + 2 ≤ (cellsS l).length) = True := eq_true (by omega)
    have q2 : (k * 3 + 2 < (cellsS l).length) = True := eq_true (by omega)
    have hx : l[k]? = some l[k] := List.getElem?_eq_getElem hk
    have ha : addF l m t = l.set k ⟨l[k].who, l[k].texts ++ [t]⟩ := by simp only [addF, hf, hx]
    obtain ⟨q3, q4⟩ := mb16 (hb _ (List.getElem_mem hk))
    have q5 : ((l.length * 3) ≤ (cellsS l).length) = True := eq_true (by omega)
    have hs : l[k].texts.map tenc ++ [[D.sc (.string t)]] = (l[k].texts ++ [t]).map tenc := by rw [List.map_append]; rfl
    have hset := cellsS_set l hk 4 (l[k].texts ++ [t])
    have hch := chunkS (l.set k ⟨l[k].who, l[k].texts ++ [t]⟩)
    rw [List.length_set] at hch
    simp only [sM] at h1
    rw [go k (Nat.le_of_lt hk) fun j hj _ => h2 j hj, b32_0_run, ha]
    simp only [go_sem, ↓reduceIte, Nat.reduceAdd, Nat.reduceSub, Nat.reduceMul, Nat.reduceEqDiff, Nat.reduceLT, Nat.reduceShiftRight, Nat.reduceAnd, Nat.reduceBNe, Nat.reduceLeDiff, Nat.reduceBEq, Nat.testBit, Nat.zero_lt_one, Int.reduceToNat, Int.reduceNeg, Int.reduceLE, Int.reduceLT, Int.reduceEq, decide_true, decide_false, Bool.and_true, Bool.true_and, Bool.and_false, Bool.false_and, Bool.or_true, Bool.true_or, Bool.or_false, Bool.false_or, Bool.not_true, Bool.not_false, beq_self_eq_true, reduceCtorEq, Int.le_refl, Nat.add_zero, and_self, and_true, true_and, or_true, true_or, if_true, if_false, Nat.le_refl, Bool.and_self, eq_self, Bool.not_false, Bool.not_true, hlt, hlt2, hg, hg2, h1, q1, q2, q3, q4, Nat.add_zero, all1, hs, List.length_set, q5, Nat.zero_mul, hset, hch]
end Go.Proofs.Ytpanbfainilmpaa.Ev.S
