/- What the functions of the trace chapter compute. -/
import Derived.Test.YtpanbfainilmpaaEvF5
set_option linter.unusedVariables false
set_option linter.unusedSimpArgs false
set_option maxRecDepth 100000
set_option maxHeartbeats 2000000
namespace Go.Proofs.Ytpanbfainilmpaa.Ev.S
open Go Go.Proofs.Ytpanbfainilmpaa.Ev

/-! ### Few events of small views -/
def goodE (e : Evt) : Bool := decide (e.view.mems.length ≤ 10) && decide (e.tree.length ≤ 40)
theorem Small75 (l : List Evt) (hl : l.length < 2305843009213693952) : ∃ b, (KL AA XX).call 75 [(PV.one (D.sl (l.map Evt.enc)))] = some [(PV.one (D.sc (Value.bool (b))))] ∧ (b = true → l.length ≤ 60 ∧ ∀ e ∈ l, e.view.mems.length ≤ 10 ∧ e.tree.length ≤ 40) := by
  rw [c75]
  have go : ∀ k, k ≤ l.length → (∀ j (hj : j < k) (hl : j < l.length), goodE l[j] = true) → loopR AA XX [0, 3] 0 b75_0 (RUN AA XX b75_0 ⟨[(0, (AV.c (C.d (D.sl (l.map Evt.enc))))), (3, (AV.c (C.d (D.sc (Value.int IntKind.i64 (0))))))], [], 0⟩) = loopR AA XX [0, 3] 0 b75_0 (RUN AA XX b75_0 ⟨[(0, (AV.c (C.d (D.sl (l.map Evt.enc))))), (3, (AV.c (C.d (D.sc (Value.int IntKind.i64 (k))))))], [], 0⟩) := by
    intro k hk hgood
    have := iter (F := fun (i : Nat) => loopR AA XX [0, 3] 0 b75_0 (RUN AA XX b75_0 ⟨[(0, (AV.c (C.d (D.sl (l.map Evt.enc))))), (3, (AV.c (C.d (D.sc (Value.int IntKind.i64 (i))))))], [], 0⟩)) (Nat.zero_le k) fun i _ hik => by
      have hi : i < l.length := by omega
      have hlt := ltT hi
      have hg := getm l Evt.enc hi
      have hw := wrap_succ i (by omega)
      have h1 := hgood i hik hi
      simp only [goodE, Bool.and_eq_true, decide_eq_true_eq] at h1
      have d1 : decide ((10 : Int) < (l[i].view.mems.length : Int)) = false := by simp; omega
      have d2 : decide ((40 : Int) < (l[i].tree.length : Int)) = false := by simp; omega
      show loopR _ _ _ _ _ (RUN _ _ _ _) = _
      rw [b75_0_run]
      simp only [go_sem, ↓reduceIte, Nat.reduceAdd, Nat.reduceSub, Nat.reduceMul, Nat.reduceEqDiff, Nat.reduceLT, Nat.reduceShiftRight, Nat.reduceAnd, Nat.reduceBNe, Nat.reduceLeDiff, Nat.reduceBEq, Nat.testBit, Nat.zero_lt_one, Int.reduceToNat, Int.reduceNeg, Int.reduceLE, Int.reduceLT, Int.reduceEq, decide_true, decide_false, Bool.and_true, Bool.true_and, Bool.and_false, Bool.false_and, Bool.or_true, Bool.true_or, Bool.or_false, Bool.false_or, Bool.not_true, Bool.not_false, beq_self_eq_true, reduceCtorEq, and_self, and_true, true_and, or_true, true_or, if_true, if_false, Nat.le_refl, Bool.and_self, eq_self, Bool.not_false, Bool.not_true, hlt, hg, Evt.enc, hw, d1, d2]
    exact this
  cases hf : l.findIdx? (fun e => !goodE e) with
  | none =>
    have hgood : ∀ j (hj : j < l.length), goodE l[j] = true := fun j hj => by simpa using find_none hf hj
    refine ⟨decide ((l.length : Int) ≤ 60), ?_, fun hb => ⟨?_, ?_⟩⟩
    · simp only [go_sem, ↓reduceIte, Nat.reduceAdd, Nat.reduceSub, Nat.reduceMul, Nat.reduceEqDiff, Nat.reduceLT, Nat.reduceShiftRight, Nat.reduceAnd, Nat.reduceBNe, Nat.reduceLeDiff, Nat.reduceBEq, Nat.testBit, Nat.zero_lt_one, Int.reduceToNat, Int.reduceNeg, Int.reduceLE, Int.reduceLT, Int.reduceEq, decide_true, decide_false, Bool.and_true, Bool.true_and, Bool.and_false, Bool.false_and, Bool.or_true, Bool.true_or, Bool.or_false, Bool.false_or, Bool.not_true, Bool.not_false, beq_self_eq_true, reduceCtorEq, and_self, and_true, true_and, or_true, true_or, if_true, if_false, Nat.le_refl, Bool.and_self, eq_self, Bool.not_false, Bool.not_true]
      rw [go l.length (Nat.le_refl _) (fun j _ hj => hgood j hj), b75_0_run]
      simp only [go_sem, ↓reduceIte, Nat.reduceAdd, Nat.reduceSub, Nat.reduceMul, Nat.reduceEqDiff, Nat.reduceLT, Nat.reduceShiftRight, Nat.reduceAnd, Nat.reduceBNe, Nat.reduceLeDiff, Nat.reduceBEq, Nat.testBit, Nat.zero_lt_one, Int.reduceToNat, Int.reduceNeg, Int.reduceLE, Int.reduceLT, Int.reduceEq, decide_true, decide_false, Bool.and_true, Bool.true_and, Bool.and_false, Bool.false_and, Bool.or_true, Bool.true_or, Bool.or_false, Bool.false_or, Bool.not_true, Bool.not_false, beq_self_eq_true, reduceCtorEq, and_self, and_true, true_and, or_true, true_or, if_true, if_false, Nat.le_refl, Bool.and_self, eq_self, Bool.not_false, Bool.not_true, Int.lt_irrefl]
    · simp only [decide_eq_true_eq] at hb; omega
    · intro e he
      obtain ⟨j, hj, rfl⟩ := List.mem_iff_getElem.1 he
      have := hgood j hj
      simpa only [goodE, Bool.and_eq_true, decide_eq_true_eq] using this
  | some k =>
    obtain ⟨hk, h1, h2⟩ := find_some hf
    refine ⟨false, ?_, fun h => by cases h⟩
    have hlt := ltT hk
    have hg := getm l Evt.enc hk
    simp only [go_sem, ↓reduceIte, Nat.reduceAdd, Nat.reduceSub, Nat.reduceMul, Nat.reduceEqDiff, Nat.reduceLT, Nat.reduceShiftRight, Nat.reduceAnd, Nat.reduceBNe, Nat.reduceLeDiff, Nat.reduceBEq, Nat.testBit, Nat.zero_lt_one, Int.reduceToNat, Int.reduceNeg, Int.reduceLE, Int.reduceLT, Int.reduceEq, decide_true, decide_false, Bool.and_true, Bool.true_and, Bool.and_false, Bool.false_and, Bool.or_true, Bool.true_or, Bool.or_false, Bool.false_or, Bool.not_true, Bool.not_false, beq_self_eq_true, reduceCtorEq, and_self, and_true, true_and, or_true, true_or, if_true, if_false, Nat.le_refl, Bool.and_self, eq_self, Bool.not_false, Bool.not_true]
    rw [go k (Nat.le_of_lt hk) (fun j hj _ => by simpa using h2 j hj), b75_0_run]
    by_cases ht : l[k].view.mems.length ≤ 10
    · have d1 : decide ((10 : Int) < (l[k].view.mems.length : Int)) = false := by simp; omega
      have d2 : decide ((40 : Int) < (l[k].tree.length : Int)) = true := by
        simp only [goodE, ht, decide_true, Bool.true_and, Bool.not_eq_true', decide_eq_false_iff_not] at h1
        simp; omega
      simp only [go_sem, ↓reduceIte, Nat.reduceAdd, Nat.reduceSub, Nat.reduceMul, Nat.reduceEqDiff, Nat.reduceLT, Nat.reduceShiftRight, Nat.reduceAnd, Nat.reduceBNe, Nat.reduceLeDiff, Nat.reduceBEq, Nat.testBit, Nat.zero_lt_one, Int.reduceToNat, Int.reduceNeg, Int.reduceLE, Int.reduceLT, Int.reduceEq, decide_true, decide_false, Bool.and_true, Bool.true_and, Bool.and_false, Bool.false_and, Bool.or_true, Bool.true_or, Bool.or_false, Bool.false_or, Bool.not_true, Bool.not_false, beq_self_eq_true, reduceCtorEq, and_self, and_true, true_and, or_true, true_or, if_true, if_false, Nat.le_refl, Bool.and_self, eq_self, Bool.not_false, Bool.not_true, hlt, hg, Evt.enc, d1, d2]
    · have d1 : decide ((10 : Int) < (l[k].view.mems.length : Int)) = true := by simp; omega
      simp only [go_sem, ↓reduceIte, Nat.reduceAdd, Nat.reduceSub, Nat.reduceMul, Nat.reduceEqDiff, Nat.reduceLT, Nat.reduceShiftRight, Nat.reduceAnd, Nat.reduceBNe, Nat.reduceLeDiff, Nat.reduceBEq, Nat.testBit, Nat.zero_lt_one, Int.reduceToNat, Int.reduceNeg, Int.reduceLE, Int.reduceLT, Int.reduceEq, decide_true, decide_false, Bool.and_true, Bool.true_and, Bool.and_false, Bool.false_and, Bool.or_true, Bool.true_or, Bool.or_false, Bool.false_or, Bool.not_true, Bool.not_false, beq_self_eq_true, reduceCtorEq, and_self, and_true, true_and, or_true, true_or, if_true, if_false, Nat.le_refl, Bool.and_self, eq_self, Bool.not_false, Bool.not_true, hlt, hg, Evt.enc, d1]

theorem Has113 (l : List Mem) (m : Mem) (hl : l.length < 2305843009213693952) : (KL AA XX).call 113 [(PV.one (D.sl (l.map Mem.enc))), .agg m.enc] = some [(PV.one (D.sc (Value.bool (l.any fun x => sM x m))))] := by
  rw [c113]
  have go : ∀ k, k ≤ l.length → (∀ j (hj : j < k) (hl : j < l.length), sM l[j] m = false) → loopR AA XX [0, 3, 7, 8] 1 b113_0 (RUN AA XX b113_0 ⟨[(0, (AV.c (C.d (D.sl (l.map Mem.enc))))), (3, .ptr 0 0), (7, (AV.c (C.d (D.sc (Value.int IntKind.i64 (l.length)))))), (8, (AV.c (C.d (D.sc (Value.int IntKind.i64 (0))))))], [(0, .arr [(C.d (D.sc (Value.int IntKind.i64 (m.node)))), (C.d (D.sc (Value.int IntKind.i64 (m.inc))))])], 1⟩) = loopR AA XX [0, 3, 7, 8] 1 b113_0 (RUN AA XX b113_0 ⟨[(0, (AV.c (C.d (D.sl (l.map Mem.enc))))), (3, .ptr 0 0), (7, (AV.c (C.d (D.sc (Value.int IntKind.i64 (l.length)))))), (8, (AV.c (C.d (D.sc (Value.int IntKind.i64 (k))))))], [(0, .arr [(C.d (D.sc (Value.int IntKind.i64 (m.node)))), (C.d (D.sc (Value.int IntKind.i64 (m.inc))))])], 1⟩) := by
    intro k hk hno
    have := iter (F := fun (i : Nat) => loopR AA XX [0, 3, 7, 8] 1 b113_0 (RUN AA XX b113_0 ⟨[(0, (AV.c (C.d (D.sl (l.map Mem.enc))))), (3, .ptr 0 0), (7, (AV.c (C.d (D.sc (Value.int IntKind.i64 (l.length)))))), (8, (AV.c (C.d (D.sc (Value.int IntKind.i64 (i))))))], [(0, .arr [(C.d (D.sc (Value.int IntKind.i64 (m.node)))), (C.d (D.sc (Value.int IntKind.i64 (m.inc))))])], 1⟩)) (Nat.zero_le k) fun i _ hik => by
      have hi : i < l.length := by omega
      have hlt := ltT hi
      have hg := getm l Mem.enc hi
      have hw := wrap_succ i (by omega)
      have e1 := hno i hik hi
      simp only [sM] at e1
      show loopR _ _ _ _ _ (RUN _ _ _ _) = _
      rw [b113_0_run]
      simp only [go_sem, ↓reduceIte, Nat.reduceAdd, Nat.reduceSub, Nat.reduceMul, Nat.reduceEqDiff, Nat.reduceLT, Nat.reduceShiftRight, Nat.reduceAnd, Nat.reduceBNe, Nat.reduceLeDiff, Nat.reduceBEq, Nat.testBit, Nat.zero_lt_one, Int.reduceToNat, Int.reduceNeg, Int.reduceLE, Int.reduceLT, Int.reduceEq, decide_true, decide_false, Bool.and_true, Bool.true_and, Bool.and_false, Bool.false_and, Bool.or_true, Bool.true_or, Bool.or_false, Bool.false_or, Bool.not_true, Bool.not_false, beq_self_eq_true, reduceCtorEq, and_self, and_true, true_and, or_true, true_or, if_true, if_false, Nat.le_refl, Bool.and_self, eq_self, Bool.not_false, Bool.not_true, hlt, hg, Mem.enc, hw, e1]
    exact this
  simp only [go_sem, ↓reduceIte, Nat.reduceAdd, Nat.reduceSub, Nat.reduceMul, Nat.reduceEqDiff, Nat.reduceLT, Nat.reduceShiftRight, Nat.reduceAnd, Nat.reduceBNe, Nat.reduceLeDiff, Nat.reduceBEq, Nat.testBit, Nat.zero_lt_one, Int.reduceToNat, Int.reduceNeg, Int.reduceLE, Int.reduceLT, Int.reduceEq, decide_true, decide_false, Bool.and_true, Bool.true_and, Bool.and_false, Bool.false_and, Bool.or_true, Bool.true_or, Bool.or_false, Bool.false_or, Bool.not_true, Bool.not_false, beq_self_eq_true, reduceCtorEq, and_self, and_true, true_and, or_true, true_or, if_true, if_false, Nat.le_refl, Bool.and_self, eq_self, Bool.not_false, Bool.not_true, Mem.enc]
  cases hf : l.findIdx? (fun x => sM x m) with
  | none =>
    have ha : (l.any fun x => sM x m) = false := by
      rw [List.any_eq_false]
      rw [List.findIdx?_eq_none_iff] at hf
      intro x hx
      rw [hf x hx]
      simp
    rw [go l.length (Nat.le_refl _) (fun j _ hj => find_none hf hj), b113_0_run, ha]
    simp only [go_sem, ↓reduceIte, Nat.reduceAdd, Nat.reduceSub, Nat.reduceMul, Nat.reduceEqDiff, Nat.reduceLT, Nat.reduceShiftRight, Nat.reduceAnd, Nat.reduceBNe, Nat.reduceLeDiff, Nat.reduceBEq, Nat.testBit, Nat.zero_lt_one, Int.reduceToNat, Int.reduceNeg, Int.reduceLE, Int.reduceLT, Int.reduceEq, decide_true, decide_false, Bool.and_true, Bool.true_and, Bool.and_false, Bool.false_and, Bool.or_true, Bool.true_or, Bool.or_false, Bool.false_or, Bool.not_true, Bool.not_false, beq_self_eq_true, reduceCtorEq, and_self, and_true, true_and, or_true, true_or, if_true, if_false, Nat.le_refl, Bool.and_self, eq_self, Bool.not_false, Bool.not_true, Int.lt_irrefl]
  | some k =>
    obtain ⟨hk, h1, h2⟩ := find_some hf
    have ha : (l.any fun x => sM x m) = true := List.any_eq_true.2 ⟨_, List.getElem_mem hk, h1⟩
    have hlt := ltT hk
    have hg := getm l Mem.enc hk
    simp only [sM] at h1
    rw [go k (Nat.le_of_lt hk) (fun j hj _ => h2 j hj), b113_0_run, ha]
    simp only [go_sem, ↓reduceIte, Nat.reduceAdd, Nat.reduceSub, Nat.reduceMul, Nat.reduceEqDiff, Nat.reduceLT, Nat.reduceShiftRight, Nat.reduceAnd, Nat.reduceBNe, Nat.reduceLeDiff, Nat.reduceBEq, Nat.testBit, Nat.zero_lt_one, Int.reduceToNat, Int.reduceNeg, Int.reduceLE, Int.reduceLT, Int.reduceEq, decide_true, decide_false, Bool.and_true, Bool.true_and, Bool.and_false, Bool.false_and, Bool.or_true, Bool.true_or, Bool.or_false, Bool.false_or, Bool.not_true, Bool.not_false, beq_self_eq_true, reduceCtorEq, and_self, and_true, true_and, or_true, true_or, if_true, if_false, Nat.le_refl, Bool.and_self, eq_self, Bool.not_false, Bool.not_true, hlt, hg, Mem.enc, h1]

theorem Has80 (l : List Mem) (m : Mem) (hl : l.length < 2305843009213693952) : (KL AA XX).call 80 [(PV.one (D.sl (l.map Mem.enc))), .agg m.enc] = some [(PV.one (D.sc (Value.bool (l.any fun x => sM x m))))] := by
  rw [c80]
  have go : ∀ k, k ≤ l.length → (∀ j (hj : j < k) (hl : j < l.length), sM l[j] m = false) → loopR AA XX [0, 3, 5] 1 b80_0 (RUN AA XX b80_0 ⟨[(0, (AV.c (C.d (D.sl (l.map Mem.enc))))), (3, .ptr 0 0), (5, (AV.c (C.d (D.sc (Value.int IntKind.i64 (0))))))], [(0, .arr [(C.d (D.sc (Value.int IntKind.i64 (m.node)))), (C.d (D.sc (Value.int IntKind.i64 (m.inc))))])], 1⟩) = loopR AA XX [0, 3, 5] 1 b80_0 (RUN AA XX b80_0 ⟨[(0, (AV.c (C.d (D.sl (l.map Mem.enc))))), (3, .ptr 0 0), (5, (AV.c (C.d (D.sc (Value.int IntKind.i64 (k))))))], [(0, .arr [(C.d (D.sc (Value.int IntKind.i64 (m.node)))), (C.d (D.sc (Value.int IntKind.i64 (m.inc))))])], 1⟩) := by
    intro k hk hno
    have := iter (F := fun (i : Nat) => loopR AA XX [0, 3, 5] 1 b80_0 (RUN AA XX b80_0 ⟨[(0, (AV.c (C.d (D.sl (l.map Mem.enc))))), (3, .ptr 0 0), (5, (AV.c (C.d (D.sc (Value.int IntKind.i64 (i))))))], [(0, .arr [(C.d (D.sc (Value.int IntKind.i64 (m.node)))), (C.d (D.sc (Value.int IntKind.i64 (m.inc))))])], 1⟩)) (Nat.zero_le k) fun i _ hik => by
      have hi : i < l.length := by omega
      have hlt := ltT hi
      have hg := getm l Mem.enc hi
      have hw := wrap_succ i (by omega)
      have e1 := hno i hik hi
      simp only [sM] at e1
      show loopR _ _ _ _ _ (RUN _ _ _ _) = _
      rw [b80_0_run]
      simp only [go_sem, ↓reduceIte, Nat.reduceAdd, Nat.reduceSub, Nat.reduceMul, Nat.reduceEqDiff, Nat.reduceLT, Nat.reduceShiftRight, Nat.reduceAnd, Nat.reduceBNe, Nat.reduceLeDiff, Nat.reduceBEq, Nat.testBit, Nat.zero_lt_one, Int.reduceToNat, Int.reduceNeg, Int.reduceLE, Int.reduceLT, Int.reduceEq, decide_true, decide_false, Bool.and_true, Bool.true_and, Bool.and_false, Bool.false_and, Bool.or_true, Bool.true_or, Bool.or_false, Bool.false_or, Bool.not_true, Bool.not_false, beq_self_eq_true, reduceCtorEq, and_self, and_true, true_and, or_true, true_or, if_true, if_false, Nat.le_refl, Bool.and_self, eq_self, Bool.not_false, Bool.not_true, hlt, hg, Mem.enc, hw, e1]
    exact this
  simp only [go_sem, ↓reduceIte, Nat.reduceAdd, Nat.reduceSub, Nat.reduceMul, Nat.reduceEqDiff, Nat.reduceLT, Nat.reduceShiftRight, Nat.reduceAnd, Nat.reduceBNe, Nat.reduceLeDiff, Nat.reduceBEq, Nat.testBit, Nat.zero_lt_one, Int.reduceToNat, Int.reduceNeg, Int.reduceLE, Int.reduceLT, Int.reduceEq, decide_true, decide_false, Bool.and_true, Bool.true_and, Bool.and_false, Bool.false_and, Bool.or_true, Bool.true_or, Bool.or_false, Bool.false_or, Bool.not_true, Bool.not_false, beq_self_eq_true, reduceCtorEq, and_self, and_true, true_and, or_true, true_or, if_true, if_false, Nat.le_refl, Bool.and_self, eq_self, Bool.not_false, Bool.not_true, Mem.enc]
  cases hf : l.findIdx? (fun x => sM x m) with
  | none =>
    have ha : (l.any fun x => sM x m) = false := by
      rw [List.any_eq_false]
      rw [List.findIdx?_eq_none_iff] at hf
      intro x hx
      rw [hf x hx]
      simp
    rw [go l.length (Nat.le_refl _) (fun j _ hj => find_none hf hj), b80_0_run, ha]
    simp only [go_sem, ↓reduceIte, Nat.reduceAdd, Nat.reduceSub, Nat.reduceMul, Nat.reduceEqDiff, Nat.reduceLT, Nat.reduceShiftRight, Nat.reduceAnd, Nat.reduceBNe, Nat.reduceLeDiff, Nat.reduceBEq, Nat.testBit, Nat.zero_lt_one, Int.reduceToNat, Int.reduceNeg, Int.reduceLE, Int.reduceLT, Int.reduceEq, decide_true, decide_false, Bool.and_true, Bool.true_and, Bool.and_false, Bool.false_and, Bool.or_true, Bool.true_or, Bool.or_false, Bool.false_or, Bool.not_true, Bool.not_false, beq_self_eq_true, reduceCtorEq, and_self, and_true, true_and, or_true, true_or, if_true, if_false, Nat.le_refl, Bool.and_self, eq_self, Bool.not_false, Bool.not_true, Int.lt_irrefl]
  | some k =>
    obtain ⟨hk, h1, h2⟩ := find_some hf
    have ha : (l.any fun x => sM x m) = true := List.any_eq_true.2 ⟨_, List.getElem_mem hk, h1⟩
    have hlt := ltT hk
    have hg := getm l Mem.enc hk
    simp only [sM] at h1
    rw [go k (Nat.le_of_lt hk) (fun j hj _ => h2 j hj), b80_0_run, ha]
    simp only [go_sem, ↓reduceIte, Nat.reduceAdd, Nat.reduceSub, Nat.reduceMul, Nat.reduceEqDiff, Nat.reduceLT, Nat.reduceShiftRight, Nat.reduceAnd, Nat.reduceBNe, Nat.reduceLeDiff, Nat.reduceBEq, Nat.testBit, Nat.zero_lt_one, Int.reduceToNat, Int.reduceNeg, Int.reduceLE, Int.reduceLT, Int.reduceEq, decide_true, decide_false, Bool.and_true, Bool.true_and, Bool.and_false, Bool.false_and, Bool.or_true, Bool.true_or, Bool.or_false, Bool.false_or, Bool.not_true, Bool.not_false, beq_self_eq_true, reduceCtorEq, and_self, and_true, true_and, or_true, true_or, if_true, if_false, Nat.le_refl, Bool.and_self, eq_self, Bool.not_false, Bool.not_true, hlt, hg, Mem.enc, h1]

def mb2 (o : List Mem) (e : Evt) : List Mem := if (o.any fun x => sM x e.who) = true then o else o ++ [e.who]
def membersF (l : List Evt) : List Mem := l.foldl mb2 []
theorem members_succ (l : List Evt) {i : Nat} (h : i < l.length) : membersF (l.take (i + 1)) = mb2 (membersF (l.take i)) l[i] := by
  unfold membersF
  rw [← List.take_append_getElem h, List.foldl_append]
  rfl
theorem mb2_len (o : List Mem) (e : Evt) : (mb2 o e).length ≤ o.length + 1 := by
  unfold mb2; split
  · omega
  · simp
theorem members_len (l : List Evt) : (membersF l).length ≤ l.length := by
  have : ∀ (l : List Evt) (o : List Mem), (l.foldl mb2 o).length ≤ o.length + l.length := by
    intro l
    induction l with
    | nil => intro o; exact Nat.le_refl _
    | cons e l ih =>
      intro o
      have h1 := ih (mb2 o e)
      have h2 := mb2_len o e
      rw [List.foldl_cons, List.length_cons]; omega
  have := this l []
  rw [List.length_nil, Nat.zero_add] at this
  exact this
theorem mbn {n m b : Nat} (h : n ≤ 1000000) (k : m ≤ n + 1) (hb : b ≤ 1000) : (m * b ≤ maxBytes) = True := by
  have h1 : maxBytes = 140737488355328 := rfl
  rw [h1]
  have : m * b ≤ 1000001 * 1000 := Nat.mul_le_mul (by omega) hb
  exact eq_true (by omega)
theorem Members77 (l : List Evt) (hl : l.length ≤ 1000000) : (KL AA XX).call 77 [(PV.one (D.sl (l.map Evt.enc)))] = some [(PV.one (D.sl ((membersF l).map Mem.enc)))] := by
  rw [c77]
  have := iter (F := fun (i : Nat) => loopR AA XX [0, 3, 6, 7] 2 b77_0 (RUN AA XX b77_0 ⟨[(0, (AV.c (C.d (D.sl (l.map Evt.enc))))), (3, (AV.c (C.gr 1 ((membersF (l.take i)).map Mem.enc)))), (6, (AV.c (C.d (D.sc (Value.int IntKind.i64 (l.length)))))), (7, (AV.c (C.d (D.sc (Value.int IntKind.i64 (i))))))], [(0, .tok 0 0), (1, .tok (membersF (l.take i)).length (tS (membersF (l.take i)).length 2))], 2⟩)) (Nat.zero_le l.length) fun i _ hi => by
    have hlt := ltT hi
    have hg := getm l Evt.enc hi
    have hw := wrap_succ i (by omega)
    have hml := members_len (l.take i)
    rw [List.length_take] at hml
    have a1 := Has113 (membersF (l.take i)) l[i].who (by omega)
    simp only [Mem.enc] at a1
    have hs := members_succ l hi
    have mb := mbn hl (show (membersF (l.take i)).length + 1 ≤ l.length + 1 by omega) (show 16 ≤ 1000 by omega)
    show loopR _ _ _ _ _ (RUN _ _ _ _) = _
    rw [b77_0_run]
    cases e : (membersF (l.take i)).any (fun x => sM x l[i].who) with
    | true =>
      rw [e] at a1
      have h2 : membersF (l.take (i + 1)) = membersF (l.take i) := by rw [hs, mb2, e]; rfl
      simp only [go_sem, ↓reduceIte, Nat.reduceAdd, Nat.reduceSub, Nat.reduceMul, Nat.reduceEqDiff, Nat.reduceLT, Nat.reduceShiftRight, Nat.reduceAnd, Nat.reduceBNe, Nat.reduceLeDiff, Nat.reduceBEq, Nat.testBit, Nat.zero_lt_one, Int.reduceToNat, Int.reduceNeg, Int.reduceLE, Int.reduceLT, Int.reduceEq, decide_true, decide_false, Bool.and_true, Bool.true_and, Bool.and_false, Bool.false_and, Bool.or_true, Bool.true_or, Bool.or_false, Bool.false_or, Bool.not_true, Bool.not_false, beq_self_eq_true, reduceCtorEq, and_self, and_true, true_and, or_true, true_or, if_true, if_false, Nat.le_refl, Bool.and_self, eq_self, Bool.not_false, Bool.not_true, hlt, hg, Evt.enc, hw, a1, h2, Bool.not_true]
    | false =>
      rw [e] at a1
      have h2 : membersF (l.take (i + 1)) = membersF (l.take i) ++ [l[i].who] := by rw [hs, mb2, e]; rfl
      simp only [go_sem, ↓reduceIte, Nat.reduceAdd, Nat.reduceSub, Nat.reduceMul, Nat.reduceEqDiff, Nat.reduceLT, Nat.reduceShiftRight, Nat.reduceAnd, Nat.reduceBNe, Nat.reduceLeDiff, Nat.reduceBEq, Nat.testBit, Nat.zero_lt_one, Int.reduceToNat, Int.reduceNeg, Int.reduceLE, Int.reduceLT, Int.reduceEq, decide_true, decide_false, Bool.and_true, Bool.true_and, Bool.and_false, Bool.false_and, Bool.or_true, Bool.true_or, Bool.or_false, Bool.false_or, Bool.not_true, Bool.not_false, beq_self_eq_true, reduceCtorEq, and_self, and_true, true_and, or_true, true_or, if_true, if_false, Nat.le_refl, Bool.and_self, eq_self, Bool.not_false, Bool.not_true, hlt, hg, Evt.enc, hw, a1, h2, Bool.not_false, mb, tSok, tS1, Mem.enc, List.map_append, List.length_append]
  simp only [List.take_zero, show membersF [] = [] from rfl, List.map_nil, List.length_nil, tS0] at this
  rw [show (((0 : Nat) : Int)) = 0 from rfl, List.take_length] at this
  simp only [go_sem, ↓reduceIte, Nat.reduceAdd, Nat.reduceSub, Nat.reduceMul, Nat.reduceEqDiff, Nat.reduceLT, Nat.reduceShiftRight, Nat.reduceAnd, Nat.reduceBNe, Nat.reduceLeDiff, Nat.reduceBEq, Nat.testBit, Nat.zero_lt_one, Int.reduceToNat, Int.reduceNeg, Int.reduceLE, Int.reduceLT, Int.reduceEq, decide_true, decide_false, Bool.and_true, Bool.true_and, Bool.and_false, Bool.false_and, Bool.or_true, Bool.true_or, Bool.or_false, Bool.false_or, Bool.not_true, Bool.not_false, beq_self_eq_true, reduceCtorEq, and_self, and_true, true_and, or_true, true_or, if_true, if_false, Nat.le_refl, Bool.and_self, eq_self, Bool.not_false, Bool.not_true]
  rw [this, b77_0_run]
  simp only [go_sem, ↓reduceIte, Nat.reduceAdd, Nat.reduceSub, Nat.reduceMul, Nat.reduceEqDiff, Nat.reduceLT, Nat.reduceShiftRight, Nat.reduceAnd, Nat.reduceBNe, Nat.reduceLeDiff, Nat.reduceBEq, Nat.testBit, Nat.zero_lt_one, Int.reduceToNat, Int.reduceNeg, Int.reduceLE, Int.reduceLT, Int.reduceEq, decide_true, decide_false, Bool.and_true, Bool.true_and, Bool.and_false, Bool.false_and, Bool.or_true, Bool.true_or, Bool.or_false, Bool.false_or, Bool.not_true, Bool.not_false, beq_self_eq_true, reduceCtorEq, and_self, and_true, true_and, or_true, true_or, if_true, if_false, Nat.le_refl, Bool.and_self, eq_self, Bool.not_false, Bool.not_true, Int.lt_irrefl]

def ofF (l : List Evt) (m : Mem) : List Evt := l.filter fun e => sM e.who m
theorem Of78 (l : List Evt) (m : Mem) (hl : l.length ≤ 1000000) : (KL AA XX).call 78 [(PV.one (D.sl (l.map Evt.enc))), .agg m.enc] = some [(PV.one (D.sl ((ofF l m).map Evt.enc)))] := by
  rw [c78]
  have := iter (F := fun (i : Nat) => loopR AA XX [0, 3, 5, 8, 9] 3 b78_0 (RUN AA XX b78_0 ⟨[(0, (AV.c (C.d (D.sl (l.map Evt.enc))))), (3, .ptr 0 0), (5, (AV.c (C.gr 2 ((ofF (l.take i) m).map Evt.enc)))), (8, (AV.c (C.d (D.sc (Value.int IntKind.i64 (l.length)))))), (9, (AV.c (C.d (D.sc (Value.int IntKind.i64 (i))))))], [(0, .arr [(C.d (D.sc (Value.int IntKind.i64 (m.node)))), (C.d (D.sc (Value.int IntKind.i64 (m.inc))))]), (1, .tok 0 0), (2, .tok (ofF (l.take i) m).length (tS (ofF (l.take i) m).length 14))], 3⟩)) (Nat.zero_le l.length) fun i _ hi => by
    have hlt := ltT hi
    have hg := getm l Evt.enc hi
    have hw := wrap_succ i (by omega)
    have hle : (ofF (l.take i) m).length ≤ i := Nat.le_trans (List.length_filter_le _ _) (by rw [List.length_take]; omega)
    have mb := mbn hl (show (ofF (l.take i) m).length + 1 ≤ l.length + 1 by omega) (show 160 ≤ 1000 by omega)
    show loopR _ _ _ _ _ (RUN _ _ _ _) = _
    rw [b78_0_run]
    cases e2 : sM l[i].who m <;> (have e3 : ofF (l.take (i + 1)) m = ofF (l.take i) m ++ (if sM l[i].who m then [l[i]] else []) := filter_take _ hi) <;> rw [e2] at e3 <;> simp only [sM] at e2 <;>
      simp only [go_sem, ↓reduceIte, Nat.reduceAdd, Nat.reduceSub, Nat.reduceMul, Nat.reduceEqDiff, Nat.reduceLT, Nat.reduceShiftRight, Nat.reduceAnd, Nat.reduceBNe, Nat.reduceLeDiff, Nat.reduceBEq, Nat.testBit, Nat.zero_lt_one, Int.reduceToNat, Int.reduceNeg, Int.reduceLE, Int.reduceLT, Int.reduceEq, decide_true, decide_false, Bool.and_true, Bool.true_and, Bool.and_false, Bool.false_and, Bool.or_true, Bool.true_or, Bool.or_false, Bool.false_or, Bool.not_true, Bool.not_false, beq_self_eq_true, reduceCtorEq, and_self, and_true, true_and, or_true, true_or, if_true, if_false, Nat.le_refl, Bool.and_self, eq_self, Bool.not_false, Bool.not_true, hlt, hg, Evt.enc, hw, e2, e3, List.length_append, tS1, tSok, mb, List.map_append, Bool.false_eq_true]
  simp only [List.take_zero, show ofF [] m = [] from rfl, List.map_nil, List.length_nil, tS0] at this
  rw [show (((0 : Nat) : Int)) = 0 from rfl, List.take_length] at this
  simp only [go_sem, ↓reduceIte, Nat.reduceAdd, Nat.reduceSub, Nat.reduceMul, Nat.reduceEqDiff, Nat.reduceLT, Nat.reduceShiftRight, Nat.reduceAnd, Nat.reduceBNe, Nat.reduceLeDiff, Nat.reduceBEq, Nat.testBit, Nat.zero_lt_one, Int.reduceToNat, Int.reduceNeg, Int.reduceLE, Int.reduceLT, Int.reduceEq, decide_true, decide_false, Bool.and_true, Bool.true_and, Bool.and_false, Bool.false_and, Bool.or_true, Bool.true_or, Bool.or_false, Bool.false_or, Bool.not_true, Bool.not_false, beq_self_eq_true, reduceCtorEq, and_self, and_true, true_and, or_true, true_or, if_true, if_false, Nat.le_refl, Bool.and_self, eq_self, Bool.not_false, Bool.not_true, Mem.enc]
  rw [this, b78_0_run]
  simp only [go_sem, ↓reduceIte, Nat.reduceAdd, Nat.reduceSub, Nat.reduceMul, Nat.reduceEqDiff, Nat.reduceLT, Nat.reduceShiftRight, Nat.reduceAnd, Nat.reduceBNe, Nat.reduceLeDiff, Nat.reduceBEq, Nat.testBit, Nat.zero_lt_one, Int.reduceToNat, Int.reduceNeg, Int.reduceLE, Int.reduceLT, Int.reduceEq, decide_true, decide_false, Bool.and_true, Bool.true_and, Bool.and_false, Bool.false_and, Bool.or_true, Bool.true_or, Bool.or_false, Bool.false_or, Bool.not_true, Bool.not_false, beq_self_eq_true, reduceCtorEq, and_self, and_true, true_and, or_true, true_or, if_true, if_false, Nat.le_refl, Bool.and_self, eq_self, Bool.not_false, Bool.not_true, Int.lt_irrefl]

/-! ### The same events -/
theorem Same114 (l : List Spot) (hl : l.length < 2305843009213693952) : (KL AA XX).call 114 [(PV.one (D.sl (l.map Spot.enc))), (PV.one (D.sl (l.map Spot.enc)))] = some [(PV.one (D.sc (Value.bool (true))))] := by
  rw [c114]
  have := iter (F := fun (i : Nat) => loopR AA XX [0, 1, 5] 0 b114_0 (RUN AA XX b114_0 ⟨[(0, (AV.c (C.d (D.sl (l.map Spot.enc))))), (1, (AV.c (C.d (D.sl (l.map Spot.enc))))), (5, (AV.c (C.d (D.sc (Value.int IntKind.i64 (i))))))], [], 0⟩)) (Nat.zero_le l.length) fun i _ hi => by
    have hd := ltT hi
    have hg := getm l Spot.enc hi
    have hw := wrap_succ i (by omega)
    show loopR _ _ _ _ _ (RUN _ _ _ _) = _
    rw [b114_0_run]
    simp only [go_sem, ↓reduceIte, Nat.reduceAdd, Nat.reduceSub, Nat.reduceMul, Nat.reduceEqDiff, Nat.reduceLT, Nat.reduceShiftRight, Nat.reduceAnd, Nat.reduceBNe, Nat.reduceLeDiff, Nat.reduceBEq, Nat.testBit, Nat.zero_lt_one, Int.reduceToNat, Int.reduceNeg, Int.reduceLE, Int.reduceLT, Int.reduceEq, decide_true, decide_false, Bool.and_true, Bool.true_and, Bool.and_false, Bool.false_and, Bool.or_true, Bool.true_or, Bool.or_false, Bool.false_or, Bool.not_true, Bool.not_false, beq_self_eq_true, reduceCtorEq, and_self, and_true, true_and, or_true, true_or, if_true, if_false, Nat.le_refl, Bool.and_self, eq_self, Bool.not_false, Bool.not_true, hd, hg, Spot.enc, hw]
  rw [show (((0 : Nat) : Int)) = 0 from rfl] at this
  simp only [go_sem, ↓reduceIte, Nat.reduceAdd, Nat.reduceSub, Nat.reduceMul, Nat.reduceEqDiff, Nat.reduceLT, Nat.reduceShiftRight, Nat.reduceAnd, Nat.reduceBNe, Nat.reduceLeDiff, Nat.reduceBEq, Nat.testBit, Nat.zero_lt_one, Int.reduceToNat, Int.reduceNeg, Int.reduceLE, Int.reduceLT, Int.reduceEq, decide_true, decide_false, Bool.and_true, Bool.true_and, Bool.and_false, Bool.false_and, Bool.or_true, Bool.true_or, Bool.or_false, Bool.false_or, Bool.not_true, Bool.not_false, beq_self_eq_true, reduceCtorEq, and_self, and_true, true_and, or_true, true_or, if_true, if_false, Nat.le_refl, Bool.and_self, eq_self, Bool.not_false, Bool.not_true]
  rw [this, b114_0_run]
  simp only [go_sem, ↓reduceIte, Nat.reduceAdd, Nat.reduceSub, Nat.reduceMul, Nat.reduceEqDiff, Nat.reduceLT, Nat.reduceShiftRight, Nat.reduceAnd, Nat.reduceBNe, Nat.reduceLeDiff, Nat.reduceBEq, Nat.testBit, Nat.zero_lt_one, Int.reduceToNat, Int.reduceNeg, Int.reduceLE, Int.reduceLT, Int.reduceEq, decide_true, decide_false, Bool.and_true, Bool.true_and, Bool.and_false, Bool.false_and, Bool.or_true, Bool.true_or, Bool.or_false, Bool.false_or, Bool.not_true, Bool.not_false, beq_self_eq_true, reduceCtorEq, and_self, and_true, true_and, or_true, true_or, if_true, if_false, Nat.le_refl, Bool.and_self, eq_self, Bool.not_false, Bool.not_true, Int.lt_irrefl]
abbrev cE (e : Evt) : List C := [(C.d (D.sc (Value.int IntKind.i64 (e.kind)))), (C.d (D.sc (Value.int IntKind.i64 (e.at_)))), (C.d (D.sc (Value.int IntKind.i64 (e.who.node)))), (C.d (D.sc (Value.int IntKind.i64 (e.who.inc)))), (C.d (D.sc (Value.int IntKind.i64 (e.view.id.c)))), (C.d (D.sc (Value.int IntKind.i64 (e.view.id.n)))), (C.d (D.sc (Value.int IntKind.i64 (e.view.id.i)))), (C.d (D.sl (e.view.mems.map Mem.enc))), (C.d (D.sc (Value.int IntKind.i64 (e.from_.node)))), (C.d (D.sc (Value.int IntKind.i64 (e.from_.inc)))), (C.d (D.sc (Value.int IntKind.i64 (e.seq)))), (C.d (D.sc (Value.string (e.text)))), (C.d (D.sl (e.tree.map Spot.enc))), (C.d (D.sc (Value.string (e.key))))]
theorem same79_in (l : List Evt) (i : Nat) (e : Evt) (he : e.view.mems.length < 2305843009213693952) : ∃ F', blockR 2 (loopR AA XX [0, 1, 5, 6, 7, 8] 6 b79_1 (RUN AA XX b79_1
      ⟨[(0, (AV.c (C.d (D.sl (l.map Evt.enc))))), (1, (AV.c (C.d (D.sl (l.map Evt.enc))))), (5, (AV.c (C.d (D.sc (Value.int IntKind.i64 (i)))))), (6, .ptr 2 0), (7, .ptr 5 0), (8, (AV.c (C.d (D.sc (Value.int IntKind.i64 (0))))))], [(0, .tok 0 0), (1, .tok 0 0), (2, .arr (cE e)), (3, .tok 0 0), (4, .tok 0 0), (5, .arr (cE e))], 6⟩)) = some (.norm, ⟨F', [(0, .tok 0 0), (1, .tok 0 0), (2, .arr (cE e)), (3, .tok 0 0), (4, .tok 0 0), (5, .arr (cE e))], 6⟩) ∧
      F'.get 0 = (AV.c (C.d (D.sl (l.map Evt.enc)))) ∧ F'.get 1 = (AV.c (C.d (D.sl (l.map Evt.enc)))) ∧ F'.get 5 = (AV.c (C.d (D.sc (Value.int IntKind.i64 (i))))) := by
  have := iter (F := fun (k : Nat) => loopR AA XX [0, 1, 5, 6, 7, 8] 6 b79_1 (RUN AA XX b79_1 ⟨[(0, (AV.c (C.d (D.sl (l.map Evt.enc))))), (1, (AV.c (C.d (D.sl (l.map Evt.enc))))), (5, (AV.c (C.d (D.sc (Value.int IntKind.i64 (i)))))), (6, .ptr 2 0), (7, .ptr 5 0), (8, (AV.c (C.d (D.sc (Value.int IntKind.i64 (k))))))], [(0, .tok 0 0), (1, .tok 0 0), (2, .arr (cE e)), (3, .tok 0 0), (4, .tok 0 0), (5, .arr (cE e))], 6⟩)) (Nat.zero_le e.view.mems.length) fun k _ hk => by
    have hd := ltT hk
    have hg2 := getm e.view.mems Mem.enc hk
    have hw := wrap_succ k (by omega)
    show loopR _ _ _ _ _ (RUN _ _ _ _) = _
    rw [b79_1_run]
    simp only [cE, go_sem, ↓reduceIte, Nat.reduceAdd, Nat.reduceSub, Nat.reduceMul, Nat.reduceEqDiff, Nat.reduceLT, Nat.reduceShiftRight, Nat.reduceAnd, Nat.reduceBNe, Nat.reduceLeDiff, Nat.reduceBEq, Nat.testBit, Nat.zero_lt_one, Int.reduceToNat, Int.reduceNeg, Int.reduceLE, Int.reduceLT, Int.reduceEq, decide_true, decide_false, Bool.and_true, Bool.true_and, Bool.and_false, Bool.false_and, Bool.or_true, Bool.true_or, Bool.or_false, Bool.false_or, Bool.not_true, Bool.not_false, beq_self_eq_true, reduceCtorEq, and_self, and_true, true_and, or_true, true_or, if_true, if_false, Nat.le_refl, Bool.and_self, eq_self, Bool.not_false, Bool.not_true, hd, hg2, Mem.enc, hw]
  rw [show (((0 : Nat) : Int)) = 0 from rfl] at this
  rw [this, b79_1_run]
  simp only [cE, go_sem, ↓reduceIte, Nat.reduceAdd, Nat.reduceSub, Nat.reduceMul, Nat.reduceEqDiff, Nat.reduceLT, Nat.reduceShiftRight, Nat.reduceAnd, Nat.reduceBNe, Nat.reduceLeDiff, Nat.reduceBEq, Nat.testBit, Nat.zero_lt_one, Int.reduceToNat, Int.reduceNeg, Int.reduceLE, Int.reduceLT, Int.reduceEq, decide_true, decide_false, Bool.and_true, Bool.true_and, Bool.and_false, Bool.false_and, Bool.or_true, Bool.true_or, Bool.or_false, Bool.false_or, Bool.not_true, Bool.not_false, beq_self_eq_true, reduceCtorEq, and_self, and_true, true_and, or_true, true_or, if_true, if_false, Nat.le_refl, Bool.and_self, eq_self, Bool.not_false, Bool.not_true, Int.lt_irrefl]
  exact ⟨_, rfl, rfl, rfl, rfl⟩
theorem Same79 (l : List Evt) (hl : l.length < 2305843009213693952) (hb : ∀ e ∈ l, e.view.mems.length < 2305843009213693952 ∧ e.tree.length < 2305843009213693952) : (KL AA XX).call 79 [(PV.one (D.sl (l.map Evt.enc))), (PV.one (D.sl (l.map Evt.enc)))] = some [(PV.one (D.sc (Value.bool (true))))] := by
  rw [c79]
  have := iter (F := fun (i : Nat) => loopR AA XX [0, 1, 5] 0 b79_0 (RUN AA XX b79_0 ⟨[(0, (AV.c (C.d (D.sl (l.map Evt.enc))))), (1, (AV.c (C.d (D.sl (l.map Evt.enc))))), (5, (AV.c (C.d (D.sc (Value.int IntKind.i64 (i))))))], [], 0⟩)) (Nat.zero_le l.length) fun i _ hi => by
    have hd := ltT hi
    have hg := getm l Evt.enc hi
    have hw := wrap_succ i (by omega)
    have hbi := hb _ (List.getElem_mem hi)
    have a1 := Same114 l[i].tree hbi.2
    obtain ⟨F', h1, h2, h3, h4⟩ := same79_in l i l[i] hbi.1
    simp only [cE] at h1
    show loopR _ _ _ _ _ (RUN _ _ _ _) = _
    rw [b79_0_run]
    simp only [go_sem, ↓reduceIte, Nat.reduceAdd, Nat.reduceSub, Nat.reduceMul, Nat.reduceEqDiff, Nat.reduceLT, Nat.reduceShiftRight, Nat.reduceAnd, Nat.reduceBNe, Nat.reduceLeDiff, Nat.reduceBEq, Nat.testBit, Nat.zero_lt_one, Int.reduceToNat, Int.reduceNeg, Int.reduceLE, Int.reduceLT, Int.reduceEq, decide_true, decide_false, Bool.and_true, Bool.true_and, Bool.and_false, Bool.false_and, Bool.or_true, Bool.true_or, Bool.or_false, Bool.false_or, Bool.not_true, Bool.not_false, beq_self_eq_true, reduceCtorEq, and_self, and_true, true_and, or_true, true_or, if_true, if_false, Nat.le_refl, Bool.and_self, eq_self, Bool.not_false, Bool.not_true, hd, hg, Evt.enc, hw, a1, h1, h2, h3, h4]
  rw [show (((0 : Nat) : Int)) = 0 from rfl] at this
  simp only [go_sem, ↓reduceIte, Nat.reduceAdd, Nat.reduceSub, Nat.reduceMul, Nat.reduceEqDiff, Nat.reduceLT, Nat.reduceShiftRight, Nat.reduceAnd, Nat.reduceBNe, Nat.reduceLeDiff, Nat.reduceBEq, Nat.testBit, Nat.zero_lt_one, Int.reduceToNat, Int.reduceNeg, Int.reduceLE, Int.reduceLT, Int.reduceEq, decide_true, decide_false, Bool.and_true, Bool.true_and, Bool.and_false, Bool.false_and, Bool.or_true, Bool.true_or, Bool.or_false, Bool.false_or, Bool.not_true, Bool.not_false, beq_self_eq_true, reduceCtorEq, and_self, and_true, true_and, or_true, true_or, if_true, if_false, Nat.le_refl, Bool.and_self, eq_self, Bool.not_false, Bool.not_true]
  rw [this, b79_0_run]
  simp only [go_sem, ↓reduceIte, Nat.reduceAdd, Nat.reduceSub, Nat.reduceMul, Nat.reduceEqDiff, Nat.reduceLT, Nat.reduceShiftRight, Nat.reduceAnd, Nat.reduceBNe, Nat.reduceLeDiff, Nat.reduceBEq, Nat.testBit, Nat.zero_lt_one, Int.reduceToNat, Int.reduceNeg, Int.reduceLE, Int.reduceLT, Int.reduceEq, decide_true, decide_false, Bool.and_true, Bool.true_and, Bool.and_false, Bool.false_and, Bool.or_true, Bool.true_or, Bool.or_false, Bool.false_or, Bool.not_true, Bool.not_false, beq_self_eq_true, reduceCtorEq, and_self, and_true, true_and, or_true, true_or, if_true, if_false, Nat.le_refl, Bool.and_self, eq_self, Bool.not_false, Bool.not_true, Int.lt_irrefl]
end Go.Proofs.Ytpanbfainilmpaa.Ev.S
