/- The law StreamHolds in the evaluator: it answers true. -/
import Derived.Test.YtpanbfainilmpaaEvF3
import Derived.Test.YtpanbfainilmpaaEvSA
set_option linter.unusedVariables false
set_option linter.unusedSimpArgs false
set_option maxRecDepth 100000
set_option maxHeartbeats 1000000
namespace Go.Proofs.Ytpanbfainilmpaa.Ev.S
open Go Go.Proofs.Ytpanbfainilmpaa.Ev

theorem old_c (n : Nat) (c : C) : AV.old n (.c c) = .c (C.old n c) := by
  cases c with
  | d x => rfl
  | nil => rfl
  | gr t es => simp only [AV.old, C.old]; split <;> rfl
theorem all_in (m : List Nat) (lo : Nat) : (m.all fun x => !(decide (lo ≤ x) && decide (x < lo))) = true := by
  rw [List.all_eq_true]
  intro x _
  by_cases h : lo ≤ x
  · have : ¬ x < lo := by omega
    simp [this]
  · simp [h]
def holds (l : List Hld) (x : List Hld) : List Hld := x.foldl holdF l
theorem holds_succ (l x : List Hld) {i : Nat} (h : i < x.length) : holds l (x.take (i + 1)) = holdF (holds l (x.take i)) x[i] := by
  unfold holds
  rw [← List.take_append_getElem h, List.foldl_append]
  rfl
theorem holdF_len (l : List Hld) (x : Hld) : (holdF l x).length ≤ l.length + 1 := by
  unfold holdF
  split
  · omega
  · split
    · omega
    · rw [List.length_append, List.length_cons, List.length_nil]; omega
theorem holds_len (l x : List Hld) : (holds l x).length ≤ l.length + x.length := by
  unfold holds
  induction x generalizing l with
  | nil => simp
  | cons y x ih =>
    rw [List.foldl_cons, List.length_cons]
    have h1 := ih (holdF l y)
    have h2 := holdF_len l y
    omega

theorem law4_loop (l : List Hld) (x : Hld) (hl : l.length ≤ 100) : ∀ (n i : Nat) (c5 c6 : C), l.length - i = n → i ≤ l.length → c5.toD = D.sl ((holds [] (l.take i)).map Hld.enc) → c6.toD = D.sl ((holds [] (l.take i)).map Hld.enc) → C.old 3 c5 = c5 → C.old 3 c6 = c6 →
    ∃ (F' : Fr) (c5' c6' : C), loopR AA XX [0, 3, 5, 6, 7] 3 b4_0 (RUN AA XX b4_0 ⟨[(0, (AV.c (C.d (D.sl (l.map Hld.enc))))), (3, .ptr 0 0), (5, .c c5), (6, .c c6), (7, (AV.c (C.d (D.sc (Value.int IntKind.i64 (i))))))], [(0, .arr (x.enc.map C.d)), (1, .tok 0 0), (2, .tok 0 0)], 3⟩) = some (.exit 0, ⟨F', [(0, .arr (x.enc.map C.d)), (1, .tok 0 0), (2, .tok 0 0)], 3⟩) ∧
      F'.get 3 = .ptr 0 0 ∧ F'.get 5 = .c c5' ∧ F'.get 6 = .c c6' ∧ c5'.toD = D.sl ((holds [] l).map Hld.enc) ∧ c6'.toD = D.sl ((holds [] l).map Hld.enc) := by
  intro n
  induction n with
  | zero =>
    intro i c5 c6 hn hi h5 h6 o5 o6
    obtain rfl : i = l.length := by omega
    rw [List.take_length] at h5 h6
    rw [b4_0_run]
    simp only [go_sem, ↓reduceIte, Nat.reduceAdd, Nat.reduceSub, Nat.reduceMul, Nat.reduceEqDiff, Nat.reduceLT, Nat.reduceShiftRight, Nat.reduceAnd, Nat.reduceBNe, Nat.reduceLeDiff, Nat.reduceBEq, Nat.testBit, Nat.zero_lt_one, Int.reduceToNat, Int.reduceNeg, Int.reduceLE, Int.reduceLT, Int.reduceEq, decide_true, decide_false, Bool.and_true, Bool.true_and, Bool.and_false, Bool.false_and, Bool.or_true, Bool.true_or, Bool.or_false, Bool.false_or, Bool.not_true, Bool.not_false, beq_self_eq_true, reduceCtorEq, Int.le_refl, Nat.add_zero, and_self, and_true, true_and, or_true, true_or, if_true, if_false, Nat.le_refl, Bool.and_self, eq_self, Bool.not_false, Bool.not_true, Int.lt_irrefl]
    exact ⟨_, c5, c6, rfl, rfl, rfl, rfl, h5, h6⟩
  | succ n ih =>
    intro i c5 c6 hn hi h5 h6 o5 o6
    have hlt : i < l.length := by omega
    have hd := ltT hlt
    have hg := getm l Hld.enc hlt
    have hw := wrap_succ i (by omega)
    have hb := holds_len [] (l.take i)
    rw [List.length_take, List.length_nil] at hb
    have hlen : (holds [] (l.take i)).length < 2305843009213693952 := by omega
    have a1 := Hold36 (holds [] (l.take i)) l[i] hlen
    have a2 := Hold37 (holds [] (l.take i)) l[i] hlen
    rw [← holds_succ [] l hlt] at a1 a2
    obtain ⟨F', c5', c6', h⟩ := ih (i + 1) (.d (.sl ((holds [] (l.take (i + 1))).map Hld.enc))) (.d (.sl ((holds [] (l.take (i + 1))).map Hld.enc))) (by omega) (by omega) rfl rfl rfl rfl
    refine ⟨F', c5', c6', ?_, h.2⟩
    rw [← h.1]
    simp only [Hld.enc] at a1 a2
    rw [b4_0_run]
    simp only [go_sem, ↓reduceIte, Nat.reduceAdd, Nat.reduceSub, Nat.reduceMul, Nat.reduceEqDiff, Nat.reduceLT, Nat.reduceShiftRight, Nat.reduceAnd, Nat.reduceBNe, Nat.reduceLeDiff, Nat.reduceBEq, Nat.testBit, Nat.zero_lt_one, Int.reduceToNat, Int.reduceNeg, Int.reduceLE, Int.reduceLT, Int.reduceEq, decide_true, decide_false, Bool.and_true, Bool.true_and, Bool.and_false, Bool.false_and, Bool.or_true, Bool.true_or, Bool.or_false, Bool.false_or, Bool.not_true, Bool.not_false, beq_self_eq_true, reduceCtorEq, Int.le_refl, Nat.add_zero, and_self, and_true, true_and, or_true, true_or, if_true, if_false, Nat.le_refl, Bool.and_self, eq_self, Bool.not_false, Bool.not_true, hd, hg, Hld.enc, hw, a1, a2, h5, h6, old_c, o5, o6]
theorem law4 (l : List Hld) (x : Hld) (hl : l.length * 64 ≤ 140737488351232) (_ : True) : (KL AA XX).call 4 [(PV.one (D.sl (l.map Hld.enc))), .agg x.enc] = some [(PV.one (D.sc (Value.bool (true))))] := by
  rw [c4]
  by_cases h1 : 100 < l.length
  · have d1 : decide ((100 : Int) < (l.length : Int)) = true := by simp; omega
    simp only [go_sem, ↓reduceIte, Nat.reduceAdd, Nat.reduceSub, Nat.reduceMul, Nat.reduceEqDiff, Nat.reduceLT, Nat.reduceShiftRight, Nat.reduceAnd, Nat.reduceBNe, Nat.reduceLeDiff, Nat.reduceBEq, Nat.testBit, Nat.zero_lt_one, Int.reduceToNat, Int.reduceNeg, Int.reduceLE, Int.reduceLT, Int.reduceEq, decide_true, decide_false, Bool.and_true, Bool.true_and, Bool.and_false, Bool.false_and, Bool.or_true, Bool.true_or, Bool.or_false, Bool.false_or, Bool.not_true, Bool.not_false, beq_self_eq_true, reduceCtorEq, Int.le_refl, Nat.add_zero, and_self, and_true, true_and, or_true, true_or, if_true, if_false, Nat.le_refl, Bool.and_self, eq_self, Bool.not_false, Bool.not_true, d1, awake30, Hld.enc]
  have d1 : decide ((100 : Int) < (l.length : Int)) = false := by simp; omega
  obtain ⟨F', c5, c6, h, g3, g5, g6, t5, t6⟩ := law4_loop l x (by omega) _ 0 (.gr 1 []) (.gr 2 []) rfl (Nat.zero_le _) rfl rfl rfl rfl
  have hb := holds_len [] l
  rw [List.length_nil] at hb
  have a1 := Next38 (holds [] l) x.who.node x.id x.seq (by omega)
  have a2 := Next39 (holds [] l) x.who.node x.id x.seq (by omega)
  have b1 := Only41 (holds [] l) x.id (by omega)
  have b2 := Only42 (holds [] l) x.id (by omega)
  have e1 := SameH40 (holds [] l) (by omega)
  have n1 : (nextF (holds [] l) x.who.node x.id x.seq).2.1.length ≤ (holds [] l).length := by
    unfold nextF
    split
    · split
      · simp only [List.length_append, List.length_take, List.length_drop]; omega
      · exact Nat.le_refl _
    · exact Nat.le_refl _
  have e2 := SameH40 (nextF (holds [] l) x.who.node x.id x.seq).2.1 (by omega)
  have n2 : (onlyF (holds [] l) x.id).length ≤ (holds [] l).length := List.length_filter_le _ _
  have e3 := SameH40 (onlyF (holds [] l) x.id) (by omega)
  rw [show (((0 : Nat) : Int)) = 0 from rfl] at h
  simp only [Hld.enc, List.map_cons, List.map_nil] at h
  simp only [Vid.enc] at a1 a2 b1 b2
  simp only [go_sem, ↓reduceIte, Nat.reduceAdd, Nat.reduceSub, Nat.reduceMul, Nat.reduceEqDiff, Nat.reduceLT, Nat.reduceShiftRight, Nat.reduceAnd, Nat.reduceBNe, Nat.reduceLeDiff, Nat.reduceBEq, Nat.testBit, Nat.zero_lt_one, Int.reduceToNat, Int.reduceNeg, Int.reduceLE, Int.reduceLT, Int.reduceEq, decide_true, decide_false, Bool.and_true, Bool.true_and, Bool.and_false, Bool.false_and, Bool.or_true, Bool.true_or, Bool.or_false, Bool.false_or, Bool.not_true, Bool.not_false, beq_self_eq_true, reduceCtorEq, Int.le_refl, Nat.add_zero, and_self, and_true, true_and, or_true, true_or, if_true, if_false, Nat.le_refl, Bool.and_self, eq_self, Bool.not_false, Bool.not_true, d1, Hld.enc, h, g3, g5, g6, t5, t6, a1, a2, b1, b2, e1, e2, e3, awake30, all_in]
end Go.Proofs.Ytpanbfainilmpaa.Ev.S
