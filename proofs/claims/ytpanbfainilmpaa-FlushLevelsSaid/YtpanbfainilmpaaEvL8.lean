/- The law FlushUnites in the evaluator: it answers true. -/
import Derived.Test.YtpanbfainilmpaaEvF5
set_option linter.unusedVariables false
set_option linter.unusedSimpArgs false
set_option maxRecDepth 100000
set_option maxHeartbeats 1000000
namespace Go.Proofs.Ytpanbfainilmpaa.Ev.S
open Go Go.Proofs.Ytpanbfainilmpaa.Ev

theorem all_small {l : List Flu} (h : ∀ f ∈ l, Small f.streams) : alltexts l ≤ l.length * 200 := by
  induction l with
  | nil => exact Nat.le_refl _
  | cons f l ih =>
    have h1 := ih fun x hx => h x (by simp [hx])
    have h2 := small_total (h f (by simp))
    simp only [alltexts, List.map_cons, List.sum_cons, List.length_cons] at h1 ⊢
    omega
theorem small_ex (f : Flu) (hf : f.streams.length * 40 ≤ 140737488351232 ∧ ∀ s ∈ f.streams, s.texts.length * 16 ≤ 140737488351232) : ∃ b, (KL AA XX).call 44 [(PV.one (D.sl (f.streams.map Strm.enc)))] = some [(PV.one (D.sc (Value.bool (b))))] ∧ (b = true → Small f.streams) :=
  Small44 f.streams (by omega) (fun s hs => by have := hf.2 s hs; omega)
def Small1 (f : Flu) : Prop := (KL AA XX).call 44 [(PV.one (D.sl (f.streams.map Strm.enc)))] = some [(PV.one (D.sc (Value.bool (true))))]
/-- Either some one tells too much, or all tell little. -/
theorem first_or (l : List Flu) : (∃ k, ∃ hk : k < l.length, ¬ Small1 l[k] ∧ ∀ j (hj : j < k), Small1 (l[j]'(by omega))) ∨ ∀ j (hj : j < l.length), Small1 l[j] := by
  induction l with
  | nil => exact .inr fun j hj => by simp at hj
  | cons f l ih =>
    by_cases hf : Small1 f
    · rcases ih with ⟨k, hk, h1, h2⟩ | h
      · refine .inl ⟨k + 1, by simpa using hk, by simpa using h1, fun j hj => ?_⟩
        cases j with
        | zero => exact hf
        | succ j => simpa using h2 j (by omega)
      · refine .inr fun j hj => ?_
        cases j with
        | zero => exact hf
        | succ j => simpa using h j (by simpa using hj)
    · exact .inl ⟨0, by simp, hf, fun j hj => by omega⟩
theorem law8 (l : List Flu) (old : Vid) (hl : l.length * 120 ≤ 140737488351232 ∧ ∀ f ∈ l, f.streams.length * 40 ≤ 140737488351232 ∧ ∀ s ∈ f.streams, s.texts.length * 16 ≤ 140737488351232) (_ : True) :
    (KL AA XX).call 8 [(PV.one (D.sl (l.map Flu.enc))), .agg old.enc] = some [(PV.one (D.sc (Value.bool (true))))] := by
  obtain ⟨hl1, hl2⟩ := hl
  rw [c8]
  have go : ∀ k, k ≤ l.length → (∀ j (hj : j < k) (hl : j < l.length), Small1 l[j]) → loopR AA XX [0, 3, 5] 1 b8_0 (RUN AA XX b8_0 ⟨[(0, (AV.c (C.d (D.sl (l.map Flu.enc))))), (3, .ptr 0 0), (5, (AV.c (C.d (D.sc (Value.int IntKind.i64 (0))))))], [(0, .arr [(C.d (D.sc (Value.int IntKind.i64 (old.c)))), (C.d (D.sc (Value.int IntKind.i64 (old.n)))), (C.d (D.sc (Value.int IntKind.i64 (old.i))))])], 1⟩) = loopR AA XX [0, 3, 5] 1 b8_0 (RUN AA XX b8_0 ⟨[(0, (AV.c (C.d (D.sl (l.map Flu.enc))))), (3, .ptr 0 0), (5, (AV.c (C.d (D.sc (Value.int IntKind.i64 (k))))))], [(0, .arr [(C.d (D.sc (Value.int IntKind.i64 (old.c)))), (C.d (D.sc (Value.int IntKind.i64 (old.n)))), (C.d (D.sc (Value.int IntKind.i64 (old.i))))])], 1⟩) := by
    intro k hk hs
    have := iter (F := fun (i : Nat) => loopR AA XX [0, 3, 5] 1 b8_0 (RUN AA XX b8_0 ⟨[(0, (AV.c (C.d (D.sl (l.map Flu.enc))))), (3, .ptr 0 0), (5, (AV.c (C.d (D.sc (Value.int IntKind.i64 (i))))))], [(0, .arr [(C.d (D.sc (Value.int IntKind.i64 (old.c)))), (C.d (D.sc (Value.int IntKind.i64 (old.n)))), (C.d (D.sc (Value.int IntKind.i64 (old.i))))])], 1⟩)) (Nat.zero_le k) fun i _ hik => by
      have hi : i < l.length := by omega
      have hlt := ltT hi
      have hg := getFl l hi
      have hw := wrap_succ i (by omega)
      have a1 := hs i hik hi
      unfold Small1 at a1
      show loopR _ _ _ _ _ (RUN _ _ _ _) = _
      rw [b8_0_run]
      simp only [go_sem, ↓reduceIte, Nat.reduceAdd, Nat.reduceSub, Nat.reduceMul, Nat.reduceEqDiff, Nat.reduceLT, Nat.reduceShiftRight, Nat.reduceAnd, Nat.reduceBNe, Nat.reduceLeDiff, Nat.reduceBEq, Nat.testBit, Nat.zero_lt_one, Int.reduceToNat, Int.reduceNeg, Int.reduceLE, Int.reduceLT, Int.reduceEq, decide_true, decide_false, Bool.and_true, Bool.true_and, Bool.and_false, Bool.false_and, Bool.or_true, Bool.true_or, Bool.or_false, Bool.false_or, Bool.not_true, Bool.not_false, beq_self_eq_true, reduceCtorEq, Int.le_refl, Nat.add_zero, and_self, and_true, true_and, or_true, true_or, if_true, if_false, Nat.le_refl, Bool.and_self, eq_self, Bool.not_false, Bool.not_true, hlt, hg, Flu.enc, hw, a1]
    exact this
  simp only [go_sem, ↓reduceIte, Nat.reduceAdd, Nat.reduceSub, Nat.reduceMul, Nat.reduceEqDiff, Nat.reduceLT, Nat.reduceShiftRight, Nat.reduceAnd, Nat.reduceBNe, Nat.reduceLeDiff, Nat.reduceBEq, Nat.testBit, Nat.zero_lt_one, Int.reduceToNat, Int.reduceNeg, Int.reduceLE, Int.reduceLT, Int.reduceEq, decide_true, decide_false, Bool.and_true, Bool.true_and, Bool.and_false, Bool.false_and, Bool.or_true, Bool.true_or, Bool.or_false, Bool.false_or, Bool.not_true, Bool.not_false, beq_self_eq_true, reduceCtorEq, Int.le_refl, Nat.add_zero, and_self, and_true, true_and, or_true, true_or, if_true, if_false, Nat.le_refl, Bool.and_self, eq_self, Bool.not_false, Bool.not_true, Vid.enc]
  rcases first_or l with ⟨k, hk, h1, h2⟩ | h
  · have hlt := ltT hk
    have hg := getFl l hk
    obtain ⟨b, e, _⟩ := small_ex l[k] (hl2 _ (List.getElem_mem hk))
    have hb : b = false := by
      cases b with
      | false => rfl
      | true => exact absurd e h1
    rw [hb] at e
    rw [go k (Nat.le_of_lt hk) (fun j hj _ => h2 j hj), b8_0_run]
    simp only [go_sem, ↓reduceIte, Nat.reduceAdd, Nat.reduceSub, Nat.reduceMul, Nat.reduceEqDiff, Nat.reduceLT, Nat.reduceShiftRight, Nat.reduceAnd, Nat.reduceBNe, Nat.reduceLeDiff, Nat.reduceBEq, Nat.testBit, Nat.zero_lt_one, Int.reduceToNat, Int.reduceNeg, Int.reduceLE, Int.reduceLT, Int.reduceEq, decide_true, decide_false, Bool.and_true, Bool.true_and, Bool.and_false, Bool.false_and, Bool.or_true, Bool.true_or, Bool.or_false, Bool.false_or, Bool.not_true, Bool.not_false, beq_self_eq_true, reduceCtorEq, Int.le_refl, Nat.add_zero, and_self, and_true, true_and, or_true, true_or, if_true, if_false, Nat.le_refl, Bool.and_self, eq_self, Bool.not_false, Bool.not_true, hlt, hg, Flu.enc, e, awake45]
  · rw [go l.length (Nat.le_refl _) (fun j _ hj => h j hj), b8_0_run]
    by_cases h10 : 10 < l.length
    · have d1 : decide ((10 : Int) < (l.length : Int)) = true := by simp; omega
      simp only [go_sem, ↓reduceIte, Nat.reduceAdd, Nat.reduceSub, Nat.reduceMul, Nat.reduceEqDiff, Nat.reduceLT, Nat.reduceShiftRight, Nat.reduceAnd, Nat.reduceBNe, Nat.reduceLeDiff, Nat.reduceBEq, Nat.testBit, Nat.zero_lt_one, Int.reduceToNat, Int.reduceNeg, Int.reduceLE, Int.reduceLT, Int.reduceEq, decide_true, decide_false, Bool.and_true, Bool.true_and, Bool.and_false, Bool.false_and, Bool.or_true, Bool.true_or, Bool.or_false, Bool.false_or, Bool.not_true, Bool.not_false, beq_self_eq_true, reduceCtorEq, Int.le_refl, Nat.add_zero, and_self, and_true, true_and, or_true, true_or, if_true, if_false, Nat.le_refl, Bool.and_self, eq_self, Bool.not_false, Bool.not_true, Int.lt_irrefl, d1, awake45]
    · have d1 : decide ((10 : Int) < (l.length : Int)) = false := by simp; omega
      have hsm : ∀ f ∈ l, Small f.streams := by
        intro f hf
        obtain ⟨j, hj, rfl⟩ := List.mem_iff_getElem.1 hf
        obtain ⟨b, e, hb⟩ := small_ex l[j] (hl2 _ hf)
        have := h j hj
        unfold Small1 at this
        rw [e] at this
        simp only [Option.some.injEq, List.cons.injEq, PV.one.injEq, D.sc.injEq, Value.bool.injEq, and_true] at this
        exact hb this
      have hat := all_small hsm
      have u1 := Union46 l old (by omega) (fun f hf => by have := (hsm f hf).len; omega) (by omega)
      have u2 := Union47 l old (by omega) (fun f hf => by have := (hsm f hf).len; omega) (by omega)
      have hbd := Bd.union (l := l) old
      have s1 := Same33 (unionF l old) (by have := hbd.1; omega) (fun s hs => by have := hbd.2 s hs; omega)
      simp only [Vid.enc] at u1 u2
      simp only [go_sem, ↓reduceIte, Nat.reduceAdd, Nat.reduceSub, Nat.reduceMul, Nat.reduceEqDiff, Nat.reduceLT, Nat.reduceShiftRight, Nat.reduceAnd, Nat.reduceBNe, Nat.reduceLeDiff, Nat.reduceBEq, Nat.testBit, Nat.zero_lt_one, Int.reduceToNat, Int.reduceNeg, Int.reduceLE, Int.reduceLT, Int.reduceEq, decide_true, decide_false, Bool.and_true, Bool.true_and, Bool.and_false, Bool.false_and, Bool.or_true, Bool.true_or, Bool.or_false, Bool.false_or, Bool.not_true, Bool.not_false, beq_self_eq_true, reduceCtorEq, Int.le_refl, Nat.add_zero, and_self, and_true, true_and, or_true, true_or, if_true, if_false, Nat.le_refl, Bool.and_self, eq_self, Bool.not_false, Bool.not_true, Int.lt_irrefl, d1, awake45, u1, u2, s1]
end Go.Proofs.Ytpanbfainilmpaa.Ev.S
