/- The law StreamAdds in the evaluator: it answers true. -/
import Derived.Test.YtpanbfainilmpaaEvF3
import Derived.Test.YtpanbfainilmpaaEvSA
set_option linter.unusedVariables false
set_option linter.unusedSimpArgs false
set_option maxRecDepth 100000
set_option maxHeartbeats 1000000
namespace Go.Proofs.Ytpanbfainilmpaa.Ev.S
open Go Go.Proofs.Ytpanbfainilmpaa.Ev

theorem addF_len (l : List Strm) (m : Mem) (t : ByteArray) : (addF l m t).length ≤ l.length + 1 := by
  unfold addF
  split
  · split
    · rw [List.length_set]; omega
    · omega
  · rw [List.length_append, List.length_cons, List.length_take, List.length_drop]; omega
theorem addF_texts (l : List Strm) (m : Mem) (t : ByteArray) (B : Nat) (h : ∀ s ∈ l, s.texts.length ≤ B) : ∀ s ∈ addF l m t, s.texts.length ≤ B + 1 := by
  intro s hs
  unfold addF at hs
  split at hs
  · rename_i k _
    split at hs
    · rename_i x hx
      rcases List.mem_or_eq_of_mem_set hs with hs | rfl
      · exact Nat.le_succ_of_le (h s hs)
      · have := h x (List.mem_of_getElem? hx)
        simp only [List.length_append, List.length_cons, List.length_nil]; omega
    · exact Nat.le_succ_of_le (h s hs)
  · rcases List.mem_append.1 hs with hs | hs
    · exact Nat.le_succ_of_le (h s (List.mem_of_mem_take hs))
    · rcases List.mem_cons.1 hs with rfl | hs
      · simp
      · exact Nat.le_succ_of_le (h s (List.mem_of_mem_drop hs))
def adds (l : List Strm) (t : List Txt) : List Strm := t.foldl (fun a x => addF a x.who x.text) l
theorem adds_succ (l : List Strm) (t : List Txt) {i : Nat} (h : i < t.length) : adds l (t.take (i + 1)) = addF (adds l (t.take i)) t[i].who t[i].text := by
  unfold adds
  rw [← List.take_append_getElem h, List.foldl_append]
  rfl
theorem adds_len (l : List Strm) (t : List Txt) : (adds l t).length ≤ l.length + t.length := by
  unfold adds
  induction t generalizing l with
  | nil => simp
  | cons x t ih =>
    rw [List.foldl_cons, List.length_cons]
    have h1 := ih (addF l x.who x.text)
    have h2 := addF_len l x.who x.text
    omega
theorem adds_texts (l : List Strm) (t : List Txt) (B : Nat) (h : ∀ s ∈ l, s.texts.length ≤ B) : ∀ s ∈ adds l t, s.texts.length ≤ B + t.length := by
  unfold adds
  induction t generalizing l B with
  | nil => simpa using h
  | cons x t ih =>
    rw [List.foldl_cons, List.length_cons]
    have := ih (addF l x.who x.text) (B + 1) (addF_texts l _ _ B h)
    intro s hs
    have := this s hs
    omega

theorem law3 (l : List Strm) (t : List Txt) (hl : l.length * 40 ≤ 140737488351232 ∧ ∀ s ∈ l, s.texts.length * 16 ≤ 140737488351232) (ht : t.length * 32 ≤ 140737488351232) : (KL AA XX).call 3 [(PV.one (D.sl (l.map Strm.enc))), (PV.one (D.sl (t.map Txt.enc)))] = some [(PV.one (D.sc (Value.bool (true))))] := by
  obtain ⟨hl1, hl2⟩ := hl
  rw [c3]
  by_cases h1 : 30 < l.length
  · have d1 : decide ((30 : Int) < (l.length : Int)) = true := by simp; omega
    simp only [go_sem, ↓reduceIte, Nat.reduceAdd, Nat.reduceSub, Nat.reduceMul, Nat.reduceEqDiff, Nat.reduceLT, Nat.reduceShiftRight, Nat.reduceAnd, Nat.reduceBNe, Nat.reduceLeDiff, Nat.reduceBEq, Nat.testBit, Nat.zero_lt_one, Int.reduceToNat, Int.reduceNeg, Int.reduceLE, Int.reduceLT, Int.reduceEq, decide_true, decide_false, Bool.and_true, Bool.true_and, Bool.and_false, Bool.false_and, Bool.or_true, Bool.true_or, Bool.or_false, Bool.false_or, Bool.not_true, Bool.not_false, beq_self_eq_true, reduceCtorEq, Int.le_refl, Nat.add_zero, and_self, and_true, true_and, or_true, true_or, if_true, if_false, Nat.le_refl, Bool.and_self, eq_self, Bool.not_false, Bool.not_true, d1, awake30]
  have d1 : decide ((30 : Int) < (l.length : Int)) = false := by simp; omega
  by_cases h2 : 100 < t.length
  · have d2 : decide ((100 : Int) < (t.length : Int)) = true := by simp; omega
    simp only [go_sem, ↓reduceIte, Nat.reduceAdd, Nat.reduceSub, Nat.reduceMul, Nat.reduceEqDiff, Nat.reduceLT, Nat.reduceShiftRight, Nat.reduceAnd, Nat.reduceBNe, Nat.reduceLeDiff, Nat.reduceBEq, Nat.testBit, Nat.zero_lt_one, Int.reduceToNat, Int.reduceNeg, Int.reduceLE, Int.reduceLT, Int.reduceEq, decide_true, decide_false, Bool.and_true, Bool.true_and, Bool.and_false, Bool.false_and, Bool.or_true, Bool.true_or, Bool.or_false, Bool.false_or, Bool.not_true, Bool.not_false, beq_self_eq_true, reduceCtorEq, Int.le_refl, Nat.add_zero, and_self, and_true, true_and, or_true, true_or, if_true, if_false, Nat.le_refl, Bool.and_self, eq_self, Bool.not_false, Bool.not_true, d1, d2, awake30]
  have d2 : decide ((100 : Int) < (t.length : Int)) = false := by simp; omega
  have := iter (F := fun (i : Nat) => loopR AA XX [1, 5, 6, 7] 0 b3_0 (RUN AA XX b3_0 ⟨[(1, (AV.c (C.d (D.sl (t.map Txt.enc))))), (5, (AV.c (C.d (D.sl ((adds l (t.take i)).map Strm.enc))))), (6, (AV.c (C.d (D.sl ((adds l (t.take i)).map Strm.enc))))), (7, (AV.c (C.d (D.sc (Value.int IntKind.i64 (i))))))], [], 0⟩)) (Nat.zero_le t.length) fun i _ hi => by
    have hlt := ltT hi
    have hg := getm t Txt.enc hi
    have hw := wrap_succ i (by omega)
    have hs := adds_succ l t hi
    have b1 := adds_len l (t.take i)
    have b2 := adds_len l (t.take (i + 1))
    have b3 := adds_texts l (t.take i) 8796093021952 (fun s hs => by have := hl2 s hs; omega)
    have b4 := adds_texts l (t.take (i + 1)) 8796093021952 (fun s hs => by have := hl2 s hs; omega)
    rw [List.length_take] at b1 b2 b3 b4
    have a1 := Add31 (adds l (t.take i)) t[i].who t[i].text (by omega) (fun s hs => by have := b3 s hs; omega)
    have a2 := Add32 (adds l (t.take i)) t[i].who t[i].text (by omega) (fun s hs => by have := b3 s hs; omega)
    rw [← hs] at a1 a2
    have a3 := Same33 (adds l (t.take (i + 1))) (by omega) (fun s hs => by have := b4 s hs; omega)
    have a4 := Count34 (adds l (t.take (i + 1))) t[i].who (by omega)
    have a5 := Count35 (adds l (t.take (i + 1))) t[i].who (by omega)
    simp only [Mem.enc] at a1 a2 a4 a5
    show loopR _ _ _ _ _ (RUN _ _ _ _) = _
    rw [b3_0_run]
    simp only [go_sem, ↓reduceIte, Nat.reduceAdd, Nat.reduceSub, Nat.reduceMul, Nat.reduceEqDiff, Nat.reduceLT, Nat.reduceShiftRight, Nat.reduceAnd, Nat.reduceBNe, Nat.reduceLeDiff, Nat.reduceBEq, Nat.testBit, Nat.zero_lt_one, Int.reduceToNat, Int.reduceNeg, Int.reduceLE, Int.reduceLT, Int.reduceEq, decide_true, decide_false, Bool.and_true, Bool.true_and, Bool.and_false, Bool.false_and, Bool.or_true, Bool.true_or, Bool.or_false, Bool.false_or, Bool.not_true, Bool.not_false, beq_self_eq_true, reduceCtorEq, Int.le_refl, Nat.add_zero, and_self, and_true, true_and, or_true, true_or, if_true, if_false, Nat.le_refl, Bool.and_self, eq_self, Bool.not_false, Bool.not_true, hlt, hg, hw, Txt.enc, a1, a2, a3, a4, a5]
  rw [show (((0 : Nat) : Int)) = 0 from rfl, List.take_zero] at this
  rw [show adds l [] = l from rfl] at this
  simp only [go_sem, ↓reduceIte, Nat.reduceAdd, Nat.reduceSub, Nat.reduceMul, Nat.reduceEqDiff, Nat.reduceLT, Nat.reduceShiftRight, Nat.reduceAnd, Nat.reduceBNe, Nat.reduceLeDiff, Nat.reduceBEq, Nat.testBit, Nat.zero_lt_one, Int.reduceToNat, Int.reduceNeg, Int.reduceLE, Int.reduceLT, Int.reduceEq, decide_true, decide_false, Bool.and_true, Bool.true_and, Bool.and_false, Bool.false_and, Bool.or_true, Bool.true_or, Bool.or_false, Bool.false_or, Bool.not_true, Bool.not_false, beq_self_eq_true, reduceCtorEq, Int.le_refl, Nat.add_zero, and_self, and_true, true_and, or_true, true_or, if_true, if_false, Nat.le_refl, Bool.and_self, eq_self, Bool.not_false, Bool.not_true, d1, d2]
  rw [this, b3_0_run]
  simp only [go_sem, ↓reduceIte, Nat.reduceAdd, Nat.reduceSub, Nat.reduceMul, Nat.reduceEqDiff, Nat.reduceLT, Nat.reduceShiftRight, Nat.reduceAnd, Nat.reduceBNe, Nat.reduceLeDiff, Nat.reduceBEq, Nat.testBit, Nat.zero_lt_one, Int.reduceToNat, Int.reduceNeg, Int.reduceLE, Int.reduceLT, Int.reduceEq, decide_true, decide_false, Bool.and_true, Bool.true_and, Bool.and_false, Bool.false_and, Bool.or_true, Bool.true_or, Bool.or_false, Bool.false_or, Bool.not_true, Bool.not_false, beq_self_eq_true, reduceCtorEq, Int.le_refl, Nat.add_zero, and_self, and_true, true_and, or_true, true_or, if_true, if_false, Nat.le_refl, Bool.and_self, eq_self, Bool.not_false, Bool.not_true, Int.lt_irrefl, awake30]
end Go.Proofs.Ytpanbfainilmpaa.Ev.S
