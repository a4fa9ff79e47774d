/- The law TraceParts in the evaluator: it answers true. -/
import Derived.Test.YtpanbfainilmpaaEvF6
import Derived.Test.YtpanbfainilmpaaEvL5
set_option linter.unusedVariables false
set_option linter.unusedSimpArgs false
set_option maxRecDepth 100000
set_option maxHeartbeats 2000000
namespace Go.Proofs.Ytpanbfainilmpaa.Ev.S
open Go Go.Proofs.Ytpanbfainilmpaa.Ev

theorem mb2_mem {o : List Mem} {e : Evt} {x : Mem} : x ∈ mb2 o e ↔ x ∈ o ∨ x = e.who := by
  unfold mb2
  split
  · rename_i h
    rw [List.any_eq_true] at h
    obtain ⟨y, hy, hs⟩ := h
    rw [sM_iff] at hs
    constructor
    · exact .inl
    · rintro (h | rfl)
      · exact h
      · exact hs ▸ hy
  · simp
theorem mb2_nodup {o : List Mem} (h : o.Nodup) (e : Evt) : (mb2 o e).Nodup := by
  unfold mb2
  split
  · exact h
  · rename_i hn
    rw [List.nodup_append]
    refine ⟨h, by simp, fun a ha b hb => ?_⟩
    rcases List.mem_singleton.1 hb with rfl
    rintro rfl
    apply hn
    rw [List.any_eq_true]
    exact ⟨_, ha, sM_self _⟩
theorem members_nodup (l : List Evt) : (membersF l).Nodup := by
  have : ∀ (l : List Evt) (o : List Mem), o.Nodup → (l.foldl mb2 o).Nodup := by
    intro l
    induction l with
    | nil => intro o h; exact h
    | cons e l ih => intro o h; exact ih _ (mb2_nodup h e)
  exact this l [] List.nodup_nil
theorem members_mem (l : List Evt) (x : Mem) : x ∈ membersF l ↔ ∃ e ∈ l, e.who = x := by
  have : ∀ (l : List Evt) (o : List Mem), x ∈ l.foldl mb2 o ↔ x ∈ o ∨ ∃ e ∈ l, e.who = x := by
    intro l
    induction l with
    | nil => intro o; simp
    | cons e l ih =>
      intro o
      rw [List.foldl_cons, ih, mb2_mem]
      constructor
      · rintro ((h | h) | ⟨y, hy, hw⟩)
        · exact .inl h
        · exact .inr ⟨e, by simp, h.symm⟩
        · exact .inr ⟨y, by simp [hy], hw⟩
      · rintro (h | ⟨y, hy, hw⟩)
        · exact .inl (.inl h)
        · rcases List.mem_cons.1 hy with rfl | hy
          · exact .inl (.inr hw.symm)
          · exact .inr ⟨y, hy, hw⟩
  have := this l []
  rw [show membersF l = l.foldl mb2 [] from rfl, this]
  simp
def parts (l : List Evt) (ms : List Mem) : Nat := (ms.map fun m => (ofF l m).length).sum
theorem parts_cons (e : Evt) (l : List Evt) (ms : List Mem) : parts (e :: l) ms = parts l ms + (ms.filter fun m => sM e.who m).length := by
  unfold parts
  induction ms with
  | nil => rfl
  | cons m ms ih =>
    rw [List.map_cons, List.sum_cons, ih, List.map_cons, List.sum_cons, List.filter_cons]
    have : (ofF (e :: l) m).length = (ofF l m).length + (if sM e.who m = true then 1 else 0) := by
      unfold ofF
      rw [List.filter_cons]
      split <;> simp
    rw [this]
    split <;> simp <;> omega
theorem one_mem {ms : List Mem} (hn : ms.Nodup) {w : Mem} (hw : w ∈ ms) : (ms.filter fun m => sM w m).length = 1 := by
  induction ms with
  | nil => simp at hw
  | cons m ms ih =>
    rw [List.nodup_cons] at hn
    rw [List.filter_cons]
    by_cases h : sM w m = true
    · rw [if_pos h]
      have hm := sM_iff.1 h
      have : ms.filter (fun m => sM w m) = [] := by
        rw [List.filter_eq_nil_iff]
        intro x hx hs
        rw [sM_iff] at hs
        exact hn.1 (hm ▸ hs ▸ hx)
      rw [this]; rfl
    · rw [if_neg h]
      rcases List.mem_cons.1 hw with rfl | hw
      · exact absurd (sM_self _) h
      · exact ih hn.2 hw
theorem parts_all (l : List Evt) (ms : List Mem) (hn : ms.Nodup) (h : ∀ e ∈ l, e.who ∈ ms) : parts l ms = l.length := by
  induction l with
  | nil =>
    unfold parts
    have : ∀ ms : List Mem, (ms.map fun m => (ofF [] m).length).sum = 0 := by
      intro ms
      induction ms with
      | nil => rfl
      | cons m ms ih => simpa [ofF] using ih
    exact this ms
  | cons e l ih =>
    rw [parts_cons, ih (fun x hx => h x (by simp [hx])), one_mem hn (h e (by simp)), List.length_cons]
theorem of_get (l : List Evt) (m : Mem) {j : Nat} (hj : j < l.length) (hw : sM l[j].who m = true) : (ofF l m)[(ofF (l.take j) m).length]? = some l[j] := by
  have e : ofF l m = ofF (l.take j) m ++ (l[j] :: ofF (l.drop (j + 1)) m) := by
    have : l = l.take j ++ l[j] :: l.drop (j + 1) := by rw [← List.drop_eq_getElem_cons hj, List.take_append_drop]
    conv => lhs; rw [this]
    unfold ofF
    rw [List.filter_append, List.filter_cons, if_pos hw]
  rw [e, List.getElem?_append_right (Nat.le_refl _), Nat.sub_self]
  rfl
theorem slice1 {α : Type} (l : List α) (en : α → List D) {k : Nat} {x : α} (h : l[k]? = some x) : ((l.map en).take (k + 1)).drop k = [en x] := by
  have hk : k < l.length := (List.getElem?_eq_some_iff.1 h).1
  have hx : l[k] = x := by rw [List.getElem?_eq_getElem hk] at h; exact Option.some.inj h
  rw [← List.take_append_getElem (by simpa using hk), List.drop_left' (by rw [List.length_take, List.length_map]; omega), List.getElem_map, hx]
theorem all14 (l : List Evt) : ((l.map Evt.enc).all fun e => e.length == 14) = true := by simp [Evt.enc]
theorem all2 (l : List Mem) : ((l.map Mem.enc).all fun e => e.length == 2) = true := by simp [Mem.enc]

theorem law20_in (l : List Evt) (ms : List Mem) (i n : Nat) (hi : i < ms.length) (hl : l.length ≤ 60) (hb : ∀ e ∈ l, e.view.mems.length ≤ 10 ∧ e.tree.length ≤ 40) : ∃ F', blockR 2 (loopR AA XX [0, 3, 4, 5, 6, 7, 8] 0 b20_1 (RUN AA XX b20_1
      ⟨[(0, (AV.c (C.d (D.sl (l.map Evt.enc))))), (3, (AV.c (C.d (D.sl (ms.map Mem.enc))))), (4, (AV.c (C.d (D.sc (Value.int IntKind.i64 (n)))))), (5, (AV.c (C.d (D.sc (Value.int IntKind.i64 (i)))))), (6, (AV.c (C.d (D.sl ((ofF l ms[i]).map Evt.enc))))), (7, (AV.c (C.d (D.sc (Value.int IntKind.i64 (0)))))), (8, (AV.c (C.d (D.sc (Value.int IntKind.i64 (0))))))], [], 0⟩)) = some (.norm, ⟨F', [], 0⟩) ∧
      F'.get 0 = (AV.c (C.d (D.sl (l.map Evt.enc)))) ∧ F'.get 3 = (AV.c (C.d (D.sl (ms.map Mem.enc)))) ∧ F'.get 4 = (AV.c (C.d (D.sc (Value.int IntKind.i64 (n))))) ∧ F'.get 5 = (AV.c (C.d (D.sc (Value.int IntKind.i64 (i))))) ∧ F'.get 6 = (AV.c (C.d (D.sl ((ofF l ms[i]).map Evt.enc)))) ∧ F'.get 7 = (AV.c (C.d (D.sc (Value.int IntKind.i64 ((ofF l ms[i]).length))))) := by
  have hg := getm ms Mem.enc hi
  have := iter (F := fun (j : Nat) => loopR AA XX [0, 3, 4, 5, 6, 7, 8] 0 b20_1 (RUN AA XX b20_1
      ⟨[(0, (AV.c (C.d (D.sl (l.map Evt.enc))))), (3, (AV.c (C.d (D.sl (ms.map Mem.enc))))), (4, (AV.c (C.d (D.sc (Value.int IntKind.i64 (n)))))), (5, (AV.c (C.d (D.sc (Value.int IntKind.i64 (i)))))), (6, (AV.c (C.d (D.sl ((ofF l ms[i]).map Evt.enc))))), (7, (AV.c (C.d (D.sc (Value.int IntKind.i64 ((ofF (l.take j) ms[i]).length)))))), (8, (AV.c (C.d (D.sc (Value.int IntKind.i64 (j))))))], [], 0⟩)) (Nat.zero_le l.length) fun j _ hj => by
    have hd := ltT hj
    have hg2 := getm l Evt.enc hj
    have hw := wrap_succ j (by omega)
    have hft := filter_take (fun e => sM e.who ms[i]) hj
    have hle : (ofF (l.take j) ms[i]).length ≤ j := Nat.le_trans (List.length_filter_le _ _) (by rw [List.length_take]; omega)
    have hw2 := wrap_succ (ofF (l.take j) ms[i]).length (by omega)
    show loopR _ _ _ _ _ (RUN _ _ _ _) = _
    rw [b20_1_run]
    cases e : sM l[j].who ms[i] with
    | false =>
      have hk : (ofF (l.take (j + 1)) ms[i]).length = (ofF (l.take j) ms[i]).length := by
        unfold ofF; rw [hft, e]; simp
      simp only [sM] at e
      simp only [go_sem, ↓reduceIte, Nat.reduceAdd, Nat.reduceSub, Nat.reduceMul, Nat.reduceEqDiff, Nat.reduceLT, Nat.reduceShiftRight, Nat.reduceAnd, Nat.reduceBNe, Nat.reduceLeDiff, Nat.reduceBEq, Nat.testBit, Nat.zero_lt_one, Int.reduceToNat, Int.reduceNeg, Int.reduceLE, Int.reduceLT, Int.reduceEq, decide_true, decide_false, Bool.and_true, Bool.true_and, Bool.and_false, Bool.false_and, Bool.or_true, Bool.true_or, Bool.or_false, Bool.false_or, Bool.not_true, Bool.not_false, beq_self_eq_true, reduceCtorEq, and_self, and_true, true_and, or_true, true_or, if_true, if_false, Nat.le_refl, Bool.and_self, eq_self, Bool.not_false, Bool.not_true, hd, hg, hg2, Evt.enc, Mem.enc, hw, e, hk]
    | true =>
      have hk : (ofF (l.take (j + 1)) ms[i]).length = (ofF (l.take j) ms[i]).length + 1 := by
        unfold ofF; rw [hft, e]; simp
      have hget := of_get l ms[i] hj e
      have hlt : (ofF (l.take j) ms[i]).length < (ofF l ms[i]).length := (List.getElem?_eq_some_iff.1 hget).1
      have hd2 : decide (((ofF l ms[i]).length : Int) ≤ ((ofF (l.take j) ms[i]).length : Int)) = false := by simp; omega
      have s1 := slice1 (ofF l ms[i]) Evt.enc hget
      have s2 := slice1 l Evt.enc (List.getElem?_eq_getElem hj)
      have a1 := Same79 [l[j]] (by simp) (fun x hx => by rcases List.mem_singleton.1 hx with rfl; have := hb _ (List.getElem_mem hj); omega)
      simp only [List.map_cons, List.map_nil] at a1
      have q1 : (((ofF (l.take j) ms[i]).length : Int) ≤ (((ofF (l.take j) ms[i]).length + 1 : Nat) : Int)) = True := eq_true (by omega)
      have q2 : ((((ofF (l.take j) ms[i]).length + 1 : Nat) : Int) ≤ ((ofF l ms[i]).length : Int)) = True := eq_true (by omega)
      have q3 : ((j : Int) ≤ ((j + 1 : Nat) : Int)) = True := eq_true (by omega)
      have q4 : (((j + 1 : Nat) : Int) ≤ (l.length : Int)) = True := eq_true (by omega)
      simp only [sM] at e
      simp only [Evt.enc] at a1 s1 s2
      simp only [go_sem, ↓reduceIte, Nat.reduceAdd, Nat.reduceSub, Nat.reduceMul, Nat.reduceEqDiff, Nat.reduceLT, Nat.reduceShiftRight, Nat.reduceAnd, Nat.reduceBNe, Nat.reduceLeDiff, Nat.reduceBEq, Nat.testBit, Nat.zero_lt_one, Int.reduceToNat, Int.reduceNeg, Int.reduceLE, Int.reduceLT, Int.reduceEq, decide_true, decide_false, Bool.and_true, Bool.true_and, Bool.and_false, Bool.false_and, Bool.or_true, Bool.true_or, Bool.or_false, Bool.false_or, Bool.not_true, Bool.not_false, beq_self_eq_true, reduceCtorEq, and_self, and_true, true_and, or_true, true_or, if_true, if_false, Nat.le_refl, Bool.and_self, eq_self, Bool.not_false, Bool.not_true, hd, hd2, hg, hg2, Evt.enc, Mem.enc, hw, hw2, e, hk, q1, q2, q3, q4, all14, s1, s2, a1]
  rw [List.take_zero, show (ofF [] ms[i]).length = 0 from rfl, show (((0 : Nat) : Int)) = 0 from rfl, List.take_length] at this
  rw [this, b20_1_run]
  simp only [go_sem, ↓reduceIte, Nat.reduceAdd, Nat.reduceSub, Nat.reduceMul, Nat.reduceEqDiff, Nat.reduceLT, Nat.reduceShiftRight, Nat.reduceAnd, Nat.reduceBNe, Nat.reduceLeDiff, Nat.reduceBEq, Nat.testBit, Nat.zero_lt_one, Int.reduceToNat, Int.reduceNeg, Int.reduceLE, Int.reduceLT, Int.reduceEq, decide_true, decide_false, Bool.and_true, Bool.true_and, Bool.and_false, Bool.false_and, Bool.or_true, Bool.true_or, Bool.or_false, Bool.false_or, Bool.not_true, Bool.not_false, beq_self_eq_true, reduceCtorEq, and_self, and_true, true_and, or_true, true_or, if_true, if_false, Nat.le_refl, Bool.and_self, eq_self, Bool.not_false, Bool.not_true, Int.lt_irrefl]
  exact ⟨_, rfl, rfl, rfl, rfl, rfl, rfl, rfl⟩
theorem law20 (l : List Evt) (hl : l.length * 160 ≤ 140737488351232 ∧ ∀ e ∈ l, e.view.mems.length * 16 ≤ 140737488351232 ∧ e.tree.length * 24 ≤ 140737488351232) : (KL AA XX).call 20 [(PV.one (D.sl (l.map Evt.enc)))] = some [(PV.one (D.sc (Value.bool (true))))] := by
  obtain ⟨b, e1, f1⟩ := Small75 l (by omega)
  rw [c20]
  cases b with
  | false => simp only [go_sem, ↓reduceIte, Nat.reduceAdd, Nat.reduceSub, Nat.reduceMul, Nat.reduceEqDiff, Nat.reduceLT, Nat.reduceShiftRight, Nat.reduceAnd, Nat.reduceBNe, Nat.reduceLeDiff, Nat.reduceBEq, Nat.testBit, Nat.zero_lt_one, Int.reduceToNat, Int.reduceNeg, Int.reduceLE, Int.reduceLT, Int.reduceEq, decide_true, decide_false, Bool.and_true, Bool.true_and, Bool.and_false, Bool.false_and, Bool.or_true, Bool.true_or, Bool.or_false, Bool.false_or, Bool.not_true, Bool.not_false, beq_self_eq_true, reduceCtorEq, and_self, and_true, true_and, or_true, true_or, if_true, if_false, Nat.le_refl, Bool.and_self, eq_self, Bool.not_false, Bool.not_true, e1, awake76]
  | true =>
    obtain ⟨h60, hb⟩ := f1 rfl
    have a1 := Members77 l (by omega)
    have hml := members_len l
    have hnd := members_nodup l
    have hmem := members_mem l
    have hall : parts l (membersF l) = l.length := parts_all l _ hnd fun e he => (hmem _).2 ⟨e, he, rfl⟩
    revert a1
    generalize membersF l = ms at *
    intro a1
    have hple : ∀ i, i ≤ ms.length → parts l (ms.take i) ≤ l.length := by
      intro i _
      have : parts l ms = parts l (ms.take i) + parts l (ms.drop i) := by
        unfold parts
        rw [← List.sum_append, ← List.map_append, List.take_append_drop]
      omega
    have go := iter (F := fun (i : Nat) => loopR AA XX [0, 3, 4, 5] 0 b20_0 (RUN AA XX b20_0 ⟨[(0, (AV.c (C.d (D.sl (l.map Evt.enc))))), (3, (AV.c (C.d (D.sl (ms.map Mem.enc))))), (4, (AV.c (C.d (D.sc (Value.int IntKind.i64 (parts l (ms.take i))))))), (5, (AV.c (C.d (D.sc (Value.int IntKind.i64 (i))))))], [], 0⟩)) (Nat.zero_le ms.length) fun i _ hi => by
      have hlt := ltT hi
      have hg := getm ms Mem.enc hi
      have hw := wrap_succ i (by omega)
      have b1 := Of78 l ms[i] (by omega)
      have hps : parts l (ms.take (i + 1)) = parts l (ms.take i) + (ofF l ms[i]).length := by
        unfold parts
        rw [← List.take_append_getElem hi, List.map_append, List.sum_append]
        simp
      have hp2 := hple (i + 1) hi
      have hw2 := wrap_add (parts l (ms.take i)) (ofF l ms[i]).length (by omega)
      rw [← hps] at hw2
      obtain ⟨F', g, g0, g3, g4, g5, g6, g7⟩ := law20_in l ms i (parts l (ms.take (i + 1))) hi h60 hb
      have hpos : 0 < (ofF l ms[i]).length := by
        obtain ⟨e, he, hwho⟩ := (hmem ms[i]).1 (List.getElem_mem hi)
        exact List.length_pos_of_mem (List.mem_filter.2 ⟨he, sM_iff.2 hwho⟩)
      have hd0 : decide (((ofF l ms[i]).length : Int) = 0) = false := decide_eq_false (by omega)
      have hh := Has80 (ms.take i) ms[i] (by rw [List.length_take]; omega)
      have hany : ((ms.take i).any fun x => sM x ms[i]) = false := by
        rw [List.any_eq_false]
        intro x hx hs
        rw [sM_iff] at hs
        obtain ⟨j, hj, rfl⟩ := List.mem_iff_getElem.1 hx
        rw [List.length_take] at hj
        rw [List.getElem_take] at hs
        exact (List.pairwise_iff_getElem.1 hnd) j i (by omega) hi (by omega) hs
      rw [hany] at hh
      have q1 : ((i : Int) ≤ (ms.length : Int)) = True := eq_true (by omega)
      have ht : (ms.map Mem.enc).take i = (ms.take i).map Mem.enc := List.map_take.symm
      simp only [Mem.enc] at b1 hh
      show loopR _ _ _ _ _ (RUN _ _ _ _) = _
      rw [b20_0_run]
      simp only [go_sem, ↓reduceIte, Nat.reduceAdd, Nat.reduceSub, Nat.reduceMul, Nat.reduceEqDiff, Nat.reduceLT, Nat.reduceShiftRight, Nat.reduceAnd, Nat.reduceBNe, Nat.reduceLeDiff, Nat.reduceBEq, Nat.testBit, Nat.zero_lt_one, Int.reduceToNat, Int.reduceNeg, Int.reduceLE, Int.reduceLT, Int.reduceEq, decide_true, decide_false, Bool.and_true, Bool.true_and, Bool.and_false, Bool.false_and, Bool.or_true, Bool.true_or, Bool.or_false, Bool.false_or, Bool.not_true, Bool.not_false, beq_self_eq_true, reduceCtorEq, and_self, and_true, true_and, or_true, true_or, if_true, if_false, Nat.le_refl, Bool.and_self, eq_self, Bool.not_false, Bool.not_true, hlt, hg, Mem.enc, hw, b1, hw2, g, g0, g3, g4, g5, g6, g7, hd0, q1, ht, hh, all2, drop_enc]
    rw [List.take_zero, show parts l [] = 0 from rfl, show (((0 : Nat) : Int)) = 0 from rfl, List.take_length, hall] at go
    simp only [go_sem, ↓reduceIte, Nat.reduceAdd, Nat.reduceSub, Nat.reduceMul, Nat.reduceEqDiff, Nat.reduceLT, Nat.reduceShiftRight, Nat.reduceAnd, Nat.reduceBNe, Nat.reduceLeDiff, Nat.reduceBEq, Nat.testBit, Nat.zero_lt_one, Int.reduceToNat, Int.reduceNeg, Int.reduceLE, Int.reduceLT, Int.reduceEq, decide_true, decide_false, Bool.and_true, Bool.true_and, Bool.and_false, Bool.false_and, Bool.or_true, Bool.true_or, Bool.or_false, Bool.false_or, Bool.not_true, Bool.not_false, beq_self_eq_true, reduceCtorEq, and_self, and_true, true_and, or_true, true_or, if_true, if_false, Nat.le_refl, Bool.and_self, eq_self, Bool.not_false, Bool.not_true, e1, a1]
    rw [go, b20_0_run]
    simp only [go_sem, ↓reduceIte, Nat.reduceAdd, Nat.reduceSub, Nat.reduceMul, Nat.reduceEqDiff, Nat.reduceLT, Nat.reduceShiftRight, Nat.reduceAnd, Nat.reduceBNe, Nat.reduceLeDiff, Nat.reduceBEq, Nat.testBit, Nat.zero_lt_one, Int.reduceToNat, Int.reduceNeg, Int.reduceLE, Int.reduceLT, Int.reduceEq, decide_true, decide_false, Bool.and_true, Bool.true_and, Bool.and_false, Bool.false_and, Bool.or_true, Bool.true_or, Bool.or_false, Bool.false_or, Bool.not_true, Bool.not_false, beq_self_eq_true, reduceCtorEq, and_self, and_true, true_and, or_true, true_or, if_true, if_false, Nat.le_refl, Bool.and_self, eq_self, Bool.not_false, Bool.not_true, Int.lt_irrefl, awake76]
end Go.Proofs.Ytpanbfainilmpaa.Ev.S
