/- What the functions of the flush chapter compute: of each member the longest. -/
import Derived.Test.YtpanbfainilmpaaEvF4
set_option linter.unusedVariables false
set_option linter.unusedSimpArgs false
set_option maxRecDepth 100000
set_option maxHeartbeats 1000000
namespace Go.Proofs.Ytpanbfainilmpaa.Ev.S
open Go Go.Proofs.Ytpanbfainilmpaa.Ev

def grow (o : List Strm) (x : Strm) : List Strm := (x.texts.drop (count o x.who)).foldl (fun o t => addF o x.who t) o
def tells (o : List Strm) (f : Flu) (old : Vid) : List Strm := if (!sV f.old old || isNone old) = true then o else f.streams.foldl grow o
def unionF (l : List Flu) (old : Vid) : List Strm := l.foldl (fun o f => tells o f old) []
/-- What a slot holds that begins as nothing. -/
def Out (c : C) (o : List Strm) : Prop := c = .d (.sl (o.map Strm.enc)) ∨ (c = .gr 2 [] ∧ o = [])
theorem Out.toD {c : C} {o : List Strm} (h : Out c o) : c.toD = .sl (o.map Strm.enc) := by
  rcases h with rfl | ⟨rfl, rfl⟩ <;> rfl
theorem Out.old {c : C} {o : List Strm} (h : Out c o) {n : Nat} (hn : 2 < n) : AV.old n (.c c) = .c c := by
  rcases h with rfl | ⟨rfl, rfl⟩
  · rfl
  · simp only [AV.old, if_pos hn]
theorem Out.asg {c : C} {o : List Strm} (h : Out c o) (n : Nat) : asgR n (.c c) = some ⟨.c c, [], [], n⟩ := by
  rcases h with rfl | ⟨rfl, rfl⟩ <;> rfl
def Bd (o : List Strm) (n : Nat) : Prop := o.length ≤ n ∧ ∀ s ∈ o, s.texts.length ≤ n
theorem Bd.add {o : List Strm} {n : Nat} (h : Bd o n) (m : Mem) (t : ByteArray) : Bd (addF o m t) (n + 1) :=
  ⟨Nat.le_trans (addF_len o m t) (by have := h.1; omega), addF_texts o m t n h.2⟩
theorem Bd.mono {o : List Strm} {n m : Nat} (h : Bd o n) (k : n ≤ m) : Bd o m := ⟨Nat.le_trans h.1 k, fun s hs => Nat.le_trans (h.2 s hs) k⟩
theorem Bd.adds {o : List Strm} {n : Nat} (h : Bd o n) (m : Mem) (ts : List ByteArray) : Bd (ts.foldl (fun o t => addF o m t) o) (n + ts.length) := by
  induction ts generalizing o n with
  | nil => exact h
  | cons t ts ih =>
    rw [List.foldl_cons, List.length_cons]
    exact (ih (h.add m t)).mono (by omega)
theorem Bd.grow {o : List Strm} {n : Nat} (h : Bd o n) (x : Strm) : Bd (S.grow o x) (n + x.texts.length) :=
  (h.adds x.who _).mono (by rw [List.length_drop]; omega)
theorem Bd.grows {o : List Strm} {n : Nat} (h : Bd o n) (l : List Strm) : Bd (l.foldl S.grow o) (n + total l) := by
  induction l generalizing o n with
  | nil => exact h
  | cons x l ih =>
    rw [List.foldl_cons]
    refine (ih (h.grow x)).mono ?_
    simp only [total, List.map_cons, List.sum_cons]; omega
theorem Bd.tells {o : List Strm} {n : Nat} (h : Bd o n) (f : Flu) (old : Vid) : Bd (S.tells o f old) (n + total f.streams) := by
  unfold S.tells
  split
  · exact h.mono (by omega)
  · exact h.grows _
def alltexts (l : List Flu) : Nat := (l.map fun f => total f.streams).sum
theorem Bd.union {l : List Flu} (old : Vid) : Bd (unionF l old) (alltexts l) := by
  have : ∀ (l : List Flu) (o : List Strm) (n : Nat), Bd o n → Bd (l.foldl (fun o f => S.tells o f old) o) (n + alltexts l) := by
    intro l
    induction l with
    | nil => intro o n h; exact h
    | cons f l ih =>
      intro o n h
      rw [List.foldl_cons]
      refine (ih _ _ (h.tells f old)).mono ?_
      simp only [alltexts, List.map_cons, List.sum_cons]; omega
  have h := this l [] 0 ⟨Nat.le_refl _, by simp⟩
  rwa [Nat.zero_add] at h
theorem total_drop (l : List Strm) {k : Nat} (hk : k < l.length) : total (l.drop k) = l[k].texts.length + total (l.drop (k + 1)) := by
  rw [List.drop_eq_getElem_cons hk]
  simp only [total, List.map_cons, List.sum_cons]
theorem all_drop (l : List Flu) {k : Nat} (hk : k < l.length) : alltexts (l.drop k) = total l[k].streams + alltexts (l.drop (k + 1)) := by
  rw [List.drop_eq_getElem_cons hk]
  simp only [alltexts, List.map_cons, List.sum_cons]
theorem getFl (l : List Flu) {i : Nat} (h : i < l.length) : (l.map Flu.enc)[i]? = some l[i].enc := by simp [h]

theorem count_le {o : List Strm} {n : Nat} (h : Bd o n) (m : Mem) : count o m ≤ n := by
  have : ∀ o : List Strm, (∀ s ∈ o, s.texts.length ≤ n) → count o m ≤ n := by
    intro o
    induction o with
    | nil => intro _; exact Nat.zero_le _
    | cons s r ih =>
      intro h
      unfold count
      split
      · exact h s (by simp)
      · exact ih fun x hx => h x (by simp [hx])
  exact this o h.2

theorem un46_2 (l : List Flu) (old : Vid) (i kk : Nat) (hi : i < l.length) (x : Strm) : ∀ (m n B : Nat) (o : List Strm) (c : C), x.texts.length - n = m → Out c o → Bd o B → B + m ≤ 1000000000 → n + m ≤ 1000000000 →
    ∃ (F' : Fr) (c' : C), blockR 4 (loopR AA XX [0, 3, 5, 6, 8, 9, 11, 12, 31, 32] 5 b46_2 (RUN AA XX b46_2 ⟨[(0, (AV.c (C.d (D.sl (l.map Flu.enc))))), (3, .ptr 0 0), (5, .c c), (6, (AV.c (C.d (D.sc (Value.int IntKind.i64 (i)))))), (8, .ptr 4 0), (9, (AV.c (C.d (D.sc (Value.int IntKind.i64 (n)))))), (11, (AV.c (C.d (D.sc (Value.int IntKind.i64 (l.length)))))), (12, (AV.c (C.d (D.sc (Value.int IntKind.i64 (i)))))), (31, (AV.c (C.d (D.sc (Value.int IntKind.i64 (l[i].streams.length)))))), (32, (AV.c (C.d (D.sc (Value.int IntKind.i64 (kk))))))], [(0, .arr [(C.d (D.sc (Value.int IntKind.i64 (old.c)))), (C.d (D.sc (Value.int IntKind.i64 (old.n)))), (C.d (D.sc (Value.int IntKind.i64 (old.i))))]), (1, .tok 0 0), (2, .tok 0 0), (3, .tok 0 0), (4, .arr [(C.d (D.sc (Value.int IntKind.i64 (x.who.node)))), (C.d (D.sc (Value.int IntKind.i64 (x.who.inc)))), (C.d (D.sl (x.texts.map tenc)))])], 5⟩)) = some (.norm, ⟨F', [(0, .arr [(C.d (D.sc (Value.int IntKind.i64 (old.c)))), (C.d (D.sc (Value.int IntKind.i64 (old.n)))), (C.d (D.sc (Value.int IntKind.i64 (old.i))))]), (1, .tok 0 0), (2, .tok 0 0), (3, .tok 0 0), (4, .arr [(C.d (D.sc (Value.int IntKind.i64 (x.who.node)))), (C.d (D.sc (Value.int IntKind.i64 (x.who.inc)))), (C.d (D.sl (x.texts.map tenc)))])], 5⟩) ∧ F'.get 5 = .c c' ∧ Out c' ((x.texts.drop n).foldl (fun o t => addF o x.who t) o) ∧ F'.get 0 = (AV.c (C.d (D.sl (l.map Flu.enc)))) ∧ F'.get 3 = .ptr 0 0 ∧ F'.get 11 = (AV.c (C.d (D.sc (Value.int IntKind.i64 (l.length))))) ∧ F'.get 12 = (AV.c (C.d (D.sc (Value.int IntKind.i64 (i))))) ∧ F'.get 6 = (AV.c (C.d (D.sc (Value.int IntKind.i64 (i))))) ∧ F'.get 31 = (AV.c (C.d (D.sc (Value.int IntKind.i64 (l[i].streams.length))))) ∧ F'.get 32 = (AV.c (C.d (D.sc (Value.int IntKind.i64 (kk))))) := by
  intro m
  induction m with
  | zero =>
    intro n B o c hn hc hB h1 h2
    have hge : x.texts.length ≤ n := by omega
    have hd := ltF hge
    rw [List.drop_eq_nil_of_le hge, b46_2_run]
    simp only [go_sem, ↓reduceIte, Nat.reduceAdd, Nat.reduceSub, Nat.reduceMul, Nat.reduceEqDiff, Nat.reduceLT, Nat.reduceShiftRight, Nat.reduceAnd, Nat.reduceBNe, Nat.reduceLeDiff, Nat.reduceBEq, Nat.testBit, Nat.zero_lt_one, Int.reduceToNat, Int.reduceNeg, Int.reduceLE, Int.reduceLT, Int.reduceEq, decide_true, decide_false, Bool.and_true, Bool.true_and, Bool.and_false, Bool.false_and, Bool.or_true, Bool.true_or, Bool.or_false, Bool.false_or, Bool.not_true, Bool.not_false, beq_self_eq_true, reduceCtorEq, Int.le_refl, Nat.add_zero, and_self, and_true, true_and, or_true, true_or, if_true, if_false, Nat.le_refl, Bool.and_self, eq_self, Bool.not_false, Bool.not_true, hd, List.foldl_nil]
    exact ⟨_, c, rfl, rfl, hc, rfl, rfl, rfl, rfl, rfl, rfl, rfl⟩
  | succ m ih =>
    intro n B o c hn hc hB h1 h2
    have hlt : n < x.texts.length := by omega
    have hd := ltT hlt
    have hg2 := getm x.texts tenc hlt
    have hw := wrap_succ n (by omega)
    have a1 := Add31 o x.who x.texts[n] (by have := hB.1; omega) (fun s hs => by have := hB.2 s hs; omega)
    simp only [Mem.enc] at a1
    have t5 := hc.toD
    have o5 := hc.old (show 2 < 5 by omega)
    obtain ⟨F', c', h, hr⟩ := ih (n + 1) (B + 1) (addF o x.who x.texts[n]) _ (by omega) (.inl rfl) (hB.add _ _) (by omega) (by omega)
    refine ⟨F', c', ?_, ?_⟩
    · rw [← h, b46_2_run]
      simp only [go_sem, ↓reduceIte, Nat.reduceAdd, Nat.reduceSub, Nat.reduceMul, Nat.reduceEqDiff, Nat.reduceLT, Nat.reduceShiftRight, Nat.reduceAnd, Nat.reduceBNe, Nat.reduceLeDiff, Nat.reduceBEq, Nat.testBit, Nat.zero_lt_one, Int.reduceToNat, Int.reduceNeg, Int.reduceLE, Int.reduceLT, Int.reduceEq, decide_true, decide_false, Bool.and_true, Bool.true_and, Bool.and_false, Bool.false_and, Bool.or_true, Bool.true_or, Bool.or_false, Bool.false_or, Bool.not_true, Bool.not_false, beq_self_eq_true, reduceCtorEq, Int.le_refl, Nat.add_zero, and_self, and_true, true_and, or_true, true_or, if_true, if_false, Nat.le_refl, Bool.and_self, eq_self, Bool.not_false, Bool.not_true, hd, hg2, tenc, hw, a1, t5, o5, all_in]
    · rw [List.drop_eq_getElem_cons hlt, List.foldl_cons]
      exact hr
theorem un46_1 (l : List Flu) (old : Vid) (i : Nat) (hi : i < l.length) (hll : l.length ≤ 100000000) (hsl : l[i].streams.length ≤ 100000000) : ∀ (m kk B : Nat) (o : List Strm) (c : C), l[i].streams.length - kk = m → kk ≤ l[i].streams.length → Out c o → Bd o B → B + total (l[i].streams.drop kk) ≤ 100000000 →
    ∃ (F' : Fr) (c' : C), blockR 2 (loopR AA XX [0, 3, 5, 6, 11, 12, 31, 32] 3 b46_1 (RUN AA XX b46_1 ⟨[(0, (AV.c (C.d (D.sl (l.map Flu.enc))))), (3, .ptr 0 0), (5, .c c), (6, (AV.c (C.d (D.sc (Value.int IntKind.i64 (i)))))), (11, (AV.c (C.d (D.sc (Value.int IntKind.i64 (l.length)))))), (12, (AV.c (C.d (D.sc (Value.int IntKind.i64 (i)))))), (31, (AV.c (C.d (D.sc (Value.int IntKind.i64 (l[i].streams.length)))))), (32, (AV.c (C.d (D.sc (Value.int IntKind.i64 (kk))))))], [(0, .arr [(C.d (D.sc (Value.int IntKind.i64 (old.c)))), (C.d (D.sc (Value.int IntKind.i64 (old.n)))), (C.d (D.sc (Value.int IntKind.i64 (old.i))))]), (1, .tok 0 0), (2, .tok 0 0)], 3⟩)) = some (.norm, ⟨F', [(0, .arr [(C.d (D.sc (Value.int IntKind.i64 (old.c)))), (C.d (D.sc (Value.int IntKind.i64 (old.n)))), (C.d (D.sc (Value.int IntKind.i64 (old.i))))]), (1, .tok 0 0), (2, .tok 0 0)], 3⟩) ∧ F'.get 5 = .c c' ∧ Out c' ((l[i].streams.drop kk).foldl grow o) ∧ F'.get 0 = (AV.c (C.d (D.sl (l.map Flu.enc)))) ∧ F'.get 3 = .ptr 0 0 ∧ F'.get 11 = (AV.c (C.d (D.sc (Value.int IntKind.i64 (l.length))))) ∧ F'.get 12 = (AV.c (C.d (D.sc (Value.int IntKind.i64 (i))))) := by
  have hg := getFl l hi
  intro m
  induction m with
  | zero =>
    intro kk B o c hn hle hc hB h1
    have hd := ltF (show l[i].streams.length ≤ kk by omega)
    rw [List.drop_eq_nil_of_le (by omega), b46_1_run]
    simp only [go_sem, ↓reduceIte, Nat.reduceAdd, Nat.reduceSub, Nat.reduceMul, Nat.reduceEqDiff, Nat.reduceLT, Nat.reduceShiftRight, Nat.reduceAnd, Nat.reduceBNe, Nat.reduceLeDiff, Nat.reduceBEq, Nat.testBit, Nat.zero_lt_one, Int.reduceToNat, Int.reduceNeg, Int.reduceLE, Int.reduceLT, Int.reduceEq, decide_true, decide_false, Bool.and_true, Bool.true_and, Bool.and_false, Bool.false_and, Bool.or_true, Bool.true_or, Bool.or_false, Bool.false_or, Bool.not_true, Bool.not_false, beq_self_eq_true, reduceCtorEq, Int.le_refl, Nat.add_zero, and_self, and_true, true_and, or_true, true_or, if_true, if_false, Nat.le_refl, Bool.and_self, eq_self, Bool.not_false, Bool.not_true, hd, hg, Flu.enc, List.foldl_nil]
    exact ⟨_, c, rfl, rfl, hc, rfl, rfl, rfl, rfl⟩
  | succ m ih =>
    intro kk B o c hn hle hc hB h1
    have hlt : kk < l[i].streams.length := by omega
    have hd := ltT hlt
    have hg2 := getm l[i].streams Strm.enc hlt
    have hw := wrap_succ kk (by omega)
    have a1 := Count34 o l[i].streams[kk].who (by have := hB.1; omega)
    simp only [Mem.enc] at a1
    have t5 := hc.toD
    have o3 := hc.old (show 2 < 3 by omega)
    have o5 := hc.old (show 2 < 5 by omega)
    have htd := total_drop _ hlt
    have hcn : count o l[i].streams[kk].who ≤ B := count_le hB _
    obtain ⟨F2, c2, h2, g5, hc2, g0, g3, g11, g12, g6, g31, g32⟩ := un46_2 l old i kk hi l[i].streams[kk] _ (count o l[i].streams[kk].who) B o c rfl hc hB (by omega) (by omega)
    have o3' := hc2.old (show 2 < 3 by omega)
    obtain ⟨F', c', h, hr⟩ := ih (kk + 1) (B + l[i].streams[kk].texts.length) (grow o l[i].streams[kk]) c2 (by omega) (by omega) hc2 (hB.grow _) (by omega)
    refine ⟨F', c', ?_, ?_⟩
    · rw [← h, b46_1_run]
      simp only [go_sem, ↓reduceIte, Nat.reduceAdd, Nat.reduceSub, Nat.reduceMul, Nat.reduceEqDiff, Nat.reduceLT, Nat.reduceShiftRight, Nat.reduceAnd, Nat.reduceBNe, Nat.reduceLeDiff, Nat.reduceBEq, Nat.testBit, Nat.zero_lt_one, Int.reduceToNat, Int.reduceNeg, Int.reduceLE, Int.reduceLT, Int.reduceEq, decide_true, decide_false, Bool.and_true, Bool.true_and, Bool.and_false, Bool.false_and, Bool.or_true, Bool.true_or, Bool.or_false, Bool.false_or, Bool.not_true, Bool.not_false, beq_self_eq_true, reduceCtorEq, Int.le_refl, Nat.add_zero, and_self, and_true, true_and, or_true, true_or, if_true, if_false, Nat.le_refl, Bool.and_self, eq_self, Bool.not_false, Bool.not_true, hd, hg, hg2, Flu.enc, Strm.enc, hw, a1, t5, o3, o5, o3', h2, g5, g0, g3, g11, g12, g6, g31, g32, all_in]
    · rw [List.drop_eq_getElem_cons hlt, List.foldl_cons]
      exact hr
theorem un46_0 (l : List Flu) (old : Vid) (hll : l.length ≤ 100000000) (hsl : ∀ f ∈ l, f.streams.length ≤ 100000000) : ∀ (m i B : Nat) (o : List Strm) (c : C), l.length - i = m → i ≤ l.length → Out c o → Bd o B → B + alltexts (l.drop i) ≤ 100000000 →
    ∃ (F' : Fr) (c' : C), loopR AA XX [0, 3, 5, 11, 12] 3 b46_0 (RUN AA XX b46_0 ⟨[(0, (AV.c (C.d (D.sl (l.map Flu.enc))))), (3, .ptr 0 0), (5, .c c), (11, (AV.c (C.d (D.sc (Value.int IntKind.i64 (l.length)))))), (12, (AV.c (C.d (D.sc (Value.int IntKind.i64 (i))))))], [(0, .arr [(C.d (D.sc (Value.int IntKind.i64 (old.c)))), (C.d (D.sc (Value.int IntKind.i64 (old.n)))), (C.d (D.sc (Value.int IntKind.i64 (old.i))))]), (1, .tok 0 0), (2, .tok 0 0)], 3⟩) = some (.exit 0, ⟨F', [(0, .arr [(C.d (D.sc (Value.int IntKind.i64 (old.c)))), (C.d (D.sc (Value.int IntKind.i64 (old.n)))), (C.d (D.sc (Value.int IntKind.i64 (old.i))))]), (1, .tok 0 0), (2, .tok 0 0)], 3⟩) ∧ F'.get 5 = .c c' ∧ Out c' ((l.drop i).foldl (fun o f => tells o f old) o) := by
  intro m
  induction m with
  | zero =>
    intro i B o c hn hle hc hB h1
    have hd := ltF (show l.length ≤ i by omega)
    rw [List.drop_eq_nil_of_le (by omega), b46_0_run]
    simp only [go_sem, ↓reduceIte, Nat.reduceAdd, Nat.reduceSub, Nat.reduceMul, Nat.reduceEqDiff, Nat.reduceLT, Nat.reduceShiftRight, Nat.reduceAnd, Nat.reduceBNe, Nat.reduceLeDiff, Nat.reduceBEq, Nat.testBit, Nat.zero_lt_one, Int.reduceToNat, Int.reduceNeg, Int.reduceLE, Int.reduceLT, Int.reduceEq, decide_true, decide_false, Bool.and_true, Bool.true_and, Bool.and_false, Bool.false_and, Bool.or_true, Bool.true_or, Bool.or_false, Bool.false_or, Bool.not_true, Bool.not_false, beq_self_eq_true, reduceCtorEq, Int.le_refl, Nat.add_zero, and_self, and_true, true_and, or_true, true_or, if_true, if_false, Nat.le_refl, Bool.and_self, eq_self, Bool.not_false, Bool.not_true, hd, List.foldl_nil]
    exact ⟨_, c, rfl, rfl, hc⟩
  | succ m ih =>
    intro i B o c hn hle hc hB h1
    have hi : i < l.length := by omega
    have hd := ltT hi
    have hg := getFl l hi
    have hw := wrap_succ i (by omega)
    have o3 := hc.old (show 2 < 3 by omega)
    have had := all_drop l hi
    have n1 := None92 old
    simp only [Vid.enc] at n1
    rw [List.drop_eq_getElem_cons hi, List.foldl_cons]
    cases e1 : sV l[i].old old with
    | false =>
      have ht : tells o l[i] old = o := by unfold tells; rw [e1]; rfl
      obtain ⟨F', c', h, hr⟩ := ih (i + 1) B o c (by omega) (by omega) hc hB (by omega)
      rw [ht]
      refine ⟨F', c', ?_, hr⟩
      simp only [sV] at e1
      rw [← h, b46_0_run]
      simp only [go_sem, ↓reduceIte, Nat.reduceAdd, Nat.reduceSub, Nat.reduceMul, Nat.reduceEqDiff, Nat.reduceLT, Nat.reduceShiftRight, Nat.reduceAnd, Nat.reduceBNe, Nat.reduceLeDiff, Nat.reduceBEq, Nat.testBit, Nat.zero_lt_one, Int.reduceToNat, Int.reduceNeg, Int.reduceLE, Int.reduceLT, Int.reduceEq, decide_true, decide_false, Bool.and_true, Bool.true_and, Bool.and_false, Bool.false_and, Bool.or_true, Bool.true_or, Bool.or_false, Bool.false_or, Bool.not_true, Bool.not_false, beq_self_eq_true, reduceCtorEq, Int.le_refl, Nat.add_zero, and_self, and_true, true_and, or_true, true_or, if_true, if_false, Nat.le_refl, Bool.and_self, eq_self, Bool.not_false, Bool.not_true, hd, hg, Flu.enc, hw, o3, e1]
    | true =>
      cases e2 : isNone old with
      | true =>
        have ht : tells o l[i] old = o := by unfold tells; rw [e1, e2]; rfl
        obtain ⟨F', c', h, hr⟩ := ih (i + 1) B o c (by omega) (by omega) hc hB (by omega)
        rw [ht]
        refine ⟨F', c', ?_, hr⟩
        simp only [sV] at e1
        rw [e2] at n1
        rw [← h, b46_0_run]
        simp only [go_sem, ↓reduceIte, Nat.reduceAdd, Nat.reduceSub, Nat.reduceMul, Nat.reduceEqDiff, Nat.reduceLT, Nat.reduceShiftRight, Nat.reduceAnd, Nat.reduceBNe, Nat.reduceLeDiff, Nat.reduceBEq, Nat.testBit, Nat.zero_lt_one, Int.reduceToNat, Int.reduceNeg, Int.reduceLE, Int.reduceLT, Int.reduceEq, decide_true, decide_false, Bool.and_true, Bool.true_and, Bool.and_false, Bool.false_and, Bool.or_true, Bool.true_or, Bool.or_false, Bool.false_or, Bool.not_true, Bool.not_false, beq_self_eq_true, reduceCtorEq, Int.le_refl, Nat.add_zero, and_self, and_true, true_and, or_true, true_or, if_true, if_false, Nat.le_refl, Bool.and_self, eq_self, Bool.not_false, Bool.not_true, hd, hg, Flu.enc, hw, o3, e1, n1]
      | false =>
        have ht : tells o l[i] old = l[i].streams.foldl grow o := by unfold tells; rw [e1, e2]; rfl
        obtain ⟨F1, c1, h1', g5, hc1, g0, g3, g11, g12⟩ := un46_1 l old i hi hll (hsl _ (List.getElem_mem hi)) _ 0 B o c rfl (Nat.zero_le _) hc hB (by rw [List.drop_zero]; omega)
        rw [List.drop_zero] at hc1
        rw [show (((0 : Nat) : Int)) = 0 from rfl] at h1'
        have o3' := hc1.old (show 2 < 3 by omega)
        obtain ⟨F', c', h, hr⟩ := ih (i + 1) (B + total l[i].streams) (l[i].streams.foldl grow o) c1 (by omega) (by omega) hc1 (hB.grows _) (by omega)
        rw [ht]
        refine ⟨F', c', ?_, hr⟩
        simp only [sV] at e1
        rw [e2] at n1
        rw [← h, b46_0_run]
        simp only [go_sem, ↓reduceIte, Nat.reduceAdd, Nat.reduceSub, Nat.reduceMul, Nat.reduceEqDiff, Nat.reduceLT, Nat.reduceShiftRight, Nat.reduceAnd, Nat.reduceBNe, Nat.reduceLeDiff, Nat.reduceBEq, Nat.testBit, Nat.zero_lt_one, Int.reduceToNat, Int.reduceNeg, Int.reduceLE, Int.reduceLT, Int.reduceEq, decide_true, decide_false, Bool.and_true, Bool.true_and, Bool.and_false, Bool.false_and, Bool.or_true, Bool.true_or, Bool.or_false, Bool.false_or, Bool.not_true, Bool.not_false, beq_self_eq_true, reduceCtorEq, Int.le_refl, Nat.add_zero, and_self, and_true, true_and, or_true, true_or, if_true, if_false, Nat.le_refl, Bool.and_self, eq_self, Bool.not_false, Bool.not_true, hd, hg, Flu.enc, hw, o3, o3', e1, n1, h1', g5, g0, g3, g11, g12]
theorem Union46 (l : List Flu) (old : Vid) (hll : l.length ≤ 100000000) (hsl : ∀ f ∈ l, f.streams.length ≤ 100000000) (ht : alltexts l ≤ 100000000) : (KL AA XX).call 46 [(PV.one (D.sl (l.map Flu.enc))), .agg old.enc] = some [(PV.one (D.sl ((unionF l old).map Strm.enc)))] := by
  rw [c46]
  obtain ⟨F', c', h, g5, hc⟩ := un46_0 l old hll hsl _ 0 0 [] (.gr 2 []) rfl (Nat.zero_le _) (.inr ⟨rfl, rfl⟩) ⟨Nat.le_refl _, by simp⟩ (by rw [List.drop_zero]; omega)
  rw [List.drop_zero] at hc
  have t5 := hc.toD
  rw [show (((0 : Nat) : Int)) = 0 from rfl] at h
  have ta := hc.asg 3
  simp only [go_sem, ↓reduceIte, Nat.reduceAdd, Nat.reduceSub, Nat.reduceMul, Nat.reduceEqDiff, Nat.reduceLT, Nat.reduceShiftRight, Nat.reduceAnd, Nat.reduceBNe, Nat.reduceLeDiff, Nat.reduceBEq, Nat.testBit, Nat.zero_lt_one, Int.reduceToNat, Int.reduceNeg, Int.reduceLE, Int.reduceLT, Int.reduceEq, decide_true, decide_false, Bool.and_true, Bool.true_and, Bool.and_false, Bool.false_and, Bool.or_true, Bool.true_or, Bool.or_false, Bool.false_or, Bool.not_true, Bool.not_false, beq_self_eq_true, reduceCtorEq, Int.le_refl, Nat.add_zero, and_self, and_true, true_and, or_true, true_or, if_true, if_false, Nat.le_refl, Bool.and_self, eq_self, Bool.not_false, Bool.not_true, Vid.enc, h, g5, t5, ta, unionF]

theorem un47_2 (l : List Flu) (old : Vid) (i kk : Nat) (hi : i < l.length) (x : Strm) : ∀ (m n B : Nat) (o : List Strm) (c : C), x.texts.length - n = m → Out c o → Bd o B → B + m ≤ 1000000000 → n + m ≤ 1000000000 →
    ∃ (F' : Fr) (c' : C), blockR 4 (loopR AA XX [0, 3, 5, 6, 7, 8, 9] 5 b47_2 (RUN AA XX b47_2 ⟨[(0, (AV.c (C.d (D.sl (l.map Flu.enc))))), (3, .ptr 0 0), (5, .c c), (6, (AV.c (C.d (D.sc (Value.int IntKind.i64 (i)))))), (7, (AV.c (C.d (D.sc (Value.int IntKind.i64 (kk)))))), (8, .ptr 4 0), (9, (AV.c (C.d (D.sc (Value.int IntKind.i64 (n))))))], [(0, .arr [(C.d (D.sc (Value.int IntKind.i64 (old.c)))), (C.d (D.sc (Value.int IntKind.i64 (old.n)))), (C.d (D.sc (Value.int IntKind.i64 (old.i))))]), (1, .tok 0 0), (2, .tok 0 0), (3, .tok 0 0), (4, .arr [(C.d (D.sc (Value.int IntKind.i64 (x.who.node)))), (C.d (D.sc (Value.int IntKind.i64 (x.who.inc)))), (C.d (D.sl (x.texts.map tenc)))])], 5⟩)) = some (.norm, ⟨F', [(0, .arr [(C.d (D.sc (Value.int IntKind.i64 (old.c)))), (C.d (D.sc (Value.int IntKind.i64 (old.n)))), (C.d (D.sc (Value.int IntKind.i64 (old.i))))]), (1, .tok 0 0), (2, .tok 0 0), (3, .tok 0 0), (4, .arr [(C.d (D.sc (Value.int IntKind.i64 (x.who.node)))), (C.d (D.sc (Value.int IntKind.i64 (x.who.inc)))), (C.d (D.sl (x.texts.map tenc)))])], 5⟩) ∧ F'.get 5 = .c c' ∧ Out c' ((x.texts.drop n).foldl (fun o t => addF o x.who t) o) ∧ F'.get 0 = (AV.c (C.d (D.sl (l.map Flu.enc)))) ∧ F'.get 3 = .ptr 0 0 ∧ F'.get 6 = (AV.c (C.d (D.sc (Value.int IntKind.i64 (i))))) ∧ F'.get 7 = (AV.c (C.d (D.sc (Value.int IntKind.i64 (kk))))) := by
  intro m
  induction m with
  | zero =>
    intro n B o c hn hc hB h1 h2
    have hge : x.texts.length ≤ n := by omega
    have hd := ltF hge
    rw [List.drop_eq_nil_of_le hge, b47_2_run]
    simp only [go_sem, ↓reduceIte, Nat.reduceAdd, Nat.reduceSub, Nat.reduceMul, Nat.reduceEqDiff, Nat.reduceLT, Nat.reduceShiftRight, Nat.reduceAnd, Nat.reduceBNe, Nat.reduceLeDiff, Nat.reduceBEq, Nat.testBit, Nat.zero_lt_one, Int.reduceToNat, Int.reduceNeg, Int.reduceLE, Int.reduceLT, Int.reduceEq, decide_true, decide_false, Bool.and_true, Bool.true_and, Bool.and_false, Bool.false_and, Bool.or_true, Bool.true_or, Bool.or_false, Bool.false_or, Bool.not_true, Bool.not_false, beq_self_eq_true, reduceCtorEq, Int.le_refl, Nat.add_zero, and_self, and_true, true_and, or_true, true_or, if_true, if_false, Nat.le_refl, Bool.and_self, eq_self, Bool.not_false, Bool.not_true, hd, List.foldl_nil]
    exact ⟨_, c, rfl, rfl, hc, rfl, rfl, rfl, rfl⟩
  | succ m ih =>
    intro n B o c hn hc hB h1 h2
    have hlt : n < x.texts.length := by omega
    have hd := ltT hlt
    have hg2 := getm x.texts tenc hlt
    have hw := wrap_succ n (by omega)
    have a1 := Add32 o x.who x.texts[n] (by have := hB.1; omega) (fun s hs => by have := hB.2 s hs; omega)
    simp only [Mem.enc] at a1
    have t5 := hc.toD
    have o5 := hc.old (show 2 < 5 by omega)
    obtain ⟨F', c', h, hr⟩ := ih (n + 1) (B + 1) (addF o x.who x.texts[n]) _ (by omega) (.inl rfl) (hB.add _ _) (by omega) (by omega)
    refine ⟨F', c', ?_, ?_⟩
    · rw [← h, b47_2_run]
      simp only [go_sem, ↓reduceIte, Nat.reduceAdd, Nat.reduceSub, Nat.reduceMul, Nat.reduceEqDiff, Nat.reduceLT, Nat.reduceShiftRight, Nat.reduceAnd, Nat.reduceBNe, Nat.reduceLeDiff, Nat.reduceBEq, Nat.testBit, Nat.zero_lt_one, Int.reduceToNat, Int.reduceNeg, Int.reduceLE, Int.reduceLT, Int.reduceEq, decide_true, decide_false, Bool.and_true, Bool.true_and, Bool.and_false, Bool.false_and, Bool.or_true, Bool.true_or, Bool.or_false, Bool.false_or, Bool.not_true, Bool.not_false, beq_self_eq_true, reduceCtorEq, Int.le_refl, Nat.add_zero, and_self, and_true, true_and, or_true, true_or, if_true, if_false, Nat.le_refl, Bool.and_self, eq_self, Bool.not_false, Bool.not_true, hd, hg2, tenc, hw, a1, t5, o5, all_in]
    · rw [List.drop_eq_getElem_cons hlt, List.foldl_cons]
      exact hr
theorem un47_1 (l : List Flu) (old : Vid) (i : Nat) (hi : i < l.length) (hll : l.length ≤ 100000000) (hsl : l[i].streams.length ≤ 100000000) : ∀ (m kk B : Nat) (o : List Strm) (c : C), l[i].streams.length - kk = m → kk ≤ l[i].streams.length → Out c o → Bd o B → B + total (l[i].streams.drop kk) ≤ 100000000 →
    ∃ (F' : Fr) (c' : C), blockR 2 (loopR AA XX [0, 3, 5, 6, 7] 3 b47_1 (RUN AA XX b47_1 ⟨[(0, (AV.c (C.d (D.sl (l.map Flu.enc))))), (3, .ptr 0 0), (5, .c c), (6, (AV.c (C.d (D.sc (Value.int IntKind.i64 (i)))))), (7, (AV.c (C.d (D.sc (Value.int IntKind.i64 (kk))))))], [(0, .arr [(C.d (D.sc (Value.int IntKind.i64 (old.c)))), (C.d (D.sc (Value.int IntKind.i64 (old.n)))), (C.d (D.sc (Value.int IntKind.i64 (old.i))))]), (1, .tok 0 0), (2, .tok 0 0)], 3⟩)) = some (.norm, ⟨F', [(0, .arr [(C.d (D.sc (Value.int IntKind.i64 (old.c)))), (C.d (D.sc (Value.int IntKind.i64 (old.n)))), (C.d (D.sc (Value.int IntKind.i64 (old.i))))]), (1, .tok 0 0), (2, .tok 0 0)], 3⟩) ∧ F'.get 5 = .c c' ∧ Out c' ((l[i].streams.drop kk).foldl grow o) ∧ F'.get 0 = (AV.c (C.d (D.sl (l.map Flu.enc)))) ∧ F'.get 3 = .ptr 0 0 ∧ F'.get 6 = (AV.c (C.d (D.sc (Value.int IntKind.i64 (i))))) := by
  have hg := getFl l hi
  intro m
  induction m with
  | zero =>
    intro kk B o c hn hle hc hB h1
    have hd := ltF (show l[i].streams.length ≤ kk by omega)
    rw [List.drop_eq_nil_of_le (by omega), b47_1_run]
    simp only [go_sem, ↓reduceIte, Nat.reduceAdd, Nat.reduceSub, Nat.reduceMul, Nat.reduceEqDiff, Nat.reduceLT, Nat.reduceShiftRight, Nat.reduceAnd, Nat.reduceBNe, Nat.reduceLeDiff, Nat.reduceBEq, Nat.testBit, Nat.zero_lt_one, Int.reduceToNat, Int.reduceNeg, Int.reduceLE, Int.reduceLT, Int.reduceEq, decide_true, decide_false, Bool.and_true, Bool.true_and, Bool.and_false, Bool.false_and, Bool.or_true, Bool.true_or, Bool.or_false, Bool.false_or, Bool.not_true, Bool.not_false, beq_self_eq_true, reduceCtorEq, Int.le_refl, Nat.add_zero, and_self, and_true, true_and, or_true, true_or, if_true, if_false, Nat.le_refl, Bool.and_self, eq_self, Bool.not_false, Bool.not_true, hd, hg, Flu.enc, List.foldl_nil]
    exact ⟨_, c, rfl, rfl, hc, rfl, rfl, rfl⟩
  | succ m ih =>
    intro kk B o c hn hle hc hB h1
    have hlt : kk < l[i].streams.length := by omega
    have hd := ltT hlt
    have hg2 := getm l[i].streams Strm.enc hlt
    have hw := wrap_succ kk (by omega)
    have a1 := Count35 o l[i].streams[kk].who (by have := hB.1; omega)
    simp only [Mem.enc] at a1
    have t5 := hc.toD
    have o3 := hc.old (show 2 < 3 by omega)
    have o5 := hc.old (show 2 < 5 by omega)
    have htd := total_drop _ hlt
    have hcn : count o l[i].streams[kk].who ≤ B := count_le hB _
    obtain ⟨F2, c2, h2, g5, hc2, g0, g3, g6, g7⟩ := un47_2 l old i kk hi l[i].streams[kk] _ (count o l[i].streams[kk].who) B o c rfl hc hB (by omega) (by omega)
    have o3' := hc2.old (show 2 < 3 by omega)
    obtain ⟨F', c', h, hr⟩ := ih (kk + 1) (B + l[i].streams[kk].texts.length) (grow o l[i].streams[kk]) c2 (by omega) (by omega) hc2 (hB.grow _) (by omega)
    refine ⟨F', c', ?_, ?_⟩
    · rw [← h, b47_1_run]
      simp only [go_sem, ↓reduceIte, Nat.reduceAdd, Nat.reduceSub, Nat.reduceMul, Nat.reduceEqDiff, Nat.reduceLT, Nat.reduceShiftRight, Nat.reduceAnd, Nat.reduceBNe, Nat.reduceLeDiff, Nat.reduceBEq, Nat.testBit, Nat.zero_lt_one, Int.reduceToNat, Int.reduceNeg, Int.reduceLE, Int.reduceLT, Int.reduceEq, decide_true, decide_false, Bool.and_true, Bool.true_and, Bool.and_false, Bool.false_and, Bool.or_true, Bool.true_or, Bool.or_false, Bool.false_or, Bool.not_true, Bool.not_false, beq_self_eq_true, reduceCtorEq, Int.le_refl, Nat.add_zero, and_self, and_true, true_and, or_true, true_or, if_true, if_false, Nat.le_refl, Bool.and_self, eq_self, Bool.not_false, Bool.not_true, hd, hg, hg2, Flu.enc, Strm.enc, hw, a1, t5, o3, o5, o3', h2, g5, g0, g3, g6, g7, all_in]
    · rw [List.drop_eq_getElem_cons hlt, List.foldl_cons]
      exact hr
theorem un47_0 (l : List Flu) (old : Vid) (hll : l.length ≤ 100000000) (hsl : ∀ f ∈ l, f.streams.length ≤ 100000000) : ∀ (m i B : Nat) (o : List Strm) (c : C), l.length - i = m → i ≤ l.length → Out c o → Bd o B → B + alltexts (l.drop i) ≤ 100000000 →
    ∃ (F' : Fr) (c' : C), loopR AA XX [0, 3, 5, 6] 3 b47_0 (RUN AA XX b47_0 ⟨[(0, (AV.c (C.d (D.sl (l.map Flu.enc))))), (3, .ptr 0 0), (5, .c c), (6, (AV.c (C.d (D.sc (Value.int IntKind.i64 (i))))))], [(0, .arr [(C.d (D.sc (Value.int IntKind.i64 (old.c)))), (C.d (D.sc (Value.int IntKind.i64 (old.n)))), (C.d (D.sc (Value.int IntKind.i64 (old.i))))]), (1, .tok 0 0), (2, .tok 0 0)], 3⟩) = some (.exit 0, ⟨F', [(0, .arr [(C.d (D.sc (Value.int IntKind.i64 (old.c)))), (C.d (D.sc (Value.int IntKind.i64 (old.n)))), (C.d (D.sc (Value.int IntKind.i64 (old.i))))]), (1, .tok 0 0), (2, .tok 0 0)], 3⟩) ∧ F'.get 5 = .c c' ∧ Out c' ((l.drop i).foldl (fun o f => tells o f old) o) := by
  intro m
  induction m with
  | zero =>
    intro i B o c hn hle hc hB h1
    have hd := ltF (show l.length ≤ i by omega)
    rw [List.drop_eq_nil_of_le (by omega), b47_0_run]
    simp only [go_sem, ↓reduceIte, Nat.reduceAdd, Nat.reduceSub, Nat.reduceMul, Nat.reduceEqDiff, Nat.reduceLT, Nat.reduceShiftRight, Nat.reduceAnd, Nat.reduceBNe, Nat.reduceLeDiff, Nat.reduceBEq, Nat.testBit, Nat.zero_lt_one, Int.reduceToNat, Int.reduceNeg, Int.reduceLE, Int.reduceLT, Int.reduceEq, decide_true, decide_false, Bool.and_true, Bool.true_and, Bool.and_false, Bool.false_and, Bool.or_true, Bool.true_or, Bool.or_false, Bool.false_or, Bool.not_true, Bool.not_false, beq_self_eq_true, reduceCtorEq, Int.le_refl, Nat.add_zero, and_self, and_true, true_and, or_true, true_or, if_true, if_false, Nat.le_refl, Bool.and_self, eq_self, Bool.not_false, Bool.not_true, hd, List.foldl_nil]
    exact ⟨_, c, rfl, rfl, hc⟩
  | succ m ih =>
    intro i B o c hn hle hc hB h1
    have hi : i < l.length := by omega
    have hd := ltT hi
    have hg := getFl l hi
    have hw := wrap_succ i (by omega)
    have o3 := hc.old (show 2 < 3 by omega)
    have had := all_drop l hi
    have n1 := None93 old
    simp only [Vid.enc] at n1
    rw [List.drop_eq_getElem_cons hi, List.foldl_cons]
    cases e1 : sV l[i].old old with
    | false =>
      have ht : tells o l[i] old = o := by unfold tells; rw [e1]; rfl
      obtain ⟨F', c', h, hr⟩ := ih (i + 1) B o c (by omega) (by omega) hc hB (by omega)
      rw [ht]
      refine ⟨F', c', ?_, hr⟩
      simp only [sV] at e1
      rw [← h, b47_0_run]
      simp only [go_sem, ↓reduceIte, Nat.reduceAdd, Nat.reduceSub, Nat.reduceMul, Nat.reduceEqDiff, Nat.reduceLT, Nat.reduceShiftRight, Nat.reduceAnd, Nat.reduceBNe, Nat.reduceLeDiff, Nat.reduceBEq, Nat.testBit, Nat.zero_lt_one, Int.reduceToNat, Int.reduceNeg, Int.reduceLE, Int.reduceLT, Int.reduceEq, decide_true, decide_false, Bool.and_true, Bool.true_and, Bool.and_false, Bool.false_and, Bool.or_true, Bool.true_or, Bool.or_false, Bool.false_or, Bool.not_true, Bool.not_false, beq_self_eq_true, reduceCtorEq, Int.le_refl, Nat.add_zero, and_self, and_true, true_and, or_true, true_or, if_true, if_false, Nat.le_refl, Bool.and_self, eq_self, Bool.not_false, Bool.not_true, hd, hg, Flu.enc, hw, o3, e1]
    | true =>
      cases e2 : isNone old with
      | true =>
        have ht : tells o l[i] old = o := by unfold tells; rw [e1, e2]; rfl
        obtain ⟨F', c', h, hr⟩ := ih (i + 1) B o c (by omega) (by omega) hc hB (by omega)
        rw [ht]
        refine ⟨F', c', ?_, hr⟩
        simp only [sV] at e1
        rw [e2] at n1
        rw [← h, b47_0_run]
        simp only [go_sem, ↓reduceIte, Nat.reduceAdd, Nat.reduceSub, Nat.reduceMul, Nat.reduceEqDiff, Nat.reduceLT, Nat.reduceShiftRight, Nat.reduceAnd, Nat.reduceBNe, Nat.reduceLeDiff, Nat.reduceBEq, Nat.testBit, Nat.zero_lt_one, Int.reduceToNat, Int.reduceNeg, Int.reduceLE, Int.reduceLT, Int.reduceEq, decide_true, decide_false, Bool.and_true, Bool.true_and, Bool.and_false, Bool.false_and, Bool.or_true, Bool.true_or, Bool.or_false, Bool.false_or, Bool.not_true, Bool.not_false, beq_self_eq_true, reduceCtorEq, Int.le_refl, Nat.add_zero, and_self, and_true, true_and, or_true, true_or, if_true, if_false, Nat.le_refl, Bool.and_self, eq_self, Bool.not_false, Bool.not_true, hd, hg, Flu.enc, hw, o3, e1, n1]
      | false =>
        have ht : tells o l[i] old = l[i].streams.foldl grow o := by unfold tells; rw [e1, e2]; rfl
        obtain ⟨F1, c1, h1', g5, hc1, g0, g3, g6⟩ := un47_1 l old i hi hll (hsl _ (List.getElem_mem hi)) _ 0 B o c rfl (Nat.zero_le _) hc hB (by rw [List.drop_zero]; omega)
        rw [List.drop_zero] at hc1
        rw [show (((0 : Nat) : Int)) = 0 from rfl] at h1'
        have o3' := hc1.old (show 2 < 3 by omega)
        obtain ⟨F', c', h, hr⟩ := ih (i + 1) (B + total l[i].streams) (l[i].streams.foldl grow o) c1 (by omega) (by omega) hc1 (hB.grows _) (by omega)
        rw [ht]
        refine ⟨F', c', ?_, hr⟩
        simp only [sV] at e1
        rw [e2] at n1
        rw [← h, b47_0_run]
        simp only [go_sem, ↓reduceIte, Nat.reduceAdd, Nat.reduceSub, Nat.reduceMul, Nat.reduceEqDiff, Nat.reduceLT, Nat.reduceShiftRight, Nat.reduceAnd, Nat.reduceBNe, Nat.reduceLeDiff, Nat.reduceBEq, Nat.testBit, Nat.zero_lt_one, Int.reduceToNat, Int.reduceNeg, Int.reduceLE, Int.reduceLT, Int.reduceEq, decide_true, decide_false, Bool.and_true, Bool.true_and, Bool.and_false, Bool.false_and, Bool.or_true, Bool.true_or, Bool.or_false, Bool.false_or, Bool.not_true, Bool.not_false, beq_self_eq_true, reduceCtorEq, Int.le_refl, Nat.add_zero, and_self, and_true, true_and, or_true, true_or, if_true, if_false, Nat.le_refl, Bool.and_self, eq_self, Bool.not_false, Bool.not_true, hd, hg, Flu.enc, hw, o3, o3', e1, n1, h1', g5, g0, g3, g6]
theorem Union47 (l : List Flu) (old : Vid) (hll : l.length ≤ 100000000) (hsl : ∀ f ∈ l, f.streams.length ≤ 100000000) (ht : alltexts l ≤ 100000000) : (KL AA XX).call 47 [(PV.one (D.sl (l.map Flu.enc))), .agg old.enc] = some [(PV.one (D.sl ((unionF l old).map Strm.enc)))] := by
  rw [c47]
  obtain ⟨F', c', h, g5, hc⟩ := un47_0 l old hll hsl _ 0 0 [] (.gr 2 []) rfl (Nat.zero_le _) (.inr ⟨rfl, rfl⟩) ⟨Nat.le_refl _, by simp⟩ (by rw [List.drop_zero]; omega)
  rw [List.drop_zero] at hc
  have t5 := hc.toD
  rw [show (((0 : Nat) : Int)) = 0 from rfl] at h
  have ta := hc.asg 3
  simp only [go_sem, ↓reduceIte, Nat.reduceAdd, Nat.reduceSub, Nat.reduceMul, Nat.reduceEqDiff, Nat.reduceLT, Nat.reduceShiftRight, Nat.reduceAnd, Nat.reduceBNe, Nat.reduceLeDiff, Nat.reduceBEq, Nat.testBit, Nat.zero_lt_one, Int.reduceToNat, Int.reduceNeg, Int.reduceLE, Int.reduceLT, Int.reduceEq, decide_true, decide_false, Bool.and_true, Bool.true_and, Bool.and_false, Bool.false_and, Bool.or_true, Bool.true_or, Bool.or_false, Bool.false_or, Bool.not_true, Bool.not_false, beq_self_eq_true, reduceCtorEq, Int.le_refl, Nat.add_zero, and_self, and_true, true_and, or_true, true_or, if_true, if_false, Nat.le_refl, Bool.and_self, eq_self, Bool.not_false, Bool.not_true, Vid.enc, h, g5, t5, ta, unionF]
end Go.Proofs.Ytpanbfainilmpaa.Ev.S
