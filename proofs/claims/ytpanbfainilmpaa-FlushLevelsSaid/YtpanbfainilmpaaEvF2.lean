/- What the functions of the texts' chapters compute: what is kept of texts that came too early. -/
import Derived.Test.YtpanbfainilmpaaEvF1
set_option linter.unusedVariables false
set_option linter.unusedSimpArgs false
set_option maxRecDepth 100000
set_option maxHeartbeats 1000000
namespace Go.Proofs.Ytpanbfainilmpaa.Ev.S
open Go Go.Proofs.Ytpanbfainilmpaa.Ev

def sM (a b : Mem) : Bool := decide (a.node = b.node) && decide (a.inc = b.inc)
def sV (a b : Vid) : Bool := decide (a.c = b.c) && (decide (a.n = b.n) && decide (a.i = b.i))
def hm (y x : Hld) : Bool := sM y.who x.who && sV y.id x.id && decide (y.seq = x.seq)
def nm (node : Int) (id : Vid) (seq : Int) (y : Hld) : Bool := decide (y.who.node = node) && sV y.id id && decide (y.seq = seq)
def holdF (l : List Hld) (x : Hld) : List Hld := if 400 ≤ l.length then l else if (l.findIdx? fun y => hm y x).isSome then l else l ++ [x]
def nextF (l : List Hld) (node : Int) (id : Vid) (seq : Int) : ByteArray × List Hld × Bool :=
  match l.findIdx? (nm node id seq) with
  | some k => match l[k]? with
    | some y => (y.text, l.take k ++ l.drop (k + 1), true)
    | none => (⟨#[]⟩, l, false)
  | none => (⟨#[]⟩, l, false)
def onlyF (l : List Hld) (id : Vid) : List Hld := l.filter fun y => sV y.id id
theorem find_none {α : Type} {p : α → Bool} {l : List α} (h : l.findIdx? p = none) {i : Nat} (hi : i < l.length) : p l[i] = false := by
  rw [List.findIdx?_eq_none_iff] at h
  exact h _ (List.getElem_mem hi)
theorem find_some {α : Type} {p : α → Bool} {l : List α} {k : Nat} (h : l.findIdx? p = some k) : ∃ hk : k < l.length, p l[k] = true ∧ ∀ j (hj : j < k), p (l[j]'(by omega)) = false := by
  rw [List.findIdx?_eq_some_iff_getElem] at h
  obtain ⟨hk, h1, h2⟩ := h
  exact ⟨hk, h1, fun j hj => by simpa using h2 j hj⟩
theorem filter_take {α : Type} (p : α → Bool) {l : List α} {i : Nat} (hi : i < l.length) : (l.take (i + 1)).filter p = (l.take i).filter p ++ if p l[i] = true then [l[i]] else [] := by
  rw [← List.take_append_getElem hi, List.filter_append, List.filter_cons, List.filter_nil]
theorem all7 (l : List Hld) : ((l.map Hld.enc).all fun e => e.length == 7) = true := by simp [Hld.enc]
theorem take_enc {α : Type} (l : List α) (en : α → List D) (k : Nat) : (l.map en).take k = (l.take k).map en := List.map_take.symm
theorem drop_enc {α : Type} (l : List α) (en : α → List D) (k : Nat) : (l.map en).drop k = (l.drop k).map en := List.map_drop.symm
theorem app_enc {α : Type} (l r : List α) (en : α → List D) : l.map en ++ r.map en = (l ++ r).map en := List.map_append.symm
theorem mbl {n m : Nat} (h : n * 64 ≤ 140737488351232) (k : m ≤ n) : m * 64 ≤ maxBytes := by
  have : maxBytes = 140737488355328 := rfl
  omega
theorem mb64 {n : Nat} (h : ¬ 400 ≤ n) : n * 64 ≤ maxBytes := by
  have : maxBytes = 140737488355328 := rfl
  omega
theorem mb64' {n : Nat} (h : ¬ 400 ≤ n) : (n + 1) * 64 ≤ maxBytes := by
  have : maxBytes = 140737488355328 := rfl
  omega
def tS (n sz : Nat) : Nat := if n = 0 then 0 else sz
theorem tS0 (sz : Nat) : tS 0 sz = 0 := rfl
theorem tS1 (n sz : Nat) : tS (n + 1) sz = sz := rfl
theorem tSok (n sz : Nat) : (tS n sz = sz ∨ tS n sz = 0) = True := by unfold tS; split <;> simp

theorem Hold36 (l : List Hld) (x : Hld) (hl : l.length < 2305843009213693952) : (KL AA XX).call 36 [(PV.one (D.sl (l.map Hld.enc))), .agg x.enc] = some [(PV.one (D.sl ((holdF l x).map Hld.enc)))] := by
  rw [c36]
  by_cases h4 : 400 ≤ l.length
  · have hd : decide ((400 : Int) ≤ (l.length : Int)) = true := by simp; omega
    simp only [go_sem, ↓reduceIte, Nat.reduceAdd, Nat.reduceSub, Nat.reduceMul, Nat.reduceEqDiff, Nat.reduceLT, Nat.reduceShiftRight, Nat.reduceAnd, Nat.reduceBNe, Nat.reduceLeDiff, Nat.reduceBEq, Nat.testBit, Nat.zero_lt_one, Int.reduceToNat, Int.reduceNeg, Int.reduceLE, Int.reduceLT, Int.reduceEq, decide_true, decide_false, Bool.and_true, Bool.true_and, Bool.and_false, Bool.false_and, Bool.or_true, Bool.true_or, Bool.or_false, Bool.false_or, Bool.not_true, Bool.not_false, beq_self_eq_true, reduceCtorEq, Int.le_refl, Nat.add_zero, and_self, and_true, true_and, or_true, true_or, if_true, if_false, Nat.le_refl, Bool.and_self, eq_self, Bool.not_false, Bool.not_true, Hld.enc, holdF, h4, hd]
  have hd : decide ((400 : Int) ≤ (l.length : Int)) = false := by simp; omega
  have go : ∀ k, k ≤ l.length → (∀ j (hj : j < k) (hl : j < l.length), hm l[j] x = false) → loopR AA XX [0, 3, 11, 12] 2 b36_0 (RUN AA XX b36_0 ⟨[(0, (AV.c (C.d (D.sl (l.map Hld.enc))))), (3, .ptr 0 0), (11, (AV.c (C.d (D.sc (Value.int IntKind.i64 (l.length)))))), (12, (AV.c (C.d (D.sc (Value.int IntKind.i64 (0))))))], [(0, .arr [(C.d (D.sc (Value.int IntKind.i64 (x.who.node)))), (C.d (D.sc (Value.int IntKind.i64 (x.who.inc)))), (C.d (D.sc (Value.int IntKind.i64 (x.id.c)))), (C.d (D.sc (Value.int IntKind.i64 (x.id.n)))), (C.d (D.sc (Value.int IntKind.i64 (x.id.i)))), (C.d (D.sc (Value.int IntKind.i64 (x.seq)))), (C.d (D.sc (Value.string (x.text))))]), (1, .tok 0 0)], 2⟩) = loopR AA XX [0, 3, 11, 12] 2 b36_0 (RUN AA XX b36_0 ⟨[(0, (AV.c (C.d (D.sl (l.map Hld.enc))))), (3, .ptr 0 0), (11, (AV.c (C.d (D.sc (Value.int IntKind.i64 (l.length)))))), (12, (AV.c (C.d (D.sc (Value.int IntKind.i64 (k))))))], [(0, .arr [(C.d (D.sc (Value.int IntKind.i64 (x.who.node)))), (C.d (D.sc (Value.int IntKind.i64 (x.who.inc)))), (C.d (D.sc (Value.int IntKind.i64 (x.id.c)))), (C.d (D.sc (Value.int IntKind.i64 (x.id.n)))), (C.d (D.sc (Value.int IntKind.i64 (x.id.i)))), (C.d (D.sc (Value.int IntKind.i64 (x.seq)))), (C.d (D.sc (Value.string (x.text))))]), (1, .tok 0 0)], 2⟩) := by
    intro k hk hno
    have := iter (F := fun (i : Nat) => loopR AA XX [0, 3, 11, 12] 2 b36_0 (RUN AA XX b36_0 ⟨[(0, (AV.c (C.d (D.sl (l.map Hld.enc))))), (3, .ptr 0 0), (11, (AV.c (C.d (D.sc (Value.int IntKind.i64 (l.length)))))), (12, (AV.c (C.d (D.sc (Value.int IntKind.i64 (i))))))], [(0, .arr [(C.d (D.sc (Value.int IntKind.i64 (x.who.node)))), (C.d (D.sc (Value.int IntKind.i64 (x.who.inc)))), (C.d (D.sc (Value.int IntKind.i64 (x.id.c)))), (C.d (D.sc (Value.int IntKind.i64 (x.id.n)))), (C.d (D.sc (Value.int IntKind.i64 (x.id.i)))), (C.d (D.sc (Value.int IntKind.i64 (x.seq)))), (C.d (D.sc (Value.string (x.text))))]), (1, .tok 0 0)], 2⟩)) (Nat.zero_le k) fun i _ hik => by
      have hi : i < l.length := by omega
      have hlt := ltT hi
      have hg := getm l Hld.enc hi
      have hw := wrap_succ i (by omega)
      have hh := hno i hik hi
      show loopR _ _ _ _ _ (RUN _ _ _ _) = _
      rw [b36_0_run]
      cases e1 : sM l[i].who x.who <;> cases e2 : sV l[i].id x.id <;> cases e3 : decide (l[i].seq = x.seq) <;> simp only [hm, e1, e2, e3, Bool.and_true, Bool.and_false, Bool.false_and, Bool.and_self, reduceCtorEq] at hh <;> simp only [sM] at e1 <;> simp only [sV] at e2 <;>
        simp only [go_sem, ↓reduceIte, Nat.reduceAdd, Nat.reduceSub, Nat.reduceMul, Nat.reduceEqDiff, Nat.reduceLT, Nat.reduceShiftRight, Nat.reduceAnd, Nat.reduceBNe, Nat.reduceLeDiff, Nat.reduceBEq, Nat.testBit, Nat.zero_lt_one, Int.reduceToNat, Int.reduceNeg, Int.reduceLE, Int.reduceLT, Int.reduceEq, decide_true, decide_false, Bool.and_true, Bool.true_and, Bool.and_false, Bool.false_and, Bool.or_true, Bool.true_or, Bool.or_false, Bool.false_or, Bool.not_true, Bool.not_false, beq_self_eq_true, reduceCtorEq, Int.le_refl, Nat.add_zero, and_self, and_true, true_and, or_true, true_or, if_true, if_false, Nat.le_refl, Bool.and_self, eq_self, Bool.not_false, Bool.not_true, hlt, hg, Hld.enc, hw, e1, e2, e3]
    exact this
  simp only [go_sem, ↓reduceIte, Nat.reduceAdd, Nat.reduceSub, Nat.reduceMul, Nat.reduceEqDiff, Nat.reduceLT, Nat.reduceShiftRight, Nat.reduceAnd, Nat.reduceBNe, Nat.reduceLeDiff, Nat.reduceBEq, Nat.testBit, Nat.zero_lt_one, Int.reduceToNat, Int.reduceNeg, Int.reduceLE, Int.reduceLT, Int.reduceEq, decide_true, decide_false, Bool.and_true, Bool.true_and, Bool.and_false, Bool.false_and, Bool.or_true, Bool.true_or, Bool.or_false, Bool.false_or, Bool.not_true, Bool.not_false, beq_self_eq_true, reduceCtorEq, Int.le_refl, Nat.add_zero, and_self, and_true, true_and, or_true, true_or, if_true, if_false, Nat.le_refl, Bool.and_self, eq_self, Bool.not_false, Bool.not_true, Hld.enc, hd]
  cases hf : l.findIdx? (fun y => hm y x) with
  | none =>
    rw [go l.length (Nat.le_refl _) fun j _ hjl => find_none hf hjl, b36_0_run]
    simp only [go_sem, ↓reduceIte, Nat.reduceAdd, Nat.reduceSub, Nat.reduceMul, Nat.reduceEqDiff, Nat.reduceLT, Nat.reduceShiftRight, Nat.reduceAnd, Nat.reduceBNe, Nat.reduceLeDiff, Nat.reduceBEq, Nat.testBit, Nat.zero_lt_one, Int.reduceToNat, Int.reduceNeg, Int.reduceLE, Int.reduceLT, Int.reduceEq, decide_true, decide_false, Bool.and_true, Bool.true_and, Bool.and_false, Bool.false_and, Bool.or_true, Bool.true_or, Bool.or_false, Bool.false_or, Bool.not_true, Bool.not_false, beq_self_eq_true, reduceCtorEq, Int.le_refl, Nat.add_zero, and_self, and_true, true_and, or_true, true_or, if_true, if_false, Nat.le_refl, Bool.and_self, eq_self, Bool.not_false, Bool.not_true, Int.lt_irrefl, holdF, h4, hf, Option.isSome_none, Bool.false_eq_true, List.map_append, all7]
    have h8 := mb64 h4
    have h9 := mb64' h4
    simp only [go_sem, ↓reduceIte, Nat.reduceAdd, Nat.reduceSub, Nat.reduceMul, Nat.reduceEqDiff, Nat.reduceLT, Nat.reduceShiftRight, Nat.reduceAnd, Nat.reduceBNe, Nat.reduceLeDiff, Nat.reduceBEq, Nat.testBit, Nat.zero_lt_one, Int.reduceToNat, Int.reduceNeg, Int.reduceLE, Int.reduceLT, Int.reduceEq, decide_true, decide_false, Bool.and_true, Bool.true_and, Bool.and_false, Bool.false_and, Bool.or_true, Bool.true_or, Bool.or_false, Bool.false_or, Bool.not_true, Bool.not_false, beq_self_eq_true, reduceCtorEq, Int.le_refl, Nat.add_zero, and_self, and_true, true_and, or_true, true_or, if_true, if_false, Nat.le_refl, Bool.and_self, eq_self, Bool.not_false, Bool.not_true, Nat.zero_add, h8, h9, all7, Hld.enc]
  | some k =>
    obtain ⟨hk, h1, h2⟩ := find_some hf
    have hlt := ltT hk
    have hg := getm l Hld.enc hk
    simp only [hm, Bool.and_eq_true] at h1
    obtain ⟨⟨e1, e2⟩, e3⟩ := h1
    simp only [sM] at e1
    simp only [sV] at e2
    rw [go k (Nat.le_of_lt hk) fun j hj _ => h2 j hj, b36_0_run]
    simp only [go_sem, ↓reduceIte, Nat.reduceAdd, Nat.reduceSub, Nat.reduceMul, Nat.reduceEqDiff, Nat.reduceLT, Nat.reduceShiftRight, Nat.reduceAnd, Nat.reduceBNe, Nat.reduceLeDiff, Nat.reduceBEq, Nat.testBit, Nat.zero_lt_one, Int.reduceToNat, Int.reduceNeg, Int.reduceLE, Int.reduceLT, Int.reduceEq, decide_true, decide_false, Bool.and_true, Bool.true_and, Bool.and_false, Bool.false_and, Bool.or_true, Bool.true_or, Bool.or_false, Bool.false_or, Bool.not_true, Bool.not_false, beq_self_eq_true, reduceCtorEq, Int.le_refl, Nat.add_zero, and_self, and_true, true_and, or_true, true_or, if_true, if_false, Nat.le_refl, Bool.and_self, eq_self, Bool.not_false, Bool.not_true, hlt, hg, e1, e2, e3, Hld.enc, holdF, h4, hf, Option.isSome_some]

theorem Hold37 (l : List Hld) (x : Hld) (hl : l.length < 2305843009213693952) : (KL AA XX).call 37 [(PV.one (D.sl (l.map Hld.enc))), .agg x.enc] = some [(PV.one (D.sl ((holdF l x).map Hld.enc)))] := by
  rw [c37]
  by_cases h4 : 400 ≤ l.length
  · have hd : decide ((400 : Int) ≤ (l.length : Int)) = true := by simp; omega
    simp only [go_sem, ↓reduceIte, Nat.reduceAdd, Nat.reduceSub, Nat.reduceMul, Nat.reduceEqDiff, Nat.reduceLT, Nat.reduceShiftRight, Nat.reduceAnd, Nat.reduceBNe, Nat.reduceLeDiff, Nat.reduceBEq, Nat.testBit, Nat.zero_lt_one, Int.reduceToNat, Int.reduceNeg, Int.reduceLE, Int.reduceLT, Int.reduceEq, decide_true, decide_false, Bool.and_true, Bool.true_and, Bool.and_false, Bool.false_and, Bool.or_true, Bool.true_or, Bool.or_false, Bool.false_or, Bool.not_true, Bool.not_false, beq_self_eq_true, reduceCtorEq, Int.le_refl, Nat.add_zero, and_self, and_true, true_and, or_true, true_or, if_true, if_false, Nat.le_refl, Bool.and_self, eq_self, Bool.not_false, Bool.not_true, Hld.enc, holdF, h4, hd]
  have hd : decide ((400 : Int) ≤ (l.length : Int)) = false := by simp; omega
  have go : ∀ k, k ≤ l.length → (∀ j (hj : j < k) (hl : j < l.length), hm l[j] x = false) → loopR AA XX [0, 3, 5] 2 b37_0 (RUN AA XX b37_0 ⟨[(0, (AV.c (C.d (D.sl (l.map Hld.enc))))), (3, .ptr 0 0), (5, (AV.c (C.d (D.sc (Value.int IntKind.i64 (0))))))], [(0, .arr [(C.d (D.sc (Value.int IntKind.i64 (x.who.node)))), (C.d (D.sc (Value.int IntKind.i64 (x.who.inc)))), (C.d (D.sc (Value.int IntKind.i64 (x.id.c)))), (C.d (D.sc (Value.int IntKind.i64 (x.id.n)))), (C.d (D.sc (Value.int IntKind.i64 (x.id.i)))), (C.d (D.sc (Value.int IntKind.i64 (x.seq)))), (C.d (D.sc (Value.string (x.text))))]), (1, .tok 0 0)], 2⟩) = loopR AA XX [0, 3, 5] 2 b37_0 (RUN AA XX b37_0 ⟨[(0, (AV.c (C.d (D.sl (l.map Hld.enc))))), (3, .ptr 0 0), (5, (AV.c (C.d (D.sc (Value.int IntKind.i64 (k))))))], [(0, .arr [(C.d (D.sc (Value.int IntKind.i64 (x.who.node)))), (C.d (D.sc (Value.int IntKind.i64 (x.who.inc)))), (C.d (D.sc (Value.int IntKind.i64 (x.id.c)))), (C.d (D.sc (Value.int IntKind.i64 (x.id.n)))), (C.d (D.sc (Value.int IntKind.i64 (x.id.i)))), (C.d (D.sc (Value.int IntKind.i64 (x.seq)))), (C.d (D.sc (Value.string (x.text))))]), (1, .tok 0 0)], 2⟩) := by
    intro k hk hno
    have := iter (F := fun (i : Nat) => loopR AA XX [0, 3, 5] 2 b37_0 (RUN AA XX b37_0 ⟨[(0, (AV.c (C.d (D.sl (l.map Hld.enc))))), (3, .ptr 0 0), (5, (AV.c (C.d (D.sc (Value.int IntKind.i64 (i))))))], [(0, .arr [(C.d (D.sc (Value.int IntKind.i64 (x.who.node)))), (C.d (D.sc (Value.int IntKind.i64 (x.who.inc)))), (C.d (D.sc (Value.int IntKind.i64 (x.id.c)))), (C.d (D.sc (Value.int IntKind.i64 (x.id.n)))), (C.d (D.sc (Value.int IntKind.i64 (x.id.i)))), (C.d (D.sc (Value.int IntKind.i64 (x.seq)))), (C.d (D.sc (Value.string (x.text))))]), (1, .tok 0 0)], 2⟩)) (Nat.zero_le k) fun i _ hik => by
      have hi : i < l.length := by omega
      have hlt := ltT hi
      have hg := getm l Hld.enc hi
      have hw := wrap_succ i (by omega)
      have hh := hno i hik hi
      show loopR _ _ _ _ _ (RUN _ _ _ _) = _
      rw [b37_0_run]
      cases e1 : sM l[i].who x.who <;> cases e2 : sV l[i].id x.id <;> cases e3 : decide (l[i].seq = x.seq) <;> simp only [hm, e1, e2, e3, Bool.and_true, Bool.and_false, Bool.false_and, Bool.and_self, reduceCtorEq] at hh <;> simp only [sM] at e1 <;> simp only [sV] at e2 <;>
        simp only [go_sem, ↓reduceIte, Nat.reduceAdd, Nat.reduceSub, Nat.reduceMul, Nat.reduceEqDiff, Nat.reduceLT, Nat.reduceShiftRight, Nat.reduceAnd, Nat.reduceBNe, Nat.reduceLeDiff, Nat.reduceBEq, Nat.testBit, Nat.zero_lt_one, Int.reduceToNat, Int.reduceNeg, Int.reduceLE, Int.reduceLT, Int.reduceEq, decide_true, decide_false, Bool.and_true, Bool.true_and, Bool.and_false, Bool.false_and, Bool.or_true, Bool.true_or, Bool.or_false, Bool.false_or, Bool.not_true, Bool.not_false, beq_self_eq_true, reduceCtorEq, Int.le_refl, Nat.add_zero, and_self, and_true, true_and, or_true, true_or, if_true, if_false, Nat.le_refl, Bool.and_self, eq_self, Bool.not_false, Bool.not_true, hlt, hg, Hld.enc, hw, e1, e2, e3]
    exact this
  simp only [go_sem, ↓reduceIte, Nat.reduceAdd, Nat.reduceSub, Nat.reduceMul, Nat.reduceEqDiff, Nat.reduceLT, Nat.reduceShiftRight, Nat.reduceAnd, Nat.reduceBNe, Nat.reduceLeDiff, Nat.reduceBEq, Nat.testBit, Nat.zero_lt_one, Int.reduceToNat, Int.reduceNeg, Int.reduceLE, Int.reduceLT, Int.reduceEq, decide_true, decide_false, Bool.and_true, Bool.true_and, Bool.and_false, Bool.false_and, Bool.or_true, Bool.true_or, Bool.or_false, Bool.false_or, Bool.not_true, Bool.not_false, beq_self_eq_true, reduceCtorEq, Int.le_refl, Nat.add_zero, and_self, and_true, true_and, or_true, true_or, if_true, if_false, Nat.le_refl, Bool.and_self, eq_self, Bool.not_false, Bool.not_true, Hld.enc, hd]
  cases hf : l.findIdx? (fun y => hm y x) with
  | none =>
    rw [go l.length (Nat.le_refl _) fun j _ hjl => find_none hf hjl, b37_0_run]
    simp only [go_sem, ↓reduceIte, Nat.reduceAdd, Nat.reduceSub, Nat.reduceMul, Nat.reduceEqDiff, Nat.reduceLT, Nat.reduceShiftRight, Nat.reduceAnd, Nat.reduceBNe, Nat.reduceLeDiff, Nat.reduceBEq, Nat.testBit, Nat.zero_lt_one, Int.reduceToNat, Int.reduceNeg, Int.reduceLE, Int.reduceLT, Int.reduceEq, decide_true, decide_false, Bool.and_true, Bool.true_and, Bool.and_false, Bool.false_and, Bool.or_true, Bool.true_or, Bool.or_false, Bool.false_or, Bool.not_true, Bool.not_false, beq_self_eq_true, reduceCtorEq, Int.le_refl, Nat.add_zero, and_self, and_true, true_and, or_true, true_or, if_true, if_false, Nat.le_refl, Bool.and_self, eq_self, Bool.not_false, Bool.not_true, Int.lt_irrefl, holdF, h4, hf, Option.isSome_none, Bool.false_eq_true, List.map_append, all7]
    have h8 := mb64 h4
    have h9 := mb64' h4
    simp only [go_sem, ↓reduceIte, Nat.reduceAdd, Nat.reduceSub, Nat.reduceMul, Nat.reduceEqDiff, Nat.reduceLT, Nat.reduceShiftRight, Nat.reduceAnd, Nat.reduceBNe, Nat.reduceLeDiff, Nat.reduceBEq, Nat.testBit, Nat.zero_lt_one, Int.reduceToNat, Int.reduceNeg, Int.reduceLE, Int.reduceLT, Int.reduceEq, decide_true, decide_false, Bool.and_true, Bool.true_and, Bool.and_false, Bool.false_and, Bool.or_true, Bool.true_or, Bool.or_false, Bool.false_or, Bool.not_true, Bool.not_false, beq_self_eq_true, reduceCtorEq, Int.le_refl, Nat.add_zero, and_self, and_true, true_and, or_true, true_or, if_true, if_false, Nat.le_refl, Bool.and_self, eq_self, Bool.not_false, Bool.not_true, Nat.zero_add, h8, h9, all7, Hld.enc]
  | some k =>
    obtain ⟨hk, h1, h2⟩ := find_some hf
    have hlt := ltT hk
    have hg := getm l Hld.enc hk
    simp only [hm, Bool.and_eq_true] at h1
    obtain ⟨⟨e1, e2⟩, e3⟩ := h1
    simp only [sM] at e1
    simp only [sV] at e2
    rw [go k (Nat.le_of_lt hk) fun j hj _ => h2 j hj, b37_0_run]
    simp only [go_sem, ↓reduceIte, Nat.reduceAdd, Nat.reduceSub, Nat.reduceMul, Nat.reduceEqDiff, Nat.reduceLT, Nat.reduceShiftRight, Nat.reduceAnd, Nat.reduceBNe, Nat.reduceLeDiff, Nat.reduceBEq, Nat.testBit, Nat.zero_lt_one, Int.reduceToNat, Int.reduceNeg, Int.reduceLE, Int.reduceLT, Int.reduceEq, decide_true, decide_false, Bool.and_true, Bool.true_and, Bool.and_false, Bool.false_and, Bool.or_true, Bool.true_or, Bool.or_false, Bool.false_or, Bool.not_true, Bool.not_false, beq_self_eq_true, reduceCtorEq, Int.le_refl, Nat.add_zero, and_self, and_true, true_and, or_true, true_or, if_true, if_false, Nat.le_refl, Bool.and_self, eq_self, Bool.not_false, Bool.not_true, hlt, hg, e1, e2, e3, Hld.enc, holdF, h4, hf, Option.isSome_some]

theorem Next38 (l : List Hld) (node : Int) (id : Vid) (seq : Int) (hl : l.length * 64 ≤ 140737488351232) : (KL AA XX).call 38 [(PV.one (D.sl (l.map Hld.enc))), (PV.one (D.sc (Value.int IntKind.i64 (node)))), .agg id.enc, (PV.one (D.sc (Value.int IntKind.i64 (seq))))] = some [(PV.one (D.sc (Value.string ((nextF l node id seq).1)))), (PV.one (D.sl ((nextF l node id seq).2.1.map Hld.enc))), (PV.one (D.sc (Value.bool ((nextF l node id seq).2.2))))] := by
  rw [c38]
  have go : ∀ k, k ≤ l.length → (∀ j (hj : j < k) (hl : j < l.length), nm node id seq l[j] = false) → loopR AA XX [0, 1, 3, 6, 13, 14] 2 b38_0 (RUN AA XX b38_0 ⟨[(0, (AV.c (C.d (D.sl (l.map Hld.enc))))), (1, (AV.c (C.d (D.sc (Value.int IntKind.i64 (node)))))), (3, (AV.c (C.d (D.sc (Value.int IntKind.i64 (seq)))))), (6, .ptr 0 0), (13, (AV.c (C.d (D.sc (Value.int IntKind.i64 (l.length)))))), (14, (AV.c (C.d (D.sc (Value.int IntKind.i64 (0))))))], [(0, .arr [(C.d (D.sc (Value.int IntKind.i64 (id.c)))), (C.d (D.sc (Value.int IntKind.i64 (id.n)))), (C.d (D.sc (Value.int IntKind.i64 (id.i))))]), (1, .tok 0 0)], 2⟩) = loopR AA XX [0, 1, 3, 6, 13, 14] 2 b38_0 (RUN AA XX b38_0 ⟨[(0, (AV.c (C.d (D.sl (l.map Hld.enc))))), (1, (AV.c (C.d (D.sc (Value.int IntKind.i64 (node)))))), (3, (AV.c (C.d (D.sc (Value.int IntKind.i64 (seq)))))), (6, .ptr 0 0), (13, (AV.c (C.d (D.sc (Value.int IntKind.i64 (l.length)))))), (14, (AV.c (C.d (D.sc (Value.int IntKind.i64 (k))))))], [(0, .arr [(C.d (D.sc (Value.int IntKind.i64 (id.c)))), (C.d (D.sc (Value.int IntKind.i64 (id.n)))), (C.d (D.sc (Value.int IntKind.i64 (id.i))))]), (1, .tok 0 0)], 2⟩) := by
    intro k hk hno
    have := iter (F := fun (i : Nat) => loopR AA XX [0, 1, 3, 6, 13, 14] 2 b38_0 (RUN AA XX b38_0 ⟨[(0, (AV.c (C.d (D.sl (l.map Hld.enc))))), (1, (AV.c (C.d (D.sc (Value.int IntKind.i64 (node)))))), (3, (AV.c (C.d (D.sc (Value.int IntKind.i64 (seq)))))), (6, .ptr 0 0), (13, (AV.c (C.d (D.sc (Value.int IntKind.i64 (l.length)))))), (14, (AV.c (C.d (D.sc (Value.int IntKind.i64 (i))))))], [(0, .arr [(C.d (D.sc (Value.int IntKind.i64 (id.c)))), (C.d (D.sc (Value.int IntKind.i64 (id.n)))), (C.d (D.sc (Value.int IntKind.i64 (id.i))))]), (1, .tok 0 0)], 2⟩)) (Nat.zero_le k) fun i _ hik => by
      have hi : i < l.length := by omega
      have hlt := ltT hi
      have hg := getm l Hld.enc hi
      have hw := wrap_succ i (by omega)
      have hh := hno i hik hi
      show loopR _ _ _ _ _ (RUN _ _ _ _) = _
      rw [b38_0_run]
      cases e1 : decide (l[i].who.node = node) <;> cases e2 : sV l[i].id id <;> cases e3 : decide (l[i].seq = seq) <;> simp only [nm, e1, e2, e3, Bool.and_true, Bool.and_false, Bool.false_and, Bool.and_self, reduceCtorEq] at hh <;> simp only [sV] at e2 <;>
        simp only [go_sem, ↓reduceIte, Nat.reduceAdd, Nat.reduceSub, Nat.reduceMul, Nat.reduceEqDiff, Nat.reduceLT, Nat.reduceShiftRight, Nat.reduceAnd, Nat.reduceBNe, Nat.reduceLeDiff, Nat.reduceBEq, Nat.testBit, Nat.zero_lt_one, Int.reduceToNat, Int.reduceNeg, Int.reduceLE, Int.reduceLT, Int.reduceEq, decide_true, decide_false, Bool.and_true, Bool.true_and, Bool.and_false, Bool.false_and, Bool.or_true, Bool.true_or, Bool.or_false, Bool.false_or, Bool.not_true, Bool.not_false, beq_self_eq_true, reduceCtorEq, Int.le_refl, Nat.add_zero, and_self, and_true, true_and, or_true, true_or, if_true, if_false, Nat.le_refl, Bool.and_self, eq_self, Bool.not_false, Bool.not_true, hlt, hg, Hld.enc, hw, e1, e2, e3]
    exact this
  simp only [go_sem, ↓reduceIte, Nat.reduceAdd, Nat.reduceSub, Nat.reduceMul, Nat.reduceEqDiff, Nat.reduceLT, Nat.reduceShiftRight, Nat.reduceAnd, Nat.reduceBNe, Nat.reduceLeDiff, Nat.reduceBEq, Nat.testBit, Nat.zero_lt_one, Int.reduceToNat, Int.reduceNeg, Int.reduceLE, Int.reduceLT, Int.reduceEq, decide_true, decide_false, Bool.and_true, Bool.true_and, Bool.and_false, Bool.false_and, Bool.or_true, Bool.true_or, Bool.or_false, Bool.false_or, Bool.not_true, Bool.not_false, beq_self_eq_true, reduceCtorEq, Int.le_refl, Nat.add_zero, and_self, and_true, true_and, or_true, true_or, if_true, if_false, Nat.le_refl, Bool.and_self, eq_self, Bool.not_false, Bool.not_true, Vid.enc]
  cases hf : l.findIdx? (nm node id seq) with
  | none =>
    rw [go l.length (Nat.le_refl _) fun j _ hjl => find_none hf hjl, b38_0_run]
    simp only [go_sem, ↓reduceIte, Nat.reduceAdd, Nat.reduceSub, Nat.reduceMul, Nat.reduceEqDiff, Nat.reduceLT, Nat.reduceShiftRight, Nat.reduceAnd, Nat.reduceBNe, Nat.reduceLeDiff, Nat.reduceBEq, Nat.testBit, Nat.zero_lt_one, Int.reduceToNat, Int.reduceNeg, Int.reduceLE, Int.reduceLT, Int.reduceEq, decide_true, decide_false, Bool.and_true, Bool.true_and, Bool.and_false, Bool.false_and, Bool.or_true, Bool.true_or, Bool.or_false, Bool.false_or, Bool.not_true, Bool.not_false, beq_self_eq_true, reduceCtorEq, Int.le_refl, Nat.add_zero, and_self, and_true, true_and, or_true, true_or, if_true, if_false, Nat.le_refl, Bool.and_self, eq_self, Bool.not_false, Bool.not_true, Int.lt_irrefl, nextF, hf]
  | some k =>
    obtain ⟨hk, h1, h2⟩ := find_some hf
    have hlt := ltT hk
    have hg := getm l Hld.enc hk
    have hw := wrap_succ k (by omega)
    have hx : l[k]? = some l[k] := List.getElem?_eq_getElem hk
    have hn : nextF l node id seq = (l[k].text, l.take k ++ l.drop (k + 1), true) := by simp only [nextF, hf, hx]
    simp only [nm, Bool.and_eq_true] at h1
    obtain ⟨⟨e1, e2⟩, e3⟩ := h1
    simp only [sV] at e2
    have m1 : ((k : Int) ≤ (l.length : Int)) = True := eq_true (by omega)
    have m2 : (((k + 1 : Nat) : Int) ≤ (l.length : Int)) = True := eq_true (by omega)
    have m3 : ((l.take k).length * 64 ≤ maxBytes) = True := eq_true (by rw [List.length_take]; exact mbl hl (by omega))
    have m4 : ((l.take k).length + (l.drop (k + 1)).length) * 64 ≤ maxBytes := by rw [List.length_take, List.length_drop]; exact mbl hl (by omega)
    have m5 : (0 ≤ ((k + 1 : Nat) : Int)) = True := eq_true (by omega)
    rw [go k (Nat.le_of_lt hk) fun j hj _ => h2 j hj, b38_0_run, hn]
    simp only [go_sem, ↓reduceIte, Nat.reduceAdd, Nat.reduceSub, Nat.reduceMul, Nat.reduceEqDiff, Nat.reduceLT, Nat.reduceShiftRight, Nat.reduceAnd, Nat.reduceBNe, Nat.reduceLeDiff, Nat.reduceBEq, Nat.testBit, Nat.zero_lt_one, Int.reduceToNat, Int.reduceNeg, Int.reduceLE, Int.reduceLT, Int.reduceEq, decide_true, decide_false, Bool.and_true, Bool.true_and, Bool.and_false, Bool.false_and, Bool.or_true, Bool.true_or, Bool.or_false, Bool.false_or, Bool.not_true, Bool.not_false, beq_self_eq_true, reduceCtorEq, Int.le_refl, Nat.add_zero, and_self, and_true, true_and, or_true, true_or, if_true, if_false, Nat.le_refl, Bool.and_self, eq_self, Bool.not_false, Bool.not_true, hlt, hg, e1, e2, e3, Hld.enc, hw, m1, m2, m3, m5, Int.le_refl, all7, take_enc, drop_enc, Nat.zero_add]
    by_cases ht : (l.take k).isEmpty
    · have ht' : l.take k = [] := by simpa using ht
      have m6 : (l.drop (k + 1)).length * 64 ≤ maxBytes := by rw [List.length_drop]; exact mbl hl (by omega)
      simp only [go_sem, ↓reduceIte, Nat.reduceAdd, Nat.reduceSub, Nat.reduceMul, Nat.reduceEqDiff, Nat.reduceLT, Nat.reduceShiftRight, Nat.reduceAnd, Nat.reduceBNe, Nat.reduceLeDiff, Nat.reduceBEq, Nat.testBit, Nat.zero_lt_one, Int.reduceToNat, Int.reduceNeg, Int.reduceLE, Int.reduceLT, Int.reduceEq, decide_true, decide_false, Bool.and_true, Bool.true_and, Bool.and_false, Bool.false_and, Bool.or_true, Bool.true_or, Bool.or_false, Bool.false_or, Bool.not_true, Bool.not_false, beq_self_eq_true, reduceCtorEq, Int.le_refl, Nat.add_zero, and_self, and_true, true_and, or_true, true_or, if_true, if_false, Nat.le_refl, Bool.and_self, eq_self, Bool.not_false, Bool.not_true, ht', m6, all7]
    · have ht' : ((l.take k).map Hld.enc).isEmpty = false := by simpa using ht
      simp only [go_sem, ↓reduceIte, Nat.reduceAdd, Nat.reduceSub, Nat.reduceMul, Nat.reduceEqDiff, Nat.reduceLT, Nat.reduceShiftRight, Nat.reduceAnd, Nat.reduceBNe, Nat.reduceLeDiff, Nat.reduceBEq, Nat.testBit, Nat.zero_lt_one, Int.reduceToNat, Int.reduceNeg, Int.reduceLE, Int.reduceLT, Int.reduceEq, decide_true, decide_false, Bool.and_true, Bool.true_and, Bool.and_false, Bool.false_and, Bool.or_true, Bool.true_or, Bool.or_false, Bool.false_or, Bool.not_true, Bool.not_false, beq_self_eq_true, reduceCtorEq, Int.le_refl, Nat.add_zero, and_self, and_true, true_and, or_true, true_or, if_true, if_false, Nat.le_refl, Bool.and_self, eq_self, Bool.not_false, Bool.not_true, ht', m4, all7, app_enc, Bool.false_eq_true]

theorem Next39 (l : List Hld) (node : Int) (id : Vid) (seq : Int) (hl : l.length * 64 ≤ 140737488351232) : (KL AA XX).call 39 [(PV.one (D.sl (l.map Hld.enc))), (PV.one (D.sc (Value.int IntKind.i64 (node)))), .agg id.enc, (PV.one (D.sc (Value.int IntKind.i64 (seq))))] = some [(PV.one (D.sc (Value.string ((nextF l node id seq).1)))), (PV.one (D.sl ((nextF l node id seq).2.1.map Hld.enc))), (PV.one (D.sc (Value.bool ((nextF l node id seq).2.2))))] := by
  rw [c39]
  have go : ∀ k, k ≤ l.length → (∀ j (hj : j < k) (hl : j < l.length), nm node id seq l[j] = false) → loopR AA XX [0, 1, 3, 6, 11] 2 b39_0 (RUN AA XX b39_0 ⟨[(0, (AV.c (C.d (D.sl (l.map Hld.enc))))), (1, (AV.c (C.d (D.sc (Value.int IntKind.i64 (node)))))), (3, (AV.c (C.d (D.sc (Value.int IntKind.i64 (seq)))))), (6, .ptr 0 0), (11, (AV.c (C.d (D.sc (Value.int IntKind.i64 (0))))))], [(0, .arr [(C.d (D.sc (Value.int IntKind.i64 (id.c)))), (C.d (D.sc (Value.int IntKind.i64 (id.n)))), (C.d (D.sc (Value.int IntKind.i64 (id.i))))]), (1, .tok 0 0)], 2⟩) = loopR AA XX [0, 1, 3, 6, 11] 2 b39_0 (RUN AA XX b39_0 ⟨[(0, (AV.c (C.d (D.sl (l.map Hld.enc))))), (1, (AV.c (C.d (D.sc (Value.int IntKind.i64 (node)))))), (3, (AV.c (C.d (D.sc (Value.int IntKind.i64 (seq)))))), (6, .ptr 0 0), (11, (AV.c (C.d (D.sc (Value.int IntKind.i64 (k))))))], [(0, .arr [(C.d (D.sc (Value.int IntKind.i64 (id.c)))), (C.d (D.sc (Value.int IntKind.i64 (id.n)))), (C.d (D.sc (Value.int IntKind.i64 (id.i))))]), (1, .tok 0 0)], 2⟩) := by
    intro k hk hno
    have := iter (F := fun (i : Nat) => loopR AA XX [0, 1, 3, 6, 11] 2 b39_0 (RUN AA XX b39_0 ⟨[(0, (AV.c (C.d (D.sl (l.map Hld.enc))))), (1, (AV.c (C.d (D.sc (Value.int IntKind.i64 (node)))))), (3, (AV.c (C.d (D.sc (Value.int IntKind.i64 (seq)))))), (6, .ptr 0 0), (11, (AV.c (C.d (D.sc (Value.int IntKind.i64 (i))))))], [(0, .arr [(C.d (D.sc (Value.int IntKind.i64 (id.c)))), (C.d (D.sc (Value.int IntKind.i64 (id.n)))), (C.d (D.sc (Value.int IntKind.i64 (id.i))))]), (1, .tok 0 0)], 2⟩)) (Nat.zero_le k) fun i _ hik => by
      have hi : i < l.length := by omega
      have hlt := ltT hi
      have hg := getm l Hld.enc hi
      have hw := wrap_succ i (by omega)
      have hh := hno i hik hi
      show loopR _ _ _ _ _ (RUN _ _ _ _) = _
      rw [b39_0_run]
      cases e1 : decide (l[i].who.node = node) <;> cases e2 : sV l[i].id id <;> cases e3 : decide (l[i].seq = seq) <;> simp only [nm, e1, e2, e3, Bool.and_true, Bool.and_false, Bool.false_and, Bool.and_self, reduceCtorEq] at hh <;> simp only [sV] at e2 <;>
        simp only [go_sem, ↓reduceIte, Nat.reduceAdd, Nat.reduceSub, Nat.reduceMul, Nat.reduceEqDiff, Nat.reduceLT, Nat.reduceShiftRight, Nat.reduceAnd, Nat.reduceBNe, Nat.reduceLeDiff, Nat.reduceBEq, Nat.testBit, Nat.zero_lt_one, Int.reduceToNat, Int.reduceNeg, Int.reduceLE, Int.reduceLT, Int.reduceEq, decide_true, decide_false, Bool.and_true, Bool.true_and, Bool.and_false, Bool.false_and, Bool.or_true, Bool.true_or, Bool.or_false, Bool.false_or, Bool.not_true, Bool.not_false, beq_self_eq_true, reduceCtorEq, Int.le_refl, Nat.add_zero, and_self, and_true, true_and, or_true, true_or, if_true, if_false, Nat.le_refl, Bool.and_self, eq_self, Bool.not_false, Bool.not_true, hlt, hg, Hld.enc, hw, e1, e2, e3]
    exact this
  simp only [go_sem, ↓reduceIte, Nat.reduceAdd, Nat.reduceSub, Nat.reduceMul, Nat.reduceEqDiff, Nat.reduceLT, Nat.reduceShiftRight, Nat.reduceAnd, Nat.reduceBNe, Nat.reduceLeDiff, Nat.reduceBEq, Nat.testBit, Nat.zero_lt_one, Int.reduceToNat, Int.reduceNeg, Int.reduceLE, Int.reduceLT, Int.reduceEq, decide_true, decide_false, Bool.and_true, Bool.true_and, Bool.and_false, Bool.false_and, Bool.or_true, Bool.true_or, Bool.or_false, Bool.false_or, Bool.not_true, Bool.not_false, beq_self_eq_true, reduceCtorEq, Int.le_refl, Nat.add_zero, and_self, and_true, true_and, or_true, true_or, if_true, if_false, Nat.le_refl, Bool.and_self, eq_self, Bool.not_false, Bool.not_true, Vid.enc]
  cases hf : l.findIdx? (nm node id seq) with
  | none =>
    rw [go l.length (Nat.le_refl _) fun j _ hjl => find_none hf hjl, b39_0_run]
    simp only [go_sem, ↓reduceIte, Nat.reduceAdd, Nat.reduceSub, Nat.reduceMul, Nat.reduceEqDiff, Nat.reduceLT, Nat.reduceShiftRight, Nat.reduceAnd, Nat.reduceBNe, Nat.reduceLeDiff, Nat.reduceBEq, Nat.testBit, Nat.zero_lt_one, Int.reduceToNat, Int.reduceNeg, Int.reduceLE, Int.reduceLT, Int.reduceEq, decide_true, decide_false, Bool.and_true, Bool.true_and, Bool.and_false, Bool.false_and, Bool.or_true, Bool.true_or, Bool.or_false, Bool.false_or, Bool.not_true, Bool.not_false, beq_self_eq_true, reduceCtorEq, Int.le_refl, Nat.add_zero, and_self, and_true, true_and, or_true, true_or, if_true, if_false, Nat.le_refl, Bool.and_self, eq_self, Bool.not_false, Bool.not_true, Int.lt_irrefl, nextF, hf]
  | some k =>
    obtain ⟨hk, h1, h2⟩ := find_some hf
    have hlt := ltT hk
    have hg := getm l Hld.enc hk
    have hw := wrap_succ k (by omega)
    have hx : l[k]? = some l[k] := List.getElem?_eq_getElem hk
    have hn : nextF l node id seq = (l[k].text, l.take k ++ l.drop (k + 1), true) := by simp only [nextF, hf, hx]
    simp only [nm, Bool.and_eq_true] at h1
    obtain ⟨⟨e1, e2⟩, e3⟩ := h1
    simp only [sV] at e2
    have m1 : ((k : Int) ≤ (l.length : Int)) = True := eq_true (by omega)
    have m2 : (((k + 1 : Nat) : Int) ≤ (l.length : Int)) = True := eq_true (by omega)
    have m3 : ((l.take k).length * 64 ≤ maxBytes) = True := eq_true (by rw [List.length_take]; exact mbl hl (by omega))
    have m4 : ((l.take k).length + (l.drop (k + 1)).length) * 64 ≤ maxBytes := by rw [List.length_take, List.length_drop]; exact mbl hl (by omega)
    have m5 : (0 ≤ ((k + 1 : Nat) : Int)) = True := eq_true (by omega)
    rw [go k (Nat.le_of_lt hk) fun j hj _ => h2 j hj, b39_0_run, hn]
    simp only [go_sem, ↓reduceIte, Nat.reduceAdd, Nat.reduceSub, Nat.reduceMul, Nat.reduceEqDiff, Nat.reduceLT, Nat.reduceShiftRight, Nat.reduceAnd, Nat.reduceBNe, Nat.reduceLeDiff, Nat.reduceBEq, Nat.testBit, Nat.zero_lt_one, Int.reduceToNat, Int.reduceNeg, Int.reduceLE, Int.reduceLT, Int.reduceEq, decide_true, decide_false, Bool.and_true, Bool.true_and, Bool.and_false, Bool.false_and, Bool.or_true, Bool.true_or, Bool.or_false, Bool.false_or, Bool.not_true, Bool.not_false, beq_self_eq_true, reduceCtorEq, Int.le_refl, Nat.add_zero, and_self, and_true, true_and, or_true, true_or, if_true, if_false, Nat.le_refl, Bool.and_self, eq_self, Bool.not_false, Bool.not_true, hlt, hg, e1, e2, e3, Hld.enc, hw, m1, m2, m3, m5, Int.le_refl, all7, take_enc, drop_enc, Nat.zero_add]
    by_cases ht : (l.take k).isEmpty
    · have ht' : l.take k = [] := by simpa using ht
      have m6 : (l.drop (k + 1)).length * 64 ≤ maxBytes := by rw [List.length_drop]; exact mbl hl (by omega)
      simp only [go_sem, ↓reduceIte, Nat.reduceAdd, Nat.reduceSub, Nat.reduceMul, Nat.reduceEqDiff, Nat.reduceLT, Nat.reduceShiftRight, Nat.reduceAnd, Nat.reduceBNe, Nat.reduceLeDiff, Nat.reduceBEq, Nat.testBit, Nat.zero_lt_one, Int.reduceToNat, Int.reduceNeg, Int.reduceLE, Int.reduceLT, Int.reduceEq, decide_true, decide_false, Bool.and_true, Bool.true_and, Bool.and_false, Bool.false_and, Bool.or_true, Bool.true_or, Bool.or_false, Bool.false_or, Bool.not_true, Bool.not_false, beq_self_eq_true, reduceCtorEq, Int.le_refl, Nat.add_zero, and_self, and_true, true_and, or_true, true_or, if_true, if_false, Nat.le_refl, Bool.and_self, eq_self, Bool.not_false, Bool.not_true, ht', m6, all7]
    · have ht' : ((l.take k).map Hld.enc).isEmpty = false := by simpa using ht
      simp only [go_sem, ↓reduceIte, Nat.reduceAdd, Nat.reduceSub, Nat.reduceMul, Nat.reduceEqDiff, Nat.reduceLT, Nat.reduceShiftRight, Nat.reduceAnd, Nat.reduceBNe, Nat.reduceLeDiff, Nat.reduceBEq, Nat.testBit, Nat.zero_lt_one, Int.reduceToNat, Int.reduceNeg, Int.reduceLE, Int.reduceLT, Int.reduceEq, decide_true, decide_false, Bool.and_true, Bool.true_and, Bool.and_false, Bool.false_and, Bool.or_true, Bool.true_or, Bool.or_false, Bool.false_or, Bool.not_true, Bool.not_false, beq_self_eq_true, reduceCtorEq, Int.le_refl, Nat.add_zero, and_self, and_true, true_and, or_true, true_or, if_true, if_false, Nat.le_refl, Bool.and_self, eq_self, Bool.not_false, Bool.not_true, ht', m4, all7, app_enc, Bool.false_eq_true]

theorem Only41 (l : List Hld) (id : Vid) (hl : l.length * 64 ≤ 140737488351232) : (KL AA XX).call 41 [(PV.one (D.sl (l.map Hld.enc))), .agg id.enc] = some [(PV.one (D.sl ((onlyF l id).map Hld.enc)))] := by
  rw [c41]
  have := iter (F := fun (i : Nat) => loopR AA XX [0, 3, 5, 8, 9] 3 b41_0 (RUN AA XX b41_0 ⟨[(0, (AV.c (C.d (D.sl (l.map Hld.enc))))), (3, .ptr 0 0), (5, (AV.c (C.gr 2 ((onlyF (l.take i) id).map Hld.enc)))), (8, (AV.c (C.d (D.sc (Value.int IntKind.i64 (l.length)))))), (9, (AV.c (C.d (D.sc (Value.int IntKind.i64 (i))))))], [(0, .arr [(C.d (D.sc (Value.int IntKind.i64 (id.c)))), (C.d (D.sc (Value.int IntKind.i64 (id.n)))), (C.d (D.sc (Value.int IntKind.i64 (id.i))))]), (1, .tok 0 0), (2, .tok (onlyF (l.take i) id).length (tS (onlyF (l.take i) id).length 7))], 3⟩)) (Nat.zero_le l.length) fun i _ hi => by
    have hlt := ltT hi
    have hg := getm l Hld.enc hi
    have hw := wrap_succ i (by omega)
    have hle : (onlyF (l.take i) id).length ≤ i := Nat.le_trans (List.length_filter_le _ _) (by rw [List.length_take]; omega)
    have hm1 : ((onlyF (l.take i) id).length + 1) * 64 ≤ maxBytes := mbl hl (by omega)
    show loopR _ _ _ _ _ (RUN _ _ _ _) = _
    rw [b41_0_run]
    cases e2 : sV l[i].id id <;> (have e3 : onlyF (l.take (i + 1)) id = onlyF (l.take i) id ++ (if sV l[i].id id then [l[i]] else []) := filter_take _ hi) <;> rw [e2] at e3 <;> simp only [sV] at e2 <;>
      simp only [go_sem, ↓reduceIte, Nat.reduceAdd, Nat.reduceSub, Nat.reduceMul, Nat.reduceEqDiff, Nat.reduceLT, Nat.reduceShiftRight, Nat.reduceAnd, Nat.reduceBNe, Nat.reduceLeDiff, Nat.reduceBEq, Nat.testBit, Nat.zero_lt_one, Int.reduceToNat, Int.reduceNeg, Int.reduceLE, Int.reduceLT, Int.reduceEq, decide_true, decide_false, Bool.and_true, Bool.true_and, Bool.and_false, Bool.false_and, Bool.or_true, Bool.true_or, Bool.or_false, Bool.false_or, Bool.not_true, Bool.not_false, beq_self_eq_true, reduceCtorEq, Int.le_refl, Nat.add_zero, and_self, and_true, true_and, or_true, true_or, if_true, if_false, Nat.le_refl, Bool.and_self, eq_self, Bool.not_false, Bool.not_true, hlt, hg, Hld.enc, hw, e2, e3, List.length_append, tS1, tSok, hm1, List.map_append, Bool.false_eq_true]
  simp only [onlyF, List.take_zero, List.filter_nil, List.map_nil, List.length_nil, tS0] at this
  simp only [go_sem, ↓reduceIte, Nat.reduceAdd, Nat.reduceSub, Nat.reduceMul, Nat.reduceEqDiff, Nat.reduceLT, Nat.reduceShiftRight, Nat.reduceAnd, Nat.reduceBNe, Nat.reduceLeDiff, Nat.reduceBEq, Nat.testBit, Nat.zero_lt_one, Int.reduceToNat, Int.reduceNeg, Int.reduceLE, Int.reduceLT, Int.reduceEq, decide_true, decide_false, Bool.and_true, Bool.true_and, Bool.and_false, Bool.false_and, Bool.or_true, Bool.true_or, Bool.or_false, Bool.false_or, Bool.not_true, Bool.not_false, beq_self_eq_true, reduceCtorEq, Int.le_refl, Nat.add_zero, and_self, and_true, true_and, or_true, true_or, if_true, if_false, Nat.le_refl, Bool.and_self, eq_self, Bool.not_false, Bool.not_true, Vid.enc]
  rw [show (((0 : Nat) : Int)) = 0 from rfl] at this
  rw [this, b41_0_run]
  simp only [go_sem, ↓reduceIte, Nat.reduceAdd, Nat.reduceSub, Nat.reduceMul, Nat.reduceEqDiff, Nat.reduceLT, Nat.reduceShiftRight, Nat.reduceAnd, Nat.reduceBNe, Nat.reduceLeDiff, Nat.reduceBEq, Nat.testBit, Nat.zero_lt_one, Int.reduceToNat, Int.reduceNeg, Int.reduceLE, Int.reduceLT, Int.reduceEq, decide_true, decide_false, Bool.and_true, Bool.true_and, Bool.and_false, Bool.false_and, Bool.or_true, Bool.true_or, Bool.or_false, Bool.false_or, Bool.not_true, Bool.not_false, beq_self_eq_true, reduceCtorEq, Int.le_refl, Nat.add_zero, and_self, and_true, true_and, or_true, true_or, if_true, if_false, Nat.le_refl, Bool.and_self, eq_self, Bool.not_false, Bool.not_true, Int.lt_irrefl, onlyF, List.take_length]

theorem Only42 (l : List Hld) (id : Vid) (hl : l.length * 64 ≤ 140737488351232) : (KL AA XX).call 42 [(PV.one (D.sl (l.map Hld.enc))), .agg id.enc] = some [(PV.one (D.sl ((onlyF l id).map Hld.enc)))] := by
  rw [c42]
  have := iter (F := fun (i : Nat) => loopR AA XX [0, 3, 5, 6] 3 b42_0 (RUN AA XX b42_0 ⟨[(0, (AV.c (C.d (D.sl (l.map Hld.enc))))), (3, .ptr 0 0), (5, (AV.c (C.gr 2 ((onlyF (l.take i) id).map Hld.enc)))), (6, (AV.c (C.d (D.sc (Value.int IntKind.i64 (i))))))], [(0, .arr [(C.d (D.sc (Value.int IntKind.i64 (id.c)))), (C.d (D.sc (Value.int IntKind.i64 (id.n)))), (C.d (D.sc (Value.int IntKind.i64 (id.i))))]), (1, .tok 0 0), (2, .tok (onlyF (l.take i) id).length (tS (onlyF (l.take i) id).length 7))], 3⟩)) (Nat.zero_le l.length) fun i _ hi => by
    have hlt := ltT hi
    have hg := getm l Hld.enc hi
    have hw := wrap_succ i (by omega)
    have hle : (onlyF (l.take i) id).length ≤ i := Nat.le_trans (List.length_filter_le _ _) (by rw [List.length_take]; omega)
    have hm1 : ((onlyF (l.take i) id).length + 1) * 64 ≤ maxBytes := mbl hl (by omega)
    show loopR _ _ _ _ _ (RUN _ _ _ _) = _
    rw [b42_0_run]
    cases e2 : sV l[i].id id <;> (have e3 : onlyF (l.take (i + 1)) id = onlyF (l.take i) id ++ (if sV l[i].id id then [l[i]] else []) := filter_take _ hi) <;> rw [e2] at e3 <;> simp only [sV] at e2 <;>
      simp only [go_sem, ↓reduceIte, Nat.reduceAdd, Nat.reduceSub, Nat.reduceMul, Nat.reduceEqDiff, Nat.reduceLT, Nat.reduceShiftRight, Nat.reduceAnd, Nat.reduceBNe, Nat.reduceLeDiff, Nat.reduceBEq, Nat.testBit, Nat.zero_lt_one, Int.reduceToNat, Int.reduceNeg, Int.reduceLE, Int.reduceLT, Int.reduceEq, decide_true, decide_false, Bool.and_true, Bool.true_and, Bool.and_false, Bool.false_and, Bool.or_true, Bool.true_or, Bool.or_false, Bool.false_or, Bool.not_true, Bool.not_false, beq_self_eq_true, reduceCtorEq, Int.le_refl, Nat.add_zero, and_self, and_true, true_and, or_true, true_or, if_true, if_false, Nat.le_refl, Bool.and_self, eq_self, Bool.not_false, Bool.not_true, hlt, hg, Hld.enc, hw, e2, e3, List.length_append, tS1, tSok, hm1, List.map_append, Bool.false_eq_true]
  simp only [onlyF, List.take_zero, List.filter_nil, List.map_nil, List.length_nil, tS0] at this
  simp only [go_sem, ↓reduceIte, Nat.reduceAdd, Nat.reduceSub, Nat.reduceMul, Nat.reduceEqDiff, Nat.reduceLT, Nat.reduceShiftRight, Nat.reduceAnd, Nat.reduceBNe, Nat.reduceLeDiff, Nat.reduceBEq, Nat.testBit, Nat.zero_lt_one, Int.reduceToNat, Int.reduceNeg, Int.reduceLE, Int.reduceLT, Int.reduceEq, decide_true, decide_false, Bool.and_true, Bool.true_and, Bool.and_false, Bool.false_and, Bool.or_true, Bool.true_or, Bool.or_false, Bool.false_or, Bool.not_true, Bool.not_false, beq_self_eq_true, reduceCtorEq, Int.le_refl, Nat.add_zero, and_self, and_true, true_and, or_true, true_or, if_true, if_false, Nat.le_refl, Bool.and_self, eq_self, Bool.not_false, Bool.not_true, Vid.enc]
  rw [show (((0 : Nat) : Int)) = 0 from rfl] at this
  rw [this, b42_0_run]
  simp only [go_sem, ↓reduceIte, Nat.reduceAdd, Nat.reduceSub, Nat.reduceMul, Nat.reduceEqDiff, Nat.reduceLT, Nat.reduceShiftRight, Nat.reduceAnd, Nat.reduceBNe, Nat.reduceLeDiff, Nat.reduceBEq, Nat.testBit, Nat.zero_lt_one, Int.reduceToNat, Int.reduceNeg, Int.reduceLE, Int.reduceLT, Int.reduceEq, decide_true, decide_false, Bool.and_true, Bool.true_and, Bool.and_false, Bool.false_and, Bool.or_true, Bool.true_or, Bool.or_false, Bool.false_or, Bool.not_true, Bool.not_false, beq_self_eq_true, reduceCtorEq, Int.le_refl, Nat.add_zero, and_self, and_true, true_and, or_true, true_or, if_true, if_false, Nat.le_refl, Bool.and_self, eq_self, Bool.not_false, Bool.not_true, Int.lt_irrefl, onlyF, List.take_length]
end Go.Proofs.Ytpanbfainilmpaa.Ev.S
