/- The law StreamOnce in the evaluator: it answers true. -/
import Derived.Test.YtpanbfainilmpaaEvL4
import Derived.Test.YtpanbfainilmpaaEvT1
set_option linter.unusedVariables false
set_option linter.unusedSimpArgs false
set_option maxRecDepth 100000
set_option maxHeartbeats 1000000
namespace Go.Proofs.Ytpanbfainilmpaa.Ev.S
open Go Go.Proofs.Ytpanbfainilmpaa.Ev

/-- The same place: of whom, of which view, of which number. -/
def key (y x : Hld) : Prop := y.who = x.who ∧ y.id = x.id ∧ y.seq = x.seq
theorem hm_iff {y x : Hld} : hm y x = true ↔ key y x := by
  simp only [hm, Bool.and_eq_true, sM_iff, sV_iff, decide_eq_true_eq, key, and_assoc]
theorem key.symm {y x : Hld} (h : key y x) : key x y := ⟨h.1.symm, h.2.1.symm, h.2.2.symm⟩
theorem key.trans {z y x : Hld} (h : key z y) (k : key y x) : key z x := ⟨h.1.trans k.1, h.2.1.trans k.2.1, h.2.2.trans k.2.2⟩
theorem holdF_or (l : List Hld) (y : Hld) (hl : l.length < 400) : (holdF l y = l ∧ ∃ z ∈ l, key z y) ∨ (holdF l y = l ++ [y] ∧ ∀ z ∈ l, ¬ key z y) := by
  unfold holdF
  rw [if_neg (by omega)]
  cases hf : l.findIdx? (fun z => hm z y) with
  | none =>
    refine .inr ⟨by simp, fun z hz hk => ?_⟩
    rw [List.findIdx?_eq_none_iff] at hf
    have := hf z hz
    rw [hm_iff.2 hk] at this
    cases this
  | some k =>
    obtain ⟨hk, h1, _⟩ := find_some hf
    exact .inl ⟨by simp, _, List.getElem_mem hk, hm_iff.1 h1⟩
structure Once (h l : List Hld) (x : Hld) : Prop where
  sub : ∀ y ∈ h, y ∈ l
  one : h.Pairwise fun a b => ¬ key a b
  fst : (h.find? fun y => hm y x) = l.find? fun y => hm y x
theorem Once.nil (x : Hld) : Once [] [] x := ⟨by simp, .nil, rfl⟩
theorem Once.add {h l : List Hld} {x : Hld} (o : Once h l x) (y : Hld) (hl : h.length < 400) : Once (holdF h y) (l ++ [y]) x := by
  rcases holdF_or h y hl with ⟨e, z, hz, hk⟩ | ⟨e, hn⟩
  · rw [e]
    refine ⟨fun a ha => List.mem_append_left _ (o.sub a ha), o.one, ?_⟩
    rw [List.find?_append, ← o.fst]
    cases hf : h.find? (fun y => hm y x) with
    | some a => rfl
    | none =>
      rw [List.find?_eq_none] at hf
      have : hm y x = false := by
        cases hh : hm y x with
        | false => rfl
        | true => exact absurd (hm_iff.2 (hk.trans (hm_iff.1 hh))) (hf z hz)
      simp [List.find?_cons, this]
  · rw [e]
    refine ⟨fun a ha => ?_, ?_, ?_⟩
    · rcases List.mem_append.1 ha with ha | ha
      · exact List.mem_append_left _ (o.sub a ha)
      · exact List.mem_append_right _ ha
    · rw [List.pairwise_append]
      refine ⟨o.one, List.pairwise_singleton _ _, fun a ha b hb => ?_⟩
      rcases List.mem_singleton.1 hb with rfl
      exact hn a ha
    · rw [List.find?_append, List.find?_append, o.fst]
theorem once_holds (l : List Hld) (x : Hld) (hl : l.length ≤ 300) : Once (holds [] l) l x := by
  have : ∀ i, i ≤ l.length → Once (holds [] (l.take i)) (l.take i) x := by
    intro i
    induction i with
    | zero => intro _; simpa [holds] using Once.nil x
    | succ i ih =>
      intro hi
      have hb := holds_len [] (l.take i)
      rw [List.length_take, List.length_nil] at hb
      have := (ih (by omega)).add l[i] (by omega)
      rwa [← holds_succ [] l (by omega), List.take_append_getElem] at this
  simpa using this l.length (Nat.le_refl _)
/-- What is taken is the first, once. -/
theorem once_next (l : List Hld) (x : Hld) (hl : l.length ≤ 300) (hn : ∀ y ∈ l, y.who.node = x.who.node → y.who = x.who) :
    ∃ rest, nextF (holdF (holds [] l) x) x.who.node x.id x.seq = (((l.find? fun y => hm y x).getD x).text, rest, true) ∧ (nextF rest x.who.node x.id x.seq).2.2 = false ∧ rest.length + 1 = (holdF (holds [] l) x).length := by
  have hb := holds_len [] l
  rw [List.length_nil] at hb
  have o := (once_holds l x hl).add x (by omega)
  revert o
  generalize holdF (holds [] l) x = h
  intro o
  have hp : ∀ y ∈ h, nm x.who.node x.id x.seq y = hm y x := by
    intro y hy
    have hw : y.who.node = x.who.node → y.who = x.who := by
      rcases List.mem_append.1 (o.sub y hy) with h1 | h1
      · exact hn y h1
      · rcases List.mem_singleton.1 h1 with rfl
        exact fun _ => rfl
    cases h1 : hm y x with
    | true =>
      obtain ⟨k1, k2, k3⟩ := hm_iff.1 h1
      simp only [nm, k1, k2, k3, decide_true, Bool.true_and, Bool.and_true]
      exact sV_iff.2 rfl
    | false =>
      cases h2 : nm x.who.node x.id x.seq y with
      | false => rfl
      | true =>
        simp only [nm, Bool.and_eq_true, decide_eq_true_eq, sV_iff] at h2
        rw [hm_iff.2 ⟨hw h2.1.1, h2.1.2, h2.2⟩] at h1
        cases h1
  have hfind : (h.find? fun y => hm y x) = some ((l.find? fun y => hm y x).getD x) := by
    rw [o.fst, List.find?_append]
    cases l.find? (fun y => hm y x) with
    | some a => rfl
    | none =>
      have : hm x x = true := hm_iff.2 ⟨rfl, rfl, rfl⟩
      simp [List.find?_cons, this]
  generalize (l.find? fun y => hm y x).getD x = f at hfind
  rw [List.find?_eq_some_iff_getElem] at hfind
  obtain ⟨hf1, k, hk, hfk, hpre⟩ := hfind
  have hidx : h.findIdx? (nm x.who.node x.id x.seq) = some k := by
    rw [List.findIdx?_eq_some_iff_getElem]
    refine ⟨hk, by rw [hp _ (List.getElem_mem hk), hfk]; exact hf1, fun j hj => ?_⟩
    rw [hp _ (List.getElem_mem _)]
    simpa using hpre j hj
  have hx : h[k]? = some h[k] := List.getElem?_eq_getElem hk
  refine ⟨h.take k ++ h.drop (k + 1), ?_, ?_, ?_⟩
  · simp only [nextF, hidx, hx, hfk]
  · have : (h.take k ++ h.drop (k + 1)).findIdx? (nm x.who.node x.id x.seq) = none := by
      rw [List.findIdx?_eq_none_iff]
      intro y hy
      have hpw := List.pairwise_iff_getElem.1 o.one
      have hyh : y ∈ h := by
        rcases List.mem_append.1 hy with h1 | h1
        · exact List.mem_of_mem_take h1
        · exact List.mem_of_mem_drop h1
      rw [hp y hyh]
      cases hh : hm y x with
      | false => rfl
      | true =>
        exfalso
        have hky := hm_iff.1 hh
        have hkk : key h[k] x := by rw [hfk]; exact hm_iff.1 hf1
        rcases List.mem_append.1 hy with h1 | h1
        · obtain ⟨j, hj, rfl⟩ := List.mem_iff_getElem.1 h1
          rw [List.length_take] at hj
          rw [List.getElem_take] at hky
          exact hpw j k (by omega) hk (by omega) (hky.trans hkk.symm)
        · obtain ⟨j, hj, rfl⟩ := List.mem_iff_getElem.1 h1
          rw [List.length_drop] at hj
          rw [List.getElem_drop] at hky
          exact hpw k (k + 1 + j) hk (by omega) (by omega) (hkk.trans hky.symm)
    simp only [nextF, this]
  · rw [List.length_append, List.length_take, List.length_drop]; omega

theorem find_take_succ (l : List Hld) (x : Hld) {i : Nat} (hi : i < l.length) : ((l.take (i + 1)).find? fun y => hm y x) = (((l.take i).find? fun y => hm y x).or (if hm l[i] x = true then some l[i] else none)) := by
  rw [← List.take_append_getElem hi, List.find?_append]
  congr 1
  rw [List.find?_cons]
  split <;> simp_all
def fstT (l : List Hld) (x : Hld) (i : Nat) : ByteArray := (((l.take i).find? fun y => hm y x).getD x).text
def isT (l : List Hld) (x : Hld) (i : Nat) : Bool := ((l.take i).find? fun y => hm y x).isSome
/-- Another life of the same node. -/
def badN (l : List Hld) (x : Hld) : Option Nat := l.findIdx? fun y => decide (y.who.node = x.who.node) && !sM y.who x.who

/-- A list that grows from nothing: a row at first, data behind the first round. -/
def cH {α : Type} (en : α → List D) (t : Nat) (H : Nat → List α) : Nat → C
  | 0 => .gr t []
  | i + 1 => .d (.sl ((H (i + 1)).map en))
theorem cH_toD {α : Type} (en : α → List D) (t : Nat) (H : Nat → List α) (h : H 0 = []) (i : Nat) : (cH en t H i).toD = .sl ((H i).map en) := by
  cases i with
  | zero => rw [h]; rfl
  | succ i => rfl
theorem cH_old {α : Type} (en : α → List D) (t n : Nat) (H : Nat → List α) (h : t < n) (i : Nat) : AV.old n (.c (cH en t H i)) = .c (cH en t H i) := by
  cases i with
  | zero => simp only [cH, AV.old, if_pos h]
  | succ i => rfl
theorem cH_succ {α : Type} (en : α → List D) (t : Nat) (H : Nat → List α) (i : Nat) : cH en t H (i + 1) = .d (.sl ((H (i + 1)).map en)) := rfl
abbrev hH (l : List Hld) (i : Nat) : List Hld := holds [] (l.take i)
abbrev s6 (l : List Hld) (x : Hld) (i : Nat) : St := ⟨[(0, (AV.c (C.d (D.sl (l.map Hld.enc))))), (3, .ptr 0 0), (5, .c (cH Hld.enc 1 (hH l) i)), (6, (AV.c (C.d (D.sc (Value.string (fstT l x i)))))), (7, (AV.c (C.d (D.sc (Value.bool (isT l x i)))))), (8, (AV.c (C.d (D.sc (Value.int IntKind.i64 (i))))))], [(0, .arr [(C.d (D.sc (Value.int IntKind.i64 (x.who.node)))), (C.d (D.sc (Value.int IntKind.i64 (x.who.inc)))), (C.d (D.sc (Value.int IntKind.i64 (x.id.c)))), (C.d (D.sc (Value.int IntKind.i64 (x.id.n)))), (C.d (D.sc (Value.int IntKind.i64 (x.id.i)))), (C.d (D.sc (Value.int IntKind.i64 (x.seq)))), (C.d (D.sc (Value.string (x.text))))]), (1, .tok 0 0)], 2⟩

theorem law6_hold (l : List Hld) (hl : l.length ≤ 60) {i : Nat} (hi : i < l.length) : (KL AA XX).call 36 [(PV.one (D.sl ((hH l i).map Hld.enc))), .agg l[i].enc] = some [(PV.one (D.sl ((hH l (i + 1)).map Hld.enc)))] := by
  have hb := holds_len [] (l.take i)
  rw [List.length_take, List.length_nil] at hb
  have a1 := Hold36 (holds [] (l.take i)) l[i] (by omega)
  rw [← holds_succ [] l hi] at a1
  exact a1
theorem law6_step (l : List Hld) (x : Hld) (hl : l.length ≤ 60) (i : Nat) (hi : i < l.length) (hn : (decide (l[i].who.node = x.who.node) && !sM l[i].who x.who) = false) :
    loopR AA XX [0, 3, 5, 6, 7, 8] 2 b6_0 (RUN AA XX b6_0 (s6 l x i)) = loopR AA XX [0, 3, 5, 6, 7, 8] 2 b6_0 (RUN AA XX b6_0 (s6 l x (i + 1))) := by
  have hlt := ltT hi
  have hg := getm l Hld.enc hi
  have hw := wrap_succ i (by omega)
  have a1 := law6_hold l hl hi
  simp only [Hld.enc] at a1
  have t5 := cH_toD Hld.enc 1 (hH l) (by simp [holds]) i
  have o5 := cH_old Hld.enc 1 2 (hH l) (by omega) i
  have hf := find_take_succ l x hi
  have e1 : isT l x (i + 1) = (isT l x i || hm l[i] x) := by
    unfold isT; rw [hf]
    cases (l.take i).find? (fun y => hm y x) <;> cases hm l[i] x <;> rfl
  have e2 : fstT l x (i + 1) = if isT l x i = true then fstT l x i else if hm l[i] x = true then l[i].text else fstT l x i := by
    unfold fstT isT; rw [hf]
    cases (l.take i).find? (fun y => hm y x) <;> cases hm l[i] x <;> rfl
  rw [b6_0_run]
  cases q0 : isT l x i <;> cases q1 : sM l[i].who x.who <;> cases q2 : sV l[i].id x.id <;> cases q3 : decide (l[i].seq = x.seq) <;>
    (simp only [hm, q0, q1, q2, q3, Bool.and_true, Bool.and_false, Bool.false_and, Bool.true_and, Bool.or_false, Bool.or_true, Bool.false_or, Bool.true_or, Bool.and_self, if_true, if_false, Bool.false_eq_true] at e1 e2
     simp only [sV] at q2
     cases q4 : decide (l[i].who.node = x.who.node) <;>
     (simp only [q1, q4, Bool.not_true, Bool.not_false, Bool.and_true, Bool.and_false, reduceCtorEq] at hn) <;>
     (simp only [sM, q4] at q1) <;>
     (first
       | (exfalso; simp at q1; done)
       | simp only [s6, go_sem, ↓reduceIte, Nat.reduceAdd, Nat.reduceSub, Nat.reduceMul, Nat.reduceEqDiff, Nat.reduceLT, Nat.reduceShiftRight, Nat.reduceAnd, Nat.reduceBNe, Nat.reduceLeDiff, Nat.reduceBEq, Nat.testBit, Nat.zero_lt_one, Int.reduceToNat, Int.reduceNeg, Int.reduceLE, Int.reduceLT, Int.reduceEq, decide_true, decide_false, Bool.and_true, Bool.true_and, Bool.and_false, Bool.false_and, Bool.or_true, Bool.true_or, Bool.or_false, Bool.false_or, Bool.not_true, Bool.not_false, beq_self_eq_true, reduceCtorEq, Int.le_refl, Nat.add_zero, and_self, and_true, true_and, or_true, true_or, if_true, if_false, Nat.le_refl, Bool.and_self, eq_self, Bool.not_false, Bool.not_true, hlt, hg, Hld.enc, hw, a1, t5, o5, cH_succ, e1, e2, q0, q1, q2, q3, q4]))
theorem law6 (l : List Hld) (x : Hld) (hl : l.length * 64 ≤ 140737488351232) (_ : True) : (KL AA XX).call 6 [(PV.one (D.sl (l.map Hld.enc))), .agg x.enc] = some [(PV.one (D.sc (Value.bool (true))))] := by
  rw [c6]
  by_cases h1 : 60 < l.length
  · have d1 : decide ((60 : Int) < (l.length : Int)) = true := by simp; omega
    simp only [go_sem, ↓reduceIte, Nat.reduceAdd, Nat.reduceSub, Nat.reduceMul, Nat.reduceEqDiff, Nat.reduceLT, Nat.reduceShiftRight, Nat.reduceAnd, Nat.reduceBNe, Nat.reduceLeDiff, Nat.reduceBEq, Nat.testBit, Nat.zero_lt_one, Int.reduceToNat, Int.reduceNeg, Int.reduceLE, Int.reduceLT, Int.reduceEq, decide_true, decide_false, Bool.and_true, Bool.true_and, Bool.and_false, Bool.false_and, Bool.or_true, Bool.true_or, Bool.or_false, Bool.false_or, Bool.not_true, Bool.not_false, beq_self_eq_true, reduceCtorEq, Int.le_refl, Nat.add_zero, and_self, and_true, true_and, or_true, true_or, if_true, if_false, Nat.le_refl, Bool.and_self, eq_self, Bool.not_false, Bool.not_true, d1, awake30, Hld.enc]
  have d1 : decide ((60 : Int) < (l.length : Int)) = false := by simp; omega
  have h60 : l.length ≤ 60 := by omega
  have s0 : s6 l x 0 = ⟨[(0, (AV.c (C.d (D.sl (l.map Hld.enc))))), (3, .ptr 0 0), (5, .c (.gr 1 [])), (6, (AV.c (C.d (D.sc (Value.string (x.text)))))), (7, (AV.c (C.d (D.sc (Value.bool (false)))))), (8, (AV.c (C.d (D.sc (Value.int IntKind.i64 (0))))))], [(0, .arr [(C.d (D.sc (Value.int IntKind.i64 (x.who.node)))), (C.d (D.sc (Value.int IntKind.i64 (x.who.inc)))), (C.d (D.sc (Value.int IntKind.i64 (x.id.c)))), (C.d (D.sc (Value.int IntKind.i64 (x.id.n)))), (C.d (D.sc (Value.int IntKind.i64 (x.id.i)))), (C.d (D.sc (Value.int IntKind.i64 (x.seq)))), (C.d (D.sc (Value.string (x.text))))]), (1, .tok 0 0)], 2⟩ := rfl
  simp only [go_sem, ↓reduceIte, Nat.reduceAdd, Nat.reduceSub, Nat.reduceMul, Nat.reduceEqDiff, Nat.reduceLT, Nat.reduceShiftRight, Nat.reduceAnd, Nat.reduceBNe, Nat.reduceLeDiff, Nat.reduceBEq, Nat.testBit, Nat.zero_lt_one, Int.reduceToNat, Int.reduceNeg, Int.reduceLE, Int.reduceLT, Int.reduceEq, decide_true, decide_false, Bool.and_true, Bool.true_and, Bool.and_false, Bool.false_and, Bool.or_true, Bool.true_or, Bool.or_false, Bool.false_or, Bool.not_true, Bool.not_false, beq_self_eq_true, reduceCtorEq, Int.le_refl, Nat.add_zero, and_self, and_true, true_and, or_true, true_or, if_true, if_false, Nat.le_refl, Bool.and_self, eq_self, Bool.not_false, Bool.not_true, d1, Hld.enc]
  rw [← s0]
  cases hf : badN l x with
  | some k =>
    obtain ⟨hk, hb, hpre⟩ := find_some hf
    have go := iter (F := fun (i : Nat) => loopR AA XX [0, 3, 5, 6, 7, 8] 2 b6_0 (RUN AA XX b6_0 (s6 l x i))) (Nat.zero_le k) fun i _ hi => law6_step l x h60 i (by omega) (hpre i hi)
    have hlt := ltT hk
    have hg := getm l Hld.enc hk
    have a1 := law6_hold l h60 hk
    simp only [Hld.enc] at a1
    have t5 := cH_toD Hld.enc 1 (hH l) (by simp [holds]) k
    simp only [Bool.and_eq_true, Bool.not_eq_true'] at hb
    obtain ⟨q4, q1⟩ := hb
    have q5 : decide (l[k].who.inc = x.who.inc) = false := by
      have := q1
      simp only [sM, q4, Bool.true_and] at this
      exact this
    rw [go, b6_0_run]
    cases q0 : isT l x k <;> simp only [s6, go_sem, ↓reduceIte, Nat.reduceAdd, Nat.reduceSub, Nat.reduceMul, Nat.reduceEqDiff, Nat.reduceLT, Nat.reduceShiftRight, Nat.reduceAnd, Nat.reduceBNe, Nat.reduceLeDiff, Nat.reduceBEq, Nat.testBit, Nat.zero_lt_one, Int.reduceToNat, Int.reduceNeg, Int.reduceLE, Int.reduceLT, Int.reduceEq, decide_true, decide_false, Bool.and_true, Bool.true_and, Bool.and_false, Bool.false_and, Bool.or_true, Bool.true_or, Bool.or_false, Bool.false_or, Bool.not_true, Bool.not_false, beq_self_eq_true, reduceCtorEq, Int.le_refl, Nat.add_zero, and_self, and_true, true_and, or_true, true_or, if_true, if_false, Nat.le_refl, Bool.and_self, eq_self, Bool.not_false, Bool.not_true, hlt, hg, Hld.enc, a1, t5, q0, q4, q5, awake30]
  | none =>
    have hall : ∀ y ∈ l, y.who.node = x.who.node → y.who = x.who := by
      intro y hy hn
      have := (List.findIdx?_eq_none_iff.1 hf) y hy
      simp only [hn, decide_true, Bool.true_and, Bool.not_eq_false'] at this
      exact sM_iff.1 this
    have go := iter (F := fun (i : Nat) => loopR AA XX [0, 3, 5, 6, 7, 8] 2 b6_0 (RUN AA XX b6_0 (s6 l x i))) (Nat.zero_le l.length) fun i _ hi => law6_step l x h60 i hi (find_none hf hi)
    obtain ⟨rest, n1, n2, n3⟩ := once_next l x (by omega) hall
    have hb := holds_len [] l
    rw [List.length_nil] at hb
    have hb2 := holdF_len (holds [] l) x
    have t5 := cH_toD Hld.enc 1 (hH l) (by simp [holds]) l.length
    rw [show hH l l.length = holds [] l by simp [hH]] at t5
    have a1 := Hold36 (holds [] l) x (by omega)
    have a2 := Next38 (holdF (holds [] l) x) x.who.node x.id x.seq (by omega)
    have a3 := Next38 rest x.who.node x.id x.seq (by omega)
    have hfst : fstT l x l.length = ((l.find? fun y => hm y x).getD x).text := by unfold fstT; rw [List.take_length]
    rw [n1, ← hfst] at a2
    rw [n2] at a3
    have hlen : IntKind.i64.wrap (((holdF (holds [] l) x).length : Int) - 1) = (rest.length : Int) := by rw [wrap_i64 _ (by omega) (by omega)]; omega
    simp only [Hld.enc] at a1
    simp only [Vid.enc] at a2 a3
    rw [go, b6_0_run]
    simp only [s6, go_sem, ↓reduceIte, Nat.reduceAdd, Nat.reduceSub, Nat.reduceMul, Nat.reduceEqDiff, Nat.reduceLT, Nat.reduceShiftRight, Nat.reduceAnd, Nat.reduceBNe, Nat.reduceLeDiff, Nat.reduceBEq, Nat.testBit, Nat.zero_lt_one, Int.reduceToNat, Int.reduceNeg, Int.reduceLE, Int.reduceLT, Int.reduceEq, decide_true, decide_false, Bool.and_true, Bool.true_and, Bool.and_false, Bool.false_and, Bool.or_true, Bool.true_or, Bool.or_false, Bool.false_or, Bool.not_true, Bool.not_false, beq_self_eq_true, reduceCtorEq, Int.le_refl, Nat.add_zero, and_self, and_true, true_and, or_true, true_or, if_true, if_false, Nat.le_refl, Bool.and_self, eq_self, Bool.not_false, Bool.not_true, Int.lt_irrefl, t5, a1, a2, a3, awake30, hlen]
end Go.Proofs.Ytpanbfainilmpaa.Ev.S
