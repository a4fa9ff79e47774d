/- The law TraceSecrets in the evaluator: it answers true. -/
import Derived.Test.YtpanbfainilmpaaEvF6
set_option linter.unusedVariables false
set_option linter.unusedSimpArgs false
set_option maxRecDepth 100000
set_option maxHeartbeats 4000000
namespace Go.Proofs.Ytpanbfainilmpaa.Ev.S
open Go Go.Proofs.Ytpanbfainilmpaa.Ev

/-- What a member's events come to: the last secret ahead of the next view, and whether it was in the view. -/
def sec (w : Mem) (id : Vid) : List Evt → Drw → Bool → Bool → Drw × Bool
  | _, x, i, true => (x, i)
  | [], x, i, false => (x, i)
  | e :: l, x, i, false =>
    if sM e.who w = true then
      if e.kind = 1 then sec w id l x (i || sV e.view.id id) i
      else if e.kind = 4 then sec w id l ⟨e.who, e.key, e.at_⟩ i false
      else sec w id l x i false
    else sec w id l x i false
def d0 : Drw := ⟨⟨0, 0⟩, ⟨#[]⟩, 0⟩
def secOf (l : List Evt) (v : View) (w : Mem) : Option Drw :=
  let r := sec w v.id l d0 false false
  if r.2 = true ∧ r.1.value ≠ ⟨#[]⟩ then some r.1 else none
def secretsF (l : List Evt) (v : View) : List Drw := v.mems.filterMap (secOf l v)

abbrev cD (x : Drw) : List C := [(C.d (D.sc (Value.int IntKind.i64 (x.who.node)))), (C.d (D.sc (Value.int IntKind.i64 (x.who.inc)))), (C.d (D.sc (Value.string (x.value)))), (C.d (D.sc (Value.int IntKind.i64 (x.at_))))]
abbrev hS (v : View) (o : List Drw) (x : Drw) : Hp := [(0, .arr [(C.d (D.sc (Value.int IntKind.i64 (v.id.c)))), (C.d (D.sc (Value.int IntKind.i64 (v.id.n)))), (C.d (D.sc (Value.int IntKind.i64 (v.id.i)))), (C.d (D.sl (v.mems.map Mem.enc)))]), (1, .tok 0 0), (2, .tok o.length (tS o.length 4)), (3, .arr (cD x))]
theorem sec81_in (l : List Evt) (v : View) (hl : l.length ≤ 1000000) (hv : v.mems.length ≤ 1000000) (o : List Drw) (i : Nat) (hi : i < v.mems.length) : ∀ (m k : Nat) (x : Drw) (q p : Bool), l.length - k = m → k ≤ l.length →
    ∃ F', blockR 2 (loopR AA XX [0, 3, 5, 6, 7, 8, 9, 10, 13, 14] 4 b81_1 (RUN AA XX b81_1 ⟨[(0, (AV.c (C.d (D.sl (l.map Evt.enc))))), (3, .ptr 0 0), (5, (AV.c (C.gr 2 (o.map Drw.enc)))), (6, (AV.c (C.d (D.sc (Value.int IntKind.i64 (i)))))), (7, .ptr 3 0), (8, (AV.c (C.d (D.sc (Value.bool (q)))))), (9, (AV.c (C.d (D.sc (Value.bool (p)))))), (10, (AV.c (C.d (D.sc (Value.int IntKind.i64 (k)))))), (13, (AV.c (C.d (D.sc (Value.int IntKind.i64 (v.mems.length)))))), (14, (AV.c (C.d (D.sc (Value.int IntKind.i64 (i))))))], hS v o x, 4⟩)) =
      some (.norm, ⟨F', hS v o (sec v.mems[i] v.id (l.drop k) x q p).1, 4⟩) ∧ F'.get 0 = (AV.c (C.d (D.sl (l.map Evt.enc)))) ∧ F'.get 3 = .ptr 0 0 ∧ F'.get 5 = (AV.c (C.gr 2 (o.map Drw.enc))) ∧ F'.get 7 = .ptr 3 0 ∧ F'.get 8 = (AV.c (C.d (D.sc (Value.bool ((sec v.mems[i] v.id (l.drop k) x q p).2))))) ∧ F'.get 13 = (AV.c (C.d (D.sc (Value.int IntKind.i64 (v.mems.length))))) ∧ F'.get 14 = (AV.c (C.d (D.sc (Value.int IntKind.i64 (i))))) := by
  have hgm := getm v.mems Mem.enc hi
  intro m
  induction m with
  | zero =>
    intro k x q p hn hk
    have hd := ltF (show l.length ≤ k by omega)
    have hs : sec v.mems[i] v.id (l.drop k) x q p = (x, q) := by
      rw [List.drop_eq_nil_of_le (by omega)]
      cases p <;> rfl
    rw [hs, b81_1_run]
    simp only [hS, cD, go_sem, ↓reduceIte, Nat.reduceAdd, Nat.reduceSub, Nat.reduceMul, Nat.reduceEqDiff, Nat.reduceLT, Nat.reduceShiftRight, Nat.reduceAnd, Nat.reduceBNe, Nat.reduceLeDiff, Nat.reduceBEq, Nat.testBit, Nat.zero_lt_one, Int.reduceToNat, Int.reduceNeg, Int.reduceLE, Int.reduceLT, Int.reduceEq, decide_true, decide_false, Bool.and_true, Bool.true_and, Bool.and_false, Bool.false_and, Bool.or_true, Bool.true_or, Bool.or_false, Bool.false_or, Bool.not_true, Bool.not_false, beq_self_eq_true, reduceCtorEq, and_self, and_true, true_and, or_true, true_or, if_true, if_false, Nat.le_refl, Bool.and_self, eq_self, Bool.not_false, Bool.not_true, hd]
    exact ⟨_, rfl, rfl, rfl, rfl, rfl, rfl, rfl, rfl⟩
  | succ m ih =>
    intro k x q p hn hk
    have hlt : k < l.length := by omega
    have hd := ltT hlt
    have hg := getm l Evt.enc hlt
    have hw := wrap_succ k (by omega)
    cases p with
    | true =>
      have hs : sec v.mems[i] v.id (l.drop k) x q true = (x, q) := by
        rw [List.drop_eq_getElem_cons hlt]; rfl
      rw [hs, b81_1_run]
      simp only [hS, cD, go_sem, ↓reduceIte, Nat.reduceAdd, Nat.reduceSub, Nat.reduceMul, Nat.reduceEqDiff, Nat.reduceLT, Nat.reduceShiftRight, Nat.reduceAnd, Nat.reduceBNe, Nat.reduceLeDiff, Nat.reduceBEq, Nat.testBit, Nat.zero_lt_one, Int.reduceToNat, Int.reduceNeg, Int.reduceLE, Int.reduceLT, Int.reduceEq, decide_true, decide_false, Bool.and_true, Bool.true_and, Bool.and_false, Bool.false_and, Bool.or_true, Bool.true_or, Bool.or_false, Bool.false_or, Bool.not_true, Bool.not_false, beq_self_eq_true, reduceCtorEq, and_self, and_true, true_and, or_true, true_or, if_true, if_false, Nat.le_refl, Bool.and_self, eq_self, Bool.not_false, Bool.not_true, hd]
      exact ⟨_, rfl, rfl, rfl, rfl, rfl, rfl, rfl, rfl⟩
    | false =>
      rw [List.drop_eq_getElem_cons hlt]
      cases e1 : sM l[k].who v.mems[i] with
      | false =>
        obtain ⟨F', h, hr⟩ := ih (k + 1) x q false (by omega) (by omega)
        have hs : sec v.mems[i] v.id (l[k] :: l.drop (k + 1)) x q false = sec v.mems[i] v.id (l.drop (k + 1)) x q false := by rw [sec, if_neg (by rw [e1]; simp)]
        rw [hs]
        refine ⟨F', ?_, hr⟩
        simp only [sM] at e1
        rw [← h, b81_1_run]
        simp only [hS, cD, go_sem, ↓reduceIte, Nat.reduceAdd, Nat.reduceSub, Nat.reduceMul, Nat.reduceEqDiff, Nat.reduceLT, Nat.reduceShiftRight, Nat.reduceAnd, Nat.reduceBNe, Nat.reduceLeDiff, Nat.reduceBEq, Nat.testBit, Nat.zero_lt_one, Int.reduceToNat, Int.reduceNeg, Int.reduceLE, Int.reduceLT, Int.reduceEq, decide_true, decide_false, Bool.and_true, Bool.true_and, Bool.and_false, Bool.false_and, Bool.or_true, Bool.true_or, Bool.or_false, Bool.false_or, Bool.not_true, Bool.not_false, beq_self_eq_true, reduceCtorEq, and_self, and_true, true_and, or_true, true_or, if_true, if_false, Nat.le_refl, Bool.and_self, eq_self, Bool.not_false, Bool.not_true, hd, hg, hgm, Evt.enc, Mem.enc, hw, e1]
      | true =>
        by_cases k1 : l[k].kind = 1
        · have hk4 : ¬ l[k].kind = 4 := by omega
          have d1 : decide (l[k].kind = 1) = true := decide_eq_true k1
          have d4 : decide (l[k].kind = 4) = false := decide_eq_false hk4
          have hs : sec v.mems[i] v.id (l[k] :: l.drop (k + 1)) x q false = sec v.mems[i] v.id (l.drop (k + 1)) x (q || sV l[k].view.id v.id) q := by rw [sec, if_pos e1, if_pos k1]
          obtain ⟨F', h, hr⟩ := ih (k + 1) x (q || sV l[k].view.id v.id) q (by omega) (by omega)
          rw [hs]
          refine ⟨F', ?_, hr⟩
          simp only [sM] at e1
          rw [← h, b81_1_run]
          cases q <;> simp only [hS, cD, go_sem, ↓reduceIte, Nat.reduceAdd, Nat.reduceSub, Nat.reduceMul, Nat.reduceEqDiff, Nat.reduceLT, Nat.reduceShiftRight, Nat.reduceAnd, Nat.reduceBNe, Nat.reduceLeDiff, Nat.reduceBEq, Nat.testBit, Nat.zero_lt_one, Int.reduceToNat, Int.reduceNeg, Int.reduceLE, Int.reduceLT, Int.reduceEq, decide_true, decide_false, Bool.and_true, Bool.true_and, Bool.and_false, Bool.false_and, Bool.or_true, Bool.true_or, Bool.or_false, Bool.false_or, Bool.not_true, Bool.not_false, beq_self_eq_true, reduceCtorEq, and_self, and_true, true_and, or_true, true_or, if_true, if_false, Nat.le_refl, Bool.and_self, eq_self, Bool.not_false, Bool.not_true, hd, hg, hgm, Evt.enc, Mem.enc, hw, e1, d1, d4, sV]
        · have d1 : decide (l[k].kind = 1) = false := decide_eq_false k1
          by_cases k4 : l[k].kind = 4
          · have d4 : decide (l[k].kind = 4) = true := decide_eq_true k4
            have hs : sec v.mems[i] v.id (l[k] :: l.drop (k + 1)) x q false = sec v.mems[i] v.id (l.drop (k + 1)) ⟨l[k].who, l[k].key, l[k].at_⟩ q false := by rw [sec, if_pos e1, if_neg k1, if_pos k4]
            obtain ⟨F', h, hr⟩ := ih (k + 1) ⟨l[k].who, l[k].key, l[k].at_⟩ q false (by omega) (by omega)
            rw [hs]
            refine ⟨F', ?_, hr⟩
            simp only [sM] at e1
            rw [← h, b81_1_run]
            simp only [hS, cD, go_sem, ↓reduceIte, Nat.reduceAdd, Nat.reduceSub, Nat.reduceMul, Nat.reduceEqDiff, Nat.reduceLT, Nat.reduceShiftRight, Nat.reduceAnd, Nat.reduceBNe, Nat.reduceLeDiff, Nat.reduceBEq, Nat.testBit, Nat.zero_lt_one, Int.reduceToNat, Int.reduceNeg, Int.reduceLE, Int.reduceLT, Int.reduceEq, decide_true, decide_false, Bool.and_true, Bool.true_and, Bool.and_false, Bool.false_and, Bool.or_true, Bool.true_or, Bool.or_false, Bool.false_or, Bool.not_true, Bool.not_false, beq_self_eq_true, reduceCtorEq, and_self, and_true, true_and, or_true, true_or, if_true, if_false, Nat.le_refl, Bool.and_self, eq_self, Bool.not_false, Bool.not_true, hd, hg, hgm, Evt.enc, Mem.enc, hw, e1, d1, d4]
          · have d4 : decide (l[k].kind = 4) = false := decide_eq_false k4
            have hs : sec v.mems[i] v.id (l[k] :: l.drop (k + 1)) x q false = sec v.mems[i] v.id (l.drop (k + 1)) x q false := by rw [sec, if_pos e1, if_neg k1, if_neg k4]
            obtain ⟨F', h, hr⟩ := ih (k + 1) x q false (by omega) (by omega)
            rw [hs]
            refine ⟨F', ?_, hr⟩
            simp only [sM] at e1
            rw [← h, b81_1_run]
            simp only [hS, cD, go_sem, ↓reduceIte, Nat.reduceAdd, Nat.reduceSub, Nat.reduceMul, Nat.reduceEqDiff, Nat.reduceLT, Nat.reduceShiftRight, Nat.reduceAnd, Nat.reduceBNe, Nat.reduceLeDiff, Nat.reduceBEq, Nat.testBit, Nat.zero_lt_one, Int.reduceToNat, Int.reduceNeg, Int.reduceLE, Int.reduceLT, Int.reduceEq, decide_true, decide_false, Bool.and_true, Bool.true_and, Bool.and_false, Bool.false_and, Bool.or_true, Bool.true_or, Bool.or_false, Bool.false_or, Bool.not_true, Bool.not_false, beq_self_eq_true, reduceCtorEq, and_self, and_true, true_and, or_true, true_or, if_true, if_false, Nat.le_refl, Bool.and_self, eq_self, Bool.not_false, Bool.not_true, hd, hg, hgm, Evt.enc, Mem.enc, hw, e1, d1, d4]
theorem secs_len (l : List Evt) (v : View) (ms : List Mem) : (ms.filterMap (secOf l v)).length ≤ ms.length := List.length_filterMap_le _ _
theorem Secrets81 (l : List Evt) (v : View) (hl : l.length ≤ 1000000) (hv : v.mems.length ≤ 1000000) : (KL AA XX).call 81 [(PV.one (D.sl (l.map Evt.enc))), .agg v.enc] = some [(PV.one (D.sl ((secretsF l v).map Drw.enc)))] := by
  rw [c81]
  have := iter (F := fun (i : Nat) => loopR AA XX [0, 3, 5, 13, 14] 3 b81_0 (RUN AA XX b81_0 ⟨[(0, (AV.c (C.d (D.sl (l.map Evt.enc))))), (3, .ptr 0 0), (5, (AV.c (C.gr 2 (((v.mems.take i).filterMap (secOf l v)).map Drw.enc)))), (13, (AV.c (C.d (D.sc (Value.int IntKind.i64 (v.mems.length)))))), (14, (AV.c (C.d (D.sc (Value.int IntKind.i64 (i))))))],
      [(0, .arr [(C.d (D.sc (Value.int IntKind.i64 (v.id.c)))), (C.d (D.sc (Value.int IntKind.i64 (v.id.n)))), (C.d (D.sc (Value.int IntKind.i64 (v.id.i)))), (C.d (D.sl (v.mems.map Mem.enc)))]), (1, .tok 0 0), (2, .tok ((v.mems.take i).filterMap (secOf l v)).length (tS ((v.mems.take i).filterMap (secOf l v)).length 4))], 3⟩)) (Nat.zero_le v.mems.length) fun i _ hi => by
    have hlt := ltT hi
    have hw := wrap_succ i (by omega)
    have hle := secs_len l v (v.mems.take i)
    rw [List.length_take] at hle
    have mb := mbn hv (show ((v.mems.take i).filterMap (secOf l v)).length + 1 ≤ v.mems.length + 1 by omega) (show 40 ≤ 1000 by omega)
    have hs : (v.mems.take (i + 1)).filterMap (secOf l v) = (v.mems.take i).filterMap (secOf l v) ++ (secOf l v v.mems[i]).toList := by
      rw [← List.take_append_getElem hi, List.filterMap_append]
      congr 1
    obtain ⟨F', h, g0, g3, g5, g7, g8, g13, g14⟩ := sec81_in l v hl hv ((v.mems.take i).filterMap (secOf l v)) i hi _ 0 d0 false false rfl (Nat.zero_le _)
    rw [List.drop_zero] at h g8
    simp only [hS, cD, d0, show (((0 : Nat) : Int)) = 0 from rfl] at h
    rw [show sec v.mems[i] v.id l ⟨⟨0, 0⟩, ⟨#[]⟩, 0⟩ false false = sec v.mems[i] v.id l d0 false false from rfl] at h
    have hso : secOf l v v.mems[i] = if (sec v.mems[i] v.id l d0 false false).2 = true ∧ (sec v.mems[i] v.id l d0 false false).1.value ≠ ⟨#[]⟩ then some (sec v.mems[i] v.id l d0 false false).1 else none := rfl
    revert h g8 hso
    generalize sec v.mems[i] v.id l d0 false false = r
    intro h g8 hso
    obtain ⟨x, q⟩ := r
    simp only at h g8 hso
    show loopR _ _ _ _ _ (RUN _ _ _ _) = _
    rw [b81_0_run]
    cases q with
    | false =>
      rw [if_neg (by simp)] at hso
      rw [hso] at hs
      simp only [Option.toList, List.append_nil] at hs
      simp only [go_sem, ↓reduceIte, Nat.reduceAdd, Nat.reduceSub, Nat.reduceMul, Nat.reduceEqDiff, Nat.reduceLT, Nat.reduceShiftRight, Nat.reduceAnd, Nat.reduceBNe, Nat.reduceLeDiff, Nat.reduceBEq, Nat.testBit, Nat.zero_lt_one, Int.reduceToNat, Int.reduceNeg, Int.reduceLE, Int.reduceLT, Int.reduceEq, decide_true, decide_false, Bool.and_true, Bool.true_and, Bool.and_false, Bool.false_and, Bool.or_true, Bool.true_or, Bool.or_false, Bool.false_or, Bool.not_true, Bool.not_false, beq_self_eq_true, reduceCtorEq, and_self, and_true, true_and, or_true, true_or, if_true, if_false, Nat.le_refl, Bool.and_self, eq_self, Bool.not_false, Bool.not_true, hlt, hw, h, g0, g3, g5, g7, g8, g13, g14, hs]
    | true =>
      by_cases hx : x.value = ⟨#[]⟩
      · rw [if_neg (by simp [hx])] at hso
        rw [hso] at hs
        simp only [Option.toList, List.append_nil] at hs
        have dx : decide (x.value = ⟨#[]⟩) = true := decide_eq_true hx
        simp only [go_sem, ↓reduceIte, Nat.reduceAdd, Nat.reduceSub, Nat.reduceMul, Nat.reduceEqDiff, Nat.reduceLT, Nat.reduceShiftRight, Nat.reduceAnd, Nat.reduceBNe, Nat.reduceLeDiff, Nat.reduceBEq, Nat.testBit, Nat.zero_lt_one, Int.reduceToNat, Int.reduceNeg, Int.reduceLE, Int.reduceLT, Int.reduceEq, decide_true, decide_false, Bool.and_true, Bool.true_and, Bool.and_false, Bool.false_and, Bool.or_true, Bool.true_or, Bool.or_false, Bool.false_or, Bool.not_true, Bool.not_false, beq_self_eq_true, reduceCtorEq, and_self, and_true, true_and, or_true, true_or, if_true, if_false, Nat.le_refl, Bool.and_self, eq_self, Bool.not_false, Bool.not_true, hlt, hw, h, g0, g3, g5, g7, g8, g13, g14, hs, dx]
      · rw [if_pos ⟨rfl, hx⟩] at hso
        rw [hso] at hs
        simp only [Option.toList] at hs
        have dx : decide (x.value = ⟨#[]⟩) = false := decide_eq_false hx
        simp only [go_sem, ↓reduceIte, Nat.reduceAdd, Nat.reduceSub, Nat.reduceMul, Nat.reduceEqDiff, Nat.reduceLT, Nat.reduceShiftRight, Nat.reduceAnd, Nat.reduceBNe, Nat.reduceLeDiff, Nat.reduceBEq, Nat.testBit, Nat.zero_lt_one, Int.reduceToNat, Int.reduceNeg, Int.reduceLE, Int.reduceLT, Int.reduceEq, decide_true, decide_false, Bool.and_true, Bool.true_and, Bool.and_false, Bool.false_and, Bool.or_true, Bool.true_or, Bool.or_false, Bool.false_or, Bool.not_true, Bool.not_false, beq_self_eq_true, reduceCtorEq, and_self, and_true, true_and, or_true, true_or, if_true, if_false, Nat.le_refl, Bool.and_self, eq_self, Bool.not_false, Bool.not_true, hlt, hw, h, g0, g3, g5, g7, g8, g13, g14, hs, dx, mb, tSok, tS1, Drw.enc, List.map_append, List.length_append]
  simp only [List.take_zero, List.filterMap_nil, List.map_nil, List.length_nil, tS0] at this
  rw [show (((0 : Nat) : Int)) = 0 from rfl, List.take_length] at this
  simp only [go_sem, ↓reduceIte, Nat.reduceAdd, Nat.reduceSub, Nat.reduceMul, Nat.reduceEqDiff, Nat.reduceLT, Nat.reduceShiftRight, Nat.reduceAnd, Nat.reduceBNe, Nat.reduceLeDiff, Nat.reduceBEq, Nat.testBit, Nat.zero_lt_one, Int.reduceToNat, Int.reduceNeg, Int.reduceLE, Int.reduceLT, Int.reduceEq, decide_true, decide_false, Bool.and_true, Bool.true_and, Bool.and_false, Bool.false_and, Bool.or_true, Bool.true_or, Bool.or_false, Bool.false_or, Bool.not_true, Bool.not_false, beq_self_eq_true, reduceCtorEq, and_self, and_true, true_and, or_true, true_or, if_true, if_false, Nat.le_refl, Bool.and_self, eq_self, Bool.not_false, Bool.not_true, View.enc]
  rw [this, b81_0_run]
  simp only [go_sem, ↓reduceIte, Nat.reduceAdd, Nat.reduceSub, Nat.reduceMul, Nat.reduceEqDiff, Nat.reduceLT, Nat.reduceShiftRight, Nat.reduceAnd, Nat.reduceBNe, Nat.reduceLeDiff, Nat.reduceBEq, Nat.testBit, Nat.zero_lt_one, Int.reduceToNat, Int.reduceNeg, Int.reduceLE, Int.reduceLT, Int.reduceEq, decide_true, decide_false, Bool.and_true, Bool.true_and, Bool.and_false, Bool.false_and, Bool.or_true, Bool.true_or, Bool.or_false, Bool.false_or, Bool.not_true, Bool.not_false, beq_self_eq_true, reduceCtorEq, and_self, and_true, true_and, or_true, true_or, if_true, if_false, Nat.le_refl, Bool.and_self, eq_self, Bool.not_false, Bool.not_true, Int.lt_irrefl, secretsF]

theorem sec_from (w : Mem) (id : Vid) : ∀ (l : List Evt) (x : Drw) (q p : Bool), (sec w id l x q p).1 = x ∨ ∃ e ∈ l, e.kind = 4 ∧ e.who = w ∧ (sec w id l x q p).1 = ⟨e.who, e.key, e.at_⟩ := by
  intro l
  induction l with
  | nil => intro x q p; left; cases p <;> rfl
  | cons e l ih =>
    intro x q p
    cases p with
    | true => left; rfl
    | false =>
      have lift : ∀ {y : Drw} {q p : Bool}, ((sec w id l y q p).1 = y ∨ ∃ e' ∈ l, e'.kind = 4 ∧ e'.who = w ∧ (sec w id l y q p).1 = ⟨e'.who, e'.key, e'.at_⟩) → ((sec w id l y q p).1 = y ∨ ∃ e' ∈ e :: l, e'.kind = 4 ∧ e'.who = w ∧ (sec w id l y q p).1 = ⟨e'.who, e'.key, e'.at_⟩) := by
        rintro y q p (h | ⟨e', he, h⟩)
        · exact .inl h
        · exact .inr ⟨e', by simp [he], h⟩
      unfold sec
      split
      · rename_i hw
        split
        · exact lift (ih _ _ _)
        · split
          · rename_i hk
            rcases ih ⟨e.who, e.key, e.at_⟩ q false with h | ⟨e', he, h⟩
            · exact .inr ⟨e, by simp, hk, sM_iff.1 hw, h⟩
            · exact .inr ⟨e', by simp [he], h⟩
          · exact lift (ih _ _ _)
      · exact lift (ih _ _ _)
theorem secOf_some {l : List Evt} {v : View} {w : Mem} {x : Drw} (h : secOf l v w = some x) : x.who = w ∧ x.value ≠ ⟨#[]⟩ ∧ ∃ e ∈ l, e.kind = 4 ∧ e.who = x.who ∧ e.key = x.value ∧ e.at_ = x.at_ := by
  unfold secOf at h
  simp only at h
  split at h
  · rename_i hc
    cases h
    rcases sec_from w v.id l d0 false false with h1 | ⟨e, he, h1, h2, h3⟩
    · rw [h1] at hc
      exact absurd rfl hc.2
    · refine ⟨?_, hc.2, e, he, h1, ?_, ?_, ?_⟩ <;> rw [h3]
      exact h2
  · cases h
theorem secs_sub (l : List Evt) (v : View) (ms : List Mem) : ((ms.filterMap (secOf l v)).map (·.who)).Sublist ms := by
  induction ms with
  | nil => exact List.Sublist.slnil
  | cons m ms ih =>
    cases h : secOf l v m with
    | none => rw [List.filterMap_cons_none h]; exact ih.cons _
    | some x =>
      rw [List.filterMap_cons_some h, List.map_cons, (secOf_some h).1]
      exact ih.cons_cons _
theorem sub_first {a : Mem} {as L : List Mem} (h : (a :: as).Sublist L) : ∃ n, ∃ hn : n < L.length, L[n] = a ∧ (∀ j (hj : j < n), (L[j]'(by omega)) ≠ a) ∧ as.Sublist (L.drop (n + 1)) := by
  induction L with
  | nil => cases h
  | cons b L ih =>
    by_cases hb : b = a
    · subst hb
      refine ⟨0, by simp, rfl, fun j hj => by omega, ?_⟩
      rw [List.drop_succ_cons, List.drop_zero]
      cases h with
      | cons _ h => exact (List.sublist_cons_self _ _).trans h
      | cons_cons _ h => exact h
    · cases h with
      | cons _ h =>
        obtain ⟨n, hn, h1, h2, h3⟩ := ih h
        refine ⟨n + 1, by simpa using hn, by simpa using h1, fun j hj => ?_, by simpa using h3⟩
        cases j with
        | zero => simpa using hb
        | succ j => simpa using h2 j (by omega)
      | cons_cons _ h => exact absurd rfl hb
def evm (x : Drw) (e : Evt) : Bool := decide (e.kind = 4) && (sM e.who x.who && (decide (e.key = x.value) && decide (e.at_ = x.at_)))
theorem any_take {α : Type} (p : α → Bool) (l : List α) {j : Nat} (hj : j < l.length) : (l.take (j + 1)).any p = ((l.take j).any p || p l[j]) := by
  rw [← List.take_append_getElem hj, List.any_append]
  simp
abbrev hV (v : View) : Hp := [(0, .arr [(C.d (D.sc (Value.int IntKind.i64 (v.id.c)))), (C.d (D.sc (Value.int IntKind.i64 (v.id.n)))), (C.d (D.sc (Value.int IntKind.i64 (v.id.i)))), (C.d (D.sl (v.mems.map Mem.enc)))])]
theorem law21_is (l : List Evt) (v : View) (s : List Drw) (i k : Nat) (hi : i < s.length) (hl : l.length ≤ 60) (he : l.any (evm s[i]) = true) : ∃ F', blockR 4 (loopR AA XX [0, 3, 5, 6, 7, 8, 9] 1 b21_2 (RUN AA XX b21_2 ⟨[(0, (AV.c (C.d (D.sl (l.map Evt.enc))))), (3, .ptr 0 0), (5, (AV.c (C.d (D.sl (s.map Drw.enc))))), (6, (AV.c (C.d (D.sc (Value.int IntKind.i64 (k)))))), (7, (AV.c (C.d (D.sc (Value.int IntKind.i64 (i)))))), (8, (AV.c (C.d (D.sc (Value.bool (false)))))), (9, (AV.c (C.d (D.sc (Value.int IntKind.i64 (0))))))], hV v, 1⟩)) = some (.norm, ⟨F', hV v, 1⟩) ∧
    F'.get 0 = (AV.c (C.d (D.sl (l.map Evt.enc)))) ∧ F'.get 3 = .ptr 0 0 ∧ F'.get 5 = (AV.c (C.d (D.sl (s.map Drw.enc)))) ∧ F'.get 6 = (AV.c (C.d (D.sc (Value.int IntKind.i64 (k))))) ∧ F'.get 7 = (AV.c (C.d (D.sc (Value.int IntKind.i64 (i))))) ∧ F'.get 8 = (AV.c (C.d (D.sc (Value.bool (true))))) := by
  have hg := getm s Drw.enc hi
  have := iter (F := fun (j : Nat) => loopR AA XX [0, 3, 5, 6, 7, 8, 9] 1 b21_2 (RUN AA XX b21_2 ⟨[(0, (AV.c (C.d (D.sl (l.map Evt.enc))))), (3, .ptr 0 0), (5, (AV.c (C.d (D.sl (s.map Drw.enc))))), (6, (AV.c (C.d (D.sc (Value.int IntKind.i64 (k)))))), (7, (AV.c (C.d (D.sc (Value.int IntKind.i64 (i)))))), (8, (AV.c (C.d (D.sc (Value.bool ((l.take j).any (evm s[i]))))))), (9, (AV.c (C.d (D.sc (Value.int IntKind.i64 (j))))))], hV v, 1⟩)) (Nat.zero_le l.length) fun j _ hj => by
    have hd := ltT hj
    have hg2 := getm l Evt.enc hj
    have hw := wrap_succ j (by omega)
    have ha := any_take (evm s[i]) l hj
    show loopR _ _ _ _ _ (RUN _ _ _ _) = _
    rw [b21_2_run]
    cases e0 : (l.take j).any (evm s[i]) with
    | true =>
      rw [e0, Bool.true_or] at ha
      simp only [hV, go_sem, ↓reduceIte, Nat.reduceAdd, Nat.reduceSub, Nat.reduceMul, Nat.reduceEqDiff, Nat.reduceLT, Nat.reduceShiftRight, Nat.reduceAnd, Nat.reduceBNe, Nat.reduceLeDiff, Nat.reduceBEq, Nat.testBit, Nat.zero_lt_one, Int.reduceToNat, Int.reduceNeg, Int.reduceLE, Int.reduceLT, Int.reduceEq, decide_true, decide_false, Bool.and_true, Bool.true_and, Bool.and_false, Bool.false_and, Bool.or_true, Bool.true_or, Bool.or_false, Bool.false_or, Bool.not_true, Bool.not_false, beq_self_eq_true, reduceCtorEq, and_self, and_true, true_and, or_true, true_or, if_true, if_false, Nat.le_refl, Bool.and_self, eq_self, Bool.not_false, Bool.not_true, hd, hw, ha]
    | false =>
      rw [e0, Bool.false_or] at ha
      cases q1 : decide (l[j].kind = 4) <;> cases q2 : sM l[j].who s[i].who <;> cases q3 : decide (l[j].key = s[i].value) <;> cases q4 : decide (l[j].at_ = s[i].at_) <;>
        (simp only [evm, q1, q2, q3, q4, Bool.and_true, Bool.and_false, Bool.false_and, Bool.and_self] at ha
         simp only [sM] at q2
         simp only [hV, go_sem, ↓reduceIte, Nat.reduceAdd, Nat.reduceSub, Nat.reduceMul, Nat.reduceEqDiff, Nat.reduceLT, Nat.reduceShiftRight, Nat.reduceAnd, Nat.reduceBNe, Nat.reduceLeDiff, Nat.reduceBEq, Nat.testBit, Nat.zero_lt_one, Int.reduceToNat, Int.reduceNeg, Int.reduceLE, Int.reduceLT, Int.reduceEq, decide_true, decide_false, Bool.and_true, Bool.true_and, Bool.and_false, Bool.false_and, Bool.or_true, Bool.true_or, Bool.or_false, Bool.false_or, Bool.not_true, Bool.not_false, beq_self_eq_true, reduceCtorEq, and_self, and_true, true_and, or_true, true_or, if_true, if_false, Nat.le_refl, Bool.and_self, eq_self, Bool.not_false, Bool.not_true, hd, hg, hg2, Evt.enc, Drw.enc, hw, ha, q1, q2, q3, q4])
  rw [List.take_zero, show ([] : List Evt).any (evm s[i]) = false from rfl, show (((0 : Nat) : Int)) = 0 from rfl, List.take_length, he] at this
  rw [this, b21_2_run]
  simp only [hV, go_sem, ↓reduceIte, Nat.reduceAdd, Nat.reduceSub, Nat.reduceMul, Nat.reduceEqDiff, Nat.reduceLT, Nat.reduceShiftRight, Nat.reduceAnd, Nat.reduceBNe, Nat.reduceLeDiff, Nat.reduceBEq, Nat.testBit, Nat.zero_lt_one, Int.reduceToNat, Int.reduceNeg, Int.reduceLE, Int.reduceLT, Int.reduceEq, decide_true, decide_false, Bool.and_true, Bool.true_and, Bool.and_false, Bool.false_and, Bool.or_true, Bool.true_or, Bool.or_false, Bool.false_or, Bool.not_true, Bool.not_false, beq_self_eq_true, reduceCtorEq, and_self, and_true, true_and, or_true, true_or, if_true, if_false, Nat.le_refl, Bool.and_self, eq_self, Bool.not_false, Bool.not_true, Int.lt_irrefl]
  exact ⟨_, rfl, rfl, rfl, rfl, rfl, rfl, rfl⟩
theorem law21_loop (l : List Evt) (v : View) (s : List Drw) (hl : l.length ≤ 60) (hv : v.mems.length ≤ 20) (hs : s.length ≤ 20) (hok : ∀ x ∈ s, x.value ≠ ⟨#[]⟩ ∧ l.any (evm x) = true) : ∀ (m i k : Nat), s.length - i = m → i ≤ s.length → k ≤ v.mems.length → ((s.drop i).map (·.who)).Sublist (v.mems.drop k) →
    ∃ F', loopR AA XX [0, 3, 5, 6, 7] 1 b21_0 (RUN AA XX b21_0 ⟨[(0, (AV.c (C.d (D.sl (l.map Evt.enc))))), (3, .ptr 0 0), (5, (AV.c (C.d (D.sl (s.map Drw.enc))))), (6, (AV.c (C.d (D.sc (Value.int IntKind.i64 (k)))))), (7, (AV.c (C.d (D.sc (Value.int IntKind.i64 (i))))))], hV v, 1⟩) = some (.exit 0, ⟨F', hV v, 1⟩) := by
  intro m
  induction m with
  | zero =>
    intro i k hn hi hk hsub
    have hd := ltF (show s.length ≤ i by omega)
    rw [b21_0_run]
    simp only [hV, go_sem, ↓reduceIte, Nat.reduceAdd, Nat.reduceSub, Nat.reduceMul, Nat.reduceEqDiff, Nat.reduceLT, Nat.reduceShiftRight, Nat.reduceAnd, Nat.reduceBNe, Nat.reduceLeDiff, Nat.reduceBEq, Nat.testBit, Nat.zero_lt_one, Int.reduceToNat, Int.reduceNeg, Int.reduceLE, Int.reduceLT, Int.reduceEq, decide_true, decide_false, Bool.and_true, Bool.true_and, Bool.and_false, Bool.false_and, Bool.or_true, Bool.true_or, Bool.or_false, Bool.false_or, Bool.not_true, Bool.not_false, beq_self_eq_true, reduceCtorEq, and_self, and_true, true_and, or_true, true_or, if_true, if_false, Nat.le_refl, Bool.and_self, eq_self, Bool.not_false, Bool.not_true, hd]
    exact ⟨_, rfl⟩
  | succ m ih =>
    intro i k hn hi hk hsub
    have hlt : i < s.length := by omega
    have hd := ltT hlt
    have hg := getm s Drw.enc hlt
    have hw := wrap_succ i (by omega)
    rw [List.drop_eq_getElem_cons hlt, List.map_cons] at hsub
    obtain ⟨n, hn1, h1, h2, h3⟩ := sub_first hsub
    rw [List.length_drop] at hn1
    rw [List.drop_drop] at h3
    obtain ⟨k', hk'⟩ : ∃ k', k + n = k' := ⟨_, rfl⟩
    have hk2 : k' < v.mems.length := by omega
    have hwho : v.mems[k'] = s[i].who := by
      rw [← h1, List.getElem_drop]
      simp only [hk']
    have hne : ∀ j (hj : j < v.mems.length), k ≤ j → j < k' → sM v.mems[j] s[i].who = false := by
      intro j hj h4 h5
      have := h2 (j - k) (by omega)
      rw [List.getElem_drop] at this
      simp only [show k + (j - k) = j by omega] at this
      cases hh : sM v.mems[j] s[i].who with
      | false => rfl
      | true => exact absurd (sM_iff.1 hh) this
    have go := iter (F := fun (j : Nat) => loopR AA XX [0, 3, 5, 6, 7] 1 b21_1 (RUN AA XX b21_1 ⟨[(0, (AV.c (C.d (D.sl (l.map Evt.enc))))), (3, .ptr 0 0), (5, (AV.c (C.d (D.sl (s.map Drw.enc))))), (6, (AV.c (C.d (D.sc (Value.int IntKind.i64 (j)))))), (7, (AV.c (C.d (D.sc (Value.int IntKind.i64 (i))))))], hV v, 1⟩)) (show k ≤ k' by omega) fun j hj1 hj2 => by
      have hjl : j < v.mems.length := by omega
      have hdj := ltT hjl
      have hgj := getm v.mems Mem.enc hjl
      have hwj := wrap_succ j (by omega)
      have e1 := hne j hjl hj1 hj2
      simp only [sM] at e1
      show loopR _ _ _ _ _ (RUN _ _ _ _) = _
      rw [b21_1_run]
      simp only [hV, go_sem, ↓reduceIte, Nat.reduceAdd, Nat.reduceSub, Nat.reduceMul, Nat.reduceEqDiff, Nat.reduceLT, Nat.reduceShiftRight, Nat.reduceAnd, Nat.reduceBNe, Nat.reduceLeDiff, Nat.reduceBEq, Nat.testBit, Nat.zero_lt_one, Int.reduceToNat, Int.reduceNeg, Int.reduceLE, Int.reduceLT, Int.reduceEq, decide_true, decide_false, Bool.and_true, Bool.true_and, Bool.and_false, Bool.false_and, Bool.or_true, Bool.true_or, Bool.or_false, Bool.false_or, Bool.not_true, Bool.not_false, beq_self_eq_true, reduceCtorEq, and_self, and_true, true_and, or_true, true_or, if_true, if_false, Nat.le_refl, Bool.and_self, eq_self, Bool.not_false, Bool.not_true, hdj, hgj, hg, Drw.enc, Mem.enc, hwj, e1]
    have fin : ∃ F', blockR 2 (loopR AA XX [0, 3, 5, 6, 7] 1 b21_1 (RUN AA XX b21_1 ⟨[(0, (AV.c (C.d (D.sl (l.map Evt.enc))))), (3, .ptr 0 0), (5, (AV.c (C.d (D.sl (s.map Drw.enc))))), (6, (AV.c (C.d (D.sc (Value.int IntKind.i64 (k)))))), (7, (AV.c (C.d (D.sc (Value.int IntKind.i64 (i))))))], hV v, 1⟩)) = some (.norm, ⟨F', hV v, 1⟩) ∧ F'.get 0 = (AV.c (C.d (D.sl (l.map Evt.enc)))) ∧ F'.get 3 = .ptr 0 0 ∧ F'.get 5 = (AV.c (C.d (D.sl (s.map Drw.enc)))) ∧ F'.get 6 = (AV.c (C.d (D.sc (Value.int IntKind.i64 (k'))))) ∧ F'.get 7 = (AV.c (C.d (D.sc (Value.int IntKind.i64 (i))))) := by
      have hdj := ltT hk2
      have hgj := getm v.mems Mem.enc hk2
      have e1 : sM v.mems[k'] s[i].who = true := sM_iff.2 hwho
      simp only [sM] at e1
      rw [go, b21_1_run]
      simp only [hV, go_sem, ↓reduceIte, Nat.reduceAdd, Nat.reduceSub, Nat.reduceMul, Nat.reduceEqDiff, Nat.reduceLT, Nat.reduceShiftRight, Nat.reduceAnd, Nat.reduceBNe, Nat.reduceLeDiff, Nat.reduceBEq, Nat.testBit, Nat.zero_lt_one, Int.reduceToNat, Int.reduceNeg, Int.reduceLE, Int.reduceLT, Int.reduceEq, decide_true, decide_false, Bool.and_true, Bool.true_and, Bool.and_false, Bool.false_and, Bool.or_true, Bool.true_or, Bool.or_false, Bool.false_or, Bool.not_true, Bool.not_false, beq_self_eq_true, reduceCtorEq, and_self, and_true, true_and, or_true, true_or, if_true, if_false, Nat.le_refl, Bool.and_self, eq_self, Bool.not_false, Bool.not_true, hdj, hgj, hg, Drw.enc, Mem.enc, e1]
      exact ⟨_, rfl, rfl, rfl, rfl, rfl, rfl⟩
    obtain ⟨F1, a1, a0, a3, a5, a6, a7⟩ := fin
    obtain ⟨hval, hany⟩ := hok _ (List.getElem_mem hlt)
    obtain ⟨F2, b1, b0, b3, b5, b6, b7, b8⟩ := law21_is l v s i (k' + 1) hlt hl hany
    obtain ⟨F', h⟩ := ih (i + 1) (k' + 1) (by omega) (by omega) (by omega) (by rw [← hk']; exact h3)
    refine ⟨F', ?_⟩
    have hdk : decide ((k' : Int) = (v.mems.length : Int)) = false := decide_eq_false (by omega)
    have hdv : decide (s[i].value = ⟨#[]⟩) = false := decide_eq_false hval
    have hw2 := wrap_succ k' (by omega)
    simp only [hV] at a1 b1 h
    rw [← h, b21_0_run]
    simp only [hV, go_sem, ↓reduceIte, Nat.reduceAdd, Nat.reduceSub, Nat.reduceMul, Nat.reduceEqDiff, Nat.reduceLT, Nat.reduceShiftRight, Nat.reduceAnd, Nat.reduceBNe, Nat.reduceLeDiff, Nat.reduceBEq, Nat.testBit, Nat.zero_lt_one, Int.reduceToNat, Int.reduceNeg, Int.reduceLE, Int.reduceLT, Int.reduceEq, decide_true, decide_false, Bool.and_true, Bool.true_and, Bool.and_false, Bool.false_and, Bool.or_true, Bool.true_or, Bool.or_false, Bool.false_or, Bool.not_true, Bool.not_false, beq_self_eq_true, reduceCtorEq, and_self, and_true, true_and, or_true, true_or, if_true, if_false, Nat.le_refl, Bool.and_self, eq_self, Bool.not_false, Bool.not_true, hd, hg, Drw.enc, hw, hw2, hdk, hdv, a1, a0, a3, a5, a6, a7, b1, b0, b3, b5, b6, b7, b8]
theorem law21 (l : List Evt) (v : View) (hl : l.length * 160 ≤ 140737488351232 ∧ ∀ e ∈ l, e.view.mems.length * 16 ≤ 140737488351232 ∧ e.tree.length * 24 ≤ 140737488351232) (hv : v.mems.length * 16 ≤ 140737488351232) : (KL AA XX).call 21 [(PV.one (D.sl (l.map Evt.enc))), .agg v.enc] = some [(PV.one (D.sc (Value.bool (true))))] := by
  obtain ⟨b, e1, f1⟩ := Small75 l (by omega)
  rw [c21]
  cases b with
  | false => simp only [go_sem, ↓reduceIte, Nat.reduceAdd, Nat.reduceSub, Nat.reduceMul, Nat.reduceEqDiff, Nat.reduceLT, Nat.reduceShiftRight, Nat.reduceAnd, Nat.reduceBNe, Nat.reduceLeDiff, Nat.reduceBEq, Nat.testBit, Nat.zero_lt_one, Int.reduceToNat, Int.reduceNeg, Int.reduceLE, Int.reduceLT, Int.reduceEq, decide_true, decide_false, Bool.and_true, Bool.true_and, Bool.and_false, Bool.false_and, Bool.or_true, Bool.true_or, Bool.or_false, Bool.false_or, Bool.not_true, Bool.not_false, beq_self_eq_true, reduceCtorEq, and_self, and_true, true_and, or_true, true_or, if_true, if_false, Nat.le_refl, Bool.and_self, eq_self, Bool.not_false, Bool.not_true, e1, awake76, View.enc]
  | true =>
    obtain ⟨h60, hb⟩ := f1 rfl
    by_cases h20 : 20 < v.mems.length
    · have d1 : decide ((20 : Int) < (v.mems.length : Int)) = true := by simp; omega
      simp only [go_sem, ↓reduceIte, Nat.reduceAdd, Nat.reduceSub, Nat.reduceMul, Nat.reduceEqDiff, Nat.reduceLT, Nat.reduceShiftRight, Nat.reduceAnd, Nat.reduceBNe, Nat.reduceLeDiff, Nat.reduceBEq, Nat.testBit, Nat.zero_lt_one, Int.reduceToNat, Int.reduceNeg, Int.reduceLE, Int.reduceLT, Int.reduceEq, decide_true, decide_false, Bool.and_true, Bool.true_and, Bool.and_false, Bool.false_and, Bool.or_true, Bool.true_or, Bool.or_false, Bool.false_or, Bool.not_true, Bool.not_false, beq_self_eq_true, reduceCtorEq, and_self, and_true, true_and, or_true, true_or, if_true, if_false, Nat.le_refl, Bool.and_self, eq_self, Bool.not_false, Bool.not_true, e1, d1, awake76, View.enc]
    · have d1 : decide ((20 : Int) < (v.mems.length : Int)) = false := by simp; omega
      have a1 := Secrets81 l v (by omega) (by omega)
      have hsl := secs_len l v v.mems
      obtain ⟨F', h⟩ := law21_loop l v (secretsF l v) h60 (by omega) (Nat.le_trans hsl (by omega)) (by
        intro x hx
        obtain ⟨w, hw, hsw⟩ := List.mem_filterMap.1 hx
        obtain ⟨h1, h2, e, he, h3, h4, h5, h6⟩ := secOf_some hsw
        refine ⟨h2, List.any_eq_true.2 ⟨e, he, ?_⟩⟩
        simp only [evm, h3, h4, h5, h6, decide_true, sM_self, Bool.and_self]) _ 0 0 rfl (Nat.zero_le _) (Nat.zero_le _) (by rw [List.drop_zero, List.drop_zero]; exact secs_sub l v v.mems)
      simp only [View.enc] at a1
      simp only [hV, show (((0 : Nat) : Int)) = 0 from rfl] at h
      simp only [go_sem, ↓reduceIte, Nat.reduceAdd, Nat.reduceSub, Nat.reduceMul, Nat.reduceEqDiff, Nat.reduceLT, Nat.reduceShiftRight, Nat.reduceAnd, Nat.reduceBNe, Nat.reduceLeDiff, Nat.reduceBEq, Nat.testBit, Nat.zero_lt_one, Int.reduceToNat, Int.reduceNeg, Int.reduceLE, Int.reduceLT, Int.reduceEq, decide_true, decide_false, Bool.and_true, Bool.true_and, Bool.and_false, Bool.false_and, Bool.or_true, Bool.true_or, Bool.or_false, Bool.false_or, Bool.not_true, Bool.not_false, beq_self_eq_true, reduceCtorEq, and_self, and_true, true_and, or_true, true_or, if_true, if_false, Nat.le_refl, Bool.and_self, eq_self, Bool.not_false, Bool.not_true, e1, d1, awake76, View.enc, a1, h]
end Go.Proofs.Ytpanbfainilmpaa.Ev.S
