/- Each operation's machine step answers as the evaluator does: operations that touch no memory. -/
import Derived.Test.YtpanbfainilmpaaEv3
set_option linter.unusedVariables false
set_option linter.unusedSimpArgs false
namespace Go.Proofs.Ytpanbfainilmpaa.Ev

theorem bindO_eq {α β : Type} {x : Option α} {f : α → Option β} {r : β} : bindO x f = some r ↔ ∃ a, x = some a ∧ f a = some r := by
  cases x with
  | none => simp [bindO]
  | some a => simp [bindO]

theorem sc_val {w : World} {g : Gh} {H : HF} {v u : Value} (h : AVR w g H (.c (.d (.sc v))) u) : u = v := by
  cases h with
  | sc _ => rfl
theorem asInt_val {w : World} {g : Gh} {H : HF} {x : AV} {u : Value} {q : IntKind × Int} (hq : asInt x = some q) (h : AVR w g H x u) : u = .int q.1 q.2 := by
  unfold asInt at hq
  split at hq
  · cases hq; exact sc_val h
  · cases hq
theorem asBool_val {w : World} {g : Gh} {H : HF} {x : AV} {u : Value} {q : Bool} (hq : asBool x = some q) (h : AVR w g H x u) : u = .bool q := by
  unfold asBool at hq
  split at hq
  · cases hq; exact sc_val h
  · cases hq

theorem cellC_ok {w : World} {g : Gh} {H : HF} {v : Value} {x : C} (h : cellC v = some x) : CR w g H x v := by
  unfold cellC at h
  split at h <;> first | (cases h; exact rfl) | (cases h; exact DR.sc rfl) | cases h
theorem cellC_ids {v : Value} {x : C} (h : cellC v = some x) : x.ids = [] := by
  unfold cellC at h
  split at h <;> first | (cases h; rfl) | cases h
theorem cellsC_ok {w : World} {g : Gh} {H : HF} : ∀ {vs : List Value} {xs : List C}, cellsC vs = some xs → RelL (CR w g H) xs vs ∧ ∀ x ∈ xs, x.ids = []
  | [], xs, h => by simp [cellsC] at h; subst h; exact ⟨.nil, by simp⟩
  | v :: vs, xs, h => by
    simp only [cellsC, bindO_eq] at h
    obtain ⟨x, hx, ys, hy, he⟩ := h
    cases he
    obtain ⟨h1, h2⟩ := cellsC_ok hy
    exact ⟨.cons (cellC_ok hx) h1, by intro z hz; rcases List.mem_cons.1 hz with rfl | hz; exact cellC_ids hx; exact h2 z hz⟩

/-- The slots that are read say what they say. -/
def FRu (w : World) (g : Gh) (H : HF) (f : Fr) (a : Act) (us : List Nat) : Prop := ∀ s ∈ us, AVR w g H (f.get s) (a.tmps.getD s undef)
theorem FRu.sub {w : World} {g : Gh} {H : HF} {f : Fr} {a : Act} {us us' : List Nat} (h : FRu w g H f a us) (hs : ∀ s ∈ us', s ∈ us) : FRu w g H f a us' := fun s hm => h s (hs s hm)

theorem compA_ok {w : World} {g : Gh} {H : HF} {f : Fr} {a : Act} {x : Operand} {y : AO} (h : compA x = some y) (hf : FRu w g H f a y.us) : AVR w g H (y.ev f) (a.eval x) := by
  cases x with
  | tmp t => simp only [compA, Option.some.injEq] at h; subst h; exact hf t (by simp [AO.us])
  | const v =>
    simp only [compA, bindO_eq] at h
    obtain ⟨c, hc, he⟩ := h
    cases he
    exact cellC_ok hc
  | func n => simp only [compA, Option.some.injEq] at h; subst h; exact DR.sc rfl
  | «global» n => simp [compA] at h
theorem compA_ids {x : Operand} {y : AO} (h : compA x = some y) {f : Fr} {B : List Nat} (hf : ∀ s ∈ y.us, ∀ i ∈ (f.get s).ids, i ∉ B) : ∀ i ∈ (y.ev f).ids, i ∉ B := by
  cases x with
  | tmp t => simp only [compA, Option.some.injEq] at h; subst h; exact hf t (by simp [AO.us])
  | const v =>
    simp only [compA, bindO_eq] at h
    obtain ⟨c, hc, he⟩ := h
    cases he
    intro i hi
    simp only [AO.ev, AV.ids, cellC_ids hc] at hi
    cases hi
  | func n => simp only [compA, Option.some.injEq] at h; subst h; intro i hi; simp [AO.ev, AV.ids, C.ids] at hi
  | «global» n => simp [compA] at h

/-- The numbers from lo to hi. -/
def bn (lo hi : Nat) : List Nat := List.range' lo (hi - lo)
theorem mem_bn {lo hi i : Nat} : i ∈ bn lo hi ↔ lo ≤ i ∧ i < hi := by
  simp only [bn, List.mem_range'_1]
  omega
theorem bn_self (n : Nat) : bn n n = [] := by simp [bn]
theorem bn_one (n : Nat) : bn n (n + 1) = [n] := by simp [bn]

/-- What an operation's step owes. -/
def OpOk (P : Program) (o : Oper) (a : Act) (w : World) (g : Gh) (H : HF) (nx : Nat) (re : Re) : Prop :=
  ∃ v w' g', ((execOp a.eval o).run P w = .ok (.value v) w' ∨ ((execOp a.eval o).run P w = .ok .skip w' ∧ v = undef)) ∧
    HI w' g' (updF H re.w) ∧ Stp (bn nx re.nx) w g H w' g' (updF H re.w) ∧ AVR w' g' (updF H re.w) re.v v

section
variable {P : Program} {o : Oper} {a : Act} {w : World} {g : Gh} {H : HF} {f : Fr} {h : Hp} {nx : Nat}

/-- Nothing but a value. -/
theorem OpOk.pure (hi : HI w g H) {x : AV} {v : Value} {r : List Nat} (hrun : (execOp a.eval o).run P w = .ok (.value v) w) (hv : AVR w g H x v) : OpOk P o a w g H nx ⟨x, [], r, nx⟩ :=
  ⟨v, w, g, .inl hrun, hi, by rw [bn_self]; exact Stp.refl w g H, hv⟩

theorem ok1_eq {x : AV} {re : Re} (h : ok1 x nx = some re) : re = ⟨x, [], [], nx⟩ := by simp only [ok1, Option.some.injEq] at h; exact h.symm

theorem op_mv (hi : HI w g H) {x : Operand} {y : AO} (ho : o.op = .move x ∨ o.op = .assign x) (hc : compA x = some y) (hf : FRu w g H f a y.us) : OpOk P o a w g H nx ⟨y.ev f, [], [], nx⟩ := by
  refine OpOk.pure hi (v := a.eval x) ?_ (compA_ok hc hf)
  rcases ho with ho | ho <;> simp [execOp, ho]

theorem op_asg (hi : HI w g H) {x : Operand} {y : AO} (ho : o.op = .assign x) (hc : compA x = some y) (hf : FRu w g H f a y.us) (hfr : ∀ i, nx ≤ i → i < nx + 1 → H i = none) (hcl : Clean H (bn nx (nx + 1)))
    (hy : y.ev f = .c .nil) : OpOk P o a w g H nx ⟨.c (.gr nx []), [(nx, some (.tok 0 0))], [], nx + 1⟩ := by
  have hv := compA_ok hc hf
  rw [hy] at hv
  have hv' : a.eval x = .slice none 0 0 := hv
  rw [bn_one] at hcl
  obtain ⟨h1, h2⟩ := birthTok hi (hfr nx (Nat.le_refl _) (by omega)) hcl
  refine ⟨.slice none 0 0, _, _, .inl ?_, h1, by rw [bn_one]; exact h2, ?_⟩
  · simp [execOp, ho, hv']
  · refine ⟨CR.toD (x := .nil) (g := g) (H := H) rfl, fun n sz hn => ?_⟩
    simp only [updF, fup_same] at hn
    cases hn
    exact ⟨Nat.le_refl _, fun _ => ⟨(fup_same _ _ _).symm, fun e he => by cases he⟩⟩

theorem op_pick (hi : HI w g H) {c x z : Operand} {c' x' z' : AO} (ho : o.op = .pick c x z) (h1 : compA c = some c') (h2 : compA x = some x') (h3 : compA z = some z') {q : Bool} (hq : asBool (c'.ev f) = some q)
    (hf : FRu w g H f a (c'.us ++ x'.us ++ z'.us)) : OpOk P o a w g H nx ⟨if q then x'.ev f else z'.ev f, [], [], nx⟩ := by
  have e1 := asBool_val hq (compA_ok h1 (hf.sub fun s hs => by simp [hs]))
  refine OpOk.pure hi (v := if q then a.eval x else a.eval z) ?_ ?_
  · simp [execOp, ho, e1, Go.asBool]
  · cases q
    · exact compA_ok h3 (hf.sub fun s hs => by simp [hs])
    · exact compA_ok h2 (hf.sub fun s hs => by simp [hs])

theorem op_ext (hi : HI w g H) {x : Operand} {x' : AO} {i : Nat} (ho : o.op = .extract x i) (h1 : compA x = some x') (hf : FRu w g H f a x'.us) {xs : List PV} {p : PV} (hx : x'.ev f = .tu xs) (hp : xs[i]? = some p) :
    OpOk P o a w g H nx ⟨p.toAV, [], [], nx⟩ := by
  have hv := compA_ok h1 hf
  rw [hx] at hv
  obtain ⟨vs, hv, hr⟩ := hv
  obtain ⟨v, hv2, hd⟩ := hr.get hp
  refine OpOk.pure hi (v := v) ?_ ?_
  · simp [execOp, ho, hv, Instr.extract, hv2]
  · cases p with
    | one x => exact hd
    | agg ys =>
      obtain ⟨us, rfl, hu⟩ := hd
      exact ⟨us, rfl, RelL.map hu⟩


theorem bytes_beq (a b : ByteArray) : (a.toList == b.toList) = decide (a = b) := by
  rw [ByteArray.toList_eq, ByteArray.toList_eq]
  obtain ⟨⟨x⟩⟩ := a
  obtain ⟨⟨y⟩⟩ := b
  simp only [ByteArray.mk.injEq, Array.mk.injEq]
  rw [Bool.eq_iff_iff]
  simp

theorem bin_run {op : BinOp} {t : TypeId} {x y : Value} {r : Value} (h : evBin op x y = some r) : (binOp op t x y).run P w = .ok r w ∧ ∀ (X Y : Operand), (eqGuard op t X Y x y).run P w = .ok () w := by
  unfold evBin at h
  split at h
  · rename_i k a k' b
    refine ⟨?_, fun X Y => by rw [eqGuard_at_int]; rfl⟩
    cases op <;> simp only at h
    case shl =>
      split at h
      · rename_i h0
        cases h
        simp [binOp, Op.shift, show ¬ b < 0 by omega]
      · cases h
    case shr =>
      split at h
      · rename_i h0
        cases h
        simp [binOp, Op.shift, show ¬ b < 0 by omega]
      · cases h
    all_goals
      split at h
      · rename_i hk
        subst hk
        first
        | (cases h; simp only [binOp_add, binOp_sub, binOp_mul, binOp_and, binOp_or, binOp_xor, binOp_andNot, binOp_eql, binOp_neq, binOp_lss, binOp_leq, binOp_gtr, binOp_geq, Op.intArith, Op.intBits, Sem.run_pure]; done)
        | (cases h; simp only [binOp_add, binOp_sub, binOp_mul, binOp_and, binOp_or, binOp_xor, binOp_andNot, binOp_eql, binOp_neq, binOp_lss, binOp_leq, binOp_gtr, binOp_geq, Op.intArith, Op.intBits, Sem.run_pure]; rfl)
        | (split at h
           · cases h
           · rename_i hb; cases h; simp only [binOp_quo, binOp_rem, Op.intDiv, if_neg hb, Sem.run_pure]; done)
      · cases h
  · rename_i a b
    refine ⟨?_, fun X Y => by cases op <;> rfl⟩
    have e := bytes_beq a b
    cases op <;> simp only at h <;> first | (cases h; done) | skip
    all_goals
      cases h
      simp only [binOp, Op.stringOp, e]
      simp
  · cases h

theorem op_bin (hi : HI w g H) {op : BinOp} {t t' : TypeId} {x y : Operand} {x' y' : AO} (ho : o.op = .binOp op t x y t') (h1 : compA x = some x') (h2 : compA y = some y') (hf : FRu w g H f a (x'.us ++ y'.us))
    {u v r : Value} (hx : x'.ev f = .c (.d (.sc u))) (hy : y'.ev f = .c (.d (.sc v))) (hr : evBin op u v = some r) : OpOk P o a w g H nx ⟨sc r, [], [], nx⟩ := by
  have e1 := compA_ok h1 (hf.sub fun s hs => by simp [hs])
  have e2 := compA_ok h2 (hf.sub fun s hs => by simp [hs])
  rw [hx] at e1; rw [hy] at e2
  have e1 := sc_val e1
  have e2 := sc_val e2
  obtain ⟨h3, h4⟩ := bin_run (P := P) (w := w) (t := t) hr
  refine OpOk.pure hi (v := r) ?_ ?_
  · simp [execOp, ho, e1, e2, h3, h4]
  · refine DR.sc ?_
    unfold evBin at hr
    split at hr
    · cases op <;> simp only at hr <;> (repeat' split at hr) <;> cases hr <;> rfl
    · cases op <;> simp only at hr <;> cases hr <;> rfl
    · cases hr

theorem op_binb (hi : HI w g H) {op : BinOp} {t t' : TypeId} {x y : Operand} {x' y' : AO} (ho : o.op = .binOp op t x y t') (ht : P.underlying t = some .bool) (h1 : compA x = some x') (h2 : compA y = some y') (hf : FRu w g H f a (x'.us ++ y'.us))
    {u v r : Value} (hx : x'.ev f = .c (.d (.sc u))) (hy : y'.ev f = .c (.d (.sc v))) (hr : evBinB op u v = some r) : OpOk P o a w g H nx ⟨sc r, [], [], nx⟩ := by
  have e1 := compA_ok h1 (hf.sub fun s hs => by simp [hs])
  have e2 := compA_ok h2 (hf.sub fun s hs => by simp [hs])
  rw [hx] at e1; rw [hy] at e2
  have e1 := sc_val e1
  have e2 := sc_val e2
  unfold evBinB at hr
  split at hr
  · rename_i b c _ _
    cases op <;> simp only at hr <;> first | (cases hr; done) | skip
    all_goals
      cases hr
      refine OpOk.pure hi ?_ (DR.sc rfl)
      simp only [execOp, ho, e1, e2, eqGuard_at_bool, Sem.run_bind, Sem.run_pure, Result.andThen_ok]
      first
      | rw [run_eql_bool w t b c ht]
      | rw [run_neq_bool w t b c ht]
      simp
  · cases hr

theorem op_un (hi : HI w g H) {op : UnOp} {t : TypeId} {x : Operand} {x' : AO} (ho : o.op = .unOp op t x) (h1 : compA x = some x') (hf : FRu w g H f a x'.us) {u r : Value} (hx : x'.ev f = .c (.d (.sc u))) (hr : evUn op u = some r) :
    OpOk P o a w g H nx ⟨sc r, [], [], nx⟩ := by
  have e1 := compA_ok h1 hf
  rw [hx] at e1
  have e1 := sc_val e1
  unfold evUn at hr
  split at hr
  · cases op <;> simp only at hr <;> first | (cases hr; done) | skip
    all_goals
      cases hr
      refine OpOk.pure hi ?_ (DR.sc rfl)
      simp [execOp, ho, e1, Op.unary, Op.intArith, Op.intBits]
  · cases op <;> simp only at hr <;> first | (cases hr; done) | skip
    cases hr
    refine OpOk.pure hi ?_ (DR.sc rfl)
    simp [execOp, ho, e1, Op.unary]
  · cases hr

theorem op_cvi (hi : HI w g H) {s d : TypeId} {k k' : IntKind} {x : Operand} {x' : AO} (ho : o.op = .convert s d x) (hs : P.underlying s = some (.int k')) (hd : P.underlying d = some (.int k)) (h1 : compA x = some x') (hf : FRu w g H f a x'.us)
    {q : IntKind × Int} (hq : asInt (x'.ev f) = some q) : OpOk P o a w g H nx ⟨sc (.int k (k.wrap q.2)), [], [], nx⟩ := by
  have e1 := asInt_val hq (compA_ok h1 hf)
  refine OpOk.pure hi ?_ (DR.sc rfl)
  simp [execOp, ho, e1, convert, run_underlying hs, run_underlying hd, Conv.intToInt]

theorem op_cvs (hi : HI w g H) {s d : TypeId} {k' : IntKind} {x : Operand} {x' : AO} (ho : o.op = .convert s d x) (hs : P.underlying s = some (.int k')) (hd : P.underlying d = some .string) (h1 : compA x = some x') (hf : FRu w g H f a x'.us)
    {q : IntKind × Int} (hq : asInt (x'.ev f) = some q) : OpOk P o a w g H nx ⟨sc (.string (Utf8.encode q.2)), [], [], nx⟩ := by
  have e1 := asInt_val hq (compA_ok h1 hf)
  refine OpOk.pure hi ?_ (DR.sc rfl)
  simp [execOp, ho, e1, convert, run_underlying hs, run_underlying hd, Conv.intToString]

theorem op_mx (hi : HI w g H) {c : Call} {x y : Operand} {x' y' : AO} (ho : o.op = .call c) (hc : c.callee = .builtin .max) (ha : c.args = #[x, y]) (h1 : compA x = some x') (h2 : compA y = some y') (hf : FRu w g H f a (x'.us ++ y'.us))
    {p q : IntKind × Int} (hp : asInt (x'.ev f) = some p) (hq : asInt (y'.ev f) = some q) : OpOk P o a w g H nx ⟨sc (.int p.1 (if p.2 < q.2 then q.2 else p.2)), [], [], nx⟩ := by
  have e1 := asInt_val hp (compA_ok h1 (hf.sub fun s hs => by simp [hs]))
  have e2 := asInt_val hq (compA_ok h2 (hf.sub fun s hs => by simp [hs]))
  refine OpOk.pure hi ?_ (DR.sc rfl)
  simp [execOp, ho, hc, ha, e1, e2, resolve, invoke, builtin, run_max_int2]

theorem op_mn (hi : HI w g H) {c : Call} {x y : Operand} {x' y' : AO} (ho : o.op = .call c) (hc : c.callee = .builtin .min) (ha : c.args = #[x, y]) (h1 : compA x = some x') (h2 : compA y = some y') (hf : FRu w g H f a (x'.us ++ y'.us))
    {p q : IntKind × Int} (hp : asInt (x'.ev f) = some p) (hq : asInt (y'.ev f) = some q) : OpOk P o a w g H nx ⟨sc (.int p.1 (if q.2 < p.2 then q.2 else p.2)), [], [], nx⟩ := by
  have e1 := asInt_val hp (compA_ok h1 (hf.sub fun s hs => by simp [hs]))
  have e2 := asInt_val hq (compA_ok h2 (hf.sub fun s hs => by simp [hs]))
  refine OpOk.pure hi ?_ (DR.sc rfl)
  simp [execOp, ho, hc, ha, e1, e2, resolve, invoke, builtin, run_min_int2]

theorem has_eq {id : Nat} (hh : h.has id = true) : ∃ cells, h.get id = some (.arr cells) := by
  unfold Hp.has at hh
  split at hh
  · rename_i c hc; exact ⟨c, hc⟩
  · cases hh
theorem lenOf_val {x : AV} {n : Nat × List Nat} {u : Value} (hn : lenOf h x = some n) (hv : AVR w g H x u) (hr : ∀ id ∈ n.2, H id = h.get id) : ∃ p c, u = .slice p n.1 c ∧ n.1 ≤ c := by
  unfold lenOf at hn
  split at hn
  · cases hn
    cases hv with
    | sl vs hn' hc => subst hn'; exact ⟨_, _, rfl, hc⟩
  · cases hn
    have : u = .slice none 0 0 := hv
    exact ⟨none, 0, this, Nat.le_refl _⟩
  · cases hn
    cases hv.1 with
    | sl vs hn' hc => subst hn'; exact ⟨_, _, rfl, hc⟩
  · split at hn
    · rename_i hh
      cases hn
      obtain ⟨cells, hc⟩ := has_eq hh
      obtain ⟨p, cap, h1, h2, _⟩ := hv cells ((hr _ (by simp)).trans hc)
      exact ⟨_, _, h1, h2⟩
    · cases hn
  · cases hn

theorem op_fad (hi : HI w g H) {t : TypeId} {x : Operand} {i : Nat} {x' : AO} {fs : Array Field} {fd : Field} (ho : o.op = .fieldAddr t x i) (h1 : compA x = some x') (ht : P.underlying t = some (.struct fs)) (hfi : fs[i]? = some fd) (h0 : 0 < szOf P fd.type)
    (hf : FRu w g H f a x'.us) {K : Or} {draw : Bool} {re : Re} (hre : evOp K draw f h nx (.fad fd.offset x') = some re) (hrd : ∀ id ∈ re.r, H id = h.get id) : OpOk P o a w g H nx re := by
  have e1 := compA_ok h1 hf
  have hsz : ∃ info, P.info? fd.type = some info ∧ info.size ≠ 0 := by
    unfold szOf at h0
    split at h0
    · rename_i info hinfo; exact ⟨info, hinfo, by omega⟩
    · omega
  obtain ⟨info, hinfo, hne⟩ := hsz
  have hadd : ∀ bb oo k, (⟨bb, oo, none⟩ : Addr).add k = ⟨bb, oo + k, none⟩ := fun bb oo k => by unfold Addr.add; split <;> simp_all
  simp only [evOp] at hre
  split at hre
  · rename_i id off hx
    split at hre
    case isFalse => cases hre
    rename_i hh
    cases hre
    obtain ⟨cells, hcells⟩ := has_eq hh
    rw [hx] at e1
    have e2 := e1 cells ((hrd id (by simp)).trans hcells)
    refine OpOk.pure hi (v := .pointer (some ⟨g.β id, off + fd.offset, none⟩)) ?_ (fun c hc => rfl)
    simp [execOp, ho, e2, Instr.fieldAt, run_underlying ht, hfi, Instr.sureAddr, fieldPlace, sizeOf, typeInfo, hinfo, hne, hadd]
  · rename_i xs hx
    have := ok1_eq hre
    subst this
    rw [hx] at e1
    obtain ⟨bb, oo, e2, hr⟩ := e1
    refine OpOk.pure hi (v := .pointer (some ⟨bb, oo + fd.offset, none⟩)) ?_ ⟨bb, _, rfl, fun j y hj => ?_⟩
    · simp [execOp, ho, e2, Instr.fieldAt, run_underlying ht, hfi, Instr.sureAddr, fieldPlace, sizeOf, typeInfo, hinfo, hne, hadd]
    · rw [List.getElem?_drop] at hj
      have := hr (fd.offset + j) y hj
      rwa [← Nat.add_assoc] at this
  · cases hre

theorem part_run {t : TypeId} {vs : List Value} {off : Nat} (hagg : isAggT P t = true) (hs : ∃ info, P.info? t = some info) : (part t vs.toArray off).run P w = .ok (.agg ((vs.drop off).take (szOf P t)).toArray) w := by
  obtain ⟨info, hinfo⟩ := hs
  have hsz : szOf P t = info.size := by simp [szOf, hinfo]
  have h1 : (isAgg t).run P w = .ok true w := by
    unfold isAggT at hagg
    unfold isAgg
    split at hagg <;> first | (rename_i hu; simp [run_underlying hu]; done) | cases hagg
  simp only [part, Sem.run_bind, h1, Result.andThen_ok, if_true, sizeOf, typeInfo, run_program, hinfo, Sem.run_pure, hsz]
  congr 2
  apply Array.ext'
  simp [List.extract]
theorem part_run1 {t : TypeId} {vs : List Value} {off : Nat} {v : Value} (hagg : isAggT P t = false) (hs : ∃ d, P.underlying t = some d) (hv : vs[off]? = some v) : (part t vs.toArray off).run P w = .ok v w := by
  obtain ⟨d, hd⟩ := hs
  have h1 : (isAgg t).run P w = .ok false w := by
    unfold isAggT at hagg
    unfold isAgg
    rw [hd] at hagg
    simp only [Sem.run_bind, run_underlying hd, Result.andThen_ok]
    split <;> first | (simp at hagg; done) | rfl
  simp [part, h1, hv]
end
end Go.Proofs.Ytpanbfainilmpaa.Ev
