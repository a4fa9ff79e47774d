/- Operations that read memory. -/
import Derived.Test.YtpanbfainilmpaaEv4
set_option linter.unusedVariables false
set_option linter.unusedSimpArgs false
namespace Go.Proofs.Ytpanbfainilmpaa.Ev
section
variable {P : Program} {o : Oper} {a : Act} {w : World} {g : Gh} {H : HF} {f : Fr} {h : Hp} {nx : Nat} {K : Or} {draw : Bool}

theorem add_none (b o k : Nat) : (⟨b, o, none⟩ : Addr).add k = ⟨b, o + k, none⟩ := by unfold Addr.add; split <;> simp_all
theorem sz_info {t : TypeId} (h : 0 < szOf P t) : ∃ info, P.info? t = some info ∧ info.size = szOf P t := by
  unfold szOf at h ⊢
  split at h
  · rename_i info hinfo; rw [hinfo]; exact ⟨info, rfl, rfl⟩
  · omega
theorem und_of_info {t : TypeId} {d : TypeDesc} (h : P.underlying t = some d) : True := trivial
theorem elemT_und {t e : TypeId} (h : elemT P t = some e) : P.underlying t = some (.slice e) := by
  unfold elemT at h
  split at h
  · rename_i u hu; cases h; exact hu
  · cases h
theorem isAgg_run (t : TypeId) (h : ∃ d, P.underlying t = some d) : (isAgg t).run P w = .ok (isAggT P t) w := by
  obtain ⟨d, hd⟩ := h
  unfold isAgg isAggT
  simp only [Sem.run_bind, run_underlying hd, Result.andThen_ok]
  rw [hd]
  cases d <;> rfl

theorem arr_val (hi : HI w g H) {id : Nat} {cells : List C} (hc : H id = some (.arr cells)) {off : Nat} {x : C} (hx : cells[off]? = some x) : ∃ v, w.cell? ⟨g.β id, off, none⟩ = some v ∧ CR w g H x v := by
  obtain ⟨cur, e, h1, h2, h3, h4⟩ := hi.arr id cells hc
  obtain ⟨v, hv, hr⟩ := h3 off x hx
  exact ⟨v, by rw [cellAt h1]; exact hv, hr⟩

/-- Cells of an own array, side by side with memory's. -/
theorem arr_vals (hi : HI w g H) {id : Nat} {cells : List C} (hc : H id = some (.arr cells)) {off n : Nat} (hl : off + n ≤ cells.length) :
    ∃ vs : List Value, vs.length = n ∧ RelL (CR w g H) ((cells.drop off).take n) vs ∧ ∀ (j : Nat) (v : Value), vs[j]? = some v → w.cell? ⟨g.β id, off + j, none⟩ = some v := by
  obtain ⟨cur, e, h1, h2, h3, h4⟩ := hi.arr id cells hc
  have hlc : off + n ≤ cur.toList.length := by simp; omega
  refine ⟨(cur.toList.drop off).take n, by simp; omega, ⟨by simp; omega, fun i x v hx hv => ?_⟩, fun j v hv => ?_⟩
  · rw [List.getElem?_take] at hx hv
    split at hx
    · rename_i hi'
      rw [if_pos hi'] at hv
      rw [List.getElem?_drop] at hx hv
      obtain ⟨u, hu, hr⟩ := h3 _ x hx
      rw [Array.getElem?_toList] at hv
      rw [hv] at hu
      cases hu
      exact hr
    · cases hx
  · rw [List.getElem?_take] at hv
    split at hv
    · rw [List.getElem?_drop, Array.getElem?_toList] at hv
      rw [cellAt h1]
      exact hv
    · cases hv

theorem loadVar_one {t : TypeId} {b off : Nat} {v : Value} (ht : ∃ d, P.underlying t = some d) (ha : isAggT P t = false) (hv : w.cell? ⟨b, off, none⟩ = some v) : (loadVar t ⟨b, off, none⟩).run P w = .ok v w := by
  simp [loadVar, isAgg_run t ht, ha, hv]
theorem loadVar_agg {t : TypeId} {b off : Nat} {vs : List Value} (ht : ∃ d, P.underlying t = some d) (h0 : 0 < szOf P t) (ha : isAggT P t = true) (hl : vs.length = szOf P t) (hv : ∀ (j : Nat) (v : Value), vs[j]? = some v → w.cell? ⟨b, off + j, none⟩ = some v) :
    (loadVar t ⟨b, off, none⟩).run P w = .ok (.agg vs.toArray) w := by
  obtain ⟨info, hinfo, hsz⟩ := sz_info h0
  have := run_loadCells_list (P := P) w ⟨b, off, none⟩ vs (fun j v hj => by rw [add_none]; exact hv j v hj)
  rw [hl, ← hsz] at this
  simp [loadVar, isAgg_run t ht, ha, sizeOf, typeInfo, hinfo, this]


theorem addr_eq {b o : Nat} : (⟨b, o, none⟩ : Addr) = { block := b, off := o } := rfl

/-- Loads. -/
theorem op_ld (hi : HI w g H) {t : TypeId} {x : Operand} {x' : AO} (ho : o.op = .load t x) (h1 : compA x = some x') (ht : ∃ d, P.underlying t = some d) (h0 : 0 < szOf P t) (hagg : isAggT P t = true ∨ szOf P t = 1) (hf : FRu w g H f a x'.us) {re : Re}
    (hre : evOp K draw f h nx (.ld (isAggT P t) (szOf P t) x') = some re) (hr : ∀ id ∈ re.r, H id = h.get id) : OpOk P o a w g H nx re := by
  have e1 := compA_ok h1 hf
  simp only [evOp] at hre
  split at hre
  · rename_i id off hx
    rw [hx] at e1
    split at hre
    · rename_i cells hcells
      cases hag : isAggT P t with
      | true =>
        simp only [hag, if_true] at hre
        split at hre
        · rename_i hl
          cases hre
          have hH : H id = some (.arr cells) := (hr id (by simp)).trans hcells
          obtain ⟨vs, h2, h3, h4⟩ := arr_vals hi hH hl
          refine OpOk.pure hi (v := .agg vs.toArray) ?_ ⟨vs, rfl, h3⟩
          have e2 := e1 cells hH
          simp [execOp, ho, e2, Instr.loadAt, Instr.sureAddr, loadVar_agg ht h0 hag h2 h4]
        · cases hre
      | false =>
        simp only [hag, Bool.false_eq_true, if_false] at hre
        split at hre
        · rename_i c hc
          cases hre
          have hH : H id = some (.arr cells) := (hr id (by simp)).trans hcells
          obtain ⟨v, h2, h3⟩ := arr_val hi hH hc
          refine OpOk.pure hi (v := v) ?_ h3
          have e2 := e1 cells hH
          simp [execOp, ho, e2, Instr.loadAt, Instr.sureAddr, loadVar_one ht hag h2]
        · cases hre
    · cases hre
  · rename_i xs hx
    rw [hx] at e1
    obtain ⟨b, off, e2, h2⟩ := e1
    cases hag : isAggT P t with
    | true =>
      simp only [hag, if_true] at hre
      split at hre
      · rename_i hl
        have := ok1_eq hre
        subst this
        obtain ⟨vs, hvl, hvs⟩ : ∃ vs : List Value, vs.length = szOf P t ∧ ∀ (j : Nat) (v : Value), vs[j]? = some v → w.cell? ⟨b, off + j, none⟩ = some v ∧ ∃ x, xs[j]? = some x ∧ DR w g.S x v := by
          refine ⟨(List.range (szOf P t)).map fun j => (w.cell? ⟨b, off + j, none⟩).getD undef, by simp, fun j v hj => ?_⟩
          rw [List.getElem?_map] at hj
          obtain ⟨k, hk, rfl⟩ := Option.map_eq_some_iff.1 hj
          obtain ⟨hlt, rfl⟩ := List.getElem?_eq_some_iff.1 hk
          simp only [List.length_range] at hlt
          simp only [List.getElem_range]
          have hx2 : xs[j]? = some (xs[j]'(by omega)) := List.getElem?_eq_getElem _
          obtain ⟨u, hu, _, hd⟩ := h2 j _ hx2
          rw [hu]
          exact ⟨rfl, _, hx2, hd⟩
        refine OpOk.pure hi (v := .agg vs.toArray) ?_ ⟨vs, rfl, RelL.map ⟨by simp; omega, fun i y v hy hv => ?_⟩⟩
        · simp [execOp, ho, e2, Instr.loadAt, Instr.sureAddr, loadVar_agg ht h0 hag hvl (fun j v hj => (hvs j v hj).1)]
        · rw [List.getElem?_take] at hy
          split at hy
          · obtain ⟨_, z, hz, hd⟩ := hvs i v hv
            rw [hz] at hy
            cases hy
            exact hd
          · cases hy
      · cases hre
    | false =>
      simp only [hag, Bool.false_eq_true, if_false] at hre
      split at hre
      · rename_i y ys
        have := ok1_eq hre
        subst this
        obtain ⟨u, hu, _, hd⟩ := h2 0 y rfl
        refine OpOk.pure hi (v := u) ?_ hd
        simp only [Nat.add_zero] at hu
        simp [execOp, ho, e2, Instr.loadAt, Instr.sureAddr, loadVar_one ht hag hu]
      · cases hre
  · cases hre

/-- An element's address. -/
theorem op_iad (hi : HI w g H) {t e : TypeId} {x i : Operand} {x' i' : AO} (ho : o.op = .indexAddr t x i) (h1 : compA x = some x') (h2 : compA i = some i') (ht : elemT P t = some e) (h0 : 0 < szOf P e) (hf : FRu w g H f a (x'.us ++ i'.us)) {re : Re}
    (hre : evOp K draw f h nx (.iad (szOf P e) x' i') = some re) (hrd : ∀ id ∈ re.r, H id = h.get id) : OpOk P o a w g H nx re := by
  have e1 := compA_ok h1 (hf.sub fun s hs => by simp [hs])
  have e2 := compA_ok h2 (hf.sub fun s hs => by simp [hs])
  have hu := elemT_und ht
  obtain ⟨info, hinfo, hsz⟩ := sz_info h0
  simp only [evOp, bindO_eq] at hre
  obtain ⟨q, hq, hre⟩ := hre
  have e3 := asInt_val hq e2
  have slcase : ∀ (es : List (List D)) (u : Value), a.eval x = u → DR w g.S (.sl es) u → (if 0 ≤ q.2 then (match es[q.2.toNat]? with | some y => if y.length = szOf P e then ok1 (.fptr y) nx else none | none => none) else none) = some re → OpOk P o a w g H nx re := by
    intro es u hxu hd hre
    split at hre
    · rename_i hpos
      split at hre
      · rename_i y hy
        split at hre
        · rename_i hyl
          have := ok1_eq hre
          subst this
          cases hd with
          | @sl _ aa n c sz b oo vs hn hc hsz' ha' hr' =>
            have hlt : q.2.toNat < es.length := (List.getElem?_eq_some_iff.1 hy).1
            have hszy : y.length = sz := hsz' _ y hy
            have hy0 : y[0]? = some (y[0]'(by omega)) := List.getElem?_eq_getElem _
            obtain ⟨ha1, _, _⟩ := ha' _ y 0 _ hy hy0
            subst ha1
            refine OpOk.pure hi (v := .pointer (some ⟨b, oo + q.2.toNat * szOf P e, none⟩)) ?_ ⟨b, _, rfl, fun j z hj => ?_⟩
            · have hqn : q.2 < (n : Int) := by omega
              simp [execOp, ho, hxu, e3, Instr.indexAt, asIntOf, run_underlying hu, hpos, hqn, sizeOf, typeInfo, hinfo, add_none, hsz]
            · obtain ⟨_, hc2, hs2⟩ := ha' _ y j z hy hj
              refine ⟨_, ?_, ?_, hr' _ y j z hy hj⟩
              · rw [← hc2, ← hszy, hyl, Nat.add_assoc]
              · rw [← hszy, hyl, ← Nat.add_assoc] at hs2; exact hs2
        · cases hre
      · cases hre
    · cases hre
  split at hre
  · rename_i es hx
    rw [hx] at e1
    exact slcase es _ rfl e1 hre
  · rename_i t' es hx
    rw [hx] at e1
    exact slcase es _ rfl e1.1 hre
  · rename_i id off len hx
    rw [hx] at e1
    split at hre
    · rename_i hpos
      cases hre
      obtain ⟨hp0, hp1, hh⟩ := hpos
      obtain ⟨cells, hcells⟩ := has_eq hh
      obtain ⟨p, cap, e4, _, e5⟩ := e1 cells ((hrd id (by simp)).trans hcells)
      rw [e5 (by omega)] at e4
      refine OpOk.pure hi (v := .pointer (some ⟨g.β id, off + q.2.toNat * szOf P e, none⟩)) ?_ (fun c hc => rfl)
      simp [execOp, ho, e4, e3, Instr.indexAt, asIntOf, run_underlying hu, hp0, hp1, sizeOf, typeInfo, hinfo, add_none, hsz]
    · cases hre
  · cases hre

/-- A part of a struct or an array by value. -/
theorem op_fld (hi : HI w g H) {t : TypeId} {x : Operand} {x' : AO} {i : Nat} {fs : Array Field} {fd : Field} (ho : o.op = .field t x i) (h1 : compA x = some x') (ht : P.underlying t = some (.struct fs)) (hfi : fs[i]? = some fd) (hu : ∃ d, P.underlying fd.type = some d)
    (hf : FRu w g H f a x'.us) {re : Re} (hre : evOp K draw f h nx (.fld (isAggT P fd.type) fd.offset (szOf P fd.type) x') = some re) (hs : ∃ info, P.info? fd.type = some info) : OpOk P o a w g H nx re := by
  have e1 := compA_ok h1 hf
  simp only [evOp] at hre
  split at hre
  · rename_i cs hx
    rw [hx] at e1
    obtain ⟨vs, e2, hr⟩ := e1
    cases hag : isAggT P fd.type with
    | true =>
      simp only [hag, if_true] at hre
      have := ok1_eq hre
      subst this
      refine OpOk.pure hi (v := .agg ((vs.drop fd.offset).take (szOf P fd.type)).toArray) ?_ ⟨_, rfl, (hr.drop _).take _⟩
      simp [execOp, ho, e2, Instr.field, run_underlying ht, hfi, asAgg, part_run hag hs]
    | false =>
      simp only [hag, Bool.false_eq_true, if_false] at hre
      split at hre
      · rename_i y hy
        have := ok1_eq hre
        subst this
        obtain ⟨v, hv, hd⟩ := hr.get hy
        refine OpOk.pure hi (v := v) ?_ hd
        simp [execOp, ho, e2, Instr.field, run_underlying ht, hfi, asAgg, part_run1 hag hu hv]
      · cases hre
  · cases hre

theorem op_idx (hi : HI w g H) {t e : TypeId} {n : Nat} {x i : Operand} {x' i' : AO} (ho : o.op = .index t x i) (h1 : compA x = some x') (h2 : compA i = some i') (ht : P.underlying t = some (.array n e)) (hu : ∃ d, P.underlying e = some d) (h0 : 0 < szOf P e)
    (hf : FRu w g H f a (x'.us ++ i'.us)) {re : Re} (hre : evOp K draw f h nx (.idx (isAggT P e) n (szOf P e) x' i') = some re) : OpOk P o a w g H nx re := by
  have e1 := compA_ok h1 (hf.sub fun s hs => by simp [hs])
  have e2 := compA_ok h2 (hf.sub fun s hs => by simp [hs])
  obtain ⟨info, hinfo, hsz⟩ := sz_info h0
  simp only [evOp, bindO_eq] at hre
  obtain ⟨q, hq, hre⟩ := hre
  have e3 := asInt_val hq e2
  split at hre
  · rename_i cs hx
    rw [hx] at e1
    obtain ⟨vs, e4, hr⟩ := e1
    split at hre
    · rename_i hpos
      cases hag : isAggT P e with
      | true =>
        simp only [hag, if_true] at hre
        have := ok1_eq hre
        subst this
        refine OpOk.pure hi (v := .agg ((vs.drop (q.2.toNat * szOf P e)).take (szOf P e)).toArray) ?_ ⟨_, rfl, (hr.drop _).take _⟩
        simp [execOp, ho, e4, e3, Instr.index, asIntOf, run_underlying ht, hpos, sizeOf, typeInfo, hinfo, hsz, part_run hag ⟨info, hinfo⟩]
      | false =>
        simp only [hag, Bool.false_eq_true, if_false] at hre
        split at hre
        · rename_i y hy
          have := ok1_eq hre
          subst this
          obtain ⟨v, hv, hd⟩ := hr.get hy
          refine OpOk.pure hi (v := v) ?_ hd
          simp [execOp, ho, e4, e3, Instr.index, asIntOf, run_underlying ht, hpos, sizeOf, typeInfo, hinfo, hsz, part_run1 hag hu hv]
        · cases hre
    · cases hre
  · cases hre

theorem op_sidx (hi : HI w g H) {t : TypeId} {x i : Operand} {x' i' : AO} (ho : o.op = .index t x i) (h1 : compA x = some x') (h2 : compA i = some i') (ht : P.underlying t = some .string)
    (hf : FRu w g H f a (x'.us ++ i'.us)) {re : Re} (hre : evOp K draw f h nx (.sidx x' i') = some re) : OpOk P o a w g H nx re := by
  have e1 := compA_ok h1 (hf.sub fun s hs => by simp [hs])
  have e2 := compA_ok h2 (hf.sub fun s hs => by simp [hs])
  simp only [evOp, bindO_eq] at hre
  obtain ⟨q, hq, hre⟩ := hre
  have e3 := asInt_val hq e2
  split at hre
  · rename_i s hx
    rw [hx] at e1
    have e4 := sc_val e1
    split at hre
    · rename_i hpos
      split at hre
      · rename_i b hb
        have := ok1_eq hre
        subst this
        refine OpOk.pure hi ?_ (DR.sc rfl)
        simp [execOp, ho, e4, e3, Instr.index, asIntOf, run_underlying ht, hpos, hb]
      · cases hre
    · cases hre
  · cases hre

theorem op_len (hi : HI w g H) {c : Call} {t e : TypeId} {x : Operand} {x' : AO} (ho : o.op = .call c) (hc : c.callee = .builtin .len) (ha : c.args = #[x]) (hty : c.argTypes = #[t]) (ht : P.underlying t = some (.slice e))
    (h1 : compA x = some x') (hf : FRu w g H f a x'.us) {n : Nat × List Nat} (hn : lenOf h (x'.ev f) = some n) (hr : ∀ id ∈ n.2, H id = h.get id) : OpOk P o a w g H nx ⟨sc (.int .i64 n.1), [], n.2, nx⟩ := by
  obtain ⟨p, c', e1, _⟩ := lenOf_val hn (compA_ok h1 hf) hr
  refine OpOk.pure hi ?_ (DR.sc rfl)
  simp [execOp, ho, hc, ha, hty, e1, resolve, invoke, builtin, Builtin.len_, run_underlying ht, goInt]

theorem op_slen (hi : HI w g H) {c : Call} {t : TypeId} {x : Operand} {x' : AO} (ho : o.op = .call c) (hc : c.callee = .builtin .len) (ha : c.args = #[x]) (hty : c.argTypes = #[t]) (ht : P.underlying t = some .string)
    (h1 : compA x = some x') (hf : FRu w g H f a x'.us) {s : ByteArray} (hx : x'.ev f = .c (.d (.sc (.string s)))) : OpOk P o a w g H nx ⟨sc (.int .i64 s.size), [], [], nx⟩ := by
  have e1 := compA_ok h1 hf
  rw [hx] at e1
  have e1 := sc_val e1
  refine OpOk.pure hi ?_ (DR.sc rfl)
  simp [execOp, ho, hc, ha, hty, e1, resolve, invoke, builtin, Builtin.len_, run_underlying ht, goInt]
end
end Go.Proofs.Ytpanbfainilmpaa.Ev
