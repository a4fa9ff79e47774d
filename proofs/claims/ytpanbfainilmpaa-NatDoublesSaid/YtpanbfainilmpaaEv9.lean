/- Slices cut, grown, copied; structs compared. -/
import Derived.Test.YtpanbfainilmpaaEv8
set_option linter.unusedVariables false
set_option linter.unusedSimpArgs false
namespace Go.Proofs.Ytpanbfainilmpaa.Ev

/-- A piece of a slice by value. -/
theorem DR.piece {w : World} {S : Nat → Nat → Prop} {es : List (List D)} {p : Option Addr} {n c sz l m : Nat} (h : DR w S (.sl es) (.slice p n c)) (hsz : ∀ e ∈ es, e.length = sz) (h1 : l ≤ m) (h2 : m ≤ es.length) :
    DR w S (.sl ((es.take m).drop l)) (.slice (if c = l then p else p.map (·.add (l * sz))) (m - l) (c - l)) := by
  cases h with
  | @sl _ _ _ _ sz' b oo vs hn hc hsz' ha hr =>
    have hget : ∀ (i : Nat) (e : List D), ((es.take m).drop l)[i]? = some e → es[l + i]? = some e ∧ l + i < m := by
      intro i e he
      rw [List.getElem?_drop, List.getElem?_take] at he
      split at he
      · rename_i hlt; exact ⟨he, hlt⟩
      · cases he
    refine .sl (sz := sz') (b := b) (o := oo + l * sz') (fun i j => vs (l + i) j) (by simp; omega) (by omega) (fun i e he => hsz' _ e (hget i e he).1) (fun i e j x he hx => ?_) (fun i e j x he hx => hr _ e j x (hget i e he).1 hx)
    obtain ⟨k1, k2⟩ := hget i e he
    obtain ⟨q1, q2, q3⟩ := ha _ e j x k1 hx
    have hss : sz' = sz := (hsz' _ e k1).symm.trans (hsz e (List.mem_of_getElem? k1))
    have hne : ¬ c = l := by omega
    rw [if_neg hne, q1]
    have e1 : oo + l * sz' + (i * sz' + j) = oo + ((l + i) * sz' + j) := by rw [Nat.add_mul]; omega
    rw [e1]
    refine ⟨?_, q2, q3⟩
    rw [← hss, Option.map_some, add_none]

section
variable {P : Program} {o : Oper} {a : Act} {w : World} {g : Gh} {H : HF} {f : Fr} {h : Hp} {nx : Nat} {K : Or} {draw : Bool}

theorem run_slc {t e : TypeId} {info : TypeInfo} (ht : P.underlying t = some (.slice e)) (hi : P.info? e = some info) {p : Option Addr} {n c : Nat} (hnc : n ≤ c) {lo hi' : Option Value} {l m : Int}
    (hlo : (lo = none ∧ l = 0) ∨ ∃ k, lo = some (.int k l)) (hhi : (hi' = none ∧ m = n) ∨ ∃ k, hi' = some (.int k m)) (h0 : 0 ≤ l) (h1 : l ≤ m) (h2 : m ≤ (n : Int)) :
    (Instr.sliceAt t (.slice p n c) lo hi' none).run P w = .ok (.slice (if c = l.toNat then p else p.map (·.add (l.toNat * info.size))) (m.toNat - l.toNat) (c - l.toNat)) w := by
  have hm0 : 0 ≤ m := by omega
  have hmc : m ≤ (c : Int) := by omega
  have hmt : (m.toNat : Int) = m := Int.toNat_of_nonneg hm0
  have hlm : l ≤ (m.toNat : Int) := by omega
  rcases hlo with ⟨rfl, rfl⟩ | ⟨k, rfl⟩ <;> rcases hhi with ⟨rfl, rfl⟩ | ⟨k', rfl⟩ <;>
    simp [Instr.sliceAt, Instr.slice, run_underlying ht, Instr.sliceBounds, Instr.sliceBound, asIntOf, sizeOf, typeInfo, hi, h0, hm0, hmc, hlm, hmt, h1, h2]

theorem compO_ok {x : Option Operand} {y : Option AO} (h : compO x = some y) : (x = none ∧ y = none) ∨ ∃ p q, x = some p ∧ y = some q ∧ compA p = some q := by
  unfold compO at h
  split at h
  · cases h; exact .inl ⟨rfl, rfl⟩
  · simp only [bindO_eq] at h
    obtain ⟨q, hq, he⟩ := h
    cases he
    exact .inr ⟨_, _, rfl, rfl, hq⟩

theorem op_slc (hi : HI w g H) {t e : TypeId} {x : Operand} {lo hh : Option Operand} {x' : AO} {lo' hh' : Option AO} (ho : o.op = .slice t x lo hh none) (ht : elemT P t = some e) (h0 : 0 < szOf P e) (h1 : compA x = some x') (h2 : compO lo = some lo') (h3 : compO hh = some hh')
    (hf : FRu w g H f a (x'.us ++ usO lo' ++ usO hh')) {re : Re} (hre : evOp K draw f h nx (.slc (szOf P e) x' lo' hh') = some re) (hrd : ∀ id ∈ re.r, H id = h.get id) (hrd2 : ∀ n, lenOf h (x'.ev f) = some n → ∀ id ∈ n.2, H id = h.get id) : OpOk P o a w g H nx re := by
  have e1 := compA_ok h1 (hf.sub fun s hs => by simp [hs])
  obtain ⟨info, hinfo, hsz⟩ := sz_info h0
  simp only [evOp, bindO_eq] at hre
  obtain ⟨l, hl, n, hn, m, hm, hre⟩ := hre
  obtain ⟨p, c, e2, hnc⟩ := lenOf_val hn e1 (hrd2 n hn)
  have hlo : ((lo.map a.eval) = none ∧ l = 0) ∨ ∃ k, (lo.map a.eval) = some (.int k l) := by
    rcases compO_ok h2 with ⟨rfl, rfl⟩ | ⟨p, q, rfl, rfl, hc⟩
    · simp only [Option.some.injEq] at hl; exact .inl ⟨rfl, hl.symm⟩
    · simp only [bindO_eq] at hl
      obtain ⟨z, hz, he⟩ := hl
      cases he
      exact .inr ⟨z.1, by rw [Option.map_some, asInt_val hz (compA_ok hc (hf.sub fun s hs => by simp [usO, hs]))]⟩
  have hhi : ((hh.map a.eval) = none ∧ m = n.1) ∨ ∃ k, (hh.map a.eval) = some (.int k m) := by
    rcases compO_ok h3 with ⟨rfl, rfl⟩ | ⟨p, q, rfl, rfl, hc⟩
    · simp only [Option.some.injEq] at hm; exact .inl ⟨rfl, hm.symm⟩
    · simp only [bindO_eq] at hm
      obtain ⟨z, hz, he⟩ := hm
      cases he
      exact .inr ⟨z.1, by rw [Option.map_some, asInt_val hz (compA_ok hc (hf.sub fun s hs => by simp [usO, hs]))]⟩
  split at hre
  case isFalse => cases hre
  rename_i hcond
  obtain ⟨c1, c2, c3⟩ := hcond
  have hrun := run_slc (P := P) (w := w) (elemT_und ht) hinfo (p := p) hnc hlo hhi c1 c2 c3
  rw [hsz] at hrun
  have hexec : (execOp a.eval o).run P w = .ok (.value (.slice (if c = l.toNat then p else p.map (·.add (l.toNat * szOf P e))) (m.toNat - l.toNat) (c - l.toNat))) w := by
    simp [execOp, ho, e2, hrun]
  have slcase : ∀ es : List (List D), DR w g.S (.sl es) (a.eval x) → (if (es.all fun y => y.length == szOf P e) = true then ok1 (.c (.d (.sl ((es.take m.toNat).drop l.toNat)))) nx else none) = some re → OpOk P o a w g H nx re := by
    intro es hd hre
    split at hre
    case isFalse => cases hre
    rename_i hall
    have := ok1_eq hre
    subst this
    rw [e2] at hd
    have hnl : n.1 = es.length := by cases hd with | sl vs hn' hc => exact hn'
    refine OpOk.pure hi hexec ?_
    exact DR.piece hd (fun y hy => by simpa using List.all_eq_true.1 hall y hy) (by omega) (by omega)
  split at hre
  · rename_i es hx
    rw [hx] at e1
    exact slcase es e1 hre
  · rename_i tt es hx
    rw [hx] at e1
    exact slcase es e1.1 hre
  · rename_i hx
    have := ok1_eq hre
    subst this
    rw [hx] at e1 hn
    have e3 : a.eval x = .slice none 0 0 := e1
    rw [e3] at e2
    injection e2 with ha hb hc
    have hl0 : l.toNat = 0 := by omega
    refine OpOk.pure hi hexec ?_
    show _ = _
    rw [hl0, ← ha, ← hc, if_pos rfl, show m.toNat - 0 = 0 by omega]
  · rename_i id off len hx
    cases hre
    rw [hx] at e1
    refine OpOk.pure hi hexec (fun cells hcells => ?_)
    obtain ⟨p', cap, e4, k1, k2⟩ := e1 cells hcells
    rw [e2] at e4
    cases e4
    refine ⟨_, _, by rw [show (m - l).toNat = m.toNat - l.toNat by omega], by omega, fun hpos => ?_⟩
    have hne : ¬ c = l.toNat := by omega
    rw [if_neg hne, k2 (by omega), Option.map_some, add_none]
  · cases hre

theorem chunk_len (sz : Nat) : ∀ (n : Nat) (l : List D), (chunk sz n l).length = n
  | 0, l => rfl
  | n + 1, l => by simp [chunk, chunk_len sz n]
theorem chunk_get (sz : Nat) : ∀ (n : Nat) (l : List D) (i : Nat) (x : List D), (chunk sz n l)[i]? = some x → i < n ∧ x = (l.drop (i * sz)).take sz
  | 0, l, i, x, h => by simp [chunk] at h
  | n + 1, l, 0, x, h => by simp [chunk] at h; exact ⟨by omega, by rw [← h]; simp⟩
  | n + 1, l, i + 1, x, h => by
    simp only [chunk, List.getElem?_cons_succ] at h
    obtain ⟨h1, h2⟩ := chunk_get sz n _ i x h
    refine ⟨by omega, ?_⟩
    rw [h2, List.drop_drop]
    congr 2
    rw [Nat.succ_mul]
    omega

/-- What a slice's elements are in memory. -/
theorem elems_val (hi : HI w g H) {sz : Nat} (h0 : 0 < sz) {x : AV} {u : Value} {q : List (List D) × List Nat} (hq : elems h sz x = some q) (hx : AVR w g H x u) (hr : ∀ id ∈ q.2, H id = h.get id) (hsz : ∀ e ∈ q.1, e.length = sz) :
    ∃ p c, u = .slice p q.1.length c ∧ q.1.length ≤ c ∧ ∃ us : List Value, us.length = q.1.length * sz ∧ (∀ v ∈ us, v.oneCell' = true) ∧
      (0 < q.1.length → ∃ ad, p = some ad ∧ ∀ (k : Nat) (v : Value), us[k]? = some v → w.cell? (ad.add k) = some v) ∧
      ∀ (i : Nat) (x : List D) (j : Nat) (y : D), q.1[i]? = some x → x[j]? = some y → ∃ v, us[i * sz + j]? = some v ∧ DR w g.S y v := by
  have slcase : ∀ es : List (List D), DR w g.S (.sl es) u → (∀ e ∈ es, e.length = sz) → ∃ p c, u = .slice p es.length c ∧ es.length ≤ c ∧ ∃ us : List Value, us.length = es.length * sz ∧ (∀ v ∈ us, v.oneCell' = true) ∧
      (0 < es.length → ∃ ad, p = some ad ∧ ∀ (k : Nat) (v : Value), us[k]? = some v → w.cell? (ad.add k) = some v) ∧
      ∀ (i : Nat) (x : List D) (j : Nat) (y : D), es[i]? = some x → x[j]? = some y → ∃ v, us[i * sz + j]? = some v ∧ DR w g.S y v := by
    intro es hd hsz
    cases hd with
    | @sl _ p n c sz' b oo vs hn hc hsz' ha hr =>
      subst hn
      have hat : ∀ k, k < es.length * sz → ∃ e y, es[k / sz]? = some e ∧ e[k % sz]? = some y := by
        intro k hk
        have h1 : k / sz < es.length := (Nat.div_lt_iff_lt_mul h0).2 hk
        have h2 := Nat.mod_lt k h0
        refine ⟨es[k / sz], (es[k / sz])[k % sz]'(by rw [hsz _ (List.getElem_mem _)]; exact h2), List.getElem?_eq_getElem _, List.getElem?_eq_getElem _⟩
      have hss : ∀ (i : Nat) (e : List D), es[i]? = some e → sz' = sz := fun i e he => (hsz' i e he).symm.trans (hsz e (List.mem_of_getElem? he))
      refine ⟨p, c, rfl, hc, (List.range (es.length * sz)).map fun k => vs (k / sz) (k % sz), by simp, fun v hv => ?_, fun hpos => ?_, fun i x j y hx hy => ?_⟩
      · obtain ⟨k, hk, rfl⟩ := List.mem_map.1 hv
        obtain ⟨e, y, he, hy⟩ := hat k (List.mem_range.1 hk)
        exact DR.one (hr _ e _ y he hy)
      · have hk0 : 0 < es.length * sz := Nat.mul_pos hpos h0
        obtain ⟨e, y, he, hy⟩ := hat 0 hk0
        refine ⟨⟨b, oo, none⟩, (ha _ e _ y he hy).1, fun k v hv => ?_⟩
        rw [List.getElem?_map] at hv
        obtain ⟨k', hk', rfl⟩ := Option.map_eq_some_iff.1 hv
        obtain ⟨hlt, rfl⟩ := List.getElem?_eq_some_iff.1 hk'
        simp only [List.length_range] at hlt
        simp only [List.getElem_range]
        obtain ⟨e, y, he, hy⟩ := hat k hlt
        have h3 := (ha _ e _ y he hy).2.1
        rw [hss _ e he] at h3
        rw [add_none]
        have : k / sz * sz + k % sz = k := by rw [Nat.mul_comm]; exact Nat.div_add_mod k sz
        rwa [this] at h3
      · have hjl : j < sz := by rw [← hsz x (List.mem_of_getElem? hx)]; exact (List.getElem?_eq_some_iff.1 hy).1
        have hil : i < es.length := (List.getElem?_eq_some_iff.1 hx).1
        have hlt : i * sz + j < es.length * sz := by
          have : (i + 1) * sz ≤ es.length * sz := Nat.mul_le_mul_right _ hil
          rw [Nat.succ_mul] at this
          omega
        refine ⟨vs i j, ?_, hr i x j y hx hy⟩
        rw [List.getElem?_map, List.getElem?_range hlt, Option.map_some]
        have d1 : (i * sz + j) / sz = i := by rw [Nat.mul_comm, Nat.mul_add_div h0, Nat.div_eq_of_lt hjl, Nat.add_zero]
        have d2 : (i * sz + j) % sz = j := by rw [Nat.mul_comm, Nat.mul_add_mod, Nat.mod_eq_of_lt hjl]
        rw [d1, d2]
  unfold elems at hq
  split at hq
  · cases hq; exact slcase _ hx hsz
  · cases hq
    have : u = .slice none 0 0 := hx
    exact ⟨none, 0, this, Nat.le_refl _, [], by simp, by simp, by simp, by simp⟩
  · cases hq; exact slcase _ hx.1 hsz
  · rename_i id off len
    split at hq
    · rename_i cells hcells
      split at hq
      · rename_i hl
        cases hq
        have hH : H id = some (.arr cells) := (hr id (by simp)).trans hcells
        obtain ⟨p, c, e1, hlc, hp⟩ := hx cells hH
        obtain ⟨vs, k1, k2, k3⟩ := arr_vals hi hH hl
        refine ⟨p, c, by rw [chunk_len]; exact e1, by rw [chunk_len]; exact hlc, vs, by rw [chunk_len]; exact k1, fun v hv => ?_, fun hpos => ?_, fun i x j y hx hy => ?_⟩
        · obtain ⟨k, hk, rfl⟩ := List.getElem_of_mem hv
          exact CR.one (k2.2 k (((cells.drop off).take (len * sz))[k]'(by rw [k2.1]; exact hk)) _ (List.getElem?_eq_getElem _) (List.getElem?_eq_getElem _))
        · rw [chunk_len] at hpos
          refine ⟨_, hp hpos, fun k v hv => ?_⟩
          rw [add_none]
          exact k3 k v hv
        · obtain ⟨hil, rfl⟩ := chunk_get sz len _ i x hx
          rw [List.getElem?_take] at hy
          split at hy
          · rename_i hjl
            rw [List.getElem?_drop, List.getElem?_map] at hy
            obtain ⟨cc, hcc, rfl⟩ := Option.map_eq_some_iff.1 hy
            have hlt : i * sz + j < len * sz := by
              have : (i + 1) * sz ≤ len * sz := Nat.mul_le_mul_right _ hil
              rw [Nat.succ_mul] at this
              omega
            have : ((cells.drop off).take (len * sz))[i * sz + j]? = some cc := by rw [List.getElem?_take, if_pos hlt]; exact hcc
            obtain ⟨v, hv, hd⟩ := k2.get this
            exact ⟨v, hv, CR.toD hd⟩
          · cases hy
      · cases hq
    · cases hq
  · cases hq

/-! ### append -/
theorem run_append_zero {t ty e : TypeId} {info : TypeInfo} (ht : P.underlying t = some (.slice e)) (hi : P.info? e = some info) {b : Option Addr} {n cap : Nat} (hn : n ≤ cap) {p : Option Addr} {c : Nat} :
    (Builtin.append_ #[t, t] ty #[.slice b n cap, .slice p 0 c]).run P w = .ok (.slice b n cap) w := by
  cases p <;> cases b <;> simp [Builtin.append_, run_underlying ht, sizeOf, typeInfo, hi, Builtin.lenOf, hn, Builtin.firstCells, loadCells, loadCellsFrom, storeCells]

theorem run_append_roomT (t ty e : TypeId) (i : TypeInfo) (ht : P.underlying t = some (.slice e)) (hi : P.info? e = some i)
    (b sLen sCap : Nat) (cur : Array Value) (e' : TypeId) (hg : w.heap[b]? = some (.cells cur e' (0, 0)))
    (p : Addr) (m c : Nat) (news : List Value) (hl : news.length = m * i.size) (hnews : ∀ j u, news[j]? = some u → w.cell? (p.add j) = some u) (h1 : ∀ u ∈ news, u.oneCell' = true)
    (hroom : sLen + m ≤ sCap) (hfit : sLen * i.size + news.length ≤ cur.size) :
    (Builtin.append_ #[t, t] ty #[.slice (some ⟨b, 0, none⟩) sLen sCap, .slice (some p) m c]).run P w =
      .ok (.slice (some ⟨b, 0, none⟩) (sLen + m) sCap) (w.setRow b (cur.toList.take (sLen * i.size) ++ news ++ cur.toList.drop (sLen * i.size + news.length)).toArray) := by
  have hf := run_firstCells_some (P := P) w i.size m p m c news hl hnews
  have hst := run_storeCells_at P b (sLen * i.size) e' news 0 cur w hg (by simpa using hfit) h1
  simp only [Nat.add_zero] at hst
  simp [Builtin.append_, run_underlying ht, sizeOf, typeInfo, hi, Builtin.lenOf, hroom, hf, Addr.add_lit, hst]

theorem fup_fup {α : Type} (F : Nat → α) (n : Nat) (x y : α) : fup (fup F n x) n y = fup F n y := by
  funext i
  simp only [fup]
  split <;> rfl

/-- append onto a row that may grow. -/
theorem grow_ok (hi : HI w g H) {t e tt ty : TypeId} {n s sz : Nat} {info : TypeInfo} {z : Value} (htok : H tt = some (.tok n s)) (hs : s = sz ∨ s = 0) (h0 : 0 < sz) (ht : P.underlying t = some (.slice e)) (hinf : P.info? e = some info) (hz : info.zero = some z) (hsize : info.size = sz) (hzc : z.cells.size = sz)
    (hb0 : 0 < info.bytes) {es ys : List (List D)} (hes : es.length = n) (hesl : ∀ x ∈ es, x.length = s) (hd : DR w g.S (.sl es) (g.ρ tt)) (hys : ∀ x ∈ ys, x.length = sz) (hbd : (n + ys.length) * info.bytes ≤ 140737488355328)
    {p : Option Addr} {c : Nat} {us : List Value} (hus : us.length = ys.length * sz) (hone : ∀ v ∈ us, v.oneCell' = true) (hp : 0 < ys.length → ∃ ad, p = some ad ∧ ∀ (k : Nat) (v : Value), us[k]? = some v → w.cell? (ad.add k) = some v)
    (hr : ∀ (i : Nat) (x : List D) (j : Nat) (y : D), ys[i]? = some x → x[j]? = some y → ∃ v, us[i * sz + j]? = some v ∧ DR w g.S y v) :
    ∃ v' w' g', (Builtin.append_ #[t, t] ty #[g.ρ tt, .slice p ys.length c]).run P w = .ok v' w' ∧ HI w' g' (fup H tt (some (.tok (n + ys.length) (if ys.isEmpty then s else sz)))) ∧
      Stp [] w g H w' g' (fup H tt (some (.tok (n + ys.length) (if ys.isEmpty then s else sz)))) ∧ AVR w' g' (fup H tt (some (.tok (n + ys.length) (if ys.isEmpty then s else sz)))) (.c (.gr tt (es ++ ys))) v' := by
  have hlen : (es ++ ys).length = n + ys.length := by simp [hes]
  rcases Nat.eq_zero_or_pos ys.length with hy0 | hy0
  · -- nothing to add
    have hyn : ys = [] := List.eq_nil_of_length_eq_zero hy0
    subst hyn
    have hH : fup H tt (some (.tok (n + 0) s)) = H := by
      funext i
      by_cases hit : i = tt
      · subst hit; rw [fup_same, htok]; rfl
      · rw [fup_ne hit]
    simp only [List.length_nil, List.isEmpty_nil, if_true, List.append_nil]
    rw [hH]
    refine ⟨g.ρ tt, w, g, ?_, hi, Stp.refl w g H, hd, fun m s' hm => ?_⟩
    · rcases hi.tok tt n s htok with ⟨h1, rfl, _⟩ | ⟨b, cap, cur, e', h1, h2, h3, _⟩
      · rw [h1]; exact run_append_zero ht hinf (Nat.le_refl _)
      · rw [h1]; exact run_append_zero ht hinf h3
    · rw [htok] at hm
      cases hm
      exact ⟨by omega, fun _ => ⟨rfl, hesl⟩⟩
  · have hyne : ys.isEmpty = false := by cases ys with | nil => simp at hy0 | cons => rfl
    obtain ⟨ad, rfl, hcell⟩ := hp hy0
    simp only [hyne, Bool.false_eq_true, if_false]
    have hge : (n + ys.length) * 1 ≤ (n + ys.length) * info.bytes := Nat.mul_le_mul_left _ hb0
    rcases hi.tok tt n s htok with ⟨h1, hn0, hs0⟩ | ⟨b, cap, cur, e', h1, h2, h3, h4, h5, h6⟩
    · -- onto nil
      have hes0 : es = [] := List.eq_nil_of_length_eq_zero (by omega)
      subst hes0
      subst hn0
      have hrun := run_append_nil (P := P) w t ty e info z ht hinf hz ad ys.length c us (by rw [hsize]; exact hus) hcell hy0 (by omega) (by simp only [Nat.zero_add] at hbd; omega)
      obtain ⟨q1, q2, q3⟩ := growNew hi htok (es := ys) (cur := us.toArray ++ Builtin.zeroCells z.cells (grownCap w ys.length 0 e - ys.length)) (e := e) (cap := grownCap w ys.length 0 e) (sz := sz) h0 hy0 (grownCap_ge w _ _ _)
        (by
          have := grownCap_ge w ys.length 0 e
          simp only [Array.size_append, List.size_toArray, size_zeroCells, hus, hzc]
          rw [← Nat.add_mul, Nat.add_sub_cancel' this]
          exact Nat.le_refl _) hys (fun i x j y hx hy => by
          obtain ⟨v, hv, hdv⟩ := hr i x j y hx hy
          refine ⟨v, ?_, hdv⟩
          have hlt := (List.getElem?_eq_some_iff.1 hv).1
          rw [Array.getElem?_append_left (by simpa using hlt)]
          simpa using hv)
      simp only [Nat.zero_add, List.nil_append]
      refine ⟨_, _, _, by rw [h1]; exact hrun, q1, q2, q3, fun m s' hm => ?_⟩
      rw [fup_same] at hm
      cases hm
      exact ⟨Nat.le_refl _, fun _ => ⟨(fup_same _ _ _).symm, hys⟩⟩
    · have hse : s = sz := hs.resolve_right (by omega)
      subst hse
      by_cases hroom : n + ys.length ≤ cap
      · -- where it lies
        have hfit : n * s + us.length ≤ cur.size := by
          rw [hus, ← Nat.add_mul]
          exact Nat.le_trans (Nat.mul_le_mul_right _ hroom) h4
        obtain ⟨q1, q2, q3⟩ := growIn hi htok h1 h2 hes hesl hd h0 h4 hroom hus hys hr
        have hrun := run_append_roomT (P := P) (w := w) t ty e info ht hinf b n cap cur e' h2 ad ys.length c us (by rw [hsize]; exact hus) hcell hone hroom (by rw [hsize]; exact hfit)
        rw [hsize] at hrun
        refine ⟨_, _, _, by rw [h1]; exact hrun, q1, q2, q3, fun m s' hm => ?_⟩
        rw [fup_same] at hm
        cases hm
        refine ⟨by omega, fun _ => ⟨(fup_same _ _ _).symm, fun x hx => ?_⟩⟩
        rcases List.mem_append.1 hx with hx | hx
        · exact hesl x hx
        · exact hys x hx
      · -- a new place
        have hns : n * s ≤ cur.size := Nat.le_trans (Nat.mul_le_mul_right _ h3) h4
        have hlo : (cur.toList.take (n * s)).length = n * s := by simp; omega
        have hrun := run_append_grow (P := P) w t ty e info z ht hinf hz ⟨b, 0, none⟩ n cap (cur.toList.take (n * s)) (by rw [hsize]; exact hlo)
          (fun j v hv => by
            rw [List.getElem?_take] at hv
            split at hv
            · rw [add_none, Nat.zero_add, cellAt h2]; simpa using hv
            · cases hv) ad ys.length c us (by rw [hsize]; exact hus) hcell (by omega) (by omega) (growslice_fits (by omega) hbd)
        have hes2 : ∀ (i : Nat) (x : List D) (j : Nat) (y : D), es[i]? = some x → x[j]? = some y → ∃ v, cur[i * s + j]? = some v ∧ DR w g.S y v := by
          rw [h1] at hd
          cases hd with
          | sl vs hn' hc' hsz' ha' hr' =>
            intro i x j y hx hy
            obtain ⟨q1, q2, _⟩ := ha' i x j y hx hy
            have hsz1 := hsz' i x hx
            have hsz2 := hesl x (List.mem_of_getElem? hx)
            have hsz3 := hsz1.symm.trans hsz2
            injection q1 with q1
            injection q1 with qb qo
            subst qb; subst qo
            subst hsz3
            rw [Nat.zero_add, cellAt h2] at q2
            exact ⟨_, q2, hr' i x j y hx hy⟩
        have hcapge := grownCap_ge w (n + ys.length) cap e
        obtain ⟨q1, q2, q3⟩ := growNew hi htok (es := es ++ ys) (cur := (cur.toList.take (n * s)).toArray ++ us.toArray ++ Builtin.zeroCells z.cells (grownCap w (n + ys.length) cap e - (n + ys.length))) (e := e) (cap := grownCap w (n + ys.length) cap e) (sz := s) h0
          (by rw [hlen]; omega) (by rw [hlen]; exact hcapge)
          (by
            simp only [Array.size_append, List.size_toArray, size_zeroCells, hus, hzc, hlo]
            rw [← Nat.add_mul, ← Nat.add_mul, Nat.add_sub_cancel' hcapge]
            exact Nat.le_refl _)
          (fun x hx => by
            rcases List.mem_append.1 hx with hx | hx
            · exact hesl x hx
            · exact hys x hx)
          (elems_append hesl (R := fun k y => ∃ v, ((cur.toList.take (n * s)).toArray ++ us.toArray ++ Builtin.zeroCells z.cells (grownCap w (n + ys.length) cap e - (n + ys.length)))[k]? = some v ∧ DR w g.S y v)
            (fun i x j y hx hy => by
              obtain ⟨v, hv, hdv⟩ := hes2 i x j y hx hy
              refine ⟨v, ?_, hdv⟩
              have k1 : i < es.length := (List.getElem?_eq_some_iff.1 hx).1
              have k2 : j < x.length := (List.getElem?_eq_some_iff.1 hy).1
              rw [hesl x (List.mem_of_getElem? hx)] at k2
              have k3 : (i + 1) * s ≤ es.length * s := Nat.mul_le_mul_right _ k1
              rw [Nat.succ_mul, hes] at k3
              rw [Array.append_assoc, Array.getElem?_append_left (by simp; omega), List.getElem?_toArray, List.getElem?_take, if_pos (by omega), Array.getElem?_toList]
              exact hv)
            (fun i x j y hx hy => by
              obtain ⟨v, hv, hdv⟩ := hr i x j y hx hy
              refine ⟨v, ?_, hdv⟩
              have hkl : i * s + j < us.length := (List.getElem?_eq_some_iff.1 hv).1
              rw [hes, Array.getElem?_append_left (by simp only [Array.size_append, List.size_toArray, hlo]; omega), Array.getElem?_append_right (by simp only [List.size_toArray, hlo]; omega)]
              simp only [List.size_toArray, hlo, Nat.add_sub_cancel_left, List.getElem?_toArray]
              exact hv))
        rw [hlen] at q1 q2 q3
        refine ⟨_, _, _, by rw [h1]; exact hrun, q1, q2, q3, fun m s' hm => ?_⟩
        rw [fup_same] at hm
        cases hm
        refine ⟨by omega, fun _ => ⟨(fup_same _ _ _).symm, fun x hx => ?_⟩⟩
        rcases List.mem_append.1 hx with hx | hx
        · exact hesl x hx
        · exact hys x hx
end
end Go.Proofs.Ytpanbfainilmpaa.Ev
