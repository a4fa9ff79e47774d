/- Slices made, cut, grown, copied; own arrays written. -/
import Derived.Test.YtpanbfainilmpaaEv7
set_option linter.unusedVariables false
set_option linter.unusedSimpArgs false
namespace Go.Proofs.Ytpanbfainilmpaa.Ev

theorem RelL.flatten_rep {α β : Type} {R : α → β → Prop} {xs : List α} {vs : List β} (h : RelL R xs vs) : ∀ n, RelL R (List.replicate n xs).flatten (List.replicate n vs).flatten
  | 0 => by simpa using RelL.nil
  | n + 1 => by
    simp only [List.replicate_succ, List.flatten_cons]
    exact h.append (RelL.flatten_rep h n)

theorem mapD_get {es : List (List C)} {i j : Nat} {x : List D} {y : D} (hx : (es.map (·.map C.toD))[i]? = some x) (hy : x[j]? = some y) : ∃ e c, es[i]? = some e ∧ e[j]? = some c ∧ y = c.toD := by
  rw [List.getElem?_map] at hx
  obtain ⟨e, he, rfl⟩ := Option.map_eq_some_iff.1 hx
  rw [List.getElem?_map] at hy
  obtain ⟨c, hc, rfl⟩ := Option.map_eq_some_iff.1 hy
  exact ⟨e, c, he, hc, rfl⟩

section
variable {P : Program} {o : Oper} {a : Act} {w : World} {g : Gh} {H : HF} {f : Fr} {h : Hp} {nx : Nat} {K : Or} {draw : Bool}

theorem run_bsl {t e : TypeId} {n sz : Nat} {info : TypeInfo} {z : Value} (ht : P.underlying t = some (.slice e)) (hi : P.info? e = some info) (hz : info.zero = some z) (hsz : info.size = sz) (h0 : 0 < sz) (hzl : z.cells.size = sz) (hlim : n * sz ≤ 2 ^ 24)
    {parts : Array (Nat × Value)} {cells : List Value} (hf : Instr.fill (fun i => some (i * sz, sz)) (List.replicate n z.cells.toList).flatten.toArray parts.toList = some cells.toArray) :
    (Instr.buildSlice t n parts).run P w = .ok (.slice (some ⟨w.heap.size, 0, none⟩) n n) (w.alloc (.cells cells.toArray e)) := by
  have hm := madeZero (zs := z.cells) n (by omega)
  rw [hzl] at hm
  have hm' : (Array.range (n * sz)).map (fun i => z.cells[i % z.cells.size]!) = (List.replicate n z.cells.toList).flatten.toArray := by
    apply Array.ext'
    rw [hzl]
    simpa using hm
  have hlim' : ¬ (16777216 < n * sz) := by simpa using hlim
  by_cases hn : n * sz = 0
  · have hn0 : n = 0 := by
      rcases Nat.mul_eq_zero.1 hn with h | h <;> omega
    subst hn0
    simp only [List.replicate_zero, List.flatten_nil] at hf
    simp [Instr.buildSlice, run_underlying ht, sizeOf, typeInfo, hi, hsz, hf, newRow, Array.range_zero']
  · simp only [Instr.buildSlice, Sem.run_bind, run_underlying ht, Result.andThen_ok, sizeOf, typeInfo, run_program, hi, Sem.run_pure, hsz]
    simp [hlim', hn, zeroValue, typeInfo, hi, hz, hf, newRow, hm']

theorem op_bsl (hi : HI w g H) {t e : TypeId} {n : Nat} {ps : Array (Nat × Operand)} {zs : List C} {parts : List (Nat × AO)} {mu : Bool} (ho : o.op = .buildSlice t n ps) (ht : elemT P t = some e) (hz : zeroC P e = some zs) (hzl : zs.length = szOf P e) (h0 : 0 < szOf P e) (hlim : n * szOf P e ≤ 2 ^ 24)
    (hc : compParts2 ps.toList = some parts) (hf : FRu w g H f a (parts.flatMap fun p => p.2.us)) {re : Re} (hre : evOp K draw f h nx (.bsl mu (szOf P e) n zs parts) = some re)
    (hfr : ∀ i, nx ≤ i → i < re.nx → H i = none) (hcl : Clean H (bn nx re.nx)) (hid : ∀ s ∈ parts.flatMap fun p => p.2.us, ∀ i ∈ (f.get s).ids, i ∉ bn nx re.nx) : OpOk P o a w g H nx re := by
  obtain ⟨info, z, h1, h2, h3⟩ := zeroC_eq hz
  obtain ⟨hr, hids⟩ := cellsC_ok (w := w) (g := g) (H := H) h3
  have hsz : info.size = szOf P e := by simp [szOf, h1]
  have hzc : z.cells.size = szOf P e := by rw [← hzl, hr.1]; simp
  simp only [evOp, bindO_eq] at hre
  obtain ⟨es, hes, hre⟩ := hre
  have hs0 : ∀ x ∈ List.replicate n zs, x.length = szOf P e := fun x hx => by rw [List.eq_of_mem_replicate hx]; exact hzl
  obtain ⟨vs, k1, k2, k3, k4, k5⟩ := litElems_ok ps.toList parts (List.replicate n zs) es _ hc hes hs0 (RelL.flatten_rep hr n) hf
  have k4' : es.length = n := by rw [k4]; simp
  have hmap : (ps.map fun (x : Nat × Operand) => (x.1, a.eval x.2)).toList = ps.toList.map fun e => (e.1, a.eval e.2) := by simp
  have hrun := run_bsl (P := P) (w := w) (elemT_und ht) h1 h2 hsz h0 hzc hlim (parts := ps.map fun (x : Nat × Operand) => (x.1, a.eval x.2)) (cells := vs) (by rw [hmap]; exact k1)
  have hexec : (execOp a.eval o).run P w = .ok (.value (.slice (some ⟨w.heap.size, 0, none⟩) n n)) (w.alloc (.cells vs.toArray e)) := by
    simp [execOp, ho, hrun]
  have hvl : vs.length = n * szOf P e := by rw [← k2.1, flatten_len k3, k4']
  split at hre
  · cases hre
    simp only at hfr hcl hid
    rw [bn_one] at hcl hid
    obtain ⟨q1, q2⟩ := birthArr hi (hfr nx (Nat.le_refl _) (by omega)) hcl (cells := es.flatten) (cur := vs.toArray) (e := e) (by rw [k2.1]; simp) (fun i x hx => by
        obtain ⟨v, hv, hd⟩ := k2.get hx
        exact ⟨v, by simpa using hv, hd⟩) (fun x hx i hii => by
        obtain ⟨e1, he1, hx1⟩ := List.mem_flatten.1 hx
        rcases k5 e1 he1 x hx1 i hii with ⟨e0, he0, y, hy, hyi⟩ | ⟨s, hs, hsi⟩
        · rw [List.eq_of_mem_replicate he0] at hy
          rw [hids y hy] at hyi
          cases hyi
        · exact hid s hs i hsi)
    refine ⟨_, _, { g with β := fup g.β nx w.heap.size }, .inl hexec, q1, by rw [bn_one]; exact q2, fun cells hcells => ⟨_, _, rfl, Nat.le_refl _, fun _ => by simp only [fup_same]⟩⟩
  · cases hre
    simp only at hfr hcl hid
    rw [bn_one] at hcl
    have hml : (es.map (·.map C.toD)).length = n := by simp [k4']
    have hms : ∀ x ∈ es.map (·.map C.toD), x.length = szOf P e := fun x hx => by
      obtain ⟨y, hy, rfl⟩ := List.mem_map.1 hx
      simp [k3 y hy]
    obtain ⟨q1, q2, q3⟩ := birthRow hi (hfr nx (Nat.le_refl _) (by omega)) hcl (es := es.map (·.map C.toD)) (cur := vs.toArray) (e := e) (cap := n) h0 (by omega) (by simp; omega) hms (fun i x j y hx hy => by
      obtain ⟨e1, c1, he1, hc1, rfl⟩ := mapD_get hx hy
      have hjl : j < szOf P e := by rw [← k3 e1 (List.mem_of_getElem? he1)]; exact (List.getElem?_eq_some_iff.1 hc1).1
      have hfg := flatten_get k3 i j hjl
      rw [he1, Option.bind_some, hc1] at hfg
      obtain ⟨v, hv, hd⟩ := k2.get hfg
      exact ⟨v, by simpa using hv, CR.toD hd⟩)
    rw [hml] at q1 q2 q3
    refine ⟨_, _, _, .inl hexec, q1, by rw [bn_one]; exact q2, q3, fun m s hm => ?_⟩
    simp only [updF, fup_same] at hm
    cases hm
    exact ⟨by simp [k4'], fun _ => ⟨(fup_same _ _ _).symm, hms⟩⟩

/-- Stores. -/
theorem birthV_ok (hi : HI w g H) {v : AV} {u : Value} (hv : AVR w g H v u) (hf : ∀ i, nx ≤ i → i < (birthV nx v).2.2 → H i = none) (hc : Clean H (bn nx (birthV nx v).2.2)) (hid : ∀ i ∈ v.ids, i ∉ bn nx (birthV nx v).2.2) :
    ∃ g1, HI w g1 (updF H (birthV nx v).2.1) ∧ Stp (bn nx (birthV nx v).2.2) w g H w g1 (updF H (birthV nx v).2.1) ∧ AVR w g1 (updF H (birthV nx v).2.1) (birthV nx v).1 u := by
  have plain : birthV nx v = (v, [], nx) → ∃ g1, HI w g1 (updF H (birthV nx v).2.1) ∧ Stp (bn nx (birthV nx v).2.2) w g H w g1 (updF H (birthV nx v).2.1) ∧ AVR w g1 (updF H (birthV nx v).2.1) (birthV nx v).1 u := by
    intro he
    rw [he]
    exact ⟨g, hi, by rw [bn_self]; exact Stp.refl w g H, hv⟩
  cases v with
  | c x =>
    cases x with
    | nil =>
      obtain ⟨g1, h1, h2, h3⟩ := births_ok [.nil] nx (nx + 1) hi (vs := [u]) (.cons hv .nil) (Nat.le_refl _) hf hc (fun x hx i hii => by rw [List.mem_singleton] at hx; subst hx; simp [C.ids] at hii)
      exact ⟨g1, h1, h2, h3.head⟩
    | d y => exact plain rfl
    | gr t es => exact plain rfl
  | ag cs =>
    obtain ⟨vs, hu, hr⟩ := hv
    obtain ⟨g1, h1, h2, h3⟩ := births_ok cs nx (births nx cs).2.2 hi hr (Nat.le_refl _) hf hc (fun x hx i hii => hid i (List.mem_flatMap.2 ⟨x, hx, hii⟩))
    exact ⟨g1, h1, h2, vs, hu, h3⟩
  | _ => exact plain rfl
theorem birthV_lo (v : AV) : nx ≤ (birthV nx v).2.2 := by
  cases v with
  | c x => cases x <;> simp [birthV]
  | ag cs => exact births_lo cs nx
  | _ => exact Nat.le_refl _
theorem birthV_other (v : AV) (H : HF) {id : Nat} (h : ¬ (nx ≤ id ∧ id < (birthV nx v).2.2)) : updF H (birthV nx v).2.1 id = H id := by
  cases v with
  | c x =>
    cases x with
    | nil => exact births_other [.nil] nx H id h
    | d y => rfl
    | gr t es => rfl
  | ag cs => exact births_other cs nx H id h
  | _ => rfl
theorem op_st (hi : HI w g H) {t : TypeId} {x y : Operand} {x' y' : AO} (ho : o.op = .store t x y) (h1 : compA x = some x') (h2 : compA y = some y') (h0 : 0 < szOf P t) (hf : FRu w g H f a (x'.us ++ y'.us)) {re : Re}
    (hre : evOp K draw f h nx (.st (szOf P t) x' y') = some re) (hrd : ∀ id ∈ re.r, H id = h.get id) (hfr : ∀ i, nx ≤ i → i < re.nx → H i = none) (hcln : Clean H (bn nx re.nx)) (hid : ∀ s ∈ x'.us ++ y'.us, ∀ i ∈ (f.get s).ids, i ∉ bn nx re.nx) : OpOk P o a w g H nx re := by
  have e1 := compA_ok h1 (hf.sub fun s hs => by simp [hs])
  have e2 := compA_ok h2 (hf.sub fun s hs => by simp [hs])
  have i1 := compA_ids h1 (B := bn nx re.nx) fun s hs i hii => hid s (by simp [hs]) i hii
  have i2 := compA_ids h2 (B := bn nx re.nx) fun s hs i hii => hid s (by simp [hs]) i hii
  obtain ⟨info, hinfo, hsz⟩ := sz_info h0
  simp only [evOp] at hre
  split at hre
  case h_2 => cases hre
  rename_i id off hx
  rw [hx] at e1 i1
  split at hre
  case h_2 => cases hre
  rename_i cells hcells
  simp only [bindV, bindO_eq] at hre
  obtain ⟨cs, hcs, hre⟩ := hre
  cases hre
  obtain ⟨g1, hi1, st1, e2'⟩ := birthV_ok hi e2 hfr hcln i2
  have hH0 : H id = some (.arr cells) := (hrd id (by simp)).trans hcells
  have hH : updF H (birthV nx (y'.ev f)).2.1 id = some (.arr cells) := by
    rw [birthV_other _ H (fun hc => by have := hfr id hc.1 hc.2; rw [hH0] at this; cases this)]
    exact hH0
  have e1' : AVR w g1 (updF H (birthV nx (y'.ev f)).2.1) (.ptr id off) (a.eval x) := AVR.step st1 i1 e1
  have e3 := e1' cells hH
  obtain ⟨cur, e, k1, k2, k3, k4⟩ := hi1.arr id cells hH
  have hrel : RelL (CR w g1 (updF H (birthV nx (y'.ev f)).2.1)) cells (cur.toList.take cells.length) := ⟨by simp; omega, fun i c v hc hv => by
    rw [List.getElem?_take] at hv
    split at hv
    · rw [Array.getElem?_toList] at hv
      obtain ⟨u, hu, hd⟩ := k3 i c hc
      rw [hv] at hu; cases hu; exact hd
    · cases hv⟩
  obtain ⟨q1, q2, q3, q4, _⟩ := putPart_ok hcs e2' hrel
  have hfit : off + (a.eval y).cells.toList.length ≤ cur.size := by simp; omega
  have hrun := run_storeCells_at P (g1.β id) off e (a.eval y).cells.toList 0 cur w k1 (by simpa using hfit) q4
  simp only [Nat.add_zero] at hrun
  have hseg : cur.toList.take off ++ (a.eval y).cells.toList ++ cur.toList.drop (off + (a.eval y).cells.toList.length) = seg off (a.eval y).cells.toList cur.toList := rfl
  rw [hseg] at hrun
  have hcl : cs.length = cells.length := by rw [q3.1, seg_length (by simp; omega)]; simp; omega
  obtain ⟨r1, r2⟩ := storeArr hi1 hH k1 (cells2 := cs) (cur2 := (seg off (a.eval y).cells.toList cur.toList).toArray) hcl (by rw [hcl]; simp [seg_length hfit]; omega) (fun i c hc => by
    obtain ⟨v, hv, hd⟩ := q3.get hc
    refine ⟨v, ?_, hd⟩
    have hil : i < cells.length := by rw [← hcl]; exact (List.getElem?_eq_some_iff.1 hc).1
    simp only [List.getElem?_toArray]
    rw [seg_get (by simp; omega)] at hv
    rw [seg_get hfit, ← hv]
    split
    · rfl
    · rw [List.getElem?_take, if_pos hil])
  refine ⟨undef, w.setRow (g1.β id) (seg off (a.eval y).cells.toList cur.toList).toArray, g1, .inr ⟨?_, rfl⟩, (by rw [updF_append]; exact r1), (by rw [updF_append]; exact (st1.trans r2).weaken fun i hi => by simpa using hi), trivial⟩
  have hsz' : ¬ ((a.eval y).cells.size ≠ info.size) := by omega
  simp [execOp, ho, e3, Instr.storeAt, Instr.sureAddr, storeVar, sizeOf, typeInfo, hinfo, hsz, q1, hrun]

theorem op_mks (hi : HI w g H) {t e : TypeId} {l c : Operand} {l' c' : AO} {zs : List C} {mu : Bool} (ho : o.op = .makeSlice t l c) (ht : elemT P t = some e) (hz : zeroC P e = some zs) (h0 : 0 < szOf P e) (hzl : zs.length = szOf P e) (hb0 : 0 < byOf P e) (h1 : compA l = some l') (h2 : compA c = some c')
    (hf : FRu w g H f a (l'.us ++ c'.us)) {re : Re} (hre : evOp K draw f h nx (.mks mu (szOf P e) (byOf P e) zs l' c') = some re) (hfr : ∀ i, nx ≤ i → i < re.nx → H i = none) (hcl : Clean H (bn nx re.nx)) : OpOk P o a w g H nx re := by
  obtain ⟨info, z, q1, q2, q3⟩ := zeroC_eq hz
  obtain ⟨hr, hids⟩ := cellsC_ok (w := w) (g := g) (H := H) q3
  have hsz : info.size = szOf P e := by simp [szOf, q1]
  have hby : info.bytes = byOf P e := by simp [byOf, q1]
  have hzc : z.cells.size = szOf P e := by rw [← hzl, hr.1]; simp
  simp only [evOp, bindO_eq] at hre
  obtain ⟨n, hn, m, hm, hre⟩ := hre
  split at hre
  case isFalse => cases hre
  rename_i hcond
  obtain ⟨c1, c2, c3, c4⟩ := hcond
  have e1 := asInt_val hn (compA_ok h1 (hf.sub fun s hs => by simp [hs]))
  have e2 := asInt_val hm (compA_ok h2 (hf.sub fun s hs => by simp [hs]))
  have hbd : m.2 * (info.bytes : Int) ≤ 140737488355328 := by rw [hby]; exact c3
  have h63 : m.2 ≤ 9223372036854775807 := by
    have h5 : m.2 * 1 ≤ m.2 * (info.bytes : Int) := Int.mul_le_mul_of_nonneg_left (by omega) (by omega)
    omega
  have hrun := run_make (P := P) w t e info z (elemT_und ht) q1 q2 n.1 m.1 n.2 m.2 c1 c2 (by rw [Int.mul_comm]; omega) h63
  rw [hsz] at hrun
  have hcells : madeCells z.cells (m.2.toNat * szOf P e) = (List.replicate m.2.toNat z.cells.toList).flatten.toArray := by
    apply Array.ext'
    have := madeZero (zs := z.cells) m.2.toNat (by omega)
    rw [hzc] at this
    simp only [madeCells]
    rw [hzc]
    simpa using this
  rw [hcells] at hrun
  have hexec : (execOp a.eval o).run P w = .ok (.value (.slice (some ⟨w.heap.size, 0, none⟩) n.2.toNat m.2.toNat)) (w.alloc (.cells (List.replicate m.2.toNat z.cells.toList).flatten.toArray e)) := by
    simp [execOp, ho, e1, e2, hrun]
  have hrl := RelL.flatten_rep hr m.2.toNat
  have hsrep : ∀ k, ∀ x ∈ List.replicate k zs, x.length = szOf P e := fun k x hx => by rw [List.eq_of_mem_replicate hx]; exact hzl
  have hsv : ∀ x ∈ List.replicate m.2.toNat z.cells.toList, x.length = szOf P e := fun x hx => by rw [List.eq_of_mem_replicate hx]; simpa using hzc
  split at hre
  · split at hre
    case isFalse => cases hre
    rename_i hnm
    cases hre
    simp only at hfr hcl
    rw [bn_one] at hcl
    obtain ⟨k1, k2⟩ := birthArr hi (hfr nx (Nat.le_refl _) (by omega)) hcl (cells := (List.replicate n.2.toNat zs).flatten) (cur := (List.replicate m.2.toNat z.cells.toList).flatten.toArray) (e := e)
      (by rw [hnm, hrl.1]; simp) (fun i x hx => by
        rw [hnm] at hx
        obtain ⟨v, hv, hd⟩ := hrl.get hx
        exact ⟨v, by simpa using hv, hd⟩) (fun x hx i hii => by
        obtain ⟨e1, he1, hx1⟩ := List.mem_flatten.1 hx
        rw [List.eq_of_mem_replicate he1] at hx1
        rw [hids x hx1] at hii
        cases hii)
    refine ⟨_, _, { g with β := fup g.β nx w.heap.size }, .inl hexec, k1, by rw [bn_one]; exact k2, fun cells hcells => ⟨_, _, rfl, by omega, fun _ => by simp only [fup_same]⟩⟩
  · cases hre
    simp only at hfr hcl
    rw [bn_one] at hcl
    have hms : ∀ x ∈ List.replicate n.2.toNat (zs.map C.toD), x.length = szOf P e := fun x hx => by rw [List.eq_of_mem_replicate hx]; simpa using hzl
    obtain ⟨k1, k2, k3⟩ := birthRow hi (hfr nx (Nat.le_refl _) (by omega)) hcl (es := List.replicate n.2.toNat (zs.map C.toD)) (cur := (List.replicate m.2.toNat z.cells.toList).flatten.toArray) (e := e) (cap := m.2.toNat) h0
      (by simp; omega) (by simp only [List.size_toArray]; rw [flatten_len hsv]; simp) hms (fun i x j y hx hy => by
        have hil : i < n.2.toNat := by have := (List.getElem?_eq_some_iff.1 hx).1; simpa using this
        have hx' : x = zs.map C.toD := List.eq_of_mem_replicate (List.mem_of_getElem? hx)
        subst hx'
        rw [List.getElem?_map] at hy
        obtain ⟨cc, hcc, rfl⟩ := Option.map_eq_some_iff.1 hy
        have hjl : j < szOf P e := by rw [← hzl]; exact (List.getElem?_eq_some_iff.1 hcc).1
        have hfg := flatten_get (hsrep m.2.toNat) i j hjl
        rw [List.getElem?_replicate, if_pos (by omega), Option.bind_some, hcc] at hfg
        obtain ⟨v, hv, hd⟩ := hrl.get hfg
        exact ⟨v, by simpa using hv, CR.toD hd⟩)
    simp only [List.length_replicate] at k1 k2 k3
    refine ⟨_, _, _, .inl hexec, k1, by rw [bn_one]; exact k2, k3, fun mm s hm => ?_⟩
    simp only [updF, fup_same] at hm
    cases hm
    exact ⟨by simp, fun _ => ⟨(fup_same _ _ _).symm, hms⟩⟩
end
end Go.Proofs.Ytpanbfainilmpaa.Ev
