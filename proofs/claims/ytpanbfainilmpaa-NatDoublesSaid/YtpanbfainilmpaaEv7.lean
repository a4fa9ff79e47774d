/- Structs and slices built, own arrays written, slices made. -/
import Derived.Test.YtpanbfainilmpaaEv6
set_option linter.unusedVariables false
set_option linter.unusedSimpArgs false
namespace Go.Proofs.Ytpanbfainilmpaa.Ev
section
variable {P : Program} {o : Oper} {a : Act} {w : World} {g : Gh} {H : HF} {f : Fr} {h : Hp} {nx : Nat} {K : Or} {draw : Bool}

theorem fillParts_ok {t : TypeId} {pl : Nat → Option (Nat × Nat)} (hpl : ∀ i p, place1 P t i = some p → pl i = some p) : ∀ (ps : List (Nat × Operand)) (parts : List (Nat × Nat × AO)) (cs cs' : List C) (vs : List Value),
    compParts P t ps = some parts → putParts f cs parts = some cs' → RelL (CR w g H) cs vs → FRu w g H f a (parts.flatMap fun p => p.2.2.us) →
    ∃ vs' : List Value, Instr.fill pl vs.toArray (ps.map fun e => (e.1, a.eval e.2)) = some vs'.toArray ∧ RelL (CR w g H) cs' vs'
  | [], parts, cs, cs', vs, hc, hp, hr, hf => by
    simp only [compParts, Option.some.injEq] at hc
    subst hc
    simp only [putParts, Option.some.injEq] at hp
    subst hp
    exact ⟨vs, rfl, hr⟩
  | (i, x) :: ps, parts, cs, cs', vs, hc, hp, hr, hf => by
    simp only [compParts, bindO_eq] at hc
    obtain ⟨p, h1, y, h2, rest, h3, he⟩ := hc
    cases he
    simp only [putParts, bindV, bindO_eq] at hp
    obtain ⟨cs1, h4, h5⟩ := hp
    have e1 := compA_ok h2 (hf.sub fun s hs => by simp [hs])
    obtain ⟨k1, k2, k3, k4, k5⟩ := putPart_ok h4 e1 hr
    obtain ⟨vs', k6, k7⟩ := fillParts_ok hpl ps rest cs1 cs' _ h3 h5 k3 (hf.sub fun s hs => by simp only [List.flatMap_cons, List.mem_append]; exact .inr hs)
    refine ⟨vs', ?_, k7⟩
    rw [List.map_cons, fill_step (hpl i p h1) k1 (by rw [← hr.1]; exact k2)]
    exact k6

theorem op_build (hi : HI w g H) {t : TypeId} {ps : Array (Nat × Operand)} {zs : List C} {parts : List (Nat × Nat × AO)} (ho : o.op = .build t ps) (hz : zeroC P t = some zs) (hc : compParts P t ps.toList = some parts)
    (hpl : ∃ (fs : Array Field) (q : List (Nat × Nat)), (P.underlying t = some (.struct fs) ∧ (fs.toList.mapM fun f => (P.info? f.type).map fun i => (f.offset, i.size)) = some q) ∨ (∃ n e ie, P.underlying t = some (.array n e) ∧ P.info? e = some ie))
    (hf : FRu w g H f a (parts.flatMap fun p => p.2.2.us)) {re : Re} (hre : evOp K draw f h nx (.build zs parts) = some re) : OpOk P o a w g H nx re := by
  obtain ⟨info, z, h1, h2, h3⟩ := zeroC_eq hz
  obtain ⟨hr, _⟩ := cellsC_ok (w := w) (g := g) (H := H) h3
  simp only [evOp, bindO_eq] at hre
  obtain ⟨cs, hcs, hre⟩ := hre
  have := ok1_eq hre
  subst this
  have hmap : (ps.map fun (x : Nat × Operand) => (x.1, a.eval x.2)).toList = ps.toList.map fun e => (e.1, a.eval e.2) := by simp
  obtain ⟨fs, q, hq | ⟨n, e, ie, hu, hie⟩⟩ := hpl
  · obtain ⟨vs', k1, k2⟩ := fillParts_ok (P := P) (t := t) (pl := (q.toArray[·]?)) (fun i p hp => by
      simp only [place1, hq.1, hq.2, bindO] at hp
      simpa using hp) ps.toList parts zs cs z.cells.toList hc hcs hr hf
    refine OpOk.pure hi (v := .agg vs'.toArray) ?_ ⟨vs', rfl, k2⟩
    have hb : P.built t (ps.map fun (x : Nat × Operand) => (x.1, a.eval x.2)).toList = some vs'.toArray := by
      simp only [Program.built, h1, hq.1, h2, hq.2, hmap]
      simpa using k1
    have := run_build (P := P) w t _ _ hb
    simp [execOp, ho, this]
  · obtain ⟨vs', k1, k2⟩ := fillParts_ok (P := P) (t := t) (pl := fun i => some (i * ie.size, ie.size)) (fun i p hp => by
      simp only [place1, hu, hie, bindO] at hp
      simpa using hp) ps.toList parts zs cs z.cells.toList hc hcs hr hf
    refine OpOk.pure hi (v := .agg vs'.toArray) ?_ ⟨vs', rfl, k2⟩
    have hb : P.built t (ps.map fun (x : Nat × Operand) => (x.1, a.eval x.2)).toList = some vs'.toArray := by
      simp only [Program.built, h1, hu, h2, hie, hmap]
      simpa using k1
    have := run_build (P := P) w t _ _ hb
    simp [execOp, ho, this]

/-! ### Elements of one size -/
theorem flatten_len {α : Type} {sz : Nat} : ∀ {es : List (List α)}, (∀ e ∈ es, e.length = sz) → es.flatten.length = es.length * sz
  | [], _ => by simp
  | e :: es, h => by
    rw [List.flatten_cons, List.length_append, flatten_len (fun x hx => h x (List.mem_cons_of_mem _ hx)), h e List.mem_cons_self, List.length_cons, Nat.succ_mul, Nat.add_comm]
theorem flatten_get {α : Type} {sz : Nat} : ∀ {es : List (List α)}, (∀ e ∈ es, e.length = sz) → ∀ (i j : Nat), j < sz → es.flatten[i * sz + j]? = (es[i]?).bind (·[j]?)
  | [], _, i, j, _ => by simp
  | e :: es, h, i, j, hj => by
    have he := h e List.mem_cons_self
    cases i with
    | zero =>
      simp only [Nat.zero_mul, Nat.zero_add, List.flatten_cons, List.getElem?_cons_zero, Option.bind_some]
      rw [List.getElem?_append_left (by omega)]
    | succ i =>
      rw [List.flatten_cons, List.getElem?_append_right (by rw [he, Nat.succ_mul]; omega), he]
      rw [show (i + 1) * sz + j - sz = i * sz + j by rw [Nat.succ_mul]; omega]
      rw [flatten_get (fun x hx => h x (List.mem_cons_of_mem _ hx)) i j hj, List.getElem?_cons_succ]
theorem flatten_set {α : Type} {sz : Nat} {es : List (List α)} (h : ∀ e ∈ es, e.length = sz) {i : Nat} {l : List α} (hi : i < es.length) (hl : l.length = sz) : (es.set i l).flatten = seg (i * sz) l es.flatten := by
  have hfl := flatten_len h
  have hfit : i * sz + l.length ≤ es.flatten.length := by
    rw [hl, hfl, ← Nat.succ_mul]
    exact Nat.mul_le_mul_right _ hi
  have hset : ∀ e ∈ es.set i l, e.length = sz := fun e he => by
    rcases List.mem_or_eq_of_mem_set he with he | rfl
    · exact h e he
    · exact hl
  apply List.ext_getElem?
  intro k
  rw [seg_get hfit]
  rcases Nat.eq_zero_or_pos sz with h0 | h0
  · have e1 : (es.set i l).flatten = [] := List.eq_nil_of_length_eq_zero (by rw [flatten_len hset, h0, Nat.mul_zero])
    have e2 : es.flatten = [] := List.eq_nil_of_length_eq_zero (by rw [hfl, h0, Nat.mul_zero])
    have e3 : l = [] := List.eq_nil_of_length_eq_zero (by omega)
    rw [e1, e2, e3]
    simp
  · have hk : k = (k / sz) * sz + k % sz := by rw [Nat.mul_comm]; exact (Nat.div_add_mod k sz).symm
    have hm := Nat.mod_lt k h0
    generalize hq : k / sz = q at hk
    generalize hr : k % sz = r at hk hm
    subst hk
    rw [flatten_get hset q r hm, flatten_get h q r hm, List.getElem?_set]
    by_cases hqi : i = q
    · subst hqi
      rw [if_pos rfl, if_pos hi, if_pos (by omega), Nat.add_sub_cancel_left]
      simp
    · rw [if_neg hqi]
      have : ¬ (i * sz ≤ q * sz + r ∧ q * sz + r < i * sz + l.length) := by
        intro hc
        rw [hl] at hc
        rcases Nat.lt_or_gt_of_ne hqi with hlt | hgt
        · have : (i + 1) * sz ≤ q * sz := Nat.mul_le_mul_right _ hlt
          rw [Nat.succ_mul] at this
          omega
        · have : (q + 1) * sz ≤ i * sz := Nat.mul_le_mul_right _ hgt
          rw [Nat.succ_mul] at this
          omega
      rw [if_neg this]

theorem litElems_ok {sz : Nat} : ∀ (ps : List (Nat × Operand)) (parts : List (Nat × AO)) (es es' : List (List C)) (vs : List Value),
    compParts2 ps = some parts → litElems f sz es parts = some es' → (∀ e ∈ es, e.length = sz) → RelL (CR w g H) es.flatten vs → FRu w g H f a (parts.flatMap fun p => p.2.us) →
    ∃ vs' : List Value, Instr.fill (fun i => some (i * sz, sz)) vs.toArray (ps.map fun e => (e.1, a.eval e.2)) = some vs'.toArray ∧ RelL (CR w g H) es'.flatten vs' ∧ (∀ e ∈ es', e.length = sz) ∧ es'.length = es.length ∧
      ∀ e ∈ es', ∀ x ∈ e, ∀ i ∈ x.ids, (∃ e0 ∈ es, ∃ y ∈ e0, i ∈ y.ids) ∨ ∃ s ∈ parts.flatMap fun p => p.2.us, i ∈ (f.get s).ids
  | [], parts, es, es', vs, hc, hp, hs, hr, hf => by
    simp only [compParts2, Option.some.injEq] at hc
    subst hc
    simp only [litElems, Option.some.injEq] at hp
    subst hp
    exact ⟨vs, rfl, hr, hs, rfl, fun e he x hx i hi => .inl ⟨e, he, x, hx, hi⟩⟩
  | (i, x) :: ps, parts, es, es', vs, hc, hp, hs, hr, hf => by
    simp only [compParts2, bindO_eq] at hc
    obtain ⟨y, h2, rest, h3, he⟩ := hc
    cases he
    simp only [litElems, bindV, bindO_eq] at hp
    obtain ⟨cs, h4, h5⟩ := hp
    split at h5
    case isFalse => cases h5
    rename_i hlt
    have e1 := compA_ok h2 (hf.sub fun s hs => by simp [hs])
    -- one element
    have hcl : cs.length = sz := by
      unfold cellsOf at h4
      split at h4
      · split at h4
        · cases h4; simp; omega
        · cases h4
      · split at h4
        · rename_i hl; cases h4; exact hl
        · cases h4
      · cases h4
    have hput : putPart es.flatten (i * sz) sz (y.ev f) = some (seg (i * sz) cs es.flatten) := by
      have hfit : i * sz + sz ≤ es.flatten.length := by
        rw [flatten_len hs, ← Nat.succ_mul]
        exact Nat.mul_le_mul_right _ hlt
      unfold cellsOf at h4
      unfold putPart
      split at h4
      · rename_i z hz
        split at h4
        · rename_i h1
          cases h4
          rw [if_pos ⟨h1, by omega⟩, seg_one (by omega)]
        · cases h4
      · rename_i zs hz
        split at h4
        · rename_i h1
          cases h4
          rw [if_pos ⟨h1, hfit⟩]
          simp [seg, h1]
        · cases h4
      · cases h4
    obtain ⟨k1, k2, k3, k4, k5⟩ := putPart_ok hput e1 hr
    rw [← flatten_set hs hlt hcl] at k3
    have hs2 : ∀ e ∈ es.set i cs, e.length = sz := fun e he => by
      rcases List.mem_or_eq_of_mem_set he with he | rfl
      · exact hs e he
      · exact hcl
    obtain ⟨vs', k6, k7, k8, k9, k10⟩ := litElems_ok ps rest _ es' _ h3 h5 hs2 k3 (hf.sub fun s hs => by simp only [List.flatMap_cons, List.mem_append]; exact .inr hs)
    refine ⟨vs', ?_, k7, k8, by rw [k9, List.length_set], fun e he z hz j hj => ?_⟩
    · rw [List.map_cons, fill_step (pl := fun i => some (i * sz, sz)) rfl k1 (by rw [← hr.1]; exact k2)]
      exact k6
    · rcases k10 e he z hz j hj with ⟨e0, he0, y', hy', hj'⟩ | ⟨s, hs', hj'⟩
      · rcases List.mem_or_eq_of_mem_set he0 with he0 | rfl
        · exact .inl ⟨e0, he0, y', hy', hj'⟩
        · have : y' ∈ seg (i * sz) e0 es.flatten := by simp only [seg, List.mem_append]; exact .inl (.inr hy')
          rcases k5 y' this j hj' with ⟨z0, hz0, hj0⟩ | hj0
          · obtain ⟨e1', he1', hz1⟩ := List.mem_flatten.1 hz0
            exact .inl ⟨e1', he1', z0, hz1, hj0⟩
          · refine .inr ?_
            cases x with
            | tmp tt =>
              simp only [compA, Option.some.injEq] at h2
              subst h2
              exact ⟨tt, by simp [AO.us], hj0⟩
            | const v =>
              simp only [compA, bindO_eq] at h2
              obtain ⟨c, hc, he⟩ := h2
              cases he
              simp only [AO.ev, AV.ids, cellC_ids hc] at hj0
              cases hj0
            | func n => simp only [compA, Option.some.injEq] at h2; subst h2; simp [AO.ev, AV.ids, C.ids] at hj0
            | «global» n => simp [compA] at h2
      · exact .inr ⟨s, by simp only [List.flatMap_cons, List.mem_append]; exact .inr hs', hj'⟩

theorem madeZero {zs : Array Value} (n : Nat) (h0 : 0 < zs.size) : ((Array.range (n * zs.size)).map (zs[· % zs.size]!)).toList = (List.replicate n zs.toList).flatten := by
  apply List.ext_getElem?
  intro k
  have hsz : ∀ e ∈ List.replicate n zs.toList, e.length = zs.size := fun e he => by rw [List.eq_of_mem_replicate he]; simp
  have hk : k = (k / zs.size) * zs.size + k % zs.size := by rw [Nat.mul_comm]; exact (Nat.div_add_mod k _).symm
  have hm := Nat.mod_lt k h0
  rw [show (List.replicate n zs.toList).flatten[k]? = (List.replicate n zs.toList).flatten[(k / zs.size) * zs.size + k % zs.size]? by rw [← hk], flatten_get hsz _ _ hm]
  simp only [Array.toList_map, Array.toList_range, List.getElem?_map, List.getElem?_replicate]
  by_cases hlt : k < n * zs.size
  · have : k / zs.size < n := (Nat.div_lt_iff_lt_mul h0).2 hlt
    rw [List.getElem?_range hlt, if_pos this]
    simp [hm]
  · have : ¬ k / zs.size < n := fun h => hlt ((Nat.div_lt_iff_lt_mul h0).1 h)
    rw [List.getElem?_eq_none (by simp; omega), if_neg this]
    rfl
end
end Go.Proofs.Ytpanbfainilmpaa.Ev
