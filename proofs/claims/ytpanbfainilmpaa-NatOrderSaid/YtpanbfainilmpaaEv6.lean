/- Operations that make memory or write it. -/
import Derived.Test.YtpanbfainilmpaaEv5
set_option linter.unusedVariables false
set_option linter.unusedSimpArgs false
namespace Go.Proofs.Ytpanbfainilmpaa.Ev

theorem clean_sub {H : HF} {A B : List Nat} (h : Clean H B) (hs : ∀ i ∈ A, i ∈ B) : Clean H A := fun id c hc x hx i hi hA => h id c hc x hx i hi (hs i hA)

theorem births_lo : ∀ (cs : List C) (n : Nat), n ≤ (births n cs).2.2
  | [], n => Nat.le_refl _
  | x :: r, n => by
    cases x with
    | nil => simp only [births]; have := births_lo r (n + 1); omega
    | d y => simp only [births]; exact births_lo r n
    | gr t es => simp only [births]; exact births_lo r n

theorem births_ids : ∀ (cs : List C) (n : Nat), ∀ x ∈ (births n cs).1, ∀ i ∈ x.ids, (∃ y ∈ cs, i ∈ y.ids) ∨ (n ≤ i ∧ i < (births n cs).2.2)
  | [], n, x, hx, i, hi => by simp [births] at hx
  | y :: r, n, x, hx, i, hi => by
    have tail : ∀ n, x ∈ (births n r).1 → (∃ z ∈ y :: r, i ∈ z.ids) ∨ (n ≤ i ∧ i < (births n r).2.2) := fun n hx => by
      rcases births_ids r n x hx i hi with ⟨z, hz, hzi⟩ | h
      · exact .inl ⟨z, List.mem_cons_of_mem _ hz, hzi⟩
      · exact .inr h
    cases y with
    | nil =>
      simp only [births] at hx ⊢
      rcases List.mem_cons.1 hx with rfl | hx
      · simp only [C.ids, List.mem_singleton] at hi
        subst hi
        have := births_lo r (i + 1)
        exact .inr ⟨Nat.le_refl _, by omega⟩
      · rcases tail (n + 1) hx with h | h
        · exact .inl h
        · exact .inr ⟨by omega, h.2⟩
    | d z =>
      simp only [births] at hx ⊢
      rcases List.mem_cons.1 hx with rfl | hx
      · simp [C.ids] at hi
      · exact tail n hx
    | gr t es =>
      simp only [births] at hx ⊢
      rcases List.mem_cons.1 hx with rfl | hx
      · exact .inl ⟨_, List.mem_cons_self, hi⟩
      · exact tail n hx

theorem births_arr : ∀ (cs : List C) (n : Nat) (H : HF) (id : Nat) (cells : List C), updF H (births n cs).2.1 id = some (.arr cells) → H id = some (.arr cells)
  | [], n, H, id, cells, h => h
  | x :: r, n, H, id, cells, h => by
    cases x with
    | nil =>
      simp only [births, updF] at h
      have := births_arr r (n + 1) _ id cells h
      by_cases hi : id = n
      · subst hi; rw [fup_same] at this; cases this
      · rwa [fup_ne hi] at this
    | d y => simp only [births] at h; exact births_arr r n H id cells h
    | gr t es => simp only [births] at h; exact births_arr r n H id cells h
theorem births_other : ∀ (cs : List C) (n : Nat) (H : HF) (id : Nat), ¬ (n ≤ id ∧ id < (births n cs).2.2) → updF H (births n cs).2.1 id = H id
  | [], n, H, id, h => rfl
  | x :: r, n, H, id, h => by
    cases x with
    | nil =>
      simp only [births, updF] at h ⊢
      have h0 := births_lo r (n + 1)
      rw [births_other r (n + 1) _ id (by omega), fup_ne (by omega)]
    | d y => simp only [births] at h ⊢; exact births_other r n H id h
    | gr t es => simp only [births] at h ⊢; exact births_other r n H id h

theorem births_ok {w : World} : ∀ (cs : List C) (n hi : Nat) {g : Gh} {H : HF} {vs : List Value}, HI w g H → RelL (CR w g H) cs vs → (births n cs).2.2 ≤ hi → (∀ i, n ≤ i → i < hi → H i = none) → Clean H (bn n hi) → (∀ x ∈ cs, ∀ i ∈ x.ids, i ∉ bn n hi) →
    ∃ g1, HI w g1 (updF H (births n cs).2.1) ∧ Stp (bn n (births n cs).2.2) w g H w g1 (updF H (births n cs).2.1) ∧ RelL (CR w g1 (updF H (births n cs).2.1)) (births n cs).1 vs
  | [], n, hi, g, H, vs, h, hr, _, _, _, _ => ⟨g, h, by show Stp (bn n n) w g H w g H; rw [bn_self]; exact Stp.refl w g H, hr⟩
  | x :: r, n, hi, g, H, [], h, hr, _, _, _, _ => by have := hr.1; simp at this
  | x :: r, n, hi, g, H, v :: vs, h, hr, hhi, hf, hc, hid => by
    have plain : (births n (x :: r)) = (x :: (births n r).1, (births n r).2.1, (births n r).2.2) → ∃ g1, HI w g1 (updF H (births n (x :: r)).2.1) ∧ Stp (bn n (births n (x :: r)).2.2) w g H w g1 (updF H (births n (x :: r)).2.1) ∧ RelL (CR w g1 (updF H (births n (x :: r)).2.1)) (births n (x :: r)).1 (v :: vs) := by
      intro he
      rw [he] at hhi ⊢
      obtain ⟨g1, h1, h2, h3⟩ := births_ok r n hi h hr.tail hhi hf hc (fun y hy => hid y (List.mem_cons_of_mem _ hy))
      refine ⟨g1, h1, h2, .cons (CR.step h2 (fun i hii hb => hid x List.mem_cons_self i hii ?_) hr.head) h3⟩
      rw [mem_bn] at hb ⊢
      simp only at hhi
      omega
    cases x with
    | d y => exact plain rfl
    | gr t es => exact plain rfl
    | nil =>
      simp only [births] at hhi ⊢
      have h0 := births_lo r (n + 1)
      have hn : n ∈ bn n hi := mem_bn.2 ⟨Nat.le_refl _, by omega⟩
      obtain ⟨h1, h2⟩ := birthTok h (hf n (Nat.le_refl _) (by omega)) (clean_sub hc (by simpa using hn))
      have hr' : RelL (CR w { g with ρ := fup g.ρ n (.slice none 0 0) } (fup H n (some (.tok 0 0)))) r vs := hr.tail.imp fun y hy u hyu => CR.step h2 (fun i hii => by
        have := hid y (List.mem_cons_of_mem _ hy) i hii
        intro he
        rw [List.mem_singleton] at he
        subst he
        exact this hn) hyu
      obtain ⟨g1, k1, k2, k3⟩ := births_ok r (n + 1) hi h1 hr' hhi (fun i hi1 hi2 => by rw [fup_ne (by omega)]; exact hf i (by omega) hi2)
        (fun id c hcc y hy i hii hb => by
          by_cases he : id = n
          · subst he; rw [fup_same] at hcc; cases hcc
          · rw [fup_ne he] at hcc
            refine hc id c hcc y hy i hii ?_
            rw [mem_bn] at hb ⊢
            omega)
        (fun y hy i hii hb => by
          refine hid y (List.mem_cons_of_mem _ hy) i hii ?_
          rw [mem_bn] at hb ⊢
          omega)
      refine ⟨g1, k1, (h2.trans k2).weaken ?_, .cons (CR.step k2 (fun i hii hb => ?_) ?_) k3⟩
      · intro i hi'
        rw [List.mem_append, List.mem_singleton, mem_bn] at hi'
        rw [mem_bn]
        omega
      · simp only [C.ids, List.mem_singleton] at hii
        subst hii
        rw [mem_bn] at hb
        omega
      · have hv : v = .slice none 0 0 := hr.head
        subst hv
        refine ⟨CR.toD (x := .nil) (g := g) (H := H) rfl, fun a b hab => ?_⟩
        rw [fup_same] at hab
        cases hab
        exact ⟨Nat.le_refl _, fun _ => ⟨(fup_same _ _ _).symm, fun e he => by cases he⟩⟩

section
variable {P : Program} {o : Oper} {a : Act} {w : World} {g : Gh} {H : HF} {f : Fr} {h : Hp} {nx : Nat} {K : Or} {draw : Bool}

/-- A box of given cells. -/
theorem boxed_ok (hi : HI w g H) {cs : List C} {vs : List Value} {e : TypeId} (hr : RelL (CR w g H) cs vs) {re : Re} (hre : boxed (births nx cs) = some re)
    (hfr : ∀ i, nx ≤ i → i < re.nx → H i = none) (hcl : Clean H (bn nx re.nx)) (hid : ∀ x ∈ cs, ∀ i ∈ x.ids, i ∉ bn nx re.nx)
    (hrun : (execOp a.eval o).run P w = .ok (.value (.pointer (some ⟨w.heap.size, 0, none⟩))) (w.alloc (.cells vs.toArray e))) : OpOk P o a w g H nx re := by
  simp only [boxed, Option.some.injEq] at hre
  subst hre
  simp only at hfr hcl hid
  have h0 := births_lo cs nx
  obtain ⟨g1, h1, h2, h3⟩ := births_ok cs nx ((births nx cs).2.2 + 1) hi hr (by omega) hfr hcl hid
  have hH : updF H (births nx cs).2.1 (births nx cs).2.2 = none := by
    rw [births_other cs nx H _ (by omega)]
    exact hfr _ h0 (by omega)
  have hc2 : Clean (updF H (births nx cs).2.1) [(births nx cs).2.2] := fun id c hc x hx i hii hb => by
    rw [List.mem_singleton] at hb
    subst hb
    exact hcl id c (births_arr cs nx H id c hc) x hx _ hii (mem_bn.2 ⟨h0, by omega⟩)
  obtain ⟨k1, k2⟩ := birthArr h1 hH hc2 (cells := (births nx cs).1) (cur := vs.toArray) (e := e) (by rw [h3.1]; simp) (fun i x hx => by
      obtain ⟨v, hv, hd⟩ := h3.get hx
      exact ⟨v, by simpa using hv, hd⟩) (fun x hx i hii hb => by
      rw [List.mem_singleton] at hb
      subst hb
      rcases births_ids cs nx x hx _ hii with ⟨y, hy, hyi⟩ | hlt
      · exact hid y hy _ hyi (mem_bn.2 ⟨h0, by omega⟩)
      · omega)
  refine ⟨_, _, { g1 with β := fup g1.β (births nx cs).2.2 w.heap.size }, .inl hrun, ?_, ?_, ?_⟩
  · rw [updF_append]; exact k1
  · rw [updF_append]
    refine (h2.trans k2).weaken fun i hi' => ?_
    rw [List.mem_append, List.mem_singleton, mem_bn] at hi'
    rw [mem_bn]
    simp only
    omega
  · intro cells hc
    simp only [fup_same]

theorem cells_one {v : Value} (h : v.oneCell' = true) : v.cells = #[v] := by cases v <;> first | rfl | cases h

theorem op_box (hi : HI w g H) {t : TypeId} {x : Operand} {x' : AO} (ho : o.op = .box t x) (h1 : compA x = some x') (hf : FRu w g H f a x'.us) {re : Re} (hre : evOp K draw f h nx (.box x') = some re)
    (hfr : ∀ i, nx ≤ i → i < re.nx → H i = none) (hcl : Clean H (bn nx re.nx)) (hid : ∀ s ∈ x'.us, ∀ i ∈ (f.get s).ids, i ∉ bn nx re.nx) : OpOk P o a w g H nx re := by
  have e1 := compA_ok h1 hf
  have hids := compA_ids h1 hid
  simp only [evOp] at hre
  split at hre
  · rename_i y hx
    rw [hx] at e1 hids
    refine boxed_ok hi (vs := [a.eval x]) (e := t) (.cons e1 .nil) hre hfr hcl (fun z hz i hii => ?_) ?_
    · rw [List.mem_singleton] at hz; subst hz; exact hids i hii
    · simp [execOp, ho, Instr.box, newVar, newRow, cells_one (CR.one e1)]
  · rename_i cs hx
    rw [hx] at e1 hids
    obtain ⟨vs, e2, hr⟩ := e1
    refine boxed_ok hi (vs := vs) (e := t) hr hre hfr hcl (fun z hz i hii => hids i (List.mem_flatMap.2 ⟨z, hz, hii⟩)) ?_
    simp [execOp, ho, e2, Instr.box, newVar, newRow, Value.cells]
  · cases hre

theorem zeroC_eq {t : TypeId} {zs : List C} (hz : zeroC P t = some zs) : ∃ info z, P.info? t = some info ∧ info.zero = some z ∧ cellsC z.cells.toList = some zs := by
  simp only [zeroC, bindO_eq] at hz
  obtain ⟨info, h1, z, h2, h3⟩ := hz
  exact ⟨info, z, h1, h2, h3⟩

theorem op_alloc (hi : HI w g H) {t : TypeId} (ho : o.op = .alloc t) {zs : List C} (hz : zeroC P t = some zs) {re : Re} (hre : evOp K draw f h nx (.alloc zs) = some re)
    (hfr : ∀ i, nx ≤ i → i < re.nx → H i = none) (hcl : Clean H (bn nx re.nx)) : OpOk P o a w g H nx re := by
  obtain ⟨info, z, h1, h2, h3⟩ := zeroC_eq hz
  obtain ⟨hr, hids⟩ := cellsC_ok (w := w) (g := g) (H := H) h3
  simp only [evOp] at hre
  refine boxed_ok hi (e := t) hr hre hfr hcl (fun x hx i hii => by rw [hids x hx] at hii; cases hii) ?_
  simp [execOp, ho, Instr.alloc, zeroValue, typeInfo, h1, h2, newVar, newRow]

/-! ### Parts -/
/-- A piece put over a list. -/
def seg {α : Type} (off : Nat) (l cs : List α) : List α := cs.take off ++ l ++ cs.drop (off + l.length)
theorem seg_length {α : Type} {off : Nat} {l cs : List α} (h : off + l.length ≤ cs.length) : (seg off l cs).length = cs.length := by simp [seg]; omega
theorem seg_get {α : Type} {off : Nat} {l cs : List α} (h : off + l.length ≤ cs.length) (k : Nat) : (seg off l cs)[k]? = if off ≤ k ∧ k < off + l.length then l[k - off]? else cs[k]? := by
  unfold seg
  by_cases h1 : k < off
  · rw [if_neg (by omega), List.append_assoc, List.getElem?_append_left (by simp; omega), List.getElem?_take, if_pos h1]
  · by_cases h2 : k < off + l.length
    · rw [if_pos (by omega), List.getElem?_append_left (by simp; omega), List.getElem?_append_right (by simp; omega), List.length_take, Nat.min_eq_left (by omega)]
    · rw [if_neg (by omega), List.getElem?_append_right (by simp; omega), List.getElem?_drop]
      congr 1
      simp
      omega
theorem seg_one {α : Type} {off : Nat} {x : α} {cs : List α} (h : off < cs.length) : seg off [x] cs = cs.set off x := by
  apply List.ext_getElem?
  intro k
  rw [seg_get (by simp; omega), List.getElem?_set]
  simp only [List.length_singleton]
  by_cases hk : k = off
  · subst hk
    simp [h]
  · rw [if_neg (by omega), if_neg (fun e => hk e.symm)]
theorem RelL.seg {α β : Type} {R : α → β → Prop} {l cs : List α} {us vs : List β} {off : Nat} (h : RelL R cs vs) (k : RelL R l us) (hl : off + l.length ≤ cs.length) : RelL R (seg off l cs) (seg off us vs) := by
  have := (h.take off).append k
  unfold Ev.seg
  rw [show off + us.length = off + l.length by rw [k.1]]
  exact this.append (h.drop _)

theorem putPart_ok {cs cs' : List C} {off sz : Nat} {x : AV} {v : Value} {vs : List Value} (hp : putPart cs off sz x = some cs') (hx : AVR w g H x v) (hr : RelL (CR w g H) cs vs) :
    v.cells.size = sz ∧ off + sz ≤ cs.length ∧ RelL (CR w g H) cs' (seg off v.cells.toList vs) ∧ (∀ u ∈ v.cells.toList, u.oneCell' = true) ∧ ∀ y ∈ cs', ∀ i ∈ y.ids, (∃ z ∈ cs, i ∈ z.ids) ∨ i ∈ x.ids := by
  unfold putPart at hp
  split at hp
  · rename_i y
    split at hp
    · rename_i hc
      cases hp
      have hc1 := cells_one (CR.one hx)
      rw [hc1]
      refine ⟨hc.1.symm, by omega, ?_, ?_, ?_⟩
      · rw [← seg_one hc.2]
        exact RelL.seg hr (.cons hx .nil) (by simp; omega)
      · intro u hu
        simp at hu
        subst hu
        exact CR.one hx
      · intro z hz i hii
        rcases List.mem_or_eq_of_mem_set hz with hz | rfl
        · exact .inl ⟨z, hz, hii⟩
        · exact .inr hii
    · cases hp
  · rename_i ys
    split at hp
    · rename_i hc
      cases hp
      obtain ⟨us, rfl, hu⟩ := hx
      have hl : us.length = ys.length := hu.1.symm
      refine ⟨by simp [Value.cells]; omega, hc.2, ?_, ?_, ?_⟩
      · have := RelL.seg hr hu (off := off) (by omega)
        unfold seg at this
        rw [hc.1] at this
        simpa [Value.cells, seg] using this
      · intro u hu'
        simp [Value.cells] at hu'
        obtain ⟨k, hk, rfl⟩ := List.getElem_of_mem hu'
        exact CR.one (hu.2 k (ys[k]'(by omega)) _ (List.getElem?_eq_getElem _) (List.getElem?_eq_getElem _))
      · intro z hz i hii
        simp only [List.mem_append] at hz
        rcases hz with (hz | hz) | hz
        · exact .inl ⟨z, List.mem_of_mem_take hz, hii⟩
        · exact .inr (List.mem_flatMap.2 ⟨z, hz, hii⟩)
        · exact .inl ⟨z, List.mem_of_mem_drop hz, hii⟩
    · cases hp
  · cases hp

theorem foldl_seg (off : Nat) : ∀ (l : List Value) (k : Nat) (cs : Array Value), off + k + l.length ≤ cs.size →
    (l.zipIdx k).foldl (fun (cs : Array Value) (e : Value × Nat) => cs.setIfInBounds (off + e.2) e.1) cs = (seg (off + k) l cs.toList).toArray
  | [], k, cs, h => by simp [seg]
  | x :: l, k, cs, h => by
    simp only [List.length_cons] at h
    rw [List.zipIdx_cons, List.foldl_cons, foldl_seg off l (k + 1) _ (by simp; omega)]
    apply Array.ext'
    simp only [Array.toList_setIfInBounds]
    apply List.ext_getElem?
    intro j
    rw [seg_get (by simp; omega), seg_get (by simp; omega), List.getElem?_set]
    simp only [List.length_cons, Array.length_toList]
    by_cases h1 : j = off + k
    · subst h1
      rw [if_neg (by omega), if_pos rfl, if_pos (by omega), if_pos (by omega)]
      simp
    · by_cases h2 : off + (k + 1) ≤ j ∧ j < off + (k + 1) + l.length
      · rw [if_pos h2, if_pos (by omega)]
        rw [show j - (off + k) = (j - (off + (k + 1))) + 1 by omega, List.getElem?_cons_succ]
      · rw [if_neg h2, if_neg (fun e => h1 e.symm), if_neg (by omega)]

theorem fill_step {pl : Nat → Option (Nat × Nat)} {i off sz : Nat} {v : Value} {vs : List Value} {rest : List (Nat × Value)} (hp : pl i = some (off, sz)) (hv : v.cells.size = sz) (hl : off + sz ≤ vs.length) :
    Instr.fill pl vs.toArray ((i, v) :: rest) = Instr.fill pl (seg off v.cells.toList vs).toArray rest := by
  have h1 : ¬ (v.cells.size ≠ sz ∨ off + v.cells.size > vs.toArray.size) := by simp; omega
  have e : v.cells.zipIdx.foldl (fun (cs : Array Value) (x : Value × Nat) => cs.setIfInBounds (off + x.2) x.1) vs.toArray = (seg off v.cells.toList vs).toArray := by
    rw [← Array.foldl_toList, Array.toList_zipIdx]
    have := foldl_seg off v.cells.toList 0 vs.toArray (by simp; omega)
    simpa using this
  simp only [Instr.fill, hp]
  have h2 : (v.cells.size != sz || decide (off + v.cells.size > vs.toArray.size)) = false := by
    simp
    omega
  split
  · rename_i hc
    exfalso
    simp at hc
    omega
  · rw [← e]
end
end Go.Proofs.Ytpanbfainilmpaa.Ev
