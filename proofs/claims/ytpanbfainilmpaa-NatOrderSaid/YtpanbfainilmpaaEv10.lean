/- append, copy, structs compared. -/
import Derived.Test.YtpanbfainilmpaaEv9
set_option linter.unusedVariables false
set_option linter.unusedSimpArgs false
namespace Go.Proofs.Ytpanbfainilmpaa.Ev

section
variable {P : Program} {o : Oper} {a : Act} {w : World} {g : Gh} {H : HF} {f : Fr} {h : Hp} {nx : Nat} {K : Or} {draw : Bool}

/-- An empty row becomes an own array, where it lies or in a new place. -/
theorem rowToArr (h : HI w g H) {t n sz b b' cap : Nat} (ht : H t = some (.tok 0 sz)) (hρ : g.ρ t = .slice (some ⟨b, 0, none⟩) 0 cap) (hf : H n = none) (hc : Clean H [n]) {w' : World} {cells : List C} {cur : Array Value} {e : TypeId}
    (hos : w'.os = w.os) (htape : w'.tape = w.tape) (hout : w'.output = w.output) (hsize : w.heap.size ≤ w'.heap.size) (hoth : ∀ k, k < w.heap.size → k ≠ b → w'.heap[k]? = w.heap[k]?)
    (hb' : b' = b ∨ (b' = w.heap.size ∧ w.heap.size < w'.heap.size)) (hnew : w'.heap[b']? = some (.cells cur e (0, 0)))
    (hl : cells.length ≤ cur.size) (hr : ∀ (i : Nat) (x : C), cells[i]? = some x → ∃ v, cur[i]? = some v ∧ ∃ d, x = .d d ∧ DR w g.S d v) :
    let g' : Gh := { g with β := fup g.β n b' }
    let H' := fup (fup H t none) n (some (.arr cells))
    HI w' g' H' ∧ Stp [n] w g H w' g' H' := by
  intro g' H'
  have htn : t ≠ n := fun he => by rw [he, hf] at ht; cases ht
  have hSb : ∀ o, ¬ g.S b o := by
    intro o hs
    rcases h.tok t 0 sz ht with ⟨h1, _⟩ | ⟨b1, cap', cur', e', h1, h2, h3, h4, h5, h6⟩
    · rw [h1] at hρ; cases hρ
    · rw [h1] at hρ
      injection hρ with hq _ _
      injection hq with hq
      injection hq with hq _ _
      subst hq
      have := h6 o hs
      omega
  have hown : blk g H t = some b := by simp [blk, ht, hρ, Value.ownBlock]
  have hbl := h.blk_lt hown
  have hSb' : ∀ o, ¬ g.S b' o := by
    rcases hb' with rfl | ⟨rfl, _⟩
    · exact hSb
    · intro o hs; exact Nat.lt_irrefl _ (h.lt _ _ hs)
  have hblk : ∀ i, blk g' H' i = if i = n then some b' else if i = t then none else blk g H i := by
    intro i
    by_cases hi : i = n
    · subst hi; simp [blk, H', fup_same, g']
    · by_cases hit : i = t
      · subst hit; simp [blk, H', fup, hi]
      · simp [blk, H', fup, hi, hit, g']
  have hH : ∀ i, i ≠ n → ∀ l, H' i = some l → i ≠ t ∧ H i = some l := by
    intro i hi l hl
    simp only [H'] at hl
    rw [fup_ne hi] at hl
    by_cases hit : i = t
    · subst hit; rw [fup_same] at hl; cases hl
    · rw [fup_ne hit] at hl; exact ⟨hit, hl⟩
  have hdr : ∀ b o, g.S b o → w'.heap[b]? = w.heap[b]? := fun b1 o hs => hoth b1 (h.lt b1 o hs) (fun he => hSb o (he ▸ hs))
  have st : Stp [n] w g H w' g' H' := by
    refine ⟨hos, htape, hout, hsize, fun _ _ h => h, fun b o hs => cell_blk (hdr b o hs), ?_, ?_, fun k hk hn => hoth k hk (fun he => hn t (he ▸ hown)), ?_, fun _ _ h => .inl h⟩
    · intro id c hn hcc
      have hn' : id ≠ n := by simpa using hn
      exact ⟨c, (hH id hn' _ hcc).2, rfl, fup_ne hn'⟩
    · intro t' a s hn hcc
      have hn' : t' ≠ n := by simpa using hn
      exact ⟨a, s, (hH t' hn' _ hcc).2, Nat.le_refl _, fun _ => ⟨rfl, rfl⟩⟩
    · intro id b1 hi
      rw [hblk] at hi
      split at hi
      · cases hi
        rcases hb' with rfl | ⟨rfl, _⟩
        · exact .inl ⟨t, hown⟩
        · exact .inr (Nat.le_refl _)
      · split at hi
        · cases hi
        · exact .inl ⟨id, hi⟩
  refine ⟨⟨?_, ?_, ?_, ?_⟩, st⟩
  · intro id c hcc
    by_cases hn : id = n
    · subst hn
      simp only [H', fup_same] at hcc
      cases hcc
      refine ⟨cur, e, ?_, hl, fun i x hx => ?_, fun o hs => ?_⟩
      · simp only [g', fup_same]; exact hnew
      · obtain ⟨v, hv, d, rfl, hd⟩ := hr i x hx
        exact ⟨v, hv, DR.move st.dr hd⟩
      · simp only [g', fup_same] at hs
        exact hSb' o hs
    · obtain ⟨hit, hcc'⟩ := hH id hn _ hcc
      obtain ⟨cur', e', h1, h2, h3, h4⟩ := h.arr id c hcc'
      have hβ : g'.β id = g.β id := fup_ne hn
      have hne : g.β id ≠ b := fun he => h.apart id t b hit (by simp [blk, hcc', he]) hown
      rw [hβ]
      refine ⟨cur', e', (hoth _ (Array.getElem?_eq_some_iff.1 h1).1 hne).trans h1, h2, fun i x hx => ?_, h4⟩
      obtain ⟨v, hv, hr⟩ := h3 i x hx
      exact ⟨v, hv, CR.step st (hc id c hcc' x (List.mem_of_getElem? hx)) hr⟩
  · intro i a s hcc
    by_cases hn : i = n
    · subst hn; simp only [H', fup_same] at hcc; cases hcc
    · obtain ⟨hit, hcc'⟩ := hH i hn _ hcc
      rcases h.tok i a s hcc' with h1 | ⟨b1, cap', cur', e', h1, h2, h3⟩
      · exact .inl h1
      · have hne : b1 ≠ b := fun he => h.apart i t b hit (by simp [blk, hcc', h1, Value.ownBlock, he]) hown
        exact .inr ⟨b1, cap', cur', e', h1, (hoth _ (Array.getElem?_eq_some_iff.1 h2).1 hne).trans h2, h3⟩
  · intro i j b1 hij hi hj
    rw [hblk] at hi hj
    have hnb : ∀ k, k ≠ t → blk g H k ≠ some b' := by
      intro k hkt hk
      rcases hb' with rfl | ⟨rfl, _⟩
      · exact h.apart k t _ hkt hk hown
      · exact Nat.lt_irrefl _ (h.blk_lt hk)
    split at hi
    · cases hi
      split at hj
      · rename_i h1 h2; exact hij (h1.trans h2.symm)
      · split at hj
        · cases hj
        · rename_i h2; exact hnb j h2 hj
    · split at hi
      · cases hi
      · rename_i h1 h2
        split at hj
        · cases hj; exact hnb i h2 hi
        · split at hj
          · cases hj
          · exact h.apart i j b1 hij hi hj
  · intro b o hs
    exact Nat.lt_of_lt_of_le (h.lt b o hs) hsize

theorem op_app_gr (hi : HI w g H) {c : Call} {t e : TypeId} {x y : Operand} {x' y' : AO} {zs : List C} {mu : Bool} (ho : o.op = .call c) (hc : c.callee = .builtin .append) (ha : c.args = #[x, y]) (hty : c.argTypes = #[t, t]) (ht : elemT P t = some e) (hz : zeroC P e = some zs)
    (h0 : 0 < szOf P e) (hzl : zs.length = szOf P e) (hb0 : 0 < byOf P e) (h1 : compA x = some x') (h2 : compA y = some y')
    (hf : FRu w g H f a (x'.us ++ y'.us)) {re : Re} (hre : evOp K draw f h nx (.app mu (szOf P e) (byOf P e) x' y') = some re) (hrd : ∀ id ∈ re.r, H id = h.get id) (hfr : ∀ i, nx ≤ i → i < re.nx → H i = none) (hcl : Clean H (bn nx re.nx)) : OpOk P o a w g H nx re := by
  obtain ⟨info, z, q1, q2, q3⟩ := zeroC_eq hz
  obtain ⟨hr, hids⟩ := cellsC_ok (w := w) (g := g) (H := H) q3
  have hsz : info.size = szOf P e := by simp [szOf, q1]
  have hby : info.bytes = byOf P e := by simp [byOf, q1]
  have hzc : z.cells.size = szOf P e := by rw [← hzl, hr.1]; simp
  have e1 := compA_ok h1 (hf.sub fun s hs => by simp [hs])
  have e2 := compA_ok h2 (hf.sub fun s hs => by simp [hs])
  have hexec : ∀ v' w', (Builtin.append_ #[t, t] o.type #[a.eval x, a.eval y]).run P w = .ok v' w' → (execOp a.eval o).run P w = .ok (.value v') w' := by
    intro v' w' hrun
    simp [execOp, ho, resolve, hc, ha, hty, invoke, builtin, hrun]
  simp only [evOp, bindO_eq] at hre
  obtain ⟨ys, hys, hre⟩ := hre
  have hyr : (∀ id ∈ ys.2, id ∈ re.r) ∧ (ys.1.all fun e' => e'.length == szOf P e) = true := by
    split at hre
    · split at hre
      case isFalse => cases hre
      rename_i hcond
      split at hre
      · cases hre
      · cases hre; exact ⟨fun _ h => h, hcond.2⟩
    · split at hre
      · split at hre
        case isFalse => cases hre
        rename_i hcond
        split at hre
        · split at hre
          case isFalse => cases hre
          cases hre; exact ⟨fun _ h => List.mem_cons_of_mem _ h, hcond.2.2.2⟩
        · cases hre; exact ⟨fun _ h => List.mem_cons_of_mem _ h, hcond.2.2.2⟩
      · cases hre
    · cases hre
  have hysz : ∀ x ∈ ys.1, x.length = szOf P e := fun x hx => by simpa using List.all_eq_true.1 hyr.2 x hx
  obtain ⟨p, cc, e3, hlc, us, u1, u2, u3, u4⟩ := elems_val hi h0 hys e2 (fun id hid => hrd id (hyr.1 id hid)) hysz
  split at hre
  · -- onto nil
    rename_i hx
    split at hre
    case isFalse => cases hre
    rename_i hcond
    split at hre
    · cases hre
    cases hre
    simp only at hfr hcl
    rw [bn_one] at hcl
    rw [hx] at e1
    have e1' : a.eval x = .slice none 0 0 := e1
    obtain ⟨k1, k2⟩ := birthTok hi (hfr nx (Nat.le_refl _) (by omega)) hcl
    obtain ⟨v', w', g', r1, r2, r3, r4⟩ := grow_ok (P := P) (ty := o.type) k1 (tt := nx) (n := 0) (s := 0) (sz := szOf P e) (info := info) (z := z) (t := t) (e := e) (es := []) (ys := ys.1) (c := cc) (by rw [fup_same]) (.inr rfl) h0 (elemT_und ht) q1 q2 hsz hzc (by omega) rfl (by simp) (by
        simp only [fup_same]
        exact CR.toD (x := .nil) (w := w) (g := g) (H := H) rfl) hysz (by rw [hby, Nat.zero_add]; exact hcond.1) (p := p) (us := us) u1 u2 u3 u4
    rw [fup_fup] at r2 r3 r4
    simp only [fup_same, Nat.zero_add, List.nil_append] at r1 r2 r3 r4
    refine ⟨v', w', g', .inl (hexec _ _ ?_), r2, ?_, r4⟩
    · rw [e1', e3]; exact r1
    · rw [bn_one]
      exact (Stp.trans k2 r3).weaken (by simp)
  · rename_i tt es hx
    split at hre
    · rename_i n s htok
      split at hre
      case isFalse => cases hre
      rename_i hcond
      obtain ⟨c1, c2, c3, c4⟩ := hcond
      rw [hx] at e1
      split at hre
      · -- an own array
        split at hre
        case isFalse => cases hre
        rename_i hcond2
        obtain ⟨rfl, rfl⟩ := hcond2
        cases hre
        simp only at hfr hcl hrd
        rw [bn_one] at hcl
        have hH : H tt = some (.tok 0 (szOf P e)) := (hrd tt (by simp)).trans htok
        have hes0 : es = [] := List.eq_nil_of_length_eq_zero c1
        subst hes0
        have hρ := ((e1.2 0 _ hH).2 rfl).1
        have hn := hfr nx (Nat.le_refl _) (by omega)
        rcases hi.tok tt 0 _ hH with ⟨_, _, hs0⟩ | ⟨b, cap, cur, e', k1, k2, k3, k4, k5, k6⟩
        · omega
        have hflat : ∀ (i : Nat) (x : C), (ys.1.flatten.map C.d)[i]? = some x → ∃ v, us[i]? = some v ∧ ∃ d, x = .d d ∧ DR w g.S d v := by
          intro i x hx
          rw [List.getElem?_map] at hx
          obtain ⟨d, hd, rfl⟩ := Option.map_eq_some_iff.1 hx
          have hil : i < ys.1.length * szOf P e := by
            have := (List.getElem?_eq_some_iff.1 hd).1
            rwa [flatten_len hysz] at this
          have hm := Nat.mod_lt i h0
          have hfg := flatten_get hysz (i / szOf P e) (i % szOf P e) hm
          rw [Nat.mul_comm (i / szOf P e), Nat.div_add_mod, hd] at hfg
          obtain ⟨row, hrow, hd'⟩ := Option.bind_eq_some_iff.1 hfg.symm
          obtain ⟨v, hv, hdv⟩ := u4 _ row _ d hrow hd'
          rw [Nat.mul_comm (i / szOf P e), Nat.div_add_mod] at hv
          exact ⟨v, hv, d, rfl, hdv⟩
        have hlen : (ys.1.flatten.map C.d).length = us.length := by rw [List.length_map, flatten_len hysz, u1]
        rcases Nat.eq_zero_or_pos ys.1.length with hy0 | hy0
        · have hyn : ys.1 = [] := List.eq_nil_of_length_eq_zero hy0
          have hrun := run_append_zero (P := P) (w := w) (ty := o.type) (elemT_und ht) q1 (b := some ⟨b, 0, none⟩) k3 (p := p) (c := cc)
          obtain ⟨r1, r2⟩ := rowToArr hi hH k1 hn hcl (w' := w) (cells := []) (b' := b) rfl rfl rfl (Nat.le_refl _) (fun _ _ _ => rfl) (.inl rfl) k2 (by simp) (by simp)
          refine ⟨.slice (some ⟨b, 0, none⟩) 0 cap, w, { g with β := fup g.β nx b }, .inl (hexec _ _ ?_), ?_, ?_, ?_⟩
          · rw [hρ, k1, e3, hy0]; exact hrun
          · rw [hyn]; exact r1
          · rw [hyn, bn_one]; exact r2
          · rw [hyn]
            intro cells hcells
            exact ⟨_, _, rfl, by simp, fun h => by simp at h⟩
        · obtain ⟨ad, rfl, hcell⟩ := u3 hy0
          by_cases hroom : 0 + ys.1.length ≤ cap
          · have hfit : 0 * szOf P e + us.length ≤ cur.size := by
              rw [u1, Nat.zero_mul, Nat.zero_add]
              rw [Nat.zero_add] at hroom
              exact Nat.le_trans (Nat.mul_le_mul_right _ hroom) k4
            have hrun := run_append_roomT (P := P) (w := w) t o.type e info (elemT_und ht) q1 b 0 cap cur e' k2 ad ys.1.length cc us (by rw [hsz]; exact u1) hcell u2 hroom (by rw [hsz]; exact hfit)
            obtain ⟨r1, r2⟩ := rowToArr hi hH k1 hn hcl (w' := w.setRow b (cur.toList.take (0 * info.size) ++ us ++ cur.toList.drop (0 * info.size + us.length)).toArray) (cells := ys.1.flatten.map C.d) (b' := b) rfl rfl rfl (by simp) (fun k _ hk => heap_setRow_other hk) (.inl rfl) (setRow_heap w b cur _ e' (0, 0) k2)
              (by rw [hlen]; simp) (fun i x hx => by
                obtain ⟨v, hv, rest⟩ := hflat i x hx
                refine ⟨v, ?_, rest⟩
                have hlt := (List.getElem?_eq_some_iff.1 hv).1
                simp only [Nat.zero_mul, List.take_zero, List.nil_append, List.getElem?_toArray]
                rw [List.getElem?_append_left hlt]; exact hv)
            rw [Nat.zero_add] at hrun hroom
            refine ⟨_, _, { g with β := fup g.β nx b }, .inl (hexec _ _ (by rw [hρ, k1, e3]; exact hrun)), r1, by rw [bn_one]; exact r2, ?_⟩
            intro cells hcells
            exact ⟨_, _, rfl, hroom, fun _ => by simp only [fup_same]⟩
          · have hrun := run_append_grow (P := P) w t o.type e info z (elemT_und ht) q1 q2 ⟨b, 0, none⟩ 0 cap [] (by simp) (by simp) ad ys.1.length cc us (by rw [hsz]; exact u1) hcell (by omega)
              (by
                have : (0 + ys.1.length) * 1 ≤ (0 + ys.1.length) * info.bytes := Nat.mul_le_mul_left _ (by omega)
                rw [hby] at this
                simp only [maxBytes] at c3
                omega) (growslice_fits (by omega) (by rw [hby]; exact c3))
            have hge := grownCap_ge w (0 + ys.1.length) cap e
            obtain ⟨r1, r2⟩ := rowToArr hi hH k1 hn hcl (w' := w.drew.alloc (.cells ([].toArray ++ us.toArray ++ Builtin.zeroCells z.cells (grownCap w (0 + ys.1.length) cap e - (0 + ys.1.length))) e)) (cells := ys.1.flatten.map C.d) (b' := w.heap.size) (w := w) rfl rfl rfl (by simp) (fun k hk _ => alloc_old (w := w.drew) hk) (.inr ⟨rfl, by simp⟩) (alloc_new w.drew _) (cur := [].toArray ++ us.toArray ++ Builtin.zeroCells z.cells (grownCap w (0 + ys.1.length) cap e - (0 + ys.1.length))) (e := e)
              (by rw [hlen]; simp) (fun i x hx => by
                obtain ⟨v, hv, rest⟩ := hflat i x hx
                refine ⟨v, ?_, rest⟩
                have hlt := (List.getElem?_eq_some_iff.1 hv).1
                rw [Array.getElem?_append_left (by simpa using hlt)]
                simpa using hv)
            rw [Nat.zero_add] at hrun hge r1 r2
            refine ⟨_, _, { g with β := fup g.β nx w.heap.size }, .inl (hexec _ _ (by rw [hρ, k1, e3]; exact hrun)), r1, by rw [bn_one]; exact r2, ?_⟩
            intro cells hcells
            exact ⟨_, _, rfl, hge, fun _ => by simp only [fup_same]⟩
      · -- a row
        cases hre
        simp only at hfr hcl hrd
        have hH : H tt = some (.tok n s) := (hrd tt (by simp)).trans htok
        obtain ⟨hρ, hesl⟩ := (e1.2 n s hH).2 c1
        obtain ⟨v', w', g', r1, r2, r3, r4⟩ := grow_ok (P := P) (ty := o.type) hi (tt := tt) (n := n) (s := s) (sz := szOf P e) (info := info) (z := z) (t := t) (e := e) (es := es) (ys := ys.1) (c := cc) hH c2 h0 (elemT_und ht) q1 q2 hsz hzc (by omega) c1 hesl (by
          rw [← hρ]; exact e1.1) hysz (by rw [hby]; exact c3) (p := p) (us := us) u1 u2 u3 u4
        refine ⟨v', w', g', .inl (hexec _ _ ?_), r2, ?_, r4⟩
        · rw [hρ, e3]; exact r1
        · rw [bn_self]; exact r3
    · cases hre
  · cases hre
end
end Go.Proofs.Ytpanbfainilmpaa.Ev
