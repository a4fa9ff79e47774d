/- Every operation's step answers as the evaluator does. -/
import Derived.Test.YtpanbfainilmpaaEv14
set_option linter.unusedVariables false
set_option linter.unusedSimpArgs false
namespace Go.Proofs.Ytpanbfainilmpaa.Ev

def AOp.plain : AOp → Bool
  | .bsl _ _ _ _ _ => false
  | .mks _ _ _ _ _ _ => false
  | .app _ _ _ _ _ => false
  | _ => true
theorem plain_inv {x op : AOp} (h : x = op.bare) (hx : x.plain = true) : op = x := by
  cases op <;> first | exact h.symm | (subst h; cases hx)
theorem bsl_inv {op : AOp} {sz n : Nat} {z : List C} {ps : List (Nat × AO)} (h : .bsl false sz n z ps = op.bare) : ∃ mu, op = .bsl mu sz n z ps := by
  cases op <;> simp [AOp.bare] at h
  obtain ⟨rfl, rfl, rfl, rfl⟩ := h
  exact ⟨_, rfl⟩
theorem mks_inv {op : AOp} {sz b : Nat} {z : List C} {l c : AO} (h : .mks false sz b z l c = op.bare) : ∃ mu, op = .mks mu sz b z l c := by
  cases op <;> simp [AOp.bare] at h
  obtain ⟨rfl, rfl, rfl, rfl, rfl⟩ := h
  exact ⟨_, rfl⟩
theorem app_inv {op : AOp} {sz b : Nat} {x y : AO} (h : .app false sz b x y = op.bare) : ∃ mu, op = .app mu sz b x y := by
  cases op <;> simp [AOp.bare] at h
  obtain ⟨rfl, rfl, rfl, rfl⟩ := h
  exact ⟨_, rfl⟩

/-- What the evaluator may call is what the program does. -/
structure KOk (P : Program) (inl : Nat → Bool) (K : Or) : Prop where
  call : ∀ f args rs, K.call f args = some rs → FnOk P f args rs
  icall : ∀ f vs h nx q, K.icall f vs h nx = some q → IFnOk P f vs h nx q
  wf : KWF K

section
variable {P : Program} {inl : Nat → Bool} {o : Oper} {a : Act} {w : World} {g : Gh} {H : HF} {f : Fr} {h : Hp} {nx : Nat} {K : Or} {draw : Bool}

theorem isSome_ex {α : Type} {x : Option α} (h : x.isSome = true) : ∃ y, x = some y := Option.isSome_iff_exists.1 h

theorem placeOk_ex {t : TypeId} (h : placeOk P t = true) : ∃ (fs : Array Field) (q : List (Nat × Nat)), (P.underlying t = some (.struct fs) ∧ (fs.toList.mapM fun f => (P.info? f.type).map fun i => (f.offset, i.size)) = some q) ∨ (∃ n e ie, P.underlying t = some (.array n e) ∧ P.info? e = some ie) := by
  unfold placeOk at h
  split at h
  · rename_i fs hu
    obtain ⟨q, hq⟩ := isSome_ex h
    exact ⟨fs, q, .inl ⟨hu, hq⟩⟩
  · rename_i n e hu
    obtain ⟨ie, hi⟩ := isSome_ex h
    exact ⟨#[], [], .inr ⟨n, e, ie, hu, hi⟩⟩
  · cases h

theorem toL2 {α : Type} {x : Array α} {a b : α} (h : x.toList = [a, b]) : x = #[a, b] := by apply Array.ext'; simpa using h
theorem toL1 {α : Type} {x : Array α} {a : α} (h : x.toList = [a]) : x = #[a] := by apply Array.ext'; simpa using h

theorem funcOf_val {v : AV} {fn : Nat} {u : Value} (h : funcOf v = some fn) (hv : AVR w g H v u) : u = .func (.func fn) #[] #[] := by
  unfold funcOf at h
  split at h
  · split at h
    · rename_i fs cs hc
      cases h
      have := sc_val hv
      rw [this]
      have h1 : fs = #[] := Array.eq_empty_of_size_eq_zero hc.1
      have h2 : cs = #[] := Array.eq_empty_of_size_eq_zero hc.2
      rw [h1, h2]
    · cases h
  · cases h

theorem evOp_ok (hi : HI w g H) (hK : KOk P inl K) (hwf : WFr f nx) (hwh : WH h nx) {op : AOp} (hop : compOp? P inl o = some op.bare) (hks : ∀ c ∈ op.ks, c.ids = []) (hf : FRu w g H f a op.us) {re : Re} (hre : evOp K draw f h nx op = some re)
    (hrd : ∀ id ∈ re.r, H id = h.get id) (hfr : ∀ i, nx ≤ i → i < re.nx → H i = none) (hcl : Clean H (bn nx re.nx)) : StepOk P o a w g H nx re := by
  have hid : ∀ (us : List Nat), ∀ s ∈ us, ∀ i ∈ (f.get s).ids, i ∉ bn nx re.nx := fun _ s _ i hi hb => by
    have := hwf s i hi
    have := (mem_bn.1 hb).1
    omega
  unfold compOp? at hop
  split at hop
  · -- move
    rename_i x ho
    simp only [bindO_eq] at hop
    obtain ⟨y, hy, he⟩ := hop
    have := plain_inv (Option.some.inj he) rfl
    subst this
    rw [ok1_eq hre]
    exact (op_mv hi (.inl ho) hy hf).step
  · -- assign
    rename_i x ho
    simp only [bindO_eq] at hop
    obtain ⟨y, hy, he⟩ := hop
    have := plain_inv (Option.some.inj he) rfl
    subst this
    simp only [evOp] at hre
    split at hre
    · rename_i hv
      cases hre
      exact (op_asg hi ho hy hf hfr hcl hv).step
    · rename_i v _
      rw [ok1_eq hre]
      exact (op_mv hi (.inr ho) hy hf).step
  · -- pick
    rename_i c x z ho
    simp only [bindO_eq] at hop
    obtain ⟨c', hc', x', hx', z', hz', he⟩ := hop
    have := plain_inv (Option.some.inj he) rfl
    subst this
    simp only [evOp, bindO_eq] at hre
    obtain ⟨q, hq, hre⟩ := hre
    rw [ok1_eq hre]
    exact (op_pick hi ho hc' hx' hz' hq hf).step
  · -- alloc
    rename_i t ho
    simp only [bindO_eq] at hop
    obtain ⟨z, hz, he⟩ := hop
    have := plain_inv (Option.some.inj he) rfl
    subst this
    exact (op_alloc hi ho hz hre hfr hcl).step
  · -- box
    rename_i t x ho
    simp only [bindO_eq] at hop
    obtain ⟨y, hy, he⟩ := hop
    have := plain_inv (Option.some.inj he) rfl
    subst this
    exact (op_box hi ho hy hf hre hfr hcl (hid _)).step
  · -- build
    rename_i t ps ho
    split at hop
    case isFalse => cases hop
    rename_i hpl
    simp only [bindO_eq] at hop
    obtain ⟨z, hz, parts, hps, he⟩ := hop
    have := plain_inv (Option.some.inj he) rfl
    subst this
    exact (op_build hi ho hz hps (placeOk_ex hpl) hf hre).step
  · -- buildSlice
    rename_i t n ps ho
    simp only [bindO_eq] at hop
    obtain ⟨e, hte, z, hz, parts, hps, hop⟩ := hop
    split at hop
    case isFalse => cases hop
    rename_i hc
    obtain ⟨mu, rfl⟩ := bsl_inv (Option.some.inj hop)
    exact (op_bsl hi ho hte hz hc.1 hc.2.1 hc.2.2 hps hf hre hfr hcl (hid _)).step
  · -- load
    rename_i t x ho
    simp only [bindO_eq] at hop
    obtain ⟨y, hy, hop⟩ := hop
    split at hop
    case isFalse => cases hop
    rename_i hc
    have := plain_inv (Option.some.inj hop) rfl
    subst this
    exact (op_ld hi ho hy (isSome_ex hc.2.1) hc.1 hc.2.2 hf hre hrd).step
  · -- store
    rename_i t x y ho
    simp only [bindO_eq] at hop
    obtain ⟨x', hx', y', hy', hop⟩ := hop
    split at hop
    case isFalse => cases hop
    rename_i hc
    have := plain_inv (Option.some.inj hop) rfl
    subst this
    exact (op_st hi ho hx' hy' hc hf hre hrd hfr hcl (hid _)).step
  · -- fieldAddr
    rename_i t x i ho
    simp only [bindO_eq] at hop
    obtain ⟨x', hx', hop⟩ := hop
    split at hop
    · rename_i fs hu
      simp only [bindO_eq] at hop
      obtain ⟨fd, hfd, hop⟩ := hop
      split at hop
      case isFalse => cases hop
      rename_i hc
      have := plain_inv (Option.some.inj hop) rfl
      subst this
      exact (op_fad hi ho hx' hu hfd hc hf hre hrd).step
    · cases hop
  · -- indexAddr
    rename_i t x i ho
    simp only [bindO_eq] at hop
    obtain ⟨e, hte, x', hx', i', hi', hop⟩ := hop
    split at hop
    case isFalse => cases hop
    rename_i hc
    have := plain_inv (Option.some.inj hop) rfl
    subst this
    exact (op_iad hi ho hx' hi' hte hc hf hre hrd).step
  · -- field
    rename_i t x i ho
    simp only [bindO_eq] at hop
    obtain ⟨x', hx', hop⟩ := hop
    split at hop
    · rename_i fs hu
      simp only [bindO_eq] at hop
      obtain ⟨fd, hfd, hop⟩ := hop
      split at hop
      case isFalse => cases hop
      rename_i hc
      have := plain_inv (Option.some.inj hop) rfl
      subst this
      exact (op_fld hi ho hx' hu hfd (isSome_ex hc.1) hf hre (isSome_ex hc.2)).step
    · cases hop
  · -- index
    rename_i t x i ho
    split at hop
    · rename_i n e hu
      simp only [bindO_eq] at hop
      obtain ⟨x', hx', i', hi', hop⟩ := hop
      split at hop
      case isFalse => cases hop
      rename_i hc
      have := plain_inv (Option.some.inj hop) rfl
      subst this
      exact (op_idx hi ho hx' hi' hu (isSome_ex hc.2) hc.1 hf hre).step
    · rename_i hu
      simp only [bindO_eq] at hop
      obtain ⟨x', hx', i', hi', hop⟩ := hop
      have := plain_inv (Option.some.inj hop) rfl
      subst this
      exact (op_sidx hi ho hx' hi' hu hf hre).step
    · cases hop
  · -- binOp
    rename_i bop t x y sy ho
    simp only [bindO_eq] at hop
    obtain ⟨x', hx', y', hy', hop⟩ := hop
    split at hop
    · rename_i k hu
      have := plain_inv (Option.some.inj hop) rfl
      subst this
      simp only [evOp] at hre
      split at hre
      · rename_i u v hxu hyv
        simp only [bindO_eq] at hre
        obtain ⟨r, hr, hre⟩ := hre
        rw [ok1_eq hre]
        exact (op_bin hi ho hx' hy' hf hxu hyv hr).step
      · cases hre
    · rename_i hu
      have := plain_inv (Option.some.inj hop) rfl
      subst this
      simp only [evOp] at hre
      split at hre
      · rename_i u v hxu hyv
        simp only [bindO_eq] at hre
        obtain ⟨r, hr, hre⟩ := hre
        rw [ok1_eq hre]
        exact (op_bin hi ho hx' hy' hf hxu hyv hr).step
      · cases hre
    · rename_i hu
      have := plain_inv (Option.some.inj hop) rfl
      subst this
      simp only [evOp] at hre
      split at hre
      · rename_i u v hxu hyv
        simp only [bindO_eq] at hre
        obtain ⟨r, hr, hre⟩ := hre
        rw [ok1_eq hre]
        exact (op_binb hi ho hu hx' hy' hf hxu hyv hr).step
      · cases hre
    · rename_i fs hu
      split at hop
      case isFalse => cases hop
      rename_i hg
      simp only [bindO_eq] at hop
      obtain ⟨ks, hkk, hop⟩ := hop
      split at hop
      · have := plain_inv (Option.some.inj hop) rfl
        subst this
        exact (op_eqa hi ho (.inl ⟨rfl, rfl⟩) hu hg hkk hx' hy' hf hre).step
      · have := plain_inv (Option.some.inj hop) rfl
        subst this
        exact (op_eqa hi ho (.inr ⟨rfl, rfl⟩) hu hg hkk hx' hy' hf hre).step
      · cases hop
    · cases hop
  · -- unOp
    rename_i uop t x ho
    simp only [bindO_eq] at hop
    obtain ⟨x', hx', hop⟩ := hop
    have := plain_inv (Option.some.inj hop) rfl
    subst this
    simp only [evOp] at hre
    split at hre
    · rename_i u hxu
      simp only [bindO_eq] at hre
      obtain ⟨r, hr, hre⟩ := hre
      rw [ok1_eq hre]
      exact (op_un hi ho hx' hf hxu hr).step
    · cases hre
  · -- convert
    rename_i s d x ho
    simp only [bindO_eq] at hop
    obtain ⟨x', hx', hop⟩ := hop
    split at hop
    · rename_i k k' hs hd
      have := plain_inv (Option.some.inj hop) rfl
      subst this
      simp only [evOp, bindO_eq] at hre
      obtain ⟨q, hq, hre⟩ := hre
      rw [ok1_eq hre]
      exact (op_cvi hi ho hs hd hx' hf hq).step
    · rename_i k hs hd
      have := plain_inv (Option.some.inj hop) rfl
      subst this
      simp only [evOp, bindO_eq] at hre
      obtain ⟨q, hq, hre⟩ := hre
      rw [ok1_eq hre]
      exact (op_cvs hi ho hs hd hx' hf hq).step
    · cases hop
  · -- slice
    rename_i t x lo hh ho
    simp only [bindO_eq] at hop
    obtain ⟨e, hte, x', hx', lo', hlo', hh', hhh', hop⟩ := hop
    split at hop
    case isFalse => cases hop
    rename_i hc
    have := plain_inv (Option.some.inj hop) rfl
    subst this
    refine (op_slc hi ho hte hc hx' hlo' hhh' hf hre hrd fun n hn id hid => ?_).step
    simp only [evOp, bindO_eq] at hre
    obtain ⟨l, _, n', hn', m, _, hre⟩ := hre
    rw [hn] at hn'
    cases hn'
    unfold lenOf at hn
    split at hn
    · cases hn; cases hid
    · cases hn; cases hid
    · cases hn; cases hid
    · rename_i id' off len hxv
      split at hn
      · cases hn
        simp only [List.mem_singleton] at hid
        subst hid
        split at hre
        · rw [hxv] at hre
          cases hre
          exact hrd _ (by simp)
        · cases hre
      · cases hn
    · cases hn
  · -- makeSlice
    rename_i t l c ho
    simp only [bindO_eq] at hop
    obtain ⟨e, hte, z, hz, l', hl', c', hc', hop⟩ := hop
    split at hop
    case isFalse => cases hop
    rename_i hc
    obtain ⟨mu, rfl⟩ := mks_inv (Option.some.inj hop)
    exact (op_mks hi ho hte hz hc.1 hc.2.1 hc.2.2 hl' hc' hf hre hfr hcl).step
  · -- extract
    rename_i x i ho
    simp only [bindO_eq] at hop
    obtain ⟨x', hx', hop⟩ := hop
    have := plain_inv (Option.some.inj hop) rfl
    subst this
    simp only [evOp] at hre
    split at hre
    · rename_i xs hxs
      split at hre
      · rename_i p hp
        rw [ok1_eq hre]
        exact (op_ext hi ho hx' hf hxs hp).step
      · cases hre
    · cases hre
  · -- call
    rename_i c ho
    split at hop
    · rename_i hcal
      split at hop
      · rename_i t u x y hty hargs
        simp only [bindO_eq] at hop
        obtain ⟨e, hte, z, hz, x', hx', y', hy', hop⟩ := hop
        split at hop
        case isFalse => cases hop
        rename_i hc
        obtain ⟨rfl, hc1, hc2, hc3⟩ := hc
        obtain ⟨mu, rfl⟩ := app_inv (Option.some.inj hop)
        exact (op_app_gr hi ho hcal (toL2 hargs) (toL2 hty) hte hz hc1 hc2 hc3 hx' hy' hf hre hrd hfr hcl).step
      · cases hop
    · rename_i hcal
      split at hop
      · rename_i t u x y hty hargs
        simp only [bindO_eq] at hop
        obtain ⟨e, hte, e2, hte2, x', hx', y', hy', hop⟩ := hop
        split at hop
        case isFalse => cases hop
        rename_i hc
        have := plain_inv (Option.some.inj hop) rfl
        subst this
        exact (op_cpy hi ho hcal (toL2 hargs) (toL2 hty) hte hc hx' hy' hf hre hrd).step
      · cases hop
    · rename_i hcal
      split at hop
      · rename_i t x hty hargs
        simp only [bindO_eq] at hop
        obtain ⟨x', hx', hop⟩ := hop
        split at hop
        · rename_i e hu
          have := plain_inv (Option.some.inj hop) rfl
          subst this
          simp only [evOp, bindO_eq] at hre
          obtain ⟨n, hn, hre⟩ := hre
          cases hre
          exact (op_len hi ho hcal (toL1 hargs) (toL1 hty) hu hx' hf hn hrd).step
        · rename_i hu
          have := plain_inv (Option.some.inj hop) rfl
          subst this
          simp only [evOp] at hre
          split at hre
          · rename_i s hs
            rw [ok1_eq hre]
            exact (op_slen hi ho hcal (toL1 hargs) (toL1 hty) hu hx' hf hs).step
          · cases hre
        · cases hop
      · cases hop
    · rename_i hcal
      split at hop
      · rename_i x y hargs
        simp only [bindO_eq] at hop
        obtain ⟨x', hx', y', hy', hop⟩ := hop
        have := plain_inv (Option.some.inj hop) rfl
        subst this
        simp only [evOp, bindO_eq] at hre
        obtain ⟨p, hp, q, hq, hre⟩ := hre
        split at hre
        · rw [ok1_eq hre]
          exact (op_mx hi ho hcal (toL2 hargs) hx' hy' hf hp hq).step
        · cases hre
      · cases hop
    · rename_i hcal
      split at hop
      · rename_i x y hargs
        simp only [bindO_eq] at hop
        obtain ⟨x', hx', y', hy', hop⟩ := hop
        have := plain_inv (Option.some.inj hop) rfl
        subst this
        simp only [evOp, bindO_eq] at hre
        obtain ⟨p, hp, q, hq, hre⟩ := hre
        split at hre
        · rw [ok1_eq hre]
          exact (op_mn hi ho hcal (toL2 hargs) hx' hy' hf hp hq).step
        · cases hre
      · cases hop
    · rename_i fn hcal
      split at hop
      · simp only [bindO_eq] at hop
        obtain ⟨as, has, hop⟩ := hop
        have := plain_inv (Option.some.inj hop) rfl
        subst this
        exact step_icall hi hK.icall hK.wf hwf hwh ho hcal has hks hf hre hrd hfr hcl
      · simp only [bindO_eq] at hop
        obtain ⟨as, has, hop⟩ := hop
        have := plain_inv (Option.some.inj hop) rfl
        subst this
        exact step_call (draw := draw) hi hK.call ho hcal rfl has hf hre hrd
    · rename_i x _ hcal
      simp only [bindO_eq] at hop
      obtain ⟨x', hx', as, has, hop⟩ := hop
      have := plain_inv (Option.some.inj hop) rfl
      subst this
      simp only [evOp, bindO_eq] at hre
      obtain ⟨fn, hfn, hre⟩ := hre
      exact step_call (draw := draw) hi hK.call ho hcal (funcOf_val hfn (compA_ok hx' (hf.sub fun s hs => by simp [AOp.us, hs]))) has (hf.sub fun s hs => by simp only [AOp.us, List.mem_append]; exact .inr hs) hre hrd
    · cases hop
  · cases hop
end
end Go.Proofs.Ytpanbfainilmpaa.Ev
