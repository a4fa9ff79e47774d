/- The numbers that a state names are below its next free one. -/
import Derived.Test.YtpanbfainilmpaaEv11
set_option linter.unusedVariables false
set_option linter.unusedSimpArgs false
namespace Go.Proofs.Ytpanbfainilmpaa.Ev

/-- The constants of an operation. -/
def AO.ks : AO → List C
  | .t _ => []
  | .k x => [x]
def ksO : Option AO → List C
  | some a => a.ks
  | none => []
def AOp.ks : AOp → List C
  | .mv x => x.ks
  | .asg x => x.ks
  | .pick c a b => c.ks ++ a.ks ++ b.ks
  | .alloc z => z
  | .box x => x.ks
  | .build z ps => z ++ ps.flatMap fun p => p.2.2.ks
  | .bsl _ _ _ z ps => z ++ ps.flatMap fun p => p.2.ks
  | .ld _ _ a => a.ks
  | .st _ a x => a.ks ++ x.ks
  | .fad _ x => x.ks
  | .iad _ x i => x.ks ++ i.ks
  | .fld _ _ _ x => x.ks
  | .idx _ _ _ x i => x.ks ++ i.ks
  | .sidx x i => x.ks ++ i.ks
  | .bin _ x y => x.ks ++ y.ks
  | .binb _ x y => x.ks ++ y.ks
  | .eqa _ _ x y => x.ks ++ y.ks
  | .un _ x => x.ks
  | .cvi _ x => x.ks
  | .cvs x => x.ks
  | .slc _ x lo hi => x.ks ++ ksO lo ++ ksO hi
  | .mks _ _ _ z l c => z ++ l.ks ++ c.ks
  | .app _ _ _ x y => x.ks ++ y.ks
  | .cpy x y => x.ks ++ y.ks
  | .len x => x.ks
  | .slen x => x.ks
  | .mx x y => x.ks ++ y.ks
  | .mn x y => x.ks ++ y.ks
  | .ext x _ => x.ks
  | .call _ as => as.flatMap fun p => p.2.ks
  | .callv x as => x.ks ++ as.flatMap fun p => p.2.ks
  | .icall _ as => as.flatMap AO.ks
  | .bad => []
def AOp.cl (o : AOp) : Bool := o.ks.all fun x => x.ids.isEmpty

def Lt (l : List Nat) (n : Nat) : Prop := ∀ i ∈ l, i < n
theorem Lt.nil {n : Nat} : Lt [] n := fun _ h => by cases h
theorem Lt.app {a b : List Nat} {n : Nat} (h : Lt a n) (k : Lt b n) : Lt (a ++ b) n := fun i hi => (List.mem_append.1 hi).elim (h i) (k i)
theorem Lt.le {a : List Nat} {n m : Nat} (h : Lt a n) (k : n ≤ m) : Lt a m := fun i hi => Nat.lt_of_lt_of_le (h i hi) k
def WH (h : Hp) (nx : Nat) : Prop := ∀ e ∈ h, e.1 < nx ∧ Lt e.2.ids nx
theorem Hp.get_mem : ∀ {h : Hp} {i : Nat} {l : Loc}, h.get i = some l → (i, l) ∈ h
  | [], i, l, hh => by simp [Hp.get] at hh
  | (m, v) :: r, i, l, hh => by
    simp only [Hp.get] at hh
    split at hh
    · rename_i hn; cases hh; subst hn; exact List.mem_cons_self
    · exact List.mem_cons_of_mem _ (Hp.get_mem hh)
theorem WH.get {h : Hp} {nx : Nat} (hw : WH h nx) {i : Nat} {l : Loc} (hl : h.get i = some l) : i < nx ∧ Lt l.ids nx := hw _ (Hp.get_mem hl)
theorem WH.fresh {h : Hp} {nx : Nat} (hw : WH h nx) {i : Nat} (hi : nx ≤ i) : h.get i = none := by
  cases hg : h.get i with
  | none => rfl
  | some l => have := (hw.get hg).1; omega
theorem WH.le {h : Hp} {n m : Nat} (hw : WH h n) (hn : n ≤ m) : WH h m := fun e he => ⟨Nat.lt_of_lt_of_le (hw e he).1 hn, (hw e he).2.le hn⟩
theorem WH.set {h : Hp} {nx n : Nat} {l : Loc} (hw : WH h nx) (hn : n < nx) (hl : Lt l.ids nx) : WH (h.set n l) nx := by
  induction h with
  | nil => intro e he; simp only [Hp.set, List.mem_singleton] at he; subst he; exact ⟨hn, hl⟩
  | cons e r ih =>
    obtain ⟨m, v⟩ := e
    intro e he
    simp only [Hp.set] at he
    split at he
    · rename_i hm
      rcases List.mem_cons.1 he with rfl | he
      · exact ⟨hm ▸ hn, hl⟩
      · exact hw e (List.mem_cons_of_mem _ he)
    · rcases List.mem_cons.1 he with rfl | he
      · exact hw _ List.mem_cons_self
      · exact ih (fun e he => hw e (List.mem_cons_of_mem _ he)) e he
theorem WH.del {h : Hp} {nx : Nat} (hw : WH h nx) (n : Nat) : WH (h.del n) nx := by
  induction h with
  | nil => exact hw
  | cons e r ih =>
    obtain ⟨m, v⟩ := e
    have ih := ih (fun e he => hw e (List.mem_cons_of_mem _ he))
    simp only [Hp.del]
    split
    · exact ih
    · intro e he
      rcases List.mem_cons.1 he with rfl | he
      · exact hw _ List.mem_cons_self
      · exact ih e he
theorem WH.upd {nx : Nat} : ∀ {w : List (Nat × Option Loc)} {h : Hp}, WH h nx → (∀ e ∈ w, e.1 < nx ∧ ∀ l, e.2 = some l → Lt l.ids nx) → WH (h.upd w) nx
  | [], h, hw, _ => hw
  | (n, some l) :: r, h, hw, hr => WH.upd (w := r) (h := h.set n l) (hw.set (hr _ List.mem_cons_self).1 ((hr _ List.mem_cons_self).2 l rfl)) fun e he => hr e (List.mem_cons_of_mem _ he)
  | (n, .none) :: r, h, hw, hr => WH.upd (w := r) (h := h.del n) (hw.del n) fun e he => hr e (List.mem_cons_of_mem _ he)
def WFr (f : Fr) (nx : Nat) : Prop := ∀ s, Lt (f.get s).ids nx

def KWF (K : Or) : Prop := ∀ g vs h nx q, K.icall g vs h nx = some q → (∀ v ∈ vs, Lt v.ids nx) → WH h nx → nx ≤ q.2.2 ∧ Lt q.1.ids q.2.2 ∧ WH q.2.1 q.2.2

section
variable {f : Fr} {h : Hp} {nx : Nat} {K : Or} {draw : Bool}

theorem ev_lt (hf : WFr f nx) {x : AO} (hk : ∀ c ∈ x.ks, c.ids = []) : Lt (x.ev f).ids nx := by
  cases x with
  | t n => exact hf n
  | k c => simp only [AO.ev, AV.ids, hk c (by simp [AO.ks])]; exact Lt.nil

def ReOk (nx : Nat) (re : Re) : Prop := nx ≤ re.nx ∧ Lt re.ids re.nx
theorem ReOk.val {v : AV} {r : List Nat} (h : Lt v.ids nx) : ReOk nx ⟨v, [], r, nx⟩ := ⟨Nat.le_refl _, by simpa [Re.ids] using h⟩
theorem ReOk.ok1 {v : AV} {re : Re} (hre : ok1 v nx = some re) (h : Lt v.ids nx) : ReOk nx re := by
  rw [ok1_eq hre]; exact .val h

theorem cells_lt {cs : List C} {n : Nat} : Lt (cs.flatMap C.ids) n ↔ ∀ c ∈ cs, Lt c.ids n := by
  constructor
  · intro h c hc i hi; exact h i (List.mem_flatMap.2 ⟨c, hc, hi⟩)
  · intro h i hi
    obtain ⟨c, hc, hi⟩ := List.mem_flatMap.1 hi
    exact h c hc i hi
theorem d_ids (ds : List D) {n : Nat} : Lt ((ds.map C.d).flatMap C.ids) n := cells_lt.2 fun c hc => by
  obtain ⟨d, _, rfl⟩ := List.mem_map.1 hc
  exact Lt.nil

theorem putPart_lt {n : Nat} {cs cs' : List C} {off sz : Nat} {v : AV} (h : putPart cs off sz v = some cs') (h1 : Lt (cs.flatMap C.ids) n) (h2 : Lt v.ids n) : Lt (cs'.flatMap C.ids) n := by
  unfold putPart at h
  split at h
  · split at h
    · cases h
      refine cells_lt.2 fun c hc => ?_
      rcases List.mem_or_eq_of_mem_set hc with hc | rfl
      · exact cells_lt.1 h1 c hc
      · exact h2
    · cases h
  · split at h
    · cases h
      refine cells_lt.2 fun c hc => ?_
      rcases List.mem_append.1 hc with hc | hc
      · rcases List.mem_append.1 hc with hc | hc
        · exact cells_lt.1 h1 c (List.mem_of_mem_take hc)
        · exact cells_lt.1 h2 c hc
      · exact cells_lt.1 h1 c (List.mem_of_mem_drop hc)
    · cases h
  · cases h
theorem putParts_lt (hf : WFr f nx) : ∀ {ps : List (Nat × Nat × AO)} {cs cs' : List C}, putParts f cs ps = some cs' → (∀ p ∈ ps, ∀ c ∈ p.2.2.ks, c.ids = []) → Lt (cs.flatMap C.ids) nx → Lt (cs'.flatMap C.ids) nx
  | [], cs, cs', h, _, h1 => by simp only [putParts, Option.some.injEq] at h; subst h; exact h1
  | (off, sz, x) :: r, cs, cs', h, hk, h1 => by
    simp only [putParts, bindV, bindO_eq] at h
    obtain ⟨c1, h2, h3⟩ := h
    exact putParts_lt hf h3 (fun p hp => hk p (List.mem_cons_of_mem _ hp)) (putPart_lt h2 h1 (ev_lt hf (hk (off, sz, x) (by simp))))
theorem litElems_lt (hf : WFr f nx) {sz : Nat} : ∀ {ps : List (Nat × AO)} {es es' : List (List C)}, litElems f sz es ps = some es' → (∀ p ∈ ps, ∀ c ∈ p.2.ks, c.ids = []) → (∀ e ∈ es, Lt (e.flatMap C.ids) nx) → ∀ e ∈ es', Lt (e.flatMap C.ids) nx
  | [], es, es', h, _, h1 => by simp only [litElems, Option.some.injEq] at h; subst h; exact h1
  | (i, x) :: r, es, es', h, hk, h1 => by
    simp only [litElems, bindV, bindO_eq] at h
    obtain ⟨cs, h2, h3⟩ := h
    split at h3
    case isFalse => cases h3
    refine litElems_lt hf h3 (fun p hp => hk p (List.mem_cons_of_mem _ hp)) (fun e he => ?_)
    rcases List.mem_or_eq_of_mem_set he with he | rfl
    · exact h1 e he
    · have hx := ev_lt hf (hk (i, x) (by simp))
      unfold cellsOf at h2
      split at h2
      · rename_i c hc
        split at h2
        · cases h2
          rw [hc] at hx
          refine cells_lt.2 fun c' hc' => ?_
          simp only [List.mem_singleton] at hc'
          subst hc'
          exact hx
        · cases h2
      · rename_i c hc
        split at h2
        · cases h2
          rw [hc] at hx
          exact hx
        · cases h2
      · cases h2

theorem births_w : ∀ (cs : List C) (n : Nat), ∀ e ∈ (births n cs).2.1, e.1 < (births n cs).2.2 ∧ e.2 = some (.tok 0 0)
  | [], n, e, h => by simp [births] at h
  | c :: cs, n, e, h => by
    cases c with
    | nil =>
      simp only [births, List.mem_cons] at h ⊢
      rcases h with rfl | h
      · exact ⟨births_lo cs (n + 1), rfl⟩
      · exact births_w cs (n + 1) e h
    | d x => exact births_w cs n e h
    | gr t es => exact births_w cs n e h

theorem boxed_lt {cs : List C} {re : Re} (hre : boxed (births nx cs) = some re) (h : ∀ c ∈ cs, Lt c.ids nx) : ReOk nx re := by
  simp only [boxed, Option.some.injEq] at hre
  subst hre
  have hlo := births_lo cs nx
  refine ⟨by simp only; omega, ?_⟩
  intro i hi
  simp only [Re.ids, AV.ids, List.mem_append, List.mem_singleton, List.flatMap_append, List.mem_flatMap] at hi
  rcases hi with rfl | ⟨e, he, hi⟩ | ⟨e, he, hi⟩
  · simp
  · obtain ⟨h1, h2⟩ := births_w cs nx e he
    rw [h2] at hi
    simp only [Loc.ids, List.mem_singleton, List.mem_cons, List.not_mem_nil, or_false] at hi
    subst hi
    show _ < _ + 1
    omega
  · subst he
    simp only [Loc.ids, List.mem_cons, List.mem_flatMap] at hi
    rcases hi with rfl | ⟨c, hc, hi⟩
    · simp
    · show i < (births nx cs).2.2 + 1
      rcases births_ids cs nx c hc i hi with ⟨y, hy, hi⟩ | h
      · have := h y hy i hi; omega
      · omega

theorem birthV_w (v : AV) : ∀ e ∈ (birthV nx v).2.1, ∀ i, i ∈ (e.1 :: match e.2 with | some l => l.ids | none => []) → i < (birthV nx v).2.2 := by
  have go : ∀ cs : List C, ∀ e ∈ (births nx cs).2.1, ∀ i, i ∈ (e.1 :: match e.2 with | some l => l.ids | none => []) → i < (births nx cs).2.2 := by
    intro cs e he i hi
    obtain ⟨h1, h2⟩ := births_w cs nx e he
    rw [h2] at hi
    simp only [Loc.ids, List.mem_cons, List.not_mem_nil, or_false] at hi
    subst hi
    exact h1
  cases v with
  | c x =>
    cases x with
    | nil => exact go [.nil]
    | d y => intro e he; simp [birthV] at he
    | gr t es => intro e he; simp [birthV] at he
  | ag cs => exact go cs
  | _ => intro e he; simp [birthV] at he
theorem birthV_lt {v : AV} (h : Lt v.ids nx) : Lt (birthV nx v).1.ids (birthV nx v).2.2 := by
  cases v with
  | c x =>
    cases x with
    | nil => intro i hi; simp only [birthV, AV.ids, C.ids, List.mem_singleton] at hi ⊢; omega
    | d y => exact h
    | gr t es => exact h
  | ag cs =>
    intro i hi
    obtain ⟨c, hc, hii⟩ := List.mem_flatMap.1 hi
    have hlo := births_lo cs nx
    rcases births_ids cs nx c hc i hii with ⟨y, hy, hyi⟩ | h2
    · exact Nat.lt_of_lt_of_le (h i (List.mem_flatMap.2 ⟨y, hy, hyi⟩)) hlo
    · exact h2.2
  | _ => exact h

theorem elems_ids {sz : Nat} {v : AV} {q : List (List D) × List Nat} (hq : elems h sz v = some q) : ∀ i ∈ q.2, i ∈ v.ids := by
  unfold elems at hq
  split at hq
  · cases hq; simp
  · cases hq; simp
  · cases hq; simp
  · split at hq
    · split at hq
      · cases hq; simp [AV.ids]
      · cases hq
    · cases hq
  · cases hq
theorem toPV_ids {sz : Nat} {v : AV} {q : PV × List Nat} (hq : toPV h sz v = some q) : ∀ i ∈ q.2, i ∈ v.ids := by
  unfold toPV at hq
  split at hq
  · cases hq; simp
  · cases hq; simp
  · simp only [bindO_eq] at hq
    obtain ⟨e, he, hq⟩ := hq
    cases hq
    exact elems_ids he
  · cases hq
theorem toPVs_lt (hf : WFr f nx) : ∀ {as : List (Nat × AO)} {q : List PV × List Nat}, toPVs h f as = some q → (∀ p ∈ as, ∀ c ∈ p.2.ks, c.ids = []) → Lt q.2 nx
  | [], q, hq, _ => by simp only [toPVs, Option.some.injEq] at hq; subst hq; exact Lt.nil
  | x :: r, q, hq, hk => by
    simp only [toPVs, bindV, bindO_eq] at hq
    obtain ⟨a, ha, b, hb, he⟩ := hq
    cases he
    exact Lt.app (fun i hi => ev_lt hf (hk x (by simp)) i (toPV_ids ha i hi)) (toPVs_lt hf hb fun p hp => hk p (List.mem_cons_of_mem _ hp))

theorem doCall_lt (hf : WFr f nx) {g : Nat} {as : List (Nat × AO)} {re : Re} (hre : doCall K draw f h nx g as = some re) (hk : ∀ p ∈ as, ∀ c ∈ p.2.ks, c.ids = []) : ReOk nx re := by
  simp only [doCall, bindO_eq] at hre
  obtain ⟨a, ha, r, hr, hre⟩ := hre
  have ho : ∀ r : List PV, (outAV r).ids = [] := by
    intro r
    unfold outAV
    split
    · rename_i x
      cases x with
      | one x => rfl
      | agg xs =>
        simp only [PV.toAV, AV.ids, List.flatMap_map]
        induction xs with
        | nil => rfl
        | cons x xs ih => simp [C.ids, ih]
    · rfl
  split at hre
  · cases hre; exact .val (by rw [ho]; exact Lt.nil)
  · cases hre
    refine ⟨Nat.le_refl _, ?_⟩
    intro i hi
    simp only [Re.ids, ho, List.nil_append, List.flatMap_map, List.mem_flatMap, List.mem_singleton, List.mem_cons, List.not_mem_nil, or_false] at hi
    obtain ⟨j, hj, rfl⟩ := hi
    exact toPVs_lt hf ha hk _ hj


theorem PV.toAV_ids (p : PV) : p.toAV.ids = [] := by
  cases p with
  | one x => rfl
  | agg xs =>
    simp only [PV.toAV, AV.ids, List.flatMap_map]
    induction xs with
    | nil => rfl
    | cons x xs ih => simp [C.ids, ih]

theorem lt_one {v : AV} {id : Nat} {l : Loc} {r : List Nat} (hv : Lt v.ids nx) (hid : id < nx) (hl : Lt l.ids nx) : ReOk nx ⟨v, [(id, some l)], r, nx⟩ := by
  refine ⟨Nat.le_refl _, fun i hi => ?_⟩
  simp only [Re.ids, List.mem_append, List.flatMap_cons, List.flatMap_nil, List.append_nil, List.mem_cons] at hi
  rcases hi with hi | rfl | hi
  · exact hv i hi
  · exact hid
  · exact hl i hi
theorem lt_new {v : AV} {l : Loc} {r : List Nat} (hv : Lt v.ids (nx + 1)) (hl : Lt l.ids (nx + 1)) : ReOk nx ⟨v, [(nx, some l)], r, nx + 1⟩ := by
  refine ⟨Nat.le_succ _, fun i hi => ?_⟩
  simp only [Re.ids, List.mem_append, List.flatMap_cons, List.flatMap_nil, List.append_nil, List.mem_cons] at hi
  rcases hi with hi | rfl | hi
  · exact hv i hi
  · exact Nat.lt_succ_self _
  · exact hl i hi
theorem zero_lt {zs : List C} (h : ∀ c ∈ zs, c.ids = []) {n : Nat} : ∀ c ∈ zs, Lt c.ids n := fun c hc => by rw [h c hc]; exact Lt.nil
theorem lt_single {n m : Nat} (h : n < m) : Lt [n] m := fun i hi => by simp only [List.mem_singleton] at hi; omega

theorem evOp_lt (hK : KWF K) (hf : WFr f nx) (hh : WH h nx) {op : AOp} (hk : ∀ c ∈ op.ks, c.ids = []) {re : Re} (hre : evOp K draw f h nx op = some re) : ReOk nx re := by
  have arrlt : ∀ {id : Nat} {cells : List C}, h.get id = some (.arr cells) → id < nx ∧ Lt (cells.flatMap C.ids) nx := fun hg => hh.get hg
  cases op with
  | mv x => exact .ok1 hre (ev_lt hf hk)
  | asg x =>
    simp only [evOp] at hre
    split at hre
    · cases hre; exact lt_new (lt_single (by omega)) Lt.nil
    · rename_i v _; exact .ok1 hre (ev_lt hf hk)
  | pick c a b =>
    simp only [evOp, bindO_eq] at hre
    obtain ⟨q, _, hre⟩ := hre
    refine .ok1 hre ?_
    split
    · exact ev_lt hf fun c hc => hk c (by simp [AOp.ks, hc])
    · exact ev_lt hf fun c hc => hk c (by simp [AOp.ks, hc])
  | alloc z => exact boxed_lt hre (zero_lt hk)
  | box x =>
    simp only [evOp] at hre
    have hx := ev_lt hf (x := x) hk
    split at hre
    · rename_i y hy
      rw [hy] at hx
      exact boxed_lt hre fun c hc => by simp only [List.mem_singleton] at hc; subst hc; exact hx
    · rename_i cs hy
      rw [hy] at hx
      exact boxed_lt hre (cells_lt.1 hx)
    · cases hre
  | build z ps =>
    simp only [evOp, bindO_eq] at hre
    obtain ⟨cs, hcs, hre⟩ := hre
    exact .ok1 hre (putParts_lt hf hcs (fun p hp c hc => hk c (List.mem_append_right _ (List.mem_flatMap.2 ⟨p, hp, hc⟩))) (cells_lt.2 (zero_lt fun c hc => hk c (List.mem_append_left _ hc))))
  | bsl mu sz n z ps =>
    simp only [evOp, bindO_eq] at hre
    obtain ⟨es, hes, hre⟩ := hre
    have hlt := litElems_lt hf hes (fun p hp c hc => hk c (List.mem_append_right _ (List.mem_flatMap.2 ⟨p, hp, hc⟩))) (fun e he => by
      rw [List.eq_of_mem_replicate he]
      exact cells_lt.2 (zero_lt fun c hc => hk c (List.mem_append_left _ hc)))
    split at hre
    · cases hre
      refine lt_new (lt_single (by omega)) (cells_lt.2 fun c hc => ?_)
      obtain ⟨e, he, hc⟩ := List.mem_flatten.1 hc
      exact (cells_lt.1 (hlt e he) c hc).le (Nat.le_succ _)
    · cases hre
      exact lt_new (lt_single (by omega)) Lt.nil
  | ld agg sz a =>
    simp only [evOp] at hre
    split at hre
    · split at hre
      · rename_i cells hg
        split at hre
        · split at hre
          · cases hre
            refine .val (cells_lt.2 fun c hc => cells_lt.1 (arrlt hg).2 c (List.mem_of_mem_drop (List.mem_of_mem_take hc)))
          · cases hre
        · split at hre
          · rename_i c hc
            cases hre
            exact .val (cells_lt.1 (arrlt hg).2 c (List.mem_of_getElem? hc))
          · cases hre
      · cases hre
    · split at hre
      · split at hre
        · exact .ok1 hre (d_ids _)
        · cases hre
      · split at hre
        · exact .ok1 hre Lt.nil
        · cases hre
    · cases hre
  | st sz a x =>
    simp only [evOp] at hre
    split at hre
    · split at hre
      · rename_i cells hg
        simp only [bindV, bindO_eq] at hre
        obtain ⟨cs, hcs, hre⟩ := hre
        cases hre
        have hv := ev_lt hf (x := x) fun c hc => hk c (by simp [AOp.ks, hc])
        have hlo := birthV_lo (nx := nx) (x.ev f)
        have hv' := birthV_lt hv
        refine ⟨hlo, ?_⟩
        intro i hi
        simp only [Re.ids, AV.ids, List.nil_append, List.flatMap_append, List.mem_append, List.mem_flatMap, List.mem_singleton] at hi
        rcases hi with ⟨e, he, hi⟩ | ⟨e, he, hi⟩
        · exact birthV_w _ e he i hi
        · subst he
          simp only [Loc.ids, List.mem_cons] at hi
          rcases hi with rfl | hi
          · exact Nat.lt_of_lt_of_le (arrlt hg).1 hlo
          · exact putPart_lt hcs (fun j hj => Nat.lt_of_lt_of_le ((arrlt hg).2 j hj) hlo) hv' i hi
      · cases hre
    · cases hre
  | fad off x =>
    simp only [evOp] at hre
    have hx := ev_lt hf (x := x) hk
    split at hre
    · rename_i id o hy
      rw [hy] at hx
      split at hre
      · cases hre; exact .val hx
      · cases hre
    · exact .ok1 hre Lt.nil
    · cases hre
  | iad sz x i =>
    simp only [evOp, bindO_eq] at hre
    obtain ⟨q, _, hre⟩ := hre
    have hx := ev_lt hf (x := x) fun c hc => hk c (by simp [AOp.ks, hc])
    split at hre
    · split at hre
      · split at hre
        · split at hre
          · exact .ok1 hre Lt.nil
          · cases hre
        · cases hre
      · cases hre
    · split at hre
      · split at hre
        · split at hre
          · exact .ok1 hre Lt.nil
          · cases hre
        · cases hre
      · cases hre
    · rename_i hy
      rw [hy] at hx
      split at hre
      · cases hre; exact .val hx
      · cases hre
    · cases hre
  | fld agg off sz x =>
    simp only [evOp] at hre
    have hx := ev_lt hf (x := x) hk
    split at hre
    · rename_i cs hy
      rw [hy] at hx
      split at hre
      · exact .ok1 hre (cells_lt.2 fun c hc => cells_lt.1 hx c (List.mem_of_mem_drop (List.mem_of_mem_take hc)))
      · split at hre
        · rename_i c hc
          exact .ok1 hre (cells_lt.1 hx c (List.mem_of_getElem? hc))
        · cases hre
    · cases hre
  | idx agg len sz x i =>
    simp only [evOp, bindO_eq] at hre
    obtain ⟨q, _, hre⟩ := hre
    have hx := ev_lt hf (x := x) fun c hc => hk c (by simp [AOp.ks, hc])
    split at hre
    · rename_i cs hy
      rw [hy] at hx
      split at hre
      · split at hre
        · exact .ok1 hre (cells_lt.2 fun c hc => cells_lt.1 hx c (List.mem_of_mem_drop (List.mem_of_mem_take hc)))
        · split at hre
          · rename_i c hc
            exact .ok1 hre (cells_lt.1 hx c (List.mem_of_getElem? hc))
          · cases hre
      · cases hre
    · cases hre
  | sidx x i =>
    simp only [evOp, bindO_eq] at hre
    obtain ⟨q, _, hre⟩ := hre
    split at hre
    · split at hre
      · split at hre
        · exact .ok1 hre Lt.nil
        · cases hre
      · cases hre
    · cases hre
  | bin op x y =>
    simp only [evOp] at hre
    split at hre
    · simp only [bindO_eq] at hre
      obtain ⟨v, _, hre⟩ := hre
      exact .ok1 hre Lt.nil
    · cases hre
  | binb op x y =>
    simp only [evOp] at hre
    split at hre
    · simp only [bindO_eq] at hre
      obtain ⟨v, _, hre⟩ := hre
      exact .ok1 hre Lt.nil
    · cases hre
  | eqa neg ks x y =>
    simp only [evOp] at hre
    split at hre
    · simp only [bindO_eq] at hre
      obtain ⟨v, _, hre⟩ := hre
      exact .ok1 hre Lt.nil
    · cases hre
  | un op x =>
    simp only [evOp] at hre
    split at hre
    · simp only [bindO_eq] at hre
      obtain ⟨v, _, hre⟩ := hre
      exact .ok1 hre Lt.nil
    · cases hre
  | cvi k x => simp only [evOp, bindO_eq] at hre; obtain ⟨q, _, hre⟩ := hre; exact .ok1 hre Lt.nil
  | cvs x => simp only [evOp, bindO_eq] at hre; obtain ⟨q, _, hre⟩ := hre; exact .ok1 hre Lt.nil
  | slc sz x lo hi =>
    simp only [evOp, bindO_eq] at hre
    obtain ⟨l, _, n, _, m, _, hre⟩ := hre
    have hx := ev_lt hf (x := x) fun c hc => hk c (by simp [AOp.ks, hc])
    split at hre
    case isFalse => cases hre
    split at hre
    · split at hre
      · exact .ok1 hre Lt.nil
      · cases hre
    · split at hre
      · exact .ok1 hre Lt.nil
      · cases hre
    · exact .ok1 hre Lt.nil
    · rename_i hy
      rw [hy] at hx
      cases hre
      exact .val hx
    · cases hre
  | mks mu sz bytes z l c =>
    simp only [evOp, bindO_eq] at hre
    obtain ⟨n, _, m, _, hre⟩ := hre
    split at hre
    case isFalse => cases hre
    split at hre
    · split at hre
      · cases hre
        refine lt_new (lt_single (by omega)) (cells_lt.2 fun c hc => ?_)
        obtain ⟨e, he, hc⟩ := List.mem_flatten.1 hc
        rw [List.eq_of_mem_replicate he] at hc
        exact zero_lt (fun c hc => hk c (by simp [AOp.ks, hc])) c hc
      · cases hre
    · cases hre
      exact lt_new (lt_single (by omega)) Lt.nil
  | app mu sz bytes x y =>
    simp only [evOp, bindO_eq] at hre
    obtain ⟨ys, _, hre⟩ := hre
    split at hre
    · split at hre
      case isFalse => cases hre
      split at hre
      · cases hre
      · cases hre; exact lt_new (lt_single (by omega)) Lt.nil
    · rename_i t es hy
      split at hre
      · rename_i n s hg
        have htn := (hh.get hg).1
        split at hre
        case isFalse => cases hre
        split at hre
        · split at hre
          case isFalse => cases hre
          cases hre
          refine ⟨Nat.le_succ _, fun i hi => ?_⟩
          simp only [Re.ids, AV.ids, List.mem_append, List.flatMap_cons, List.flatMap_nil, List.append_nil, List.mem_cons, List.not_mem_nil, or_false, Loc.ids] at hi
          rcases hi with rfl | rfl | rfl | hi
          · exact Nat.lt_succ_self _
          · exact Nat.lt_succ_of_lt htn
          · exact Nat.lt_succ_self _
          · exact d_ids _ i hi
        · cases hre
          exact lt_one (lt_single htn) htn Lt.nil
      · cases hre
    · cases hre
  | cpy x y =>
    simp only [evOp, bindO_eq] at hre
    obtain ⟨ys, _, hre⟩ := hre
    split at hre
    · split at hre
      · rename_i cells hg
        split at hre
        · cases hre
          refine lt_one Lt.nil (arrlt hg).1 (cells_lt.2 fun c hc => ?_)
          rcases List.mem_append.1 hc with hc | hc
          · rcases List.mem_append.1 hc with hc | hc
            · exact cells_lt.1 (arrlt hg).2 c (List.mem_of_mem_take hc)
            · obtain ⟨d, _, rfl⟩ := List.mem_map.1 hc
              exact Lt.nil
          · exact cells_lt.1 (arrlt hg).2 c (List.mem_of_mem_drop hc)
        · cases hre
      · cases hre
    · cases hre
  | len x => simp only [evOp, bindO_eq] at hre; obtain ⟨n, _, hre⟩ := hre; cases hre; exact .val Lt.nil
  | slen x =>
    simp only [evOp] at hre
    split at hre
    · exact .ok1 hre Lt.nil
    · cases hre
  | mx x y =>
    simp only [evOp, bindO_eq] at hre
    obtain ⟨n, _, m, _, hre⟩ := hre
    split at hre
    · exact .ok1 hre Lt.nil
    · cases hre
  | mn x y =>
    simp only [evOp, bindO_eq] at hre
    obtain ⟨n, _, m, _, hre⟩ := hre
    split at hre
    · exact .ok1 hre Lt.nil
    · cases hre
  | ext x i =>
    simp only [evOp] at hre
    split at hre
    · split at hre
      · rename_i p _
        exact .ok1 hre (by rw [PV.toAV_ids]; exact Lt.nil)
      · cases hre
    · cases hre
  | call g as => exact doCall_lt (draw := draw) hf hre fun p hp c hc => hk c (List.mem_flatMap.2 ⟨p, hp, hc⟩)
  | callv x as =>
    simp only [evOp, bindO_eq] at hre
    obtain ⟨g, _, hre⟩ := hre
    exact doCall_lt (draw := draw) hf hre fun p hp c hc => hk c (List.mem_append_right _ (List.mem_flatMap.2 ⟨p, hp, hc⟩))
  | icall g as =>
    simp only [evOp, doICall, bindO_eq] at hre
    obtain ⟨q, hq, hre⟩ := hre
    have hvs : ∀ v ∈ as.map (AO.ev f), Lt v.ids nx := fun v hv => by
      obtain ⟨x, hx, rfl⟩ := List.mem_map.1 hv
      exact ev_lt hf fun c hc => hk c (List.mem_flatMap.2 ⟨x, hx, hc⟩)
    have hrs : Lt (h.reach ((as.map (AO.ev f)).flatMap AV.ids)) nx := by
      have h1 : Lt ((as.map (AO.ev f)).flatMap AV.ids) nx := fun i hi => by
        obtain ⟨v, hv, hi⟩ := List.mem_flatMap.1 hi
        exact hvs v hv i hi
      refine h1.app fun i hi => ?_
      obtain ⟨j, hj, hi⟩ := List.mem_flatMap.1 hi
      split at hi
      · rename_i l hl; exact (hh.get hl).2 i hi
      · cases hi
    obtain ⟨k1, k2, k3⟩ := hK _ _ _ _ _ hq hvs (fun e he => hh e (List.mem_filter.1 he).1)
    split at hre
    case isFalse => cases hre
    cases hre
    refine ⟨k1, fun i hi => ?_⟩
    simp only [Re.ids, List.mem_append, List.flatMap_append, List.mem_flatMap, List.mem_map] at hi
    have key : ∀ j, j < q.2.2 → ∀ i, i ∈ (j :: match q.2.1.get j with | some l => l.ids | none => []) → i < q.2.2 := by
      intro j hj i hi
      rcases List.mem_cons.1 hi with rfl | hi
      · exact hj
      · split at hi
        · rename_i l hl; exact (k3.get hl).2 i hi
        · cases hi
    rcases hi with hi | ⟨e, ⟨j, hj, rfl⟩, hi⟩ | ⟨e, ⟨j, hj, rfl⟩, hi⟩
    · exact k2 i hi
    · exact key j (Nat.lt_of_lt_of_le (hrs j hj) k1) i hi
    · exact key j.1 (k3 j (List.mem_filter.1 hj).1).1 i hi
  | bad => cases hre
end
end Go.Proofs.Ytpanbfainilmpaa.Ev
