/- Texts that were joined: Ev18, Ev19, Ev20, Ev21, Ev22, Ev23, Ev24, Ev25, Ev26, Ev27. -/
import Derived.Test.YtpanbfainilmpaaEvH1
section
/- A region of open order ends as its written order does. -/
set_option linter.unusedVariables false
set_option linter.unusedSimpArgs false
namespace Go.Proofs.Ytpanbfainilmpaa.Ev

theorem bare_us (o : AOp) : o.bare.us = o.us := by cases o <;> rfl
theorem bare_us' (o : AOper) : o.bare.us = o.us := by
  simp only [AOper.us, AOper.bare, bare_us]

/-- A run in written order, and what the text says of other orders. -/
structure Run (P : Program) (inl : Nat → Bool) (nt : Nat) (ops : Array Oper) (K : Or) (aos : List AOper) (S : Nat → St) (R : Nat → Re) : Prop where
  hK : KOk P inl K
  len : aos.length = ops.size
  bare : ∀ (i : Nat) (o : Oper) (ao : AOper), ops[i]? = some o → aos[i]? = some ao → ao.bare = compOper P inl nt ops o ((bitsAll [] ops.toList).getD i 0)
  ks : ∀ (i : Nat) (ao : AOper), aos[i]? = some ao → ∀ c ∈ ao.op.ks, c.ids = []
  step : ∀ (k : Nat) (o : AOper), aos[k]? = some o → evStep K true o (S k) = some (R k) ∧ S (k + 1) = (S k).put o.dst (R k)
  bes : ∀ (k l : Nat) (o : AOper), k < l → aos[l]? = some o → o.bf.testBit k = true ∨ Beside (R l) (R k) (S k).nx
  edge : ∀ (i : Nat) (o : Oper), ops[i]? = some o → ∀ e ∈ o.after.toList, Region.binds .any e = true → e.on < i
  slot : ∀ (i j : Nat) (oi oj : AOper), aos[i]? = some oi → aos[j]? = some oj → slotFits oi oj i j = true
  wf : WFr (S 0).f (S 0).nx
  wh : WH (S 0).h (S 0).nx

section
variable {P : Program} {inl : Nat → Bool} {nt : Nat} {ops : Array Oper} {K : Or} {aos : List AOper} {S : Nat → St} {R : Nat → Re}

theorem Run.both (r : Run P inl nt ops K aos S R) {i : Nat} (h : i < ops.size) : ∃ o ao, ops[i]? = some o ∧ aos[i]? = some ao := ⟨ops[i], aos[i]'(by rw [r.len]; exact h), Array.getElem?_eq_getElem h, List.getElem?_eq_getElem _⟩

theorem Run.states (r : Run P inl nt ops K aos S R) : ∀ k, k ≤ ops.size → WFr (S k).f (S k).nx ∧ WH (S k).h (S k).nx
  | 0, _ => ⟨r.wf, r.wh⟩
  | k + 1, h => by
    obtain ⟨h1, h2⟩ := r.states k (by omega)
    obtain ⟨o, ao, _, hao⟩ := r.both (i := k) (by omega)
    obtain ⟨q1, q2⟩ := r.step k ao hao
    have hr := evStep_lt r.hK.wf h1 h2 (r.ks k ao hao) q1
    rw [q2]
    exact ⟨put_wf h1 hr, put_wh h2 hr⟩
theorem Run.re (r : Run P inl nt ops K aos S R) {k : Nat} (h : k < ops.size) : ReOk (S k).nx (R k) ∧ (S (k + 1)).nx = (R k).nx := by
  obtain ⟨h1, h2⟩ := r.states k (by omega)
  obtain ⟨o, ao, _, hao⟩ := r.both h
  obtain ⟨q1, q2⟩ := r.step k ao hao
  exact ⟨evStep_lt r.hK.wf h1 h2 (r.ks k ao hao) q1, by rw [q2]; rfl⟩
theorem Run.nx_le (r : Run P inl nt ops K aos S R) {k : Nat} : ∀ {l : Nat}, k ≤ l → l ≤ ops.size → (S k).nx ≤ (S l).nx
  | 0, h, _ => by have : k = 0 := by omega
                  subst this; exact Nat.le_refl _
  | l + 1, h, hl => by
    rcases Nat.lt_or_ge l k with hk | hk
    · have : k = l + 1 := by omega
      subst this; exact Nat.le_refl _
    · obtain ⟨h1, h2⟩ := r.re (k := l) (by omega)
      rw [h2]
      exact Nat.le_trans (r.nx_le hk (by omega)) h1.1

/-- Where an operation writes. -/
def dstOf (aos : List AOper) (j : Nat) : Option Nat := (aos[j]?).bind (·.dst)

theorem Run.seqH (r : Run P inl nt ops K aos S R) (id : Nat) : ∀ k, k ≤ ops.size → (S k).h.get id = (lastOf (fun j => wr (R j).w id) k).getD ((S 0).h.get id)
  | 0, _ => rfl
  | k + 1, h => by
    obtain ⟨o, ao, _, hao⟩ := r.both (i := k) (by omega)
    obtain ⟨q1, q2⟩ := r.step k ao hao
    rw [q2, put_h, updF_wr]
    simp only [lastOf]
    cases wr (R k).w id with
    | some y => rfl
    | none => exact r.seqH id k (by omega)
theorem Run.seqF (r : Run P inl nt ops K aos S R) (s : Nat) : ∀ k, k ≤ ops.size → (S k).f.get s = (lastOf (fun j => if dstOf aos j = some s then some (R j).v else none) k).getD ((S 0).f.get s)
  | 0, _ => rfl
  | k + 1, h => by
    obtain ⟨o, ao, _, hao⟩ := r.both (i := k) (by omega)
    obtain ⟨q1, q2⟩ := r.step k ao hao
    have hd : dstOf aos k = ao.dst := by simp [dstOf, hao]
    rw [q2, put_f]
    simp only [lastOf, hd]
    by_cases hs : ao.dst = some s
    · rw [if_pos hs, if_pos hs]; rfl
    · rw [if_neg hs, if_neg hs]; exact r.seqF s k (by omega)

/-- The abstract heap, the frame when the operations of L are done. -/
def HL (n : Nat) (S : Nat → St) (R : Nat → Re) (L : Nat → Bool) : HF := fun id => (lastOf (fun j => if L j = true then wr (R j).w id else none) n).getD ((S 0).h.get id)
def FL (n : Nat) (aos : List AOper) (S : Nat → St) (R : Nat → Re) (L : Nat → Bool) : Nat → AV := fun s => (lastOf (fun j => if L j = true ∧ dstOf aos j = some s then some (R j).v else none) n).getD ((S 0).f.get s)

def bfOf (ops : Array Oper) (i : Nat) : Nat := (bitsAll [] ops.toList).getD i 0
theorem Run.bf (r : Run P inl nt ops K aos S R) {i : Nat} {ao : AOper} (h : aos[i]? = some ao) : ao.bf = bfOf ops i := by
  have hlt : i < ops.size := by rw [← r.len]; exact (List.getElem?_eq_some_iff.1 h).1
  have := r.bare i ops[i] ao (Array.getElem?_eq_getElem hlt) h
  have := congrArg AOper.bf this
  exact this
theorem bf_bit {i k : Nat} {o : Oper} (ho : ops[i]? = some o) (hedge : ∀ e ∈ o.after.toList, Region.binds .any e = true → e.on < i) (h : (bfOf ops i).testBit k = true) : ∃ e ∈ o.after.toList, Region.binds .any e = true ∧ (k = e.on ∨ (bfOf ops e.on).testBit k = true) := by
  obtain ⟨pre, h1, h2, h3⟩ := bitsAll_at ops.toList [] i o (by simpa using ho)
  simp only [List.length_nil, Nat.zero_add] at h1 h2 h3
  have hb : bfOf ops i = bitsOf pre o.after.toList := by simp [bfOf, List.getD_eq_getElem?_getD, h3]
  rw [hb] at h
  obtain ⟨e, he, hbind, hk⟩ := (bitsOf_bit pre _ k).1 h
  refine ⟨e, he, hbind, hk.imp id fun hk => ?_⟩
  have hlt := hedge e he hbind
  simp only [bfOf, List.getD_eq_getElem?_getD, ← h2 e.on hlt]
  simpa [List.getD_eq_getElem?_getD] using hk
theorem Run.bf_lt (r : Run P inl nt ops K aos S R) : ∀ (i k : Nat), i < ops.size → (bfOf ops i).testBit k = true → k < i := by
  intro i
  induction i using Nat.strongRecOn with
  | _ i ih =>
    intro k hi h
    obtain ⟨o, ao, ho, _⟩ := r.both hi
    obtain ⟨e, he, hb, hk⟩ := bf_bit ho (r.edge i o ho) h
    have hlt := r.edge i o ho e he hb
    rcases hk with rfl | hk
    · exact hlt
    · exact Nat.lt_trans (ih e.on hlt k (by omega) hk) hlt

/-- With an operation its predecessors. -/
def ClosedL (ops : Array Oper) (L : Nat → Bool) : Prop := ∀ (j : Nat) (o : Oper), ops[j]? = some o → L j = true → ∀ e ∈ o.after.toList, Region.binds .any e = true → L e.on = true
theorem Run.bf_closed (r : Run P inl nt ops K aos S R) {L : Nat → Bool} (hc : ClosedL ops L) : ∀ (i k : Nat) (o : Oper), ops[i]? = some o → (∀ e ∈ o.after.toList, Region.binds .any e = true → L e.on = true) → (bfOf ops i).testBit k = true → L k = true := by
  intro i
  induction i using Nat.strongRecOn with
  | _ i ih =>
    intro k o ho hpre h
    obtain ⟨e, he, hb, hk⟩ := bf_bit ho (r.edge i o ho) h
    have hlt := r.edge i o ho e he hb
    have hi : i < ops.size := (Array.getElem?_eq_some_iff.1 ho).1
    rcases hk with rfl | hk
    · exact hpre e he hb
    · obtain ⟨o', _, ho', _⟩ := r.both (i := e.on) (by omega)
      exact ih e.on hlt k o' ho' (hc e.on o' ho' (hpre e he hb)) hk

/-- An operation that may come up now. -/
structure Ready (ops : Array Oper) (L : Nat → Bool) (i : Nat) : Prop where
  lt : i < ops.size
  new : L i = false
  pre : ∀ (o : Oper), ops[i]? = some o → ∀ e ∈ o.after.toList, Region.binds .any e = true → L e.on = true

theorem Run.early (r : Run P inl nt ops K aos S R) {L : Nat → Bool} (hc : ClosedL ops L) {i j : Nat} (hi : Ready ops L i) (hji : j < i) : L j = true ∨ Beside (R i) (R j) (S j).nx := by
  obtain ⟨o, ao, ho, hao⟩ := r.both hi.lt
  rcases r.bes j i ao hji hao with h | h
  · rw [r.bf hao] at h
    exact .inl (r.bf_closed hc i j o ho (hi.pre o ho) h)
  · exact .inr h
theorem Run.late (r : Run P inl nt ops K aos S R) {L : Nat → Bool} (hc : ClosedL ops L) {i j : Nat} (hi : Ready ops L i) (hij : i < j) (hj : j < ops.size) (hL : L j = true) : Beside (R j) (R i) (S i).nx := by
  obtain ⟨o, ao, ho, hao⟩ := r.both hj
  rcases r.bes i j ao hij hao with h | h
  · rw [r.bf hao] at h
    have := r.bf_closed hc j i o ho (hc j o ho hL) h
    rw [hi.new] at this
    cases this
  · exact h
theorem Run.slots (r : Run P inl nt ops K aos S R) {L : Nat → Bool} (hc : ClosedL ops L) {i j : Nat} {ao : AOper} (hi : Ready ops L i) (hj : j < ops.size) (hne : j ≠ i) {s : Nat} (hd : dstOf aos j = some s) (hao : aos[i]? = some ao) (hs : s ∈ ao.us ∨ dstOf aos i = some s) :
    (j < i → L j = true) ∧ (i < j → L j = false) := by
  obtain ⟨o, _, ho, _⟩ := r.both hi.lt
  obtain ⟨oj, aj, hoj, haj⟩ := r.both hj
  have hslot := r.slot i j ao aj hao haj
  have hdj : aj.dst = some s := by simpa [dstOf, haj] using hd
  simp only [slotFits, hdj, r.bf hao, r.bf haj, Bool.or_eq_true, beq_iff_eq] at hslot
  rcases hslot with ((h | h) | h) | h
  · exact absurd h.symm hne
  · have hlt := r.bf_lt i j hi.lt h
    exact ⟨fun _ => r.bf_closed hc i j o ho (hi.pre o ho) h, fun h => by omega⟩
  · have hlt := r.bf_lt j i hj h
    refine ⟨fun h => by omega, fun _ => ?_⟩
    cases hL : L j with
    | false => rfl
    | true =>
      have := r.bf_closed hc j i oj hoj (hc j oj hoj hL) h
      rw [hi.new] at this
      cases this
  · exfalso
    simp only [Bool.and_eq_true, Bool.not_eq_true', List.contains_eq_mem, decide_eq_false_iff_not] at h
    rcases hs with hs | hs
    · exact h.1 hs
    · have : ao.dst = some s := by simpa [dstOf, hao] using hs
      rw [this] at h
      simp at h

theorem Run.readH (r : Run P inl nt ops K aos S R) {L : Nat → Bool} (hc : ClosedL ops L) {i : Nat} (hi : Ready ops L i) {id : Nat} (hid : id ∈ (R i).r) : HL ops.size S R L id = (S i).h.get id := by
  rw [r.seqH id i (Nat.le_of_lt hi.lt)]
  unfold HL
  congr 1
  rw [lastOf_cut (i := i) (Nat.le_of_lt hi.lt) fun j h1 h2 => ?_]
  · refine lastOf_congr fun j hj => ?_
    split
    · rfl
    · rename_i hL
      rcases r.early hc hi hj with h | h
      · exact absurd h hL
      · cases hw : wr (R j).w id with
        | none => rfl
        | some y => exact absurd hid (h.2.1 id (List.mem_map.2 ⟨_, wr_mem hw, rfl⟩)).1
  · split
    · rename_i hL
      rcases Nat.lt_or_ge i j with hij | hij
      · have h := r.late hc hi hij h2 hL
        cases hw : wr (R j).w id with
        | none => rfl
        | some y => exact absurd hid (h.1 id (List.mem_map.2 ⟨_, wr_mem hw, rfl⟩)).1
      · have : j = i := by omega
        subst this
        rw [hi.new] at hL
        cases hL
    · rfl
theorem Run.readF (r : Run P inl nt ops K aos S R) {L : Nat → Bool} (hc : ClosedL ops L) {i : Nat} {ao : AOper} (hi : Ready ops L i) (hao : aos[i]? = some ao) {s : Nat} (hs : s ∈ ao.us) : FL ops.size aos S R L s = (S i).f.get s := by
  rw [r.seqF s i (Nat.le_of_lt hi.lt)]
  unfold FL
  congr 1
  rw [lastOf_cut (i := i) (Nat.le_of_lt hi.lt) fun j h1 h2 => ?_]
  · refine lastOf_congr fun j hj => ?_
    by_cases hd : dstOf aos j = some s
    · have := (r.slots hc hi (by have := hi.lt; omega) (by omega) hd hao (.inl hs)).1 hj
      simp [hd, this]
    · simp [hd]
  · rw [if_neg]
    rintro ⟨hL, hd⟩
    rcases Nat.lt_or_ge i j with hij | hij
    · have := (r.slots hc hi h2 (by omega) hd hao (.inl hs)).2 hij
      rw [this] at hL
      cases hL
    · have : j = i := by omega
      subst this
      rw [hi.new] at hL
      cases hL

def addL (L : Nat → Bool) (i : Nat) : Nat → Bool := fun j => if j = i then true else L j
theorem Run.stepH (r : Run P inl nt ops K aos S R) {L : Nat → Bool} (hc : ClosedL ops L) {i : Nat} (hi : Ready ops L i) : HL ops.size S R (addL L i) = updF (HL ops.size S R L) (R i).w := by
  funext id
  rw [updF_wr]
  cases hw : wr (R i).w id with
  | some y =>
    simp only [HL, Option.getD_some]
    rw [lastOf_at hi.lt (x := y) (by simp [addL, hw]) fun j h1 h2 => ?_]
    · rfl
    · have hne : j ≠ i := by omega
      simp only [addL, hne, if_false]
      split
      · rename_i hL
        have h := r.late hc hi h1 h2 hL
        cases hw2 : wr (R j).w id with
        | none => rfl
        | some z => exact absurd (List.mem_map.2 ⟨_, wr_mem hw2, rfl⟩) (h.2.1 id (List.mem_map.2 ⟨_, wr_mem hw, rfl⟩)).2
      · rfl
  | none =>
    simp only [HL, Option.getD_none]
    congr 1
    refine lastOf_congr fun j hj => ?_
    by_cases hne : j = i
    · subst hne; simp [addL, hi.new, hw]
    · simp [addL, hne]
theorem Run.stepF (r : Run P inl nt ops K aos S R) {L : Nat → Bool} (hc : ClosedL ops L) {i : Nat} {ao : AOper} (hi : Ready ops L i) (hao : aos[i]? = some ao) (s : Nat) : FL ops.size aos S R (addL L i) s = if ao.dst = some s then (R i).v else FL ops.size aos S R L s := by
  have hd : dstOf aos i = ao.dst := by simp [dstOf, hao]
  by_cases hs : ao.dst = some s
  · rw [if_pos hs]
    simp only [FL]
    rw [lastOf_at hi.lt (x := (R i).v) (by simp [addL, hd, hs]) fun j h1 h2 => ?_]
    · rfl
    · have hne : j ≠ i := by omega
      simp only [addL, hne, if_false]
      rw [if_neg]
      rintro ⟨hL, hdj⟩
      have := (r.slots hc hi h2 hne hdj hao (.inr (hd.trans hs))).2 h1
      rw [this] at hL
      cases hL
  · rw [if_neg hs]
    simp only [FL]
    congr 1
    refine lastOf_congr fun j hj => ?_
    by_cases hne : j = i
    · subst hne; simp [hd, hs]
    · simp [addL, hne]

/-- No other operation names the numbers that this one gives out. -/
theorem Run.names (r : Run P inl nt ops K aos S R) {L : Nat → Bool} (hc : ClosedL ops L) {i j : Nat} (hi : Ready ops L i) (hj : j < ops.size) (hL : L j = true) {x : Nat} (hx : x ∈ (R j).ids) : ¬((S i).nx ≤ x ∧ x < (R i).nx) := by
  rcases Nat.lt_or_ge i j with hij | hij
  · exact (r.late hc hi hij hj hL).2.2 x hx
  · rcases Nat.lt_or_ge j i with hji | hji
    · obtain ⟨h1, h2⟩ := r.re hj
      have := h1.2 x hx
      have := r.nx_le (k := j + 1) (l := i) hji (Nat.le_of_lt hi.lt)
      omega
    · have : j = i := by omega
      subst this
      rw [hi.new] at hL
      cases hL
theorem Run.nx0 (r : Run P inl nt ops K aos S R) {i : Nat} (hi : i < ops.size) : (S 0).nx ≤ (S i).nx := r.nx_le (Nat.zero_le _) (Nat.le_of_lt hi)
theorem ids_w {q : Re} {e : Nat × Option Loc} (he : e ∈ q.w) : e.1 ∈ q.ids ∧ ∀ l, e.2 = some l → ∀ i ∈ l.ids, i ∈ q.ids := by
  have key : ∀ i ∈ (e.1 :: match e.2 with | some l => l.ids | none => []), i ∈ q.ids := fun i hi => List.mem_append_right _ (List.mem_flatMap.2 ⟨e, he, hi⟩)
  refine ⟨key _ List.mem_cons_self, fun l hl i hi => key i (List.mem_cons_of_mem _ ?_)⟩
  rw [hl]
  exact hi

theorem Run.freshH (r : Run P inl nt ops K aos S R) {L : Nat → Bool} (hc : ClosedL ops L) {i : Nat} (hi : Ready ops L i) {x : Nat} (h1 : (S i).nx ≤ x) (h2 : x < (R i).nx) : HL ops.size S R L x = none := by
  unfold HL
  rw [lastOf_none fun j hj => ?_]
  · exact r.wh.fresh (Nat.le_trans (r.nx0 hi.lt) h1)
  · split
    · rename_i hL
      cases hw : wr (R j).w x with
      | none => rfl
      | some y => exact absurd ⟨h1, h2⟩ (r.names hc hi hj hL (ids_w (wr_mem hw)).1)
    · rfl
theorem Run.cleanH (r : Run P inl nt ops K aos S R) {L : Nat → Bool} (hc : ClosedL ops L) {i : Nat} (hi : Ready ops L i) : Clean (HL ops.size S R L) (bn (S i).nx (R i).nx) := by
  intro id cells hcc c hcm x hx hb
  have hb := mem_bn.1 hb
  unfold HL at hcc
  cases hl : lastOf (fun j => if L j = true then wr (R j).w id else none) ops.size with
  | none =>
    rw [hl, Option.getD_none] at hcc
    have := (r.wh.get hcc).2 x (List.mem_flatMap.2 ⟨c, hcm, hx⟩)
    have := r.nx0 hi.lt
    omega
  | some y =>
    rw [hl, Option.getD_some] at hcc
    obtain ⟨j, hj, hg⟩ := lastOf_some hl
    split at hg
    · rename_i hL
      subst hcc
      exact r.names hc hi hj hL ((ids_w (wr_mem hg)).2 _ rfl x (List.mem_flatMap.2 ⟨c, hcm, hx⟩)) hb
    · cases hg
theorem Run.frameL (r : Run P inl nt ops K aos S R) {L : Nat → Bool} (hc : ClosedL ops L) {i : Nat} (hi : Ready ops L i) (s : Nat) : ∀ x ∈ (FL ops.size aos S R L s).ids, x ∉ bn (S i).nx (R i).nx := by
  intro x hx hb
  have hb := mem_bn.1 hb
  unfold FL at hx
  cases hl : lastOf (fun j => if L j = true ∧ dstOf aos j = some s then some (R j).v else none) ops.size with
  | none =>
    rw [hl, Option.getD_none] at hx
    have := r.wf s x hx
    have := r.nx0 hi.lt
    omega
  | some y =>
    rw [hl, Option.getD_some] at hx
    obtain ⟨j, hj, hg⟩ := lastOf_some hl
    split at hg
    · rename_i hL
      cases hg
      exact r.names hc hi hj hL.1 (List.mem_append_left _ hx) hb
    · cases hg

/-- A machine that has done the operations of L. -/
structure AI (nt : Nat) (ops : Array Oper) (aos : List AOper) (S : Nat → St) (R : Nat → Re) (w0 : World) (g0 : Gh) (a0 : Act) (L : Nat → Bool) (w : World) (g : Gh) (a : Act) : Prop where
  hi : HI w g (HL ops.size S R L)
  fr : ∀ s, AVR w g (HL ops.size S R L) (FL ops.size aos S R L s) (a.tmps.getD s undef)
  sz : nt ≤ a.tmps.size
  stp : Stp (bn (S 0).nx (S ops.size).nx) w0 g0 (S 0).h.get w g (HL ops.size S R L)
  df : a.defers = a0.defers
  closed : ClosedL ops L

theorem Run.any (r : Run P inl nt ops K aos S R) {w0 : World} {g0 : Gh} {a0 : Act} {Q : Exit → Act → World → Prop}
    (hQ : ∀ w' g' a', SI nt w' g' (S ops.size) a' → Stp (bn (S 0).nx (S ops.size).nx) w0 g0 (S 0).h.get w' g' (S ops.size).h.get → a'.defers = a0.defers → Q .normal a' w') :
    ∀ (fuel : Nat) (listed : Array Bool) (w : World) (g : Gh) (a : Act), listed.size = ops.size → ((List.range ops.size).filter fun j => !listed.getD j true).length ≤ fuel → AI nt ops aos S R w0 g0 a0 (fun j => listed.getD j true) w g a →
      wpAny P .any ops Q fuel listed a w := by
  -- all are done
  have fin : ∀ (listed : Array Bool) (w : World) (g : Gh) (a : Act), (∀ j, j < ops.size → listed.getD j true = true) → AI nt ops aos S R w0 g0 a0 (fun j => listed.getD j true) w g a → Q .normal a w := by
    intro listed w g a hall h
    have hH : HL ops.size S R (fun j => listed.getD j true) = (S ops.size).h.get := by
      funext id
      rw [r.seqH id ops.size (Nat.le_refl _)]
      unfold HL
      congr 1
      exact lastOf_congr fun j hj => by simp [hall j hj]
    have hF : ∀ s, FL ops.size aos S R (fun j => listed.getD j true) s = (S ops.size).f.get s := by
      intro s
      rw [r.seqF s ops.size (Nat.le_refl _)]
      unfold FL
      congr 1
      exact lastOf_congr fun j hj => by simp [hall j hj]
    obtain ⟨s1, s2⟩ := r.states ops.size (Nat.le_refl _)
    refine hQ w g a ⟨hH ▸ h.hi, fun s => ?_, s1, s2, h.sz⟩ (hH ▸ h.stp) h.df
    have := h.fr s
    rw [hF, hH] at this
    exact this
  have rdy : ∀ (listed : Array Bool), listed.size = ops.size → ∀ i, i ∈ Region.ready .any ops listed ↔ Ready ops (fun j => listed.getD j true) i := by
    intro listed hsz i
    simp only [Region.ready, List.mem_filter, List.mem_range, Bool.and_eq_true, Bool.not_eq_true']
    constructor
    · rintro ⟨h1, h2, h3⟩
      refine ⟨h1, h2, fun o ho e he hb => ?_⟩
      rw [ho] at h3
      simp only [Option.map_some, Option.getD_some] at h3
      rw [Array.all_eq_true_iff_forall_mem] at h3
      have := h3 e (Array.mem_toList_iff.1 he)
      simp only [hb, Bool.not_true, Bool.false_or] at this
      have hlt := r.edge i o ho e he hb
      have hlt2 : e.on < listed.size := by rw [hsz]; omega
      simp [Array.getD, hlt2] at this ⊢
      exact this
    · intro h
      refine ⟨h.lt, h.new, ?_⟩
      obtain ⟨o, _, ho, _⟩ := r.both h.lt
      rw [ho]
      simp only [Option.map_some, Option.getD_some]
      rw [Array.all_eq_true_iff_forall_mem]
      intro e he
      cases hb : Region.binds .any e with
      | false => rfl
      | true =>
        have he' := Array.mem_toList_iff.2 he
        have := h.pre o ho e he' hb
        have hlt := r.edge i o ho e he' hb
        have hlt2 : e.on < listed.size := by rw [hsz]; have := h.lt; omega
        simp [Array.getD, hlt2] at this ⊢
        exact this
  intro fuel
  induction fuel with
  | zero =>
    intro listed w g a hsz hcount h
    have hall : ∀ j, j < ops.size → listed.getD j true = true := by
      intro j hj
      cases hL : listed.getD j true with
      | true => rfl
      | false =>
        have : j ∈ (List.range ops.size).filter fun j => !listed.getD j true := List.mem_filter.2 ⟨List.mem_range.2 hj, by rw [hL]; rfl⟩
        have := List.length_pos_of_mem this
        omega
    refine ⟨?_, fin listed w g a hall h⟩
    cases hr : Region.ready .any ops listed with
    | nil => rfl
    | cons i t =>
      have := (rdy listed hsz i).1 (by rw [hr]; exact List.mem_cons_self)
      have h2 := hall i this.lt
      have h3 : listed.getD i true = false := this.new
      rw [h2] at h3
      cases h3
  | succ fuel ih =>
    intro listed w g a hsz hcount h
    refine ⟨fun hr => fin listed w g a (fun j hj => ?_) h, fun i hir => ?_⟩
    · induction j using Nat.strongRecOn with
      | _ j ihj =>
        cases hL : listed.getD j true with
        | true => rfl
        | false =>
          have : j ∈ Region.ready .any ops listed := (rdy listed hsz j).2 ⟨hj, hL, fun o ho e he hb => ihj e.on (r.edge j o ho e he hb) (by have := r.edge j o ho e he hb; omega)⟩
          rw [hr] at this
          cases this
    · have hi := (rdy listed hsz i).1 hir
      obtain ⟨o, ao, ho, hao⟩ := r.both hi.lt
      obtain ⟨q1, q2⟩ := r.step i ao hao
      obtain ⟨s1, s2⟩ := r.states i (Nat.le_of_lt hi.lt)
      obtain ⟨e1, e2⟩ := r.re hi.lt
      have core : ∀ (next : Act → World → Prop), (∀ v w' g', HI w' g' (updF (HL ops.size S R fun j => listed.getD j true) (R i).w) → Stp (bn (S i).nx (R i).nx) w g (HL ops.size S R fun j => listed.getD j true) w' g' (updF (HL ops.size S R fun j => listed.getD j true) (R i).w) → AVR w' g' (updF (HL ops.size S R fun j => listed.getD j true) (R i).w) (R i).v v → next (a.put o.dst v) w') →
          wpOp P ops Q i next a w ∧ (∀ d, o.dst = some d → d < nt ∨ (R i).v = .tu []) ∧ ao.dst = o.dst := fun next hn =>
        step_core h.hi r.hK s1 s2 ho (r.bare i o ao ho hao) (r.ks i ao hao) (fun s hs => by
          have := h.fr s
          rw [r.readF h.closed hi hao hs] at this
          exact this) q1 (fun id hid => r.readH h.closed hi hid) (fun x h1 h2 => r.freshH h.closed hi h1 h2) (r.cleanH h.closed hi) hn
      refine (core _ fun v w' g' h1 h2 h3 => ?_).1
      obtain ⟨_, hd1, hd2⟩ := core (fun _ _ => True) fun _ _ _ _ _ _ => trivial
      have hL' : (fun j => (listed.setIfInBounds i true).getD j true) = addL (fun j => listed.getD j true) i := by
        funext j
        simp only [addL]
        by_cases hj : j = i
        · subst hj
          simp [Array.getD]
        · rw [if_neg hj, Array.getD_eq_getD_getElem?, Array.getD_eq_getD_getElem?, Array.getElem?_setIfInBounds, if_neg (fun h => hj h.symm)]
      refine ih (listed.setIfInBounds i true) w' g' (a.put o.dst v) (by simpa using hsz) ?_ ?_
      · have hlt : ((List.range ops.size).filter fun j => !(listed.setIfInBounds i true).getD j true).length < ((List.range ops.size).filter fun j => !listed.getD j true).length := by
          have e : ((List.range ops.size).filter fun j => !(listed.setIfInBounds i true).getD j true) = ((List.range ops.size).filter fun j => !listed.getD j true).filter fun j => !(j == i) := by
            rw [List.filter_filter]
            refine List.filter_congr fun j _ => ?_
            have := congrFun hL' j
            simp only [addL] at this
            rw [this]
            by_cases hj : j = i
            · subst hj; simp
            · simp [hj]
          rw [e]
          refine List.length_filter_lt_length_iff_exists.2 ⟨i, List.mem_filter.2 ⟨List.mem_range.2 hi.lt, ?_⟩, by simp⟩
          have h9 : listed.getD i true = false := hi.new
          rw [h9]
          rfl
        omega
      · rw [hL']
        have eH := r.stepH h.closed hi
        refine ⟨by rw [eH]; exact h1, fun s => ?_, by rw [put_size]; exact h.sz, ?_, (put_defers _ _ _).trans h.df, ?_⟩
        · rw [eH, r.stepF h.closed hi hao, put_get, hd2]
          by_cases hds : o.dst = some s
          · rw [if_pos hds]
            by_cases hsz : s < a.tmps.size
            · rw [if_pos ⟨hds, hsz⟩]; exact h3
            · rw [if_neg (fun h => hsz h.2)]
              rcases hd1 s hds with hh | hh
              · exact absurd (Nat.lt_of_lt_of_le hh h.sz) hsz
              · rw [hh, getD_out hsz]; exact ⟨[], rfl, .nil⟩
          · rw [if_neg hds, if_neg (fun h => hds h.1)]
            exact AVR.step h2 (r.frameL h.closed hi s) (h.fr s)
        · rw [eH]
          refine (Stp.trans h.stp h2).weaken fun j hj => ?_
          rcases List.mem_append.1 hj with hj | hj
          · exact hj
          · have h5 := mem_bn.1 hj
            have h6 := r.nx0 hi.lt
            have h7 := r.nx_le (k := i + 1) (l := ops.size) hi.lt (Nat.le_refl _)
            exact mem_bn.2 ⟨by omega, by omega⟩
        · intro j oj hoj hLj e he hb
          simp only [addL] at hLj ⊢
          split
          · rfl
          · by_cases hji : j = i
            · subst hji
              rw [ho] at hoj
              cases hoj
              exact hi.pre o ho e he hb
            · rw [if_neg hji] at hLj
              exact h.closed j oj hoj hLj e he hb
end
end Go.Proofs.Ytpanbfainilmpaa.Ev
end
section
/- Code: numbers. -/
set_option linter.unusedVariables false
set_option linter.unusedSimpArgs false
namespace Go.Proofs.Ytpanbfainilmpaa.Ev

/-- Constants name nothing. -/
def ACode.cl : ACode → Bool
  | .reg _ ops => ops.all fun o => o.op.ks.all fun x => x.ids.isEmpty
  | .seq a b => a.cl && b.cl
  | .cond _ a b => a.cl && b.cl
  | .block _ a => a.cl
  | .loop _ a => a.cl
  | _ => true

section
variable (A : Nat → Option AFunc) (X : Nat → Option (List PV → Option (List PV)))
/-- What a region may call, with so much fuel. -/
def mkK (n : Nat) : Or where
  call := fun g args => match X g with
    | some e => e args
    | none => bindO (A g) fun fn => if args.length = fn.np then bindO (evC A X n fn.body ⟨initF 0 (args.map PV.toAV), [], 0⟩) fun q =>
        match q.1 with
        | .exit _ => none
        | _ => resAll q.2.f q.2.h fn.res
      else none
  icall := fun g args h nx => bindO (A g) fun fn => if args.length = fn.np then bindO (evC A X n fn.body ⟨initF 0 args, h, nx⟩) fun q =>
        match q.1 with
        | .exit _ => none
        | _ => bindO (resIn q.2.f q.2.h fn.res) fun v => some (v, q.2.h, q.2.nx)
      else none
theorem evC_reg (n : Nat) (draw : Bool) (ops : List AOper) (st : St) : evC A X (n + 1) (.reg draw ops) st = bindO (iteB draw (evOpsD (mkK A X n) 0 [] ops st) (evOps (mkK A X n) ops st)) fun st' => some (.norm, st') := by
  rw [evC]
  rfl
end

section
variable {A : Nat → Option AFunc} {X : Nat → Option (List PV → Option (List PV))}

theorem initF_get : ∀ (vs : List AV) (i s : Nat), (initF i vs).get s = if i ≤ s then (vs[s - i]?).getD .top else .top
  | [], i, s => by simp [initF, Fr.get]
  | v :: r, i, s => by
    simp only [initF, Fr.get, initF_get r]
    by_cases h : s = i
    · subst h; simp
    · rw [if_neg h]
      by_cases h2 : i ≤ s
      · rw [if_pos (by omega), if_pos h2]
        have : s - i = s - (i + 1) + 1 := by omega
        rw [this]; simp
      · rw [if_neg (by omega), if_neg h2]
theorem initF_wf {vs : List AV} {nx : Nat} (h : ∀ v ∈ vs, Lt v.ids nx) : WFr (initF 0 vs) nx := by
  intro s
  rw [initF_get]
  simp only [Nat.zero_le, if_true, Nat.sub_zero]
  cases hs : vs[s]? with
  | none => exact Lt.nil
  | some v => exact h v (List.mem_of_getElem? hs)

theorem old_c {n : Nat} (c : C) : Lt (c.old n).ids n := by
  cases c with
  | d x => exact Lt.nil
  | nil => exact Lt.nil
  | gr t es =>
    simp only [C.old]
    split
    · exact lt_single (by assumption)
    · exact Lt.nil
theorem old_v {n : Nat} (v : AV) (h : ∀ xs, v ≠ .tu xs ∨ True) : Lt (v.old n).ids n := by
  cases v with
  | c x =>
    cases x with
    | d x => exact Lt.nil
    | nil => exact Lt.nil
    | gr t es =>
      simp only [AV.old]
      split
      · exact lt_single (by assumption)
      · exact Lt.nil
  | ag cs =>
    refine cells_lt.2 fun c hc => ?_
    obtain ⟨x, _, rfl⟩ := List.mem_map.1 hc
    exact old_c x
  | tu xs => exact Lt.nil
  | ref id off len =>
    simp only [AV.old]
    split
    · exact lt_single (by assumption)
    · exact Lt.nil
  | ptr id off =>
    simp only [AV.old]
    split
    · exact lt_single (by assumption)
    · exact Lt.nil
  | fptr xs => exact Lt.nil
  | top => exact Lt.nil
theorem maskF_get (f : Fr) (n : Nat) : ∀ (keep : List Nat) (s : Nat), (maskF f n keep).get s = if s ∈ keep then (f.get s).old n else .top
  | [], s => by simp [maskF, Fr.get]
  | k :: r, s => by
    simp only [maskF, Fr.get, maskF_get f n r, List.mem_cons]
    by_cases h : s = k
    · subst h; simp
    · simp [h]
theorem head_wf (keep : List Nat) (n : Nat) (st : St) : WFr (st.head keep n).f n := by
  intro s
  show Lt ((maskF st.f n keep).get s).ids n
  rw [maskF_get]
  split
  · exact old_v _ fun _ => .inr trivial
  · exact Lt.nil
theorem old_l {n : Nat} (l : Loc) : Lt (l.old n).ids n := by
  cases l with
  | arr cells =>
    refine cells_lt.2 fun c hc => ?_
    obtain ⟨x, _, rfl⟩ := List.mem_map.1 hc
    exact old_c x
  | tok a b => exact Lt.nil
theorem cutH_wh (n : Nat) : ∀ (h : Hp), WH (cutH n h) n
  | [] => fun e he => by cases he
  | (i, l) :: r => by
    simp only [cutH]
    split
    · rename_i hi
      intro e he
      rcases List.mem_cons.1 he with rfl | he
      · exact ⟨hi, old_l l⟩
      · exact cutH_wh n r e he
    · exact cutH_wh n r
theorem head_wh (keep : List Nat) (n : Nat) (st : St) : WH (st.head keep n).h n := cutH_wh n st.h

theorem evOps_lt {K : Or} (hK : KWF K) : ∀ {ops : List AOper} {st st' : St}, (∀ o ∈ ops, ∀ c ∈ o.op.ks, c.ids = []) → evOps K ops st = some st' → WFr st.f st.nx → WH st.h st.nx → st.nx ≤ st'.nx ∧ WFr st'.f st'.nx ∧ WH st'.h st'.nx
  | [], st, st', _, h, h1, h2 => by simp only [evOps, Option.some.injEq] at h; subst h; exact ⟨Nat.le_refl _, h1, h2⟩
  | o :: os, st, st', hc, h, h1, h2 => by
    simp only [evOps, bindO_eq] at h
    obtain ⟨re, hre, h⟩ := h
    have hr := evStep_lt hK h1 h2 (hc o List.mem_cons_self) hre
    obtain ⟨q1, q2, q3⟩ := evOps_lt hK (fun o ho => hc o (List.mem_cons_of_mem _ ho)) h (put_wf h1 hr) (put_wh h2 hr)
    exact ⟨Nat.le_trans hr.1 q1, q2, q3⟩
theorem evOpsD_lt {K : Or} (hK : KWF K) : ∀ {ops : List AOper} {i : Nat} {prev : List Fp} {st st' : St}, (∀ o ∈ ops, ∀ c ∈ o.op.ks, c.ids = []) → evOpsD K i prev ops st = some st' → WFr st.f st.nx → WH st.h st.nx → st.nx ≤ st'.nx ∧ WFr st'.f st'.nx ∧ WH st'.h st'.nx
  | [], i, prev, st, st', _, h, h1, h2 => by simp only [evOpsD, Option.some.injEq] at h; subst h; exact ⟨Nat.le_refl _, h1, h2⟩
  | o :: os, i, prev, st, st', hc, h, h1, h2 => by
    simp only [evOpsD, bindO_eq] at h
    obtain ⟨re, hre, h⟩ := h
    have hr := evStep_lt hK h1 h2 (hc o List.mem_cons_self) hre
    unfold iteB at h
    split at h
    · obtain ⟨q1, q2, q3⟩ := evOpsD_lt hK (fun o ho => hc o (List.mem_cons_of_mem _ ho)) h (put_wf h1 hr) (put_wh h2 hr)
      exact ⟨Nat.le_trans hr.1 q1, q2, q3⟩
    · cases h

theorem cl_reg {ops : List AOper} {d : Bool} (h : (ACode.reg d ops).cl = true) : ∀ o ∈ ops, ∀ c ∈ o.op.ks, c.ids = [] := by
  simp only [ACode.cl, List.all_eq_true] at h
  intro o ho c hc
  have := h o ho c hc
  simpa using this

theorem resIn_lt {f : Fr} {h : Hp} {rs : List ARes} {v : AV} {n : Nat} (hr : resIn f h rs = some v) (hf : WFr f n) : Lt v.ids n := by
  unfold resIn at hr
  split at hr
  · cases hr; exact Lt.nil
  · cases hr; exact hf _
  · simp only [bindO_eq] at hr
    obtain ⟨b, hb, hr⟩ := hr
    split at hr
    · cases hr
      unfold outAV
      split
      · rename_i x; rw [PV.toAV_ids]; exact Lt.nil
      · exact Lt.nil
    · cases hr

mutual
theorem evC_lt (hA : ∀ f fn, A f = some fn → fn.body.cl = true) : ∀ (n : Nat) {c : ACode} {st : St} {q : Ex × St}, c.cl = true → evC A X n c st = some q → WFr st.f st.nx → WH st.h st.nx → st.nx ≤ q.2.nx ∧ WFr q.2.f q.2.nx ∧ WH q.2.h q.2.nx
  | 0, c, st, q, hc, h, h1, h2 => by rw [evC] at h; cases h
  | n + 1, c, st, q, hc, h, h1, h2 => by
    have ih := @evC_lt hA n
    cases c with
    | skip => rw [evC] at h; cases h; exact ⟨Nat.le_refl _, h1, h2⟩
    | exit id => rw [evC] at h; cases h; exact ⟨Nat.le_refl _, h1, h2⟩
    | ret => rw [evC] at h; cases h; exact ⟨Nat.le_refl _, h1, h2⟩
    | bad => rw [evC] at h; cases h
    | reg draw ops =>
      rw [evC_reg] at h
      simp only [bindO_eq] at h
      obtain ⟨st', h, he⟩ := h
      cases he
      unfold iteB at h
      split at h
      · exact evOpsD_lt (mkK_wf hA n) (cl_reg hc) h h1 h2
      · exact evOps_lt (mkK_wf hA n) (cl_reg hc) h h1 h2
    | seq a b =>
      simp only [ACode.cl, Bool.and_eq_true] at hc
      rw [evC] at h
      simp only [bindO_eq] at h
      obtain ⟨q1, hq, h⟩ := h
      obtain ⟨k1, k2, k3⟩ := ih hc.1 hq h1 h2
      split at h
      · obtain ⟨r1, r2, r3⟩ := ih hc.2 h k2 k3
        exact ⟨Nat.le_trans k1 r1, r2, r3⟩
      · cases h; exact ⟨k1, k2, k3⟩
    | cond x a b =>
      simp only [ACode.cl, Bool.and_eq_true] at hc
      rw [evC] at h
      simp only [bindO_eq] at h
      obtain ⟨q1, hq, h⟩ := h
      unfold iteB at h
      split at h
      · exact ih hc.1 h h1 h2
      · exact ih hc.2 h h1 h2
    | block id a =>
      rw [evC] at h
      simp only [bindO_eq] at h
      obtain ⟨q1, hq, h⟩ := h
      have := ih (c := a) hc hq h1 h2
      split at h
      · split at h <;> (cases h; exact this)
      · cases h; exact this
    | loop keep a =>
      rw [evC] at h
      simp only [bindO_eq] at h
      obtain ⟨q1, hq, h⟩ := h
      obtain ⟨k1, k2, k3⟩ := ih (c := a) hc hq (head_wf keep _ st) (head_wh keep _ st)
      split at h
      · exact ih (c := .loop keep a) (st := q1.2.head keep st.nx) hc h (head_wf keep _ q1.2) (head_wh keep _ q1.2)
      · cases h; exact ⟨k1, k2, k3⟩
theorem mkK_wf (hA : ∀ f fn, A f = some fn → fn.body.cl = true) (n : Nat) : KWF (mkK A X n) := by
  intro g vs h nx q hq hv hw
  simp only [mkK, bindO_eq] at hq
  obtain ⟨fn, hfn, hq⟩ := hq
  split at hq
  case isFalse => cases hq
  simp only [bindO_eq] at hq
  obtain ⟨r, hr, hq⟩ := hq
  obtain ⟨k1, k2, k3⟩ := evC_lt hA n (hA g fn hfn) hr (initF_wf hv) hw
  split at hq
  · cases hq
  · simp only [bindO_eq] at hq
    obtain ⟨v, hv, he⟩ := hq
    cases he
    exact ⟨k1, resIn_lt hv k2, k3⟩
end
end
end Go.Proofs.Ytpanbfainilmpaa.Ev
end
section
/- Code: what the machine does is what the evaluator says. -/
set_option linter.unusedVariables false
set_option linter.unusedSimpArgs false
namespace Go.Proofs.Ytpanbfainilmpaa.Ev

theorem cutH_get (n : Nat) : ∀ (h : Hp) (i : Nat), (cutH n h).get i = if i < n then (h.get i).map (Loc.old n) else none
  | [], i => by simp [cutH, Hp.get]
  | (j, l) :: r, i => by
    simp only [cutH]
    by_cases hj : j < n
    · rw [if_pos hj]
      simp only [Hp.get, cutH_get n r]
      by_cases hi : i = j
      · subst hi; simp [hj]
      · simp [hi]
    · rw [if_neg hj]
      simp only [Hp.get, cutH_get n r]
      by_cases hi : i = j
      · subst hi; simp [hj]
      · simp [hi]

section
variable {w : World} {g : Gh} {h : Hp} {n : Nat}
theorem cut_some {i : Nat} {l : Loc} (hl : (cutH n h).get i = some l) : i < n ∧ ∃ l0, h.get i = some l0 ∧ l = l0.old n := by
  rw [cutH_get] at hl
  split at hl
  · rename_i hi
    obtain ⟨l0, h0, rfl⟩ := Option.map_eq_some_iff.1 hl
    exact ⟨hi, l0, h0, rfl⟩
  · cases hl
theorem cut_arr {i : Nat} {cells : List C} (hl : (cutH n h).get i = some (.arr cells)) : i < n ∧ ∃ c0, h.get i = some (.arr c0) ∧ cells = c0.map (C.old n) := by
  obtain ⟨hi, l0, h0, he⟩ := cut_some hl
  cases l0 with
  | arr c0 => simp only [Loc.old, Loc.arr.injEq] at he; exact ⟨hi, c0, h0, he⟩
  | tok a b => simp [Loc.old] at he
theorem cut_tok {i a b : Nat} (hl : (cutH n h).get i = some (.tok a b)) : i < n ∧ h.get i = some (.tok a b) := by
  obtain ⟨hi, l0, h0, he⟩ := cut_some hl
  cases l0 with
  | arr c0 => simp [Loc.old] at he
  | tok a' b' => simp only [Loc.old, Loc.tok.injEq] at he; obtain ⟨rfl, rfl⟩ := he; exact ⟨hi, h0⟩
theorem cut_blk {i b : Nat} (hb : blk g (cutH n h).get i = some b) : blk g h.get i = some b := by
  unfold blk at hb ⊢
  split at hb
  · rename_i c hc
    obtain ⟨_, c0, h0, _⟩ := cut_arr hc
    rw [h0]; exact hb
  · rename_i a s hc
    rw [(cut_tok hc).2]; exact hb
  · cases hb

theorem CR.cut {x : C} {v : Value} (hx : CR w g h.get x v) : CR w g (cutH n h).get (x.old n) v := by
  cases x with
  | d x => exact hx
  | nil => exact hx
  | gr t es =>
    simp only [C.old]
    split
    · exact ⟨hx.1, fun m s hm => hx.2 m s (cut_tok hm).2⟩
    · exact hx.1
theorem AVR.cut {x : AV} {v : Value} (hx : AVR w g h.get x v) : AVR w g (cutH n h).get (x.old n) v := by
  cases x with
  | c x =>
    cases x with
    | d x => exact hx
    | nil => exact hx
    | gr t es =>
      simp only [AV.old]
      split
      · exact ⟨hx.1, fun m s hm => hx.2 m s (cut_tok hm).2⟩
      · exact hx.1
  | ag cs =>
    obtain ⟨vs, rfl, hr⟩ := hx
    exact ⟨vs, rfl, RelL.map (hr.imp fun x _ v h => CR.cut h)⟩
  | tu xs => exact hx
  | ref id off len =>
    simp only [AV.old]
    split
    · intro cells hc
      obtain ⟨_, c0, h0, _⟩ := cut_arr hc
      exact hx c0 h0
    · trivial
  | ptr id off =>
    simp only [AV.old]
    split
    · intro cells hc
      obtain ⟨_, c0, h0, _⟩ := cut_arr hc
      exact hx c0 h0
    · trivial
  | fptr xs => exact hx
  | top => trivial
theorem HI.cut (hi : HI w g h.get) : HI w g (cutH n h).get := by
  refine ⟨fun id cells hc => ?_, fun t a s ht => hi.tok t a s (cut_tok ht).2, fun i j b hij h1 h2 => hi.apart i j b hij (cut_blk h1) (cut_blk h2), hi.lt⟩
  obtain ⟨_, c0, h0, rfl⟩ := cut_arr hc
  obtain ⟨cur, e, k1, k2, k3, k4⟩ := hi.arr id c0 h0
  refine ⟨cur, e, k1, by simpa using k2, fun i x hx => ?_, k4⟩
  rw [List.getElem?_map] at hx
  obtain ⟨y, hy, rfl⟩ := Option.map_eq_some_iff.1 hx
  obtain ⟨v, hv, hd⟩ := k3 i y hy
  exact ⟨v, hv, CR.cut hd⟩
/-- What is forgotten at a loop's head need not be told. -/
theorem Stp.cut {w0 : World} {g0 : Gh} {H0 : HF} {B : List Nat} (st : Stp B w0 g0 H0 w g h.get) (hB : ∀ i ∈ B, n ≤ i) : Stp [] w0 g0 H0 w g (cutH n h).get := by
  refine ⟨st.os, st.tape, st.output, st.size, st.S, st.cell, fun id c _ hc => ?_, fun t a s _ ht => ?_, st.fp, fun id b hb => st.own id b (cut_blk hb), st.Snew⟩
  · obtain ⟨hi, c0, h0, rfl⟩ := cut_arr hc
    obtain ⟨c1, k1, k2, k3⟩ := st.arr id c0 (fun hm => by have := hB id hm; omega) h0
    exact ⟨c1, k1, by simpa using k2, k3⟩
  · obtain ⟨hi, h0⟩ := cut_tok ht
    exact st.tok t a s (fun hm => by have := hB t hm; omega) h0
theorem SI.head {nt : Nat} {st : St} {a : Act} (s : SI nt w g st a) (keep : List Nat) (n : Nat) : SI nt w g (st.head keep n) a := by
  refine ⟨HI.cut s.hi, fun sl => ?_, head_wf keep n st, head_wh keep n st, s.sz⟩
  show AVR w g (cutH n st.h).get ((maskF st.f n keep).get sl) _
  rw [maskF_get]
  split
  · exact AVR.cut (s.fr sl)
  · trivial
end

theorem wp_loopN {P : Program} {Q : Exit → Act → World → Prop} {c : Code} (J : Nat → Act → World → Prop) (round : ∀ n a w, J n a w → c.wp P (Exit.then (fun a' w' => ∃ m, m < n ∧ J m a' w') Q) a w) {n : Nat} {a : Act} {w : World} (h0 : J n a w) : (Code.loop c).wp P Q a w := by
  intro b k cs
  have key : ∀ n a w, J n a w → ∃ e a' w', Q e a' w' ∧ Arrives P (lone (b.at a (.code c :: .inLoop c :: k)) cs w) b k cs e a' w' := by
    intro n
    induction n using Nat.strongRecOn with
    | _ n ih =>
      intro a w hJ
      obtain ⟨e, a₁, w₁, hq, harr⟩ := round n a w hJ b (.inLoop c :: k) cs
      cases e with
      | normal =>
        obtain ⟨m, hlt, hJ₁⟩ := hq
        obtain ⟨e₂, a₂, w₂, hq₂, harr₂⟩ := ih m hlt a₁ w₁ hJ₁
        exact ⟨e₂, a₂, w₂, hq₂, .of_steps (Steps.trans harr (.one step_inLoop)) harr₂⟩
      | exit id => exact ⟨_, a₁, w₁, hq, .pass (x := .inLoop c) rfl (fun _ _ => .inl (by simp)) harr⟩
      | goto l => exact ⟨_, a₁, w₁, hq, .pass (x := .inLoop c) rfl (fun _ _ => .inl (by simp)) harr⟩
      | ret => exact ⟨_, a₁, w₁, hq, .pass (x := .inLoop c) rfl (fun _ _ => .inl (by simp)) harr⟩
      | panic ch => exact ⟨_, a₁, w₁, hq, .pass (x := .inLoop c) rfl (fun _ _ => .inl (by simp)) harr⟩
      | outgrown => exact ⟨_, a₁, w₁, hq, .pass (x := .inLoop c) rfl (fun _ _ => .inl (by simp)) harr⟩
  obtain ⟨e, a', w', hq, harr⟩ := key n a w h0
  exact ⟨e, a', w', hq, .of_steps (.one step_loop) harr⟩

def Ex.out : Ex → Exit
  | .norm => .normal
  | .exit i => .exit i
  | .ret => .ret

/-- Where code comes out. -/
def Post (nt : Nat) (st st' : St) (ex : Ex) (w : World) (g : Gh) (a : Act) : Exit → Act → World → Prop := fun e a' w' =>
  e = ex.out ∧ a'.defers = a.defers ∧ st.nx ≤ st'.nx ∧ ∃ g', SI nt w' g' st' a' ∧ Stp (bn st.nx st'.nx) w g st.h.get w' g' st'.h.get

theorem bn_trans {a b c : Nat} (h1 : a ≤ b) (h2 : b ≤ c) : ∀ i ∈ bn a b ++ bn b c, i ∈ bn a c := by
  intro i hi
  rcases List.mem_append.1 hi with hi | hi
  · have := mem_bn.1 hi; exact mem_bn.2 ⟨this.1, by omega⟩
  · have := mem_bn.1 hi; exact mem_bn.2 ⟨by omega, this.2⟩
theorem Post.from {nt : Nat} {st st1 st' : St} {ex : Ex} {w w1 : World} {g g1 : Gh} {a a1 : Act} (hd : a1.defers = a.defers) (hn : st.nx ≤ st1.nx) (hs : Stp (bn st.nx st1.nx) w g st.h.get w1 g1 st1.h.get) {e : Exit} {a' : Act} {w' : World}
    (h : Post nt st1 st' ex w1 g1 a1 e a' w') : Post nt st st' ex w g a e a' w' := by
  obtain ⟨h1, h2, h3, g', h4, h5⟩ := h
  exact ⟨h1, h2.trans hd, Nat.le_trans hn h3, g', h4, (Stp.trans hs h5).weaken (bn_trans hn h3)⟩

theorem compOpers_at {P : Program} {inl : Nat → Bool} {nt : Nat} {ops : Array Oper} : ∀ (os : List Oper) (bs : List Nat) (i : Nat) (o : Oper), os[i]? = some o → (compOpers P inl nt ops os bs)[i]? = some (compOper P inl nt ops o (bs.getD i 0))
  | [], bs, i, o, h => by simp at h
  | o' :: os, bs, 0, o, h => by
    simp only [List.getElem?_cons_zero, Option.some.injEq] at h
    subst h
    cases bs <;> simp [compOpers, List.getD]
  | o' :: os, bs, i + 1, o, h => by
    simp only [List.getElem?_cons_succ] at h
    simp only [compOpers, List.getElem?_cons_succ]
    rw [compOpers_at os bs.tail i o h]
    cases bs <;> simp [List.getD]
theorem compOpers_len {P : Program} {inl : Nat → Bool} {nt : Nat} {ops : Array Oper} : ∀ (os : List Oper) (bs : List Nat), (compOpers P inl nt ops os bs).length = os.length
  | [], bs => rfl
  | o :: os, bs => by simp [compOpers, compOpers_len os]
theorem bareOps_map : ∀ (os : List AOper), bareOps os = os.map AOper.bare
  | [] => rfl
  | o :: os => by simp [bareOps, bareOps_map os]

theorem drew_dr {w : World} {S : Nat → Nat → Prop} : ∀ b o u, S b o → w.cell? ⟨b, o, none⟩ = some u → S b o ∧ World.cell? { w with drawn := w.drawn + 1 } ⟨b, o, none⟩ = some u := fun _ _ _ h k => ⟨h, k⟩
theorem Stp.drew {w : World} {g : Gh} {H : HF} : Stp [] w g H { w with drawn := w.drawn + 1 } g H :=
  ⟨rfl, rfl, rfl, Nat.le_refl _, fun _ _ h => h, fun _ _ _ => rfl, fun id c _ hc => ⟨c, hc, rfl, rfl⟩, fun t a s _ ht => ⟨a, s, ht, Nat.le_refl _, fun _ => ⟨rfl, rfl⟩⟩, fun _ _ _ => rfl, fun id b hb => .inl ⟨id, hb⟩, fun _ _ h => .inl h⟩
theorem HI.drew {w : World} {g : Gh} {H : HF} (hi : HI w g H) : HI { w with drawn := w.drawn + 1 } g H := by
  refine ⟨fun id cells hc => ?_, hi.tok, hi.apart, hi.lt⟩
  obtain ⟨cur, e, k1, k2, k3, k4⟩ := hi.arr id cells hc
  refine ⟨cur, e, k1, k2, fun i x hx => ?_, k4⟩
  obtain ⟨v, hv, hd⟩ := k3 i x hx
  exact ⟨v, hv, CR.step Stp.drew (fun _ _ => by simp) hd⟩
theorem SI.drew {nt : Nat} {w : World} {g : Gh} {st : St} {a : Act} (s : SI nt w g st a) : SI nt { w with drawn := w.drawn + 1 } g st a :=
  ⟨s.hi.drew, fun sl => AVR.step Stp.drew (fun _ _ => by simp) (s.fr sl), s.wf, s.wh, s.sz⟩
end Go.Proofs.Ytpanbfainilmpaa.Ev
end
section
/- Code: what the machine does is what the evaluator says (all codes). -/
set_option linter.unusedVariables false
set_option linter.unusedSimpArgs false
namespace Go.Proofs.Ytpanbfainilmpaa.Ev

section
variable {P : Program} {inl : Nat → Bool} {A : Nat → Option AFunc} {X : Nat → Option (List PV → Option (List PV))} {nt : Nat}

theorem opsOk_of {ops : Array Oper} {aos : List AOper} {bs : List Nat} (h : bareOps aos = compOpers P inl nt ops ops.toList bs) (hks : ∀ o ∈ aos, ∀ c ∈ o.op.ks, c.ids = []) :
    aos.length = ops.size ∧ (∀ (i : Nat) (o : Oper) (ao : AOper), ops[i]? = some o → aos[i]? = some ao → ao.bare = compOper P inl nt ops o (bs.getD i 0)) ∧ ∀ (i : Nat) (ao : AOper), aos[i]? = some ao → ∀ c ∈ ao.op.ks, c.ids = [] := by
  rw [bareOps_map] at h
  refine ⟨?_, fun i o ao ho hao => ?_, fun i ao hao => hks ao (List.mem_of_getElem? hao)⟩
  · have := congrArg List.length h
    simpa [compOpers_len] using this
  · have h1 : (aos.map AOper.bare)[i]? = some ao.bare := by simp [hao]
    rw [h, compOpers_at ops.toList bs i o (by simpa using ho)] at h1
    exact (Option.some.inj h1).symm

/-- A region. -/
theorem reg_ok (hmix : P.follows .mixedOrders = true) {K : Or} (hK : KOk P inl K) {id : Nat} {ops : Array Oper} {draw d : Bool} {aos : List AOper} (hb : (ACode.reg d aos).bare = compReg P inl nt ops draw) (hcl : (ACode.reg d aos).cl = true) {st st' : St}
    (he : iteB d (evOpsD K 0 [] aos st) (evOps K aos st) = some st') {w : World} {g : Gh} {a : Act} (hs : SI nt w g st a) : (Code.region id ops draw).wp P (Post nt st st' .norm w g a) a w := by
  unfold compReg at hb
  cases draw with
  | false =>
    simp only [Bool.false_eq_true, if_false, ACode.bare, ACode.reg.injEq] at hb
    obtain ⟨rfl, hb⟩ := hb
    obtain ⟨k1, k2, k3⟩ := opsOk_of hb (cl_reg hcl)
    simp only [iteB] at he
    refine wp_region ?_
    rw [List.range_eq_range']
    exact seq_ok hK ⟨k1, fun i o ao ho hao => ⟨⟨_, k2 i o ao ho hao⟩, k3 i ao hao⟩⟩ ops.size 0 st w g a (by omega) (by simpa using he) hs fun w' g' a' h1 h2 h3 h4 => ⟨rfl, h3, h4, g', h1, h2⟩
  | true =>
    simp only [if_true] at hb
    split at hb
    case isFalse => simp [ACode.bare] at hb
    rename_i hok
    simp only [ACode.bare, ACode.reg.injEq] at hb
    obtain ⟨rfl, hb⟩ := hb
    obtain ⟨k1, k2, k3⟩ := opsOk_of hb (cl_reg hcl)
    simp only [iteB] at he
    simp only [Bool.and_eq_true] at hok
    obtain ⟨S, R, h1, h2, h3, _, h5⟩ := evOpsD_run he
    simp only [Nat.zero_add, k1] at h1 h2 h3 h5
    subst h1
    have r : Run P inl nt ops K aos S R := by
      refine ⟨hK, k1, k2, k3, h3, h5, fun i o ho e hee hbind => ?_, fun i j oi oj hoi hoj => ?_, hs.wf, hs.wh⟩
      · have := hok.1
        simp only [edgesOk, List.all_eq_true] at this
        have := this (o, i) (by rw [List.mem_zipIdx_iff_getElem?]; simpa using ho) e hee
        simp only [hbind, Bool.not_true, Bool.false_or, decide_eq_true_eq] at this
        exact this
      · have hh := hok.2
        rw [← hb, bareOps_map] at hh
        simp only [slotsOk, List.all_eq_true] at hh
        have := hh (oi.bare, i) (by rw [List.mem_zipIdx_iff_getElem?]; simp [hoi]) (oj.bare, j) (by rw [List.mem_zipIdx_iff_getElem?]; simp [hoj])
        simp only [slotFits, bare_us'] at this ⊢
        exact this
    refine wp_region_any hmix ?_
    have hs' := hs.drew
    have hH : HL ops.size S R (fun _ => false) = (S 0).h.get := by
      funext x
      simp only [HL]
      rw [lastOf_none fun j hj => by simp]
      rfl
    have hF : ∀ s, FL ops.size aos S R (fun _ => false) s = (S 0).f.get s := by
      intro s
      simp only [FL]
      rw [lastOf_none fun j hj => by simp]
      rfl
    have hLf : ∀ (i : Nat), i < ops.size → (Array.replicate ops.size false).getD i true = false := by
      intro i hi
      simp [Array.getD, hi]
    have hL2 : HL ops.size S R (fun j => (Array.replicate ops.size false).getD j true) = (S 0).h.get := by
      rw [← hH]
      funext x
      simp only [HL]
      congr 1
      exact lastOf_congr fun j hj => by simp only [hLf j hj]
    have hF2 : ∀ s, FL ops.size aos S R (fun j => (Array.replicate ops.size false).getD j true) s = (S 0).f.get s := by
      intro s
      rw [← hF]
      simp only [FL]
      congr 1
      exact lastOf_congr fun j hj => by simp only [hLf j hj]
    refine r.any (w0 := w) (g0 := g) (a0 := a) (fun w' g' a' q1 q2 q3 => ?_) ops.size (Array.replicate ops.size false) _ g a (by simp) ?_ ?_
    · rw [h2] at q1 q2
      refine ⟨rfl, q3, ?_, g', q1, q2⟩
      rw [← h2]
      exact r.nx_le (Nat.zero_le _) (Nat.le_refl _)
    · exact Nat.le_trans (List.length_filter_le _ _) (by simp)
    · refine ⟨by rw [hL2]; exact hs'.hi, fun s => by rw [hL2, hF2]; exact hs'.fr s, hs.sz, ?_, rfl, fun j o ho hL => ?_⟩
      · rw [hL2]
        exact Stp.drew.weaken (by simp)
      · have := hLf j (Array.getElem?_eq_some_iff.1 ho).1
        rw [this] at hL
        cases hL

/-- All codes, with fuel n. -/
theorem code_at (hmix : P.follows .mixedOrders = true) (hA : ∀ f fn, A f = some fn → fn.body.cl = true) : ∀ (n : Nat), (∀ m, m < n → KOk P inl (mkK A X m)) → ∀ (c : Code) (c' : ACode) (st : St) (q : Ex × St), c'.bare = comp P inl nt c → c'.cl = true → evC A X n c' st = some q →
    ∀ (w : World) (g : Gh) (a : Act), SI nt w g st a → c.wp P (Post nt st q.2 q.1 w g a) a w := by
  intro n
  induction n using Nat.strongRecOn with
  | _ n ih =>
    intro hK c c' st q hb hcl he w g a hs
    cases n with
    | zero => rw [evC] at he; cases he
    | succ n =>
      have ihn := ih n (Nat.lt_succ_self n) fun m hm => hK m (Nat.lt_succ_of_lt hm)
      cases c' with
      | bad => rw [evC] at he; cases he
      | skip =>
        rw [evC] at he; cases he
        cases c <;> simp only [comp, compReg, ACode.bare] at hb <;> first | (cases hb; done) | skip
        all_goals first
          | exact wp_skip ⟨rfl, rfl, Nat.le_refl _, g, hs, by rw [bn_self]; exact Stp.refl _ _ _⟩
          | (repeat' split at hb) <;> cases hb
      | exit id =>
        rw [evC] at he; cases he
        cases c <;> simp only [comp, compReg, ACode.bare] at hb <;> first | (cases hb; done) | skip
        all_goals first
          | (cases hb; exact wp_exit ⟨rfl, rfl, Nat.le_refl _, g, hs, by rw [bn_self]; exact Stp.refl _ _ _⟩)
          | (repeat' split at hb) <;> cases hb
      | ret =>
        rw [evC] at he; cases he
        cases c <;> simp only [comp, compReg, ACode.bare] at hb <;> first | (cases hb; done) | skip
        all_goals first
          | exact wp_ret ⟨rfl, rfl, Nat.le_refl _, g, hs, by rw [bn_self]; exact Stp.refl _ _ _⟩
          | (repeat' split at hb) <;> cases hb
      | reg d ops =>
        rw [evC_reg] at he
        simp only [bindO_eq] at he
        obtain ⟨st', he, hq⟩ := he
        cases hq
        cases c with
        | region id ops' draw => exact reg_ok hmix (hK n (Nat.lt_succ_self n)) hb hcl he hs
        | _ => simp only [comp, ACode.bare] at hb <;> first | (cases hb; done) | ((repeat' split at hb) <;> cases hb)
      | seq x y =>
        cases c with
        | seq c1 c2 =>
          simp only [comp, ACode.bare, ACode.seq.injEq] at hb
          simp only [ACode.cl, Bool.and_eq_true] at hcl
          rw [evC] at he
          simp only [bindO_eq] at he
          obtain ⟨q1, hq1, he⟩ := he
          refine wp_seq (wp_mono (ihn c1 x st q1 hb.1 hcl.1 hq1 w g a hs) fun e a' w' hp => ?_)
          obtain ⟨h1, h2, h3, g', h4, h5⟩ := hp
          subst h1
          cases hx : q1.1 with
          | norm =>
            rw [hx] at he
            exact wp_mono (ihn c2 y q1.2 q hb.2 hcl.2 he w' g' a' h4) fun e a2 w2 hp => Post.from h2 h3 h5 hp
          | exit i => rw [hx] at he; cases he; exact ⟨rfl, h2, h3, g', h4, h5⟩
          | ret => rw [hx] at he; cases he; exact ⟨rfl, h2, h3, g', h4, h5⟩
        | _ => simp only [comp, compReg, ACode.bare] at hb <;> first | (cases hb; done) | ((repeat' split at hb) <;> cases hb)
      | cond x a1 a2 =>
        cases c with
        | cond cx c1 c2 =>
          simp only [comp] at hb
          split at hb
          · rename_i y hy
            simp only [ACode.bare, ACode.cond.injEq] at hb
            obtain ⟨rfl, hb1, hb2⟩ := hb
            simp only [ACode.cl, Bool.and_eq_true] at hcl
            rw [evC] at he
            simp only [bindO_eq] at he
            obtain ⟨b, hbq, he⟩ := he
            have hv := asBool_val hbq (compA_ok hy fun s _ => hs.fr s)
            refine wp_cond hv ?_
            cases b
            · exact ihn c2 a2 st q hb2 hcl.2 he w g a hs
            · exact ihn c1 a1 st q hb1 hcl.1 he w g a hs
          · cases hb
        | _ => simp only [comp, compReg, ACode.bare] at hb <;> first | (cases hb; done) | ((repeat' split at hb) <;> cases hb)
      | block id x =>
        cases c with
        | block id' c1 =>
          simp only [comp, ACode.bare, ACode.block.injEq] at hb
          obtain ⟨rfl, hb⟩ := hb
          rw [evC] at he
          simp only [bindO_eq] at he
          obtain ⟨q1, hq1, he⟩ := he
          refine wp_block (wp_mono (ihn c1 x st q1 hb hcl hq1 w g a hs) fun e a' w' hp => ?_)
          obtain ⟨h1, h2, h3, g', h4, h5⟩ := hp
          subst h1
          cases hx : q1.1 with
          | norm => rw [hx] at he; cases he; exact ⟨rfl, h2, h3, g', h4, h5⟩
          | exit i =>
            rw [hx] at he
            simp only at he
            simp only [Ex.out, Exit.inBlock]
            split at he
            · rename_i hi; rw [if_pos hi]; cases he; exact ⟨rfl, h2, h3, g', h4, h5⟩
            · rename_i hi; rw [if_neg hi]; cases he; exact ⟨rfl, h2, h3, g', h4, h5⟩
          | ret => rw [hx] at he; cases he; exact ⟨rfl, h2, h3, g', h4, h5⟩
        | _ => simp only [comp, compReg, ACode.bare] at hb <;> first | (cases hb; done) | ((repeat' split at hb) <;> cases hb)
      | loop keep x =>
        cases c with
        | loop c1 =>
          simp only [comp, ACode.bare, ACode.loop.injEq, true_and] at hb
          refine wp_loopN (n := n + 1) (fun m a1 w1 => m ≤ n + 1 ∧ ∃ g1 s1, s1.nx = st.nx ∧ evC A X m (.loop keep x) s1 = some q ∧ SI nt w1 g1 s1 a1 ∧ (∀ e a' w', Post nt s1 q.2 q.1 w1 g1 a1 e a' w' → Post nt st q.2 q.1 w g a e a' w')) (fun m a1 w1 hJ => ?_) ⟨Nat.le_refl _, g, st, rfl, he, hs, fun _ _ _ h => h⟩
          obtain ⟨hm, g1, s1, hnx, he1, hs1, hfrom⟩ := hJ
          cases m with
          | zero => rw [evC] at he1; cases he1
          | succ m =>
            rw [evC] at he1
            simp only [bindO_eq] at he1
            obtain ⟨q1, hq1, he1⟩ := he1
            have hhead := hs1.head keep s1.nx
            have hcut : Stp [] w1 g1 s1.h.get w1 g1 (cutH s1.nx s1.h).get := Stp.cut (Stp.refl _ _ _) (by simp)
            refine wp_mono (ih m (by omega) (fun k hk => hK k (by omega)) c1 x (s1.head keep s1.nx) q1 hb hcl hq1 w1 g1 a1 hhead) fun e a' w' hp => ?_
            obtain ⟨h1, h2, h3, g', h4, h5⟩ := hp
            have h3' : s1.nx ≤ q1.2.nx := h3
            have h5' : Stp (bn s1.nx q1.2.nx) w1 g1 s1.h.get w' g' q1.2.h.get := (Stp.trans hcut h5).weaken (by simp [St.head])
            subst h1
            cases hx : q1.1 with
            | norm =>
              rw [hx] at he1
              refine ⟨m, Nat.lt_succ_self m, by omega, g', q1.2.head keep s1.nx, hnx, he1, h4.head keep s1.nx, fun e a2 w2 hp => hfrom e a2 w2 ?_⟩
              have h6 : Stp [] w1 g1 s1.h.get w' g' (q1.2.head keep s1.nx).h.get := Stp.cut h5' fun i hi => (mem_bn.1 hi).1
              refine Post.from (st := s1) (st1 := q1.2.head keep s1.nx) h2 (Nat.le_refl _) (h6.weaken (by simp)) hp
            | exit i => rw [hx] at he1; cases he1; exact hfrom _ _ _ ⟨rfl, h2, h3', g', h4, h5'⟩
            | ret => rw [hx] at he1; cases he1; exact hfrom _ _ _ ⟨rfl, h2, h3', g', h4, h5'⟩
        | _ => simp only [comp, compReg, ACode.bare] at hb <;> first | (cases hb; done) | ((repeat' split at hb) <;> cases hb)
end
end Go.Proofs.Ytpanbfainilmpaa.Ev
end
section
/- Functions: what the evaluator may call is what the program does. -/
set_option linter.unusedVariables false
set_option linter.unusedSimpArgs false
namespace Go.Proofs.Ytpanbfainilmpaa.Ev

def okR (P : Program) : ResultVar → Bool
  | .tmp _ => true
  | .cell _ t => (P.underlying t).isSome && decide (0 < szOf P t)
def okF (P : Program) (fn : Func) : Bool := (fn.name != "runtime.NumGoroutine") && fn.body.isSome && fn.results.toList.all (okR P)

/-- The evaluator's tables are the program's. -/
structure Env (P : Program) (inl : Nat → Bool) (A : Nat → Option AFunc) (X : Nat → Option (List PV → Option (List PV))) : Prop where
  mixed : P.follows .mixedOrders = true
  fn : ∀ f fn', A f = some fn' → ∃ fn, P.funcs[f]? = some fn ∧ fn'.bare = compF P inl fn ∧ fn'.body.cl = true ∧ okF P fn = true
  ext : ∀ f e, X f = some e → ∀ args rs, e args = some rs → FnOk P f args rs

/-- Everything that a state stands on. -/
def Sall (g : Gh) (H : HF) : Nat → Nat → Prop := fun b o => g.S b o ∨ ∃ id, blk g H id = some b
theorem Sall.of_sp {w : World} {g : Gh} {H : HF} {ids : List Nat} : ∀ b o u, Sp g H ids b o → w.cell? ⟨b, o, none⟩ = some u → Sall g H b o ∧ w.cell? ⟨b, o, none⟩ = some u := by
  intro b o u h k
  refine ⟨?_, k⟩
  rcases h with h | ⟨i, _, hb⟩
  · exact .inl h
  · exact .inr ⟨i, hb⟩
theorem Sall.of_s {w : World} {g : Gh} {H : HF} : ∀ b o u, g.S b o → w.cell? ⟨b, o, none⟩ = some u → Sall g H b o ∧ w.cell? ⟨b, o, none⟩ = some u := fun _ _ _ h k => ⟨.inl h, k⟩

/-- Results as one value. -/
def outV : List Value → Value
  | [v] => v
  | vs => .tuple vs.toArray

def runR (tmps : Array Value) : ResultVar → Sem Value
  | .tmp t => pure (tmps.getD t undef)
  | .cell a t => do loadVar t (← asAddr (tmps.getD a undef))

section
variable {P : Program} {inl : Nat → Bool} {nt : Nat} {w : World} {g : Gh} {st : St} {a : Act}

theorem resOne_ok (hs : SI nt w g st a) {r : ResultVar} {ty : TypeId} (hok : okR P r = true) {p : PV} (h : resOne st.f st.h (compRes P r ty) = some p) : ∃ v, (runR a.tmps r).run P w = .ok v w ∧ PR w (Sall g st.h.get) p v := by
  cases r with
  | tmp t =>
    simp only [compRes, resOne, bindO_eq] at h
    obtain ⟨q, hq, he⟩ := h
    cases he
    exact ⟨_, rfl, PR.move Sall.of_sp (toPV_ok hs.hi hq (hs.fr t) fun _ _ => rfl)⟩
  | cell c t =>
    simp only [okR, Bool.and_eq_true, decide_eq_true_eq] at hok
    obtain ⟨hu, h0⟩ := hok
    simp only [compRes] at h
    split at h
    · rename_i hagg
      simp only [resOne] at h
      split at h
      · rename_i id off hx
        split at h
        · rename_i cells hcells
          split at h
          · rename_i hl
            cases h
            have hv := hs.fr c
            rw [hx] at hv
            have e1 := hv cells hcells
            obtain ⟨vs, k1, k2, k3⟩ := arr_vals hs.hi hcells hl
            refine ⟨.agg vs.toArray, ?_, vs, rfl, RelL.map (k2.imp fun _ _ _ h => DR.move Sall.of_s (CR.toD h))⟩
            have := loadVar_agg (P := P) (w := w) (t := t) (b := g.β id) (off := off) (vs := vs) (isSome_ex hu) h0 hagg (by rw [k1]) (fun j v hv => k3 j v hv)
            simp [runR, e1, asAddr, this]
          · cases h
        · cases h
      · cases h
    · rename_i hagg
      simp only [resOne] at h
      split at h
      · rename_i id off hx
        split at h
        · rename_i cells hcells
          split at h
          · rename_i x hxx
            cases h
            have hv := hs.fr c
            rw [hx] at hv
            have e1 := hv cells hcells
            obtain ⟨v, k1, k2⟩ := arr_val hs.hi hcells hxx
            refine ⟨v, ?_, DR.move Sall.of_s (CR.toD k2)⟩
            have := loadVar_one (P := P) (w := w) (t := t) (b := g.β id) (off := off) (v := v) (isSome_ex hu) (by simpa using hagg) k1
            simp [runR, e1, asAddr, this]
          · cases h
        · cases h
      · cases h

theorem resAll_ok (hs : SI nt w g st a) : ∀ {rs : List ResultVar} {ts : List TypeId} {ps : List PV}, rs.all (okR P) = true → resAll st.f st.h (compRess P rs ts) = some ps → ∃ vs : List Value, (rs.mapM (runR a.tmps)).run P w = .ok vs w ∧ RelL (PR w (Sall g st.h.get)) ps vs
  | [], ts, ps, _, h => by
    simp only [compRess, resAll, Option.some.injEq] at h
    subst h
    exact ⟨[], by simp, .nil⟩
  | r :: rs, ts, ps, hok, h => by
    simp only [List.all_cons, Bool.and_eq_true] at hok
    simp only [compRess, resAll, bindO_eq] at h
    obtain ⟨p, hp, qs, hq, he⟩ := h
    cases he
    obtain ⟨v, k1, k2⟩ := resOne_ok hs hok.1 hp
    obtain ⟨vs, k3, k4⟩ := resAll_ok hs hok.2 hq
    refine ⟨v :: vs, ?_, .cons k2 k4⟩
    simp [List.mapM_cons, k1, k3]

theorem run_results {fn : Func} {tmps : Array Value} {vs : List Value} (h : (fn.results.toList.mapM (runR tmps)).run P w = .ok vs w) : (results fn tmps).run P w = .ok (outV vs) w := by
  have e : results fn tmps = (do let vs ← fn.results.mapM (runR tmps); pure (if h : vs.size = 1 then vs[0] else .tuple vs)) := by
    unfold results runR
    rfl
  rw [e, Array.mapM_eq_mapM_toList]
  simp only [Sem.run_bind, Sem.run_map, h, Result.andThen_ok, Sem.run_pure]
  congr 1
  match vs with
  | [] => simp [outV]
  | [v] => simp [outV]
  | v :: u :: r => simp [outV]
end
end Go.Proofs.Ytpanbfainilmpaa.Ev
end
section
/- Functions by value and in place, with any fuel. -/
set_option linter.unusedVariables false
set_option linter.unusedSimpArgs false
namespace Go.Proofs.Ytpanbfainilmpaa.Ev

theorem toAV_ok {w : World} {g : Gh} {H : HF} {p : PV} {v : Value} (h : PR w g.S p v) : AVR w g H p.toAV v := by
  cases p with
  | one x => exact h
  | agg xs =>
    obtain ⟨vs, rfl, hr⟩ := h
    exact ⟨vs, rfl, RelL.map (R := CR w g H) (f := C.d) hr⟩

theorem PRs_of {w : World} {S : Nat → Nat → Prop} {ps : List PV} {vs : List Value} (h : RelL (PR w S) ps vs) : PRs w S ps (outV vs) := by
  match ps, vs, h with
  | [], [], h => exact ⟨[], rfl, h⟩
  | [p], [v], h => exact h.head
  | p :: q :: r, v :: u :: t, h => exact ⟨_, rfl, h⟩
  | [], v :: t, h => have := h.1; simp at this
  | [p], [], h => have := h.1; simp at this
  | [p], v :: u :: t, h => have := h.1; simp at this
  | p :: q :: r, [], h => have := h.1; simp at this
  | p :: q :: r, [v], h => have := h.1; simp at this

theorem args_get {vs : List Value} {n s : Nat} : (vs.toArray ++ Array.replicate n undef).getD s undef = (vs[s]?).getD undef := by
  rw [Array.getD_eq_getD_getElem?]
  by_cases h : s < vs.length
  · rw [Array.getElem?_append_left (by simpa using h)]; simp
  · rw [Array.getElem?_append_right (by simpa using h)]
    simp only [List.size_toArray, Array.getElem?_replicate, List.getElem?_eq_none (Nat.le_of_not_lt h)]
    split <;> rfl

section
variable {P : Program} {inl : Nat → Bool} {A : Nat → Option AFunc} {X : Nat → Option (List PV → Option (List PV))}

theorem enter_ok {f : FuncId} {fn : Func} (hf : P.funcs[f]? = some fn) (hok : okF P fn = true) (vs : Array Value) (w : World) : ∃ c, fn.body = some c ∧ (callFunc f vs).run P w = .ok (.enter f vs) w := by
  simp only [okF, Bool.and_eq_true, bne_iff_ne, ne_eq] at hok
  obtain ⟨⟨h1, h2⟩, _⟩ := hok
  obtain ⟨c, hc⟩ := isSome_ex h2
  refine ⟨c, hc, ?_⟩
  simp [callFunc, run_program, hf, h1, hc]

theorem fn_call (env : Env P inl A X) (n : Nat) (hK : ∀ m, m < n → KOk P inl (mkK A X m)) (f : Nat) (args rs : List PV) (h : (mkK A X n).call f args = some rs) : FnOk P f args rs := by
  simp only [mkK] at h
  split at h
  · rename_i e he; exact env.ext f e he args rs h
  · simp only [bindO_eq] at h
    obtain ⟨fn', hA, h⟩ := h
    split at h
    case isFalse => cases h
    simp only [bindO_eq] at h
    obtain ⟨q, hq, h⟩ := h
    obtain ⟨fn, hf, hb, hcl, hok⟩ := env.fn f fn' hA
    intro w S vs hlt hargs
    obtain ⟨c, hc, hrun⟩ := enter_ok hf hok vs.toArray w
    refine .inl ⟨hrun, ?_⟩
    have hbody : fn'.body.bare = comp P inl fn.ntmps c := by
      have := congrArg AFunc.body hb
      simpa [AFunc.bare, compF, hc] using this
    have hres : fn'.res = compRess P fn.results.toList fn.resultTypes.toList := by
      have := congrArg AFunc.res hb
      simpa [AFunc.bare, compF] using this
    let g0 : Gh := ⟨S, fun _ => 0, fun _ => undef⟩
    let st0 : St := ⟨initF 0 (args.map PV.toAV), [], 0⟩
    have hs0 : SI fn.ntmps w g0 st0 { tmps := vs.toArray ++ Array.replicate (fn.ntmps - vs.toArray.size) undef, defers := [] } := by
      refine ⟨⟨fun id cells hc => by simp [st0, Hp.get] at hc, fun t a s ht => by simp [st0, Hp.get] at ht, fun i j b _ hi => by simp [blk, st0, Hp.get] at hi, hlt⟩, fun s => ?_, initF_wf fun v hv => ?_, fun e he => (by cases he), by simp; omega⟩
      · show AVR w g0 _ ((initF 0 (args.map PV.toAV)).get s) _
        rw [args_get, initF_get]
        simp only [Nat.zero_le, if_true, Nat.sub_zero, List.getElem?_map]
        cases hs : args[s]? with
        | none => trivial
        | some p =>
          obtain ⟨v, hv, hd⟩ := hargs.get hs
          rw [hv]
          exact toAV_ok hd
      · obtain ⟨p, _, rfl⟩ := List.mem_map.1 hv
        rw [PV.toAV_ids]
        exact Lt.nil
    refine calls_of_wp hf hc (wp_mono (code_at env.mixed (fun f fn hA => let ⟨_, _, _, h, _⟩ := env.fn f fn hA; h) n hK c fn'.body st0 q hbody hcl hq w g0 _ hs0) fun e a' w' hp => ?_)
    obtain ⟨h1, h2, h3, g', h4, h5⟩ := hp
    have hfin : resAll q.2.f q.2.h fn'.res = some rs → a'.defers = [] ∧ ∃ v, (results fn a'.tmps).run P w' = .ok v w' ∧ RowKit.Below w.heap.size w w' ∧ PRs w' (fun b o => S b o ∨ (w.heap.size ≤ b ∧ b < w'.heap.size)) rs v := by
      intro hr
      rw [hres] at hr
      simp only [okF, Bool.and_eq_true] at hok
      obtain ⟨us, k1, k2⟩ := resAll_ok h4 hok.2 hr
      have hnob : ∀ id b, blk g0 st0.h.get id ≠ some b := fun id b hb => by simp [blk, st0, Hp.get] at hb
      refine ⟨h2, _, run_results k1, ⟨h5.os, h5.tape, h5.output, h5.size, fun k hk => h5.fp k hk fun id => hnob id k⟩, PRs.move (fun b o u hb hu => ⟨?_, hu⟩) (PRs_of k2)⟩
      rcases hb with hb | ⟨id, hb⟩
      · rcases h5.Snew b o hb with hb' | ⟨j, hj⟩ | hb'
        · exact .inl hb'
        · exact absurd hj (hnob j b)
        · exact .inr ⟨hb', h4.hi.lt b o hb⟩
      · rcases h5.own id b hb with ⟨j, hj⟩ | hb'
        · exact absurd hj (hnob j b)
        · exact .inr ⟨hb', h4.hi.blk_lt hb⟩
    subst h1
    cases hx : q.1 with
    | norm =>
      rw [hx] at h
      obtain ⟨r1, v, r2, r3⟩ := hfin h
      exact ⟨r1, v, r2, r3⟩
    | ret =>
      rw [hx] at h
      obtain ⟨r1, v, r2, r3⟩ := hfin h
      exact ⟨r1, v, r2, r3⟩
    | exit i => rw [hx] at h; cases h

theorem fn_icall (env : Env P inl A X) (n : Nat) (hK : ∀ m, m < n → KOk P inl (mkK A X m)) (f : Nat) (vs : List AV) (h : Hp) (nx : Nat) (q : AV × Hp × Nat) (hq : (mkK A X n).icall f vs h nx = some q) : IFnOk P f vs h nx q := by
  simp only [mkK, bindO_eq] at hq
  obtain ⟨fn', hA, hq⟩ := hq
  split at hq
  case isFalse => cases hq
  simp only [bindO_eq] at hq
  obtain ⟨r, hr, hq⟩ := hq
  obtain ⟨fn, hf, hb, hcl, hok⟩ := env.fn f fn' hA
  intro w g us hi hwh hvs hargs
  obtain ⟨c, hc, hrun⟩ := enter_ok hf hok us.toArray w
  refine .inl ⟨hrun, ?_⟩
  have hbody : fn'.body.bare = comp P inl fn.ntmps c := by
    have := congrArg AFunc.body hb
    simpa [AFunc.bare, compF, hc] using this
  have hres : fn'.res = compRess P fn.results.toList fn.resultTypes.toList := by
    have := congrArg AFunc.res hb
    simpa [AFunc.bare, compF] using this
  have hs0 : SI fn.ntmps w g ⟨initF 0 vs, h, nx⟩ { tmps := us.toArray ++ Array.replicate (fn.ntmps - us.toArray.size) undef, defers := [] } := by
    refine ⟨hi, fun s => ?_, initF_wf hvs, hwh, by simp; omega⟩
    show AVR w g _ ((initF 0 vs).get s) _
    rw [args_get, initF_get]
    simp only [Nat.zero_le, if_true, Nat.sub_zero]
    cases hs : vs[s]? with
    | none => trivial
    | some p =>
      obtain ⟨v, hv, hd⟩ := hargs.get hs
      rw [hv]
      exact hd
  refine calls_of_wp hf hc (wp_mono (code_at env.mixed (fun f fn hA => let ⟨_, _, _, h, _⟩ := env.fn f fn hA; h) n hK c fn'.body ⟨initF 0 vs, h, nx⟩ r hbody hcl hr w g _ hs0) fun e a' w' hp => ?_)
  obtain ⟨h1, h2, h3, g', h4, h5⟩ := hp
  have hfin : ∀ v, resIn r.2.f r.2.h fn'.res = some v → q = (v, r.2.h, r.2.nx) → a'.defers = [] ∧ ∃ u, (results fn a'.tmps).run P w' = .ok u w' ∧ ∃ g', HI w' g' q.2.1.get ∧ Stp (bn nx q.2.2) w g h.get w' g' q.2.1.get ∧ AVR w' g' q.2.1.get q.1 u := by
    intro v hv he
    subst he
    rw [hres] at hv
    simp only [okF, Bool.and_eq_true] at hok
    unfold resIn at hv
    split at hv
    · rename_i hnil
      cases hv
      have : fn.results.toList = [] := by
        cases hl : fn.results.toList with
        | nil => rfl
        | cons x t => rw [hl] at hnil; simp [compRess] at hnil
      have hrr := run_results (P := P) (w := w') (fn := fn) (tmps := a'.tmps) (vs := []) (by rw [this]; simp)
      exact ⟨h2, _, hrr, g', h4.hi, h5, [], rfl, .nil⟩
    · rename_i s es hone
      cases hv
      have : fn.results.toList = [.tmp s] := by
        cases hl : fn.results.toList with
        | nil => rw [hl] at hone; simp [compRess] at hone
        | cons x t =>
          rw [hl] at hone
          simp only [compRess, List.cons.injEq] at hone
          cases t with
          | nil =>
            cases x with
            | tmp y => simp only [compRes, ARes.t.injEq] at hone; rw [hone.1.1]
            | cell y z => simp only [compRes] at hone; split at hone <;> simp at hone
          | cons y t => simp [compRess] at hone
      have hrr := run_results (P := P) (w := w') (fn := fn) (tmps := a'.tmps) (vs := [a'.tmps.getD s undef]) (by rw [this]; simp [runR])
      exact ⟨h2, _, hrr, g', h4.hi, h5, h4.fr s⟩
    · simp only [bindO_eq] at hv
      obtain ⟨b, hb, hv⟩ := hv
      split at hv
      case isFalse => cases hv
      rename_i hflat
      cases hv
      obtain ⟨us', k1, k2⟩ := resAll_ok h4 hok.2 hb
      exact ⟨h2, _, run_results k1, g', h4.hi, h5, PRs.out (PRs.flat (PRs_of k2) hflat _ _)⟩
  subst h1
  cases hx : r.1 with
  | norm =>
    rw [hx] at hq
    simp only [bindO_eq] at hq
    obtain ⟨v, hv, he⟩ := hq
    obtain ⟨r1, u, r2, r3⟩ := hfin v hv (Option.some.inj he).symm
    exact ⟨r1, u, r2, r3⟩
  | ret =>
    rw [hx] at hq
    simp only [bindO_eq] at hq
    obtain ⟨v, hv, he⟩ := hq
    obtain ⟨r1, u, r2, r3⟩ := hfin v hv (Option.some.inj he).symm
    exact ⟨r1, u, r2, r3⟩
  | exit i => rw [hx] at hq; cases hq

/-- All calls, with any fuel. -/
theorem kOk (env : Env P inl A X) : ∀ n, KOk P inl (mkK A X n) := by
  intro n
  induction n using Nat.strongRecOn with
  | _ n ih => exact ⟨fn_call env n ih, fn_icall env n ih, mkK_wf (fun f fn hA => let ⟨_, _, _, h, _⟩ := env.fn f fn hA; h) n⟩
end
end Go.Proofs.Ytpanbfainilmpaa.Ev
end
section
/- Fuel away: the limits RUN, CALL, ICALL and their equations. -/
set_option linter.unusedVariables false
set_option linter.unusedSimpArgs false
namespace Go.Proofs.Ytpanbfainilmpaa.Ev

structure KLe (K K' : Or) : Prop where
  call : ∀ f a r, K.call f a = some r → K'.call f a = some r
  icall : ∀ f a h n r, K.icall f a h n = some r → K'.icall f a h n = some r

section
variable {K K' : Or} {draw : Bool} {f : Fr} {h : Hp} {nx : Nat}
theorem bindO_mono {α β : Type} {x : Option α} {F G : α → Option β} {r : β} (hFG : ∀ a, F a = some r → G a = some r) (hx : bindO x F = some r) : bindO x G = some r := by
  simp only [bindO_eq] at hx ⊢
  obtain ⟨a, h1, h2⟩ := hx
  exact ⟨a, h1, hFG a h2⟩
theorem doCall_mono (hK : KLe K K') {g : Nat} {as : List (Nat × AO)} {re : Re} (hre : doCall K draw f h nx g as = some re) : doCall K' draw f h nx g as = some re := by
  simp only [doCall, bindO_eq] at hre ⊢
  obtain ⟨a, ha, r, hr, hre⟩ := hre
  exact ⟨a, ha, r, hK.call _ _ _ hr, hre⟩
theorem evOp_mono (hK : KLe K K') {op : AOp} {re : Re} (hre : evOp K draw f h nx op = some re) : evOp K' draw f h nx op = some re := by
  cases op with
  | call g as => exact doCall_mono (draw := draw) hK hre
  | callv x as =>
    simp only [evOp, bindO_eq] at hre ⊢
    obtain ⟨g, hg, hre⟩ := hre
    exact ⟨g, hg, doCall_mono (draw := draw) hK hre⟩
  | icall g as =>
    simp only [evOp, doICall, bindO_eq] at hre ⊢
    obtain ⟨q, hq, hre⟩ := hre
    exact ⟨q, hK.icall _ _ _ _ _ hq, hre⟩
  | _ => exact hre
theorem evStep_mono (hK : KLe K K') {o : AOper} {st : St} {re : Re} (hre : evStep K draw o st = some re) : evStep K' draw o st = some re := by
  simp only [evStep] at hre ⊢
  split at hre
  · exact evOp_mono hK hre
  · simp only [bindO_eq] at hre ⊢
    obtain ⟨b, hb, hre⟩ := hre
    refine ⟨b, hb, ?_⟩
    split at hre
    · rename_i hc; rw [if_pos hc]; exact evOp_mono hK hre
    · rename_i hc; rw [if_neg hc]; exact hre
theorem evOps_mono (hK : KLe K K') : ∀ {os : List AOper} {st st' : St}, evOps K os st = some st' → evOps K' os st = some st'
  | [], st, st', h => h
  | o :: os, st, st', h => by
    simp only [evOps, bindO_eq] at h ⊢
    obtain ⟨re, h1, h2⟩ := h
    exact ⟨re, evStep_mono hK h1, evOps_mono hK h2⟩
theorem evOpsD_mono (hK : KLe K K') : ∀ {os : List AOper} {i : Nat} {prev : List Fp} {st st' : St}, evOpsD K i prev os st = some st' → evOpsD K' i prev os st = some st'
  | [], i, prev, st, st', h => h
  | o :: os, i, prev, st, st', h => by
    simp only [evOpsD, bindO_eq] at h ⊢
    obtain ⟨re, h1, h2⟩ := h
    refine ⟨re, evStep_mono hK h1, ?_⟩
    unfold iteB at h2 ⊢
    split at h2
    · exact evOpsD_mono hK h2
    · cases h2
end

section
variable (A : Nat → Option AFunc) (X : Nat → Option (List PV → Option (List PV)))

theorem mkK_le {n : Nat} (h : ∀ c st q, evC A X n c st = some q → evC A X (n + 1) c st = some q) : KLe (mkK A X n) (mkK A X (n + 1)) := by
  constructor
  · intro f a r hr
    simp only [mkK] at hr ⊢
    split at hr
    · exact hr
    · simp only [bindO_eq] at hr ⊢
      obtain ⟨fn, hf, hr⟩ := hr
      refine ⟨fn, hf, ?_⟩
      split at hr
      · rename_i hl
        rw [if_pos hl]
        simp only [bindO_eq] at hr ⊢
        obtain ⟨q, hq, hr⟩ := hr
        exact ⟨q, h _ _ _ hq, hr⟩
      · cases hr
  · intro f a hp nx r hr
    simp only [mkK, bindO_eq] at hr ⊢
    obtain ⟨fn, hf, hr⟩ := hr
    refine ⟨fn, hf, ?_⟩
    split at hr
    · rename_i hl
      rw [if_pos hl]
      simp only [bindO_eq] at hr ⊢
      obtain ⟨q, hq, hr⟩ := hr
      exact ⟨q, h _ _ _ hq, hr⟩
    · cases hr

theorem evC_succ : ∀ (n : Nat) (c : ACode) (st : St) (q : Ex × St), evC A X n c st = some q → evC A X (n + 1) c st = some q
  | 0, c, st, q, h => by rw [evC] at h; cases h
  | n + 1, c, st, q, h => by
    have ih := evC_succ n
    cases c with
    | skip => rw [evC] at h ⊢; exact h
    | exit id => rw [evC] at h ⊢; exact h
    | ret => rw [evC] at h ⊢; exact h
    | bad => rw [evC] at h; cases h
    | reg d ops =>
      rw [evC_reg] at h ⊢
      simp only [bindO_eq] at h ⊢
      obtain ⟨st', h, he⟩ := h
      refine ⟨st', ?_, he⟩
      cases d
      · exact evOps_mono (mkK_le A X ih) h
      · exact evOpsD_mono (mkK_le A X ih) h
    | seq a b =>
      rw [evC] at h ⊢
      simp only [bindO_eq] at h ⊢
      obtain ⟨q1, hq, h⟩ := h
      refine ⟨q1, ih _ _ _ hq, ?_⟩
      split at h
      · exact ih _ _ _ h
      · rename_i e hx
        cases he : q1.1 with
        | norm => exact absurd he hx
        | exit i => rw [he] at h; simpa using h
        | ret => rw [he] at h; simpa using h
    | cond x a b =>
      rw [evC] at h ⊢
      simp only [bindO_eq] at h ⊢
      obtain ⟨q1, hq, h⟩ := h
      refine ⟨q1, hq, ?_⟩
      cases q1
      · exact ih _ _ _ h
      · exact ih _ _ _ h
    | block id a =>
      rw [evC] at h ⊢
      simp only [bindO_eq] at h ⊢
      obtain ⟨q1, hq, h⟩ := h
      exact ⟨q1, ih _ _ _ hq, h⟩
    | loop keep a =>
      rw [evC] at h ⊢
      simp only [bindO_eq] at h ⊢
      obtain ⟨q1, hq, h⟩ := h
      refine ⟨q1, ih _ _ _ hq, ?_⟩
      split at h
      · exact ih _ _ _ h
      · rename_i e hx
        cases he : q1.1 with
        | norm => exact absurd he hx
        | exit i => rw [he] at h; simpa using h
        | ret => rw [he] at h; simpa using h
theorem evC_le {n m : Nat} (h : n ≤ m) {c : ACode} {st : St} {q : Ex × St} (hq : evC A X n c st = some q) : evC A X m c st = some q := by
  obtain ⟨k, rfl⟩ := Nat.exists_eq_add_of_le h
  induction k with
  | zero => exact hq
  | succ k ih => exact evC_succ A X _ _ _ _ (ih (Nat.le_add_right _ _))
theorem KLe.trans {a b c : Or} (h : KLe a b) (k : KLe b c) : KLe a c := ⟨fun f x r hr => k.call f x r (h.call f x r hr), fun f x y z r hr => k.icall f x y z r (h.icall f x y z r hr)⟩
theorem mkK_le' {n m : Nat} (h : n ≤ m) : KLe (mkK A X n) (mkK A X m) := by
  obtain ⟨k, rfl⟩ := Nat.exists_eq_add_of_le h
  induction k with
  | zero => exact ⟨fun _ _ _ h => h, fun _ _ _ _ _ h => h⟩
  | succ k ih => exact KLe.trans (ih (Nat.le_add_right _ _)) (mkK_le A X fun c st q => evC_succ A X _ c st q)

/-- The limit of answers that only grow. -/
noncomputable def lim {α : Type} (F : Nat → Option α) : Option α := by
  classical exact if h : ∃ n q, F n = some q then F (Classical.choose h) else none
theorem lim_eq {α : Type} {F : Nat → Option α} (hF : ∀ n m q, n ≤ m → F n = some q → F m = some q) {q : α} : lim F = some q ↔ ∃ n, F n = some q := by
  unfold lim
  split
  · rename_i h
    obtain ⟨q', hq'⟩ := Classical.choose_spec h
    constructor
    · intro he; exact ⟨_, he⟩
    · rintro ⟨n, hn⟩
      have h1 := hF _ _ _ (Nat.le_max_left n (Classical.choose h)) hn
      have h2 := hF _ _ _ (Nat.le_max_right n (Classical.choose h)) hq'
      rw [hq', ← h2, h1]
  · rename_i h
    constructor
    · intro he; cases he
    · rintro ⟨n, hn⟩; exact absurd ⟨n, q, hn⟩ h

noncomputable def RUN (c : ACode) (st : St) : Option (Ex × St) := lim fun n => evC A X n c st
noncomputable def KL : Or := ⟨fun f a => lim fun n => (mkK A X n).call f a, fun f a h nx => lim fun n => (mkK A X n).icall f a h nx⟩
theorem RUN_iff {c : ACode} {st : St} {q : Ex × St} : RUN A X c st = some q ↔ ∃ n, evC A X n c st = some q := lim_eq fun n m q h hq => evC_le A X h hq
theorem KL_call {f : Nat} {a r : List PV} : (KL A X).call f a = some r ↔ ∃ n, (mkK A X n).call f a = some r := lim_eq fun n m q h hq => (mkK_le' A X h).call _ _ _ hq
theorem KL_icall {f : Nat} {a : List AV} {h : Hp} {nx : Nat} {r : AV × Hp × Nat} : (KL A X).icall f a h nx = some r ↔ ∃ n, (mkK A X n).icall f a h nx = some r := lim_eq fun n m q h hq => (mkK_le' A X h).icall _ _ _ _ _ hq
theorem mkK_KL (n : Nat) : KLe (mkK A X n) (KL A X) := ⟨fun f a r h => (KL_call A X).2 ⟨n, h⟩, fun f a h nx r hr => (KL_icall A X).2 ⟨n, hr⟩⟩

theorem doCall_lim {draw : Bool} {f : Fr} {h : Hp} {nx g : Nat} {as : List (Nat × AO)} {re : Re} (hre : doCall (KL A X) draw f h nx g as = some re) : ∃ n, doCall (mkK A X n) draw f h nx g as = some re := by
  simp only [doCall, bindO_eq] at hre
  obtain ⟨a, ha, r, hr, hre⟩ := hre
  obtain ⟨n, hn⟩ := (KL_call A X).1 hr
  refine ⟨n, ?_⟩
  simp only [doCall, bindO_eq]
  exact ⟨a, ha, r, hn, hre⟩
theorem evOp_lim {draw : Bool} {f : Fr} {h : Hp} {nx : Nat} {op : AOp} {re : Re} (hre : evOp (KL A X) draw f h nx op = some re) : ∃ n, evOp (mkK A X n) draw f h nx op = some re := by
  cases op with
  | call g as => exact doCall_lim (draw := draw) A X hre
  | callv x as =>
    simp only [evOp, bindO_eq] at hre
    obtain ⟨g, hg, hre⟩ := hre
    obtain ⟨n, hn⟩ := doCall_lim (draw := draw) A X hre
    refine ⟨n, ?_⟩
    simp only [evOp, bindO_eq]
    exact ⟨g, hg, hn⟩
  | icall g as =>
    simp only [evOp, doICall, bindO_eq] at hre
    obtain ⟨q, hq, hre⟩ := hre
    obtain ⟨n, hn⟩ := (KL_icall A X).1 hq
    refine ⟨n, ?_⟩
    simp only [evOp, doICall, bindO_eq]
    exact ⟨q, hn, hre⟩
  | _ => exact ⟨0, hre⟩
theorem evStep_lim {draw : Bool} {o : AOper} {st : St} {re : Re} (hre : evStep (KL A X) draw o st = some re) : ∃ n, evStep (mkK A X n) draw o st = some re := by
  simp only [evStep] at hre ⊢
  split at hre
  · exact evOp_lim A X hre
  · simp only [bindO_eq] at hre ⊢
    obtain ⟨b, hb, hre⟩ := hre
    split at hre
    · rename_i hc
      obtain ⟨n, hn⟩ := evOp_lim A X hre
      exact ⟨n, b, hb, by rw [if_pos hc]; exact hn⟩
    · rename_i hc
      exact ⟨0, b, hb, by rw [if_neg hc]; exact hre⟩
theorem evOps_lim : ∀ {os : List AOper} {st st' : St}, evOps (KL A X) os st = some st' → ∃ n, evOps (mkK A X n) os st = some st'
  | [], st, st', h => ⟨0, h⟩
  | o :: os, st, st', h => by
    simp only [evOps, bindO_eq] at h
    obtain ⟨re, h1, h2⟩ := h
    obtain ⟨n, hn⟩ := evStep_lim A X h1
    obtain ⟨m, hm⟩ := evOps_lim h2
    refine ⟨max n m, ?_⟩
    simp only [evOps, bindO_eq]
    exact ⟨re, evStep_mono (mkK_le' A X (Nat.le_max_left n m)) hn, evOps_mono (mkK_le' A X (Nat.le_max_right n m)) hm⟩
theorem evOpsD_lim : ∀ {os : List AOper} {i : Nat} {prev : List Fp} {st st' : St}, evOpsD (KL A X) i prev os st = some st' → ∃ n, evOpsD (mkK A X n) i prev os st = some st'
  | [], i, prev, st, st', h => ⟨0, h⟩
  | o :: os, i, prev, st, st', h => by
    simp only [evOpsD, bindO_eq] at h
    obtain ⟨re, h1, h2⟩ := h
    unfold iteB at h2
    split at h2
    · rename_i hb
      obtain ⟨n, hn⟩ := evStep_lim A X h1
      obtain ⟨m, hm⟩ := evOpsD_lim h2
      refine ⟨max n m, ?_⟩
      simp only [evOpsD, bindO_eq]
      refine ⟨re, evStep_mono (mkK_le' A X (Nat.le_max_left n m)) hn, ?_⟩
      rw [hb]
      exact evOpsD_mono (mkK_le' A X (Nat.le_max_right n m)) hm
    · cases h2
end
end Go.Proofs.Ytpanbfainilmpaa.Ev
end
section
/- The equations of the limits: one step of code, one operation at a time. -/
set_option linter.unusedVariables false
set_option linter.unusedSimpArgs false
namespace Go.Proofs.Ytpanbfainilmpaa.Ev

section
variable (A : Nat → Option AFunc) (X : Nat → Option (List PV → Option (List PV)))

theorem RUN_eqn {c : ACode} {st : St} {F : Option (Ex × St)} (h1 : ∀ n q, evC A X n c st = some q → F = some q) (h2 : ∀ q, F = some q → ∃ n, evC A X n c st = some q) : RUN A X c st = F := by
  apply Option.ext
  intro q
  rw [RUN_iff]
  exact ⟨fun ⟨n, h⟩ => h1 n q h, h2 q⟩
theorem evC_RUN {n : Nat} {c : ACode} {st : St} {q : Ex × St} (h : evC A X n c st = some q) : RUN A X c st = some q := (RUN_iff A X).2 ⟨n, h⟩

noncomputable def thenR (b : ACode) : Option (Ex × St) → Option (Ex × St)
  | some (.norm, st) => RUN A X b st
  | some (.exit i, st) => some (.exit i, st)
  | some (.ret, st) => some (.ret, st)
  | none => none
def blockR (id : Nat) : Option (Ex × St) → Option (Ex × St)
  | some (.norm, st) => some (.norm, st)
  | some (.exit i, st) => if i = id then some (.norm, st) else some (.exit i, st)
  | some (.ret, st) => some (.ret, st)
  | none => none
/-- A loop from its head on, where number n stood as it was entered. -/
noncomputable def loopR (keep : List Nat) (n : Nat) (a : ACode) : Option (Ex × St) → Option (Ex × St)
  | some (.norm, st) => RUN A X (.loop keep a) ⟨maskF st.f n keep, cutH n st.h, n⟩
  | some (.exit i, st) => some (.exit i, st)
  | some (.ret, st) => some (.ret, st)
  | none => none
def regR : Option St → Option (Ex × St)
  | some st => some (.norm, st)
  | none => none
noncomputable def condR (a b : ACode) (st : St) : Option Bool → Option (Ex × St)
  | some true => RUN A X a st
  | some false => RUN A X b st
  | none => none
def callR (res : List ARes) : Option (Ex × St) → Option (List PV)
  | some (.norm, st) => resAll st.f st.h res
  | some (.ret, st) => resAll st.f st.h res
  | _ => none

theorem RUN_skip (st : St) : RUN A X .skip st = some (.norm, st) := RUN_eqn A X (fun n q h => by cases n with | zero => simp [evC] at h | succ n => simpa [evC] using h) fun q h => ⟨1, by simpa [evC] using h⟩
theorem RUN_exit (id : Nat) (st : St) : RUN A X (.exit id) st = some (.exit id, st) := RUN_eqn A X (fun n q h => by cases n with | zero => simp [evC] at h | succ n => simpa [evC] using h) fun q h => ⟨1, by simpa [evC] using h⟩
theorem RUN_ret (st : St) : RUN A X .ret st = some (.ret, st) := RUN_eqn A X (fun n q h => by cases n with | zero => simp [evC] at h | succ n => simpa [evC] using h) fun q h => ⟨1, by simpa [evC] using h⟩

theorem thenR_some {b : ACode} {x : Option (Ex × St)} {q : Ex × St} : thenR A X b x = some q ↔ ∃ q1, x = some q1 ∧ (match q1.1 with | .norm => RUN A X b q1.2 | e => some (e, q1.2)) = some q := by
  cases x with
  | none => simp [thenR]
  | some p =>
    obtain ⟨e, st⟩ := p
    cases e <;> simp [thenR]
theorem RUN_seq (a b : ACode) (st : St) : RUN A X (.seq a b) st = thenR A X b (RUN A X a st) := by
  refine RUN_eqn A X (fun n q h => ?_) fun q h => ?_
  · cases n with
    | zero => simp [evC] at h
    | succ n =>
      rw [evC] at h
      simp only [bindO_eq] at h
      obtain ⟨q1, h1, h2⟩ := h
      rw [evC_RUN A X h1, thenR_some]
      refine ⟨q1, rfl, ?_⟩
      cases he : q1.1 with
      | norm => simp only [he] at h2 ⊢; exact evC_RUN A X h2
      | exit i => simp only [he] at h2 ⊢; exact h2
      | ret => simp only [he] at h2 ⊢; exact h2
  · rw [thenR_some] at h
    obtain ⟨q1, h1, h2⟩ := h
    obtain ⟨n, hn⟩ := (RUN_iff A X).1 h1
    cases he : q1.1 with
    | norm =>
      simp only [he] at h2
      obtain ⟨m, hm⟩ := (RUN_iff A X).1 h2
      refine ⟨max n m + 1, ?_⟩
      rw [evC]
      simp only [bindO_eq]
      refine ⟨q1, evC_le A X (Nat.le_max_left n m) hn, ?_⟩
      simp only [he]
      exact evC_le A X (Nat.le_max_right n m) hm
    | exit i =>
      simp only [he] at h2
      refine ⟨n + 1, ?_⟩
      rw [evC]
      simp only [bindO_eq]
      refine ⟨q1, hn, ?_⟩
      simp only [he]; exact h2
    | ret =>
      simp only [he] at h2
      refine ⟨n + 1, ?_⟩
      rw [evC]
      simp only [bindO_eq]
      refine ⟨q1, hn, ?_⟩
      simp only [he]; exact h2
theorem RUN_block (id : Nat) (a : ACode) (st : St) : RUN A X (.block id a) st = blockR id (RUN A X a st) := by
  have hb : ∀ {q1 q : Ex × St}, (match q1.1 with | .exit i => if i = id then some (Ex.norm, q1.2) else some (.exit i, q1.2) | e => some (e, q1.2)) = some q ↔ blockR id (some q1) = some q := by
    intro q1 q
    obtain ⟨e, s⟩ := q1
    cases e <;> simp [blockR]
  refine RUN_eqn A X (fun n q h => ?_) fun q h => ?_
  · cases n with
    | zero => simp [evC] at h
    | succ n =>
      rw [evC] at h
      simp only [bindO_eq] at h
      obtain ⟨q1, h1, h2⟩ := h
      rw [evC_RUN A X h1]
      exact hb.1 h2
  · cases hr : RUN A X a st with
    | none => rw [hr] at h; simp [blockR] at h
    | some q1 =>
      obtain ⟨n, hn⟩ := (RUN_iff A X).1 hr
      refine ⟨n + 1, ?_⟩
      rw [evC]
      simp only [bindO_eq]
      refine ⟨q1, hn, ?_⟩
      rw [hr] at h
      exact hb.2 h
theorem RUN_loop (keep : List Nat) (a : ACode) (st : St) : RUN A X (.loop keep a) st = loopR A X keep st.nx a (RUN A X a ⟨maskF st.f st.nx keep, cutH st.nx st.h, st.nx⟩) := by
  refine RUN_eqn A X (fun n q h => ?_) fun q h => ?_
  · cases n with
    | zero => simp [evC] at h
    | succ n =>
      rw [evC] at h
      simp only [bindO_eq, St.head] at h
      obtain ⟨q1, h1, h2⟩ := h
      rw [evC_RUN A X h1]
      obtain ⟨e, s⟩ := q1
      cases e with
      | norm => exact evC_RUN A X h2
      | exit i => exact h2
      | ret => exact h2
  · cases hr : RUN A X a ⟨maskF st.f st.nx keep, cutH st.nx st.h, st.nx⟩ with
    | none => rw [hr] at h; simp [loopR] at h
    | some q1 =>
      obtain ⟨n, hn⟩ := (RUN_iff A X).1 hr
      rw [hr] at h
      obtain ⟨e, s⟩ := q1
      cases e with
      | norm =>
        obtain ⟨m, hm⟩ := (RUN_iff A X).1 (show RUN A X (.loop keep a) ⟨maskF s.f st.nx keep, cutH st.nx s.h, st.nx⟩ = some q from h)
        refine ⟨max n m + 1, ?_⟩
        rw [evC]
        simp only [bindO_eq, St.head]
        exact ⟨_, evC_le A X (Nat.le_max_left n m) hn, evC_le A X (Nat.le_max_right n m) hm⟩
      | exit i =>
        refine ⟨n + 1, ?_⟩
        rw [evC]
        simp only [bindO_eq, St.head]
        exact ⟨_, hn, h⟩
      | ret =>
        refine ⟨n + 1, ?_⟩
        rw [evC]
        simp only [bindO_eq, St.head]
        exact ⟨_, hn, h⟩
theorem RUN_cond (x : AO) (a b : ACode) (st : St) : RUN A X (.cond x a b) st = condR A X a b st (asBool (x.ev st.f)) := by
  refine RUN_eqn A X (fun n q h => ?_) fun q h => ?_
  · cases n with
    | zero => simp [evC] at h
    | succ n =>
      rw [evC] at h
      simp only [bindO_eq] at h
      obtain ⟨q1, h1, h2⟩ := h
      rw [h1]
      cases q1 with
      | true => exact evC_RUN A X h2
      | false => exact evC_RUN A X h2
  · cases hr : asBool (x.ev st.f) with
    | none => rw [hr] at h; simp [condR] at h
    | some q1 =>
      rw [hr] at h
      cases q1 with
      | true =>
        obtain ⟨m, hm⟩ := (RUN_iff A X).1 (show RUN A X a st = some q from h)
        refine ⟨m + 1, ?_⟩
        rw [evC]
        simp only [bindO_eq]
        exact ⟨_, hr, hm⟩
      | false =>
        obtain ⟨m, hm⟩ := (RUN_iff A X).1 (show RUN A X b st = some q from h)
        refine ⟨m + 1, ?_⟩
        rw [evC]
        simp only [bindO_eq]
        exact ⟨_, hr, hm⟩
theorem regR_some' {x : Option St} {q : Ex × St} : regR x = some q ↔ ∃ st, x = some st ∧ some (Ex.norm, st) = some q := by
  cases x <;> simp [regR]
theorem RUN_reg (ops : List AOper) (st : St) : RUN A X (.reg false ops) st = regR (evOps (KL A X) ops st) := by
  refine RUN_eqn A X (fun n q h => ?_) fun q h => ?_
  · cases n with
    | zero => simp [evC] at h
    | succ n =>
      rw [evC_reg] at h
      simp only [bindO_eq] at h
      obtain ⟨st', h1, h2⟩ := h
      rw [regR_some']
      exact ⟨st', evOps_mono (mkK_KL A X n) h1, h2⟩
  · rw [regR_some'] at h
    obtain ⟨st', h1, h2⟩ := h
    obtain ⟨n, hn⟩ := evOps_lim A X h1
    refine ⟨n + 1, ?_⟩
    rw [evC_reg]
    simp only [bindO_eq]
    exact ⟨st', hn, h2⟩
theorem RUN_regD (ops : List AOper) (st : St) : RUN A X (.reg true ops) st = regR (evOpsD (KL A X) 0 [] ops st) := by
  refine RUN_eqn A X (fun n q h => ?_) fun q h => ?_
  · cases n with
    | zero => simp [evC] at h
    | succ n =>
      rw [evC_reg] at h
      simp only [bindO_eq] at h
      obtain ⟨st', h1, h2⟩ := h
      rw [regR_some']
      exact ⟨st', evOpsD_mono (mkK_KL A X n) h1, h2⟩
  · rw [regR_some'] at h
    obtain ⟨st', h1, h2⟩ := h
    obtain ⟨n, hn⟩ := evOpsD_lim A X h1
    refine ⟨n + 1, ?_⟩
    rw [evC_reg]
    simp only [bindO_eq]
    exact ⟨st', hn, h2⟩

theorem CALL_x {f : Nat} {e : List PV → Option (List PV)} (h : X f = some e) (args : List PV) : (KL A X).call f args = e args := by
  apply Option.ext
  intro q
  rw [KL_call]
  simp only [mkK, h]
  exact ⟨fun ⟨_, h⟩ => h, fun h => ⟨0, h⟩⟩
theorem CALL_def {f : Nat} {fn : AFunc} (hX : X f = none) (hA : A f = some fn) (args : List PV) (hn : args.length = fn.np) : (KL A X).call f args = callR fn.res (RUN A X fn.body ⟨initF 0 (args.map PV.toAV), [], 0⟩) := by
  have hc : ∀ {q1 : Ex × St} {r : List PV}, (match q1.1 with | .exit _ => none | _ => resAll q1.2.f q1.2.h fn.res) = some r ↔ callR fn.res (some q1) = some r := by
    intro q1 r
    obtain ⟨e, s⟩ := q1
    cases e <;> simp [callR]
  apply Option.ext
  intro r
  rw [KL_call]
  simp only [mkK, hX, hA, bindO_eq, Option.some.injEq, exists_eq_left', hn, if_true]
  constructor
  · rintro ⟨n, q1, h1, h2⟩
    rw [evC_RUN A X h1]
    exact hc.1 h2
  · intro h
    cases hr : RUN A X fn.body ⟨initF 0 (args.map PV.toAV), [], 0⟩ with
    | none => rw [hr] at h; simp [callR] at h
    | some q1 =>
      rw [hr] at h
      obtain ⟨n, hn⟩ := (RUN_iff A X).1 hr
      exact ⟨n, q1, hn, hc.2 h⟩
def icallR (res : List ARes) : Option (Ex × St) → Option (AV × Hp × Nat)
  | some (.norm, st) => bindO (resIn st.f st.h res) fun v => some (v, st.h, st.nx)
  | some (.ret, st) => bindO (resIn st.f st.h res) fun v => some (v, st.h, st.nx)
  | _ => none
theorem ICALL_def {f : Nat} {fn : AFunc} (hA : A f = some fn) (args : List AV) (h : Hp) (nx : Nat) (hn : args.length = fn.np) : (KL A X).icall f args h nx = icallR fn.res (RUN A X fn.body ⟨initF 0 args, h, nx⟩) := by
  have hc : ∀ {q1 : Ex × St} {r : AV × Hp × Nat}, (match q1.1 with | .exit _ => none | _ => bindO (resIn q1.2.f q1.2.h fn.res) fun v => some (v, q1.2.h, q1.2.nx)) = some r ↔ icallR fn.res (some q1) = some r := by
    intro q1 r
    obtain ⟨e, s⟩ := q1
    cases e <;> simp [icallR]
  apply Option.ext
  intro r
  rw [KL_icall]
  simp only [mkK, hA, bindO_eq (x := some fn), Option.some.injEq, exists_eq_left', hn, if_true]
  constructor
  · rintro ⟨n, hh⟩
    rw [bindO_eq] at hh
    obtain ⟨q1, h1, h2⟩ := hh
    rw [evC_RUN A X h1]
    exact hc.1 h2
  · intro h
    cases hr : RUN A X fn.body ⟨initF 0 args, ‹Hp›, nx⟩ with
    | none => rw [hr] at h; simp [icallR] at h
    | some q1 =>
      rw [hr] at h
      obtain ⟨n, hn⟩ := (RUN_iff A X).1 hr
      refine ⟨n, ?_⟩
      rw [bindO_eq]
      exact ⟨q1, hn, hc.2 h⟩
end
end Go.Proofs.Ytpanbfainilmpaa.Ev
end
section
/- The evaluator's steps as rewriting rules: one rule for each operation, and one for each shape of its operands. -/
set_option linter.unusedVariables false
set_option linter.unusedSimpArgs false
namespace Go.Proofs.Ytpanbfainilmpaa.Ev

/-! ### Control -/
section
variable (A : Nat → Option AFunc) (X : Nat → Option (List PV → Option (List PV)))
theorem thenR_norm (b : ACode) (st : St) : thenR A X b (some (.norm, st)) = RUN A X b st := rfl
theorem thenR_exit (b : ACode) (i : Nat) (st : St) : thenR A X b (some (.exit i, st)) = some (.exit i, st) := rfl
theorem thenR_ret (b : ACode) (st : St) : thenR A X b (some (.ret, st)) = some (.ret, st) := rfl
theorem loopR_norm (keep : List Nat) (n : Nat) (a : ACode) (st : St) : loopR A X keep n a (some (.norm, st)) = loopR A X keep n a (RUN A X a ⟨maskF (maskF st.f n keep) n keep, cutH n (cutH n st.h), n⟩) := by
  show RUN A X (.loop keep a) _ = _
  rw [RUN_loop]
theorem loopR_exit (keep : List Nat) (n i : Nat) (a : ACode) (st : St) : loopR A X keep n a (some (.exit i, st)) = some (.exit i, st) := rfl
theorem loopR_ret (keep : List Nat) (n : Nat) (a : ACode) (st : St) : loopR A X keep n a (some (.ret, st)) = some (.ret, st) := rfl
theorem condR_t (a b : ACode) (st : St) : condR A X a b st (some true) = RUN A X a st := rfl
theorem condR_f (a b : ACode) (st : St) : condR A X a b st (some false) = RUN A X b st := rfl
end
theorem blockR_norm (id : Nat) (st : St) : blockR id (some (.norm, st)) = some (.norm, st) := rfl
theorem blockR_ret (id : Nat) (st : St) : blockR id (some (.ret, st)) = some (.ret, st) := rfl
theorem blockR_exit (id i : Nat) (st : St) : blockR id (some (.exit i, st)) = if i = id then some (.norm, st) else some (.exit i, st) := rfl
theorem callR_ret (res : List ARes) (f : Fr) (h : Hp) (nx : Nat) : callR res (some (.ret, ⟨f, h, nx⟩)) = resAll f h res := rfl
theorem callR_norm (res : List ARes) (f : Fr) (h : Hp) (nx : Nat) : callR res (some (.norm, ⟨f, h, nx⟩)) = resAll f h res := rfl
theorem icallR_ret (res : List ARes) (f : Fr) (h : Hp) (nx : Nat) : icallR res (some (.ret, ⟨f, h, nx⟩)) = bindO (resIn f h res) fun v => some (v, h, nx) := rfl
theorem icallR_norm (res : List ARes) (f : Fr) (h : Hp) (nx : Nat) : icallR res (some (.norm, ⟨f, h, nx⟩)) = bindO (resIn f h res) fun v => some (v, h, nx) := rfl
theorem regR_some (st : St) : regR (some st) = some (.norm, st) := rfl

theorem bindO_some {α β : Type} (a : α) (f : α → Option β) : bindO (some a) f = f a := rfl
theorem bindV_val {α β : Type} (a : α) (f : α → β) : bindV a f = f a := rfl
theorem iteB_t {α : Type} (x y : α) : iteB true x y = x := rfl
theorem iteB_f {α : Type} (x y : α) : iteB false x y = y := rfl

/-! ### Frames -/
theorem Fr.get_cons (m n : Nat) (v : AV) (r : Fr) : Fr.get ((m, v) :: r) n = if n = m then v else Fr.get r n := rfl
theorem Fr.get_nil (n : Nat) : Fr.get [] n = .top := rfl
theorem Hp.get_cons (m n : Nat) (v : Loc) (r : Hp) : Hp.get ((m, v) :: r) n = if n = m then some v else Hp.get r n := rfl
theorem Hp.get_nil (n : Nat) : Hp.get [] n = none := rfl
theorem Hp.set_cons (m n : Nat) (l v : Loc) (r : Hp) : Hp.set ((m, v) :: r) n l = if n = m then (m, l) :: r else (m, v) :: Hp.set r n l := rfl
theorem Hp.set_nil (n : Nat) (l : Loc) : Hp.set [] n l = [(n, l)] := rfl
theorem Hp.del_cons (m n : Nat) (v : Loc) (r : Hp) : Hp.del ((m, v) :: r) n = if n = m then Hp.del r n else (m, v) :: Hp.del r n := rfl
theorem Hp.del_nil (n : Nat) : Hp.del [] n = [] := rfl
theorem upd_nil (h : Hp) : Hp.upd h [] = h := rfl
theorem upd_some (h : Hp) (n : Nat) (l : Loc) (r : List (Nat × Option Loc)) : Hp.upd h ((n, some l) :: r) = Hp.upd (Hp.set h n l) r := rfl
theorem upd_none (h : Hp) (n : Nat) (r : List (Nat × Option Loc)) : Hp.upd h ((n, none) :: r) = Hp.upd (Hp.del h n) r := rfl
theorem ev_t (f : Fr) (n : Nat) : AO.ev f (.t n) = f.get n := rfl
theorem ev_k (f : Fr) (x : C) : AO.ev f (.k x) = .c x := rfl
theorem maskF_nil (f : Fr) (n : Nat) : maskF f n [] = [] := rfl
theorem maskF_cons (f : Fr) (n s : Nat) (r : List Nat) : maskF f n (s :: r) = (s, (f.get s).old n) :: maskF f n r := rfl
theorem cutH_nil (n : Nat) : cutH n [] = [] := rfl
theorem cutH_cons (n i : Nat) (l : Loc) (r : Hp) : cutH n ((i, l) :: r) = if i < n then (i, l.old n) :: cutH n r else cutH n r := rfl
theorem old_d (n : Nat) (x : D) : AV.old n (.c (.d x)) = .c (.d x) := rfl
theorem old_nil (n : Nat) : AV.old n (.c .nil) = .c .nil := rfl
theorem old_gr (n t : Nat) (es : List (List D)) : AV.old n (.c (.gr t es)) = if t < n then .c (.gr t es) else .c (.d (.sl es)) := rfl
theorem old_ref (n i o l : Nat) : AV.old n (.ref i o l) = if i < n then .ref i o l else .top := rfl
theorem old_ptr (n i o : Nat) : AV.old n (.ptr i o) = if i < n then .ptr i o else .top := rfl
theorem old_ag (n : Nat) (cs : List C) : AV.old n (.ag cs) = .ag (cs.map (C.old n)) := rfl
theorem old_tu (n : Nat) (xs : List PV) : AV.old n (.tu xs) = .tu xs := rfl
theorem old_fptr (n : Nat) (xs : List D) : AV.old n (.fptr xs) = .fptr xs := rfl
theorem old_top (n : Nat) : AV.old n .top = .top := rfl
theorem oldC_d (n : Nat) (x : D) : C.old n (.d x) = .d x := rfl
theorem oldC_nil (n : Nat) : C.old n .nil = .nil := rfl
theorem oldC_gr (n t : Nat) (es : List (List D)) : C.old n (.gr t es) = if t < n then .gr t es else .d (.sl es) := rfl
theorem oldL_arr (n : Nat) (cells : List C) : Loc.old n (.arr cells) = .arr (cells.map (C.old n)) := rfl
theorem oldL_tok (n a s : Nat) : Loc.old n (.tok a s) = .tok a s := rfl
theorem toD_d (x : D) : C.toD (.d x) = x := rfl
theorem toD_nil : C.toD .nil = .sl [] := rfl
theorem toD_gr (t : Nat) (es : List (List D)) : C.toD (.gr t es) = .sl es := rfl
theorem toAV_one (x : D) : PV.toAV (.one x) = .c (.d x) := rfl
theorem toAV_agg (xs : List D) : PV.toAV (.agg xs) = .ag (xs.map C.d) := rfl
theorem initF_nil (n : Nat) : initF n [] = [] := rfl
theorem initF_cons (n : Nat) (v : AV) (r : List AV) : initF n (v :: r) = (n, v) :: initF (n + 1) r := rfl
theorem asInt_i (k : IntKind) (n : Int) : asInt (.c (.d (.sc (.int k n)))) = some (k, n) := rfl
theorem asBool_b (b : Bool) : asBool (.c (.d (.sc (.bool b)))) = some b := rfl

/-! ### Regions -/
section
variable (K : Or) (dr : Bool) (f : Fr) (h : Hp) (nx : Nat)
def opsR (os : List AOper) (d : Option Nat) : Option Re → Option St
  | some ⟨v, w, r, nx'⟩ => evOps K os ⟨match d with | some d => (d, v) :: f | none => f, h.upd w, nx'⟩
  | none => none
def opsDR (i bf : Nat) (prev : List Fp) (os : List AOper) (d : Option Nat) : Option Re → Option St
  | some ⟨v, w, r, nx'⟩ => iteB (beside bf r (w.map (·.1)) (Re.ids ⟨v, w, r, nx'⟩) prev) (evOpsD K (i + 1) (addFp i nx ⟨v, w, r, nx'⟩ prev) os ⟨match d with | some d => (d, v) :: f | none => f, h.upd w, nx'⟩) none
  | none => none
def gdR (want : Bool) (x : Option Re) : Option (Option Bool) → Option Re
  | some (some b) => iteB (b == want) x (some ⟨.tu [], [], [], nx⟩)
  | some none => some ⟨.tu [], [], [], nx⟩
  | none => none
theorem evOps_nil (st : St) : evOps K [] st = some st := rfl
theorem evOps_cons (d : Option Nat) (op : AOp) (bf : Nat) (os : List AOper) : evOps K (⟨d, op, none, bf⟩ :: os) ⟨f, h, nx⟩ = opsR K f h os d (evOp K false f h nx op) := by
  simp only [evOps, evStep]
  cases evOp K false f h nx op <;> rfl
theorem gd_eq (want : Bool) (op : AOp) (s : Nat) : (bindO (gdB (f.get s)) fun b => if b = some want then evOp K dr f h nx op else ok1 (.tu []) nx) = gdR nx want (evOp K dr f h nx op) (gdB (f.get s)) := by
  cases gdB (f.get s) with
  | none => rfl
  | some b =>
    cases b with
    | none => simp [bindO, gdR, ok1]
    | some b => cases b <;> cases want <;> simp [bindO, gdR, iteB, ok1]
theorem evOps_consg (d : Option Nat) (op : AOp) (bf s : Nat) (want : Bool) (os : List AOper) : evOps K (⟨d, op, some (s, want), bf⟩ :: os) ⟨f, h, nx⟩ = opsR K f h os d (gdR nx want (evOp K false f h nx op) (gdB (f.get s))) := by
  simp only [evOps, evStep, gd_eq]
  cases gdR nx want (evOp K false f h nx op) (gdB (f.get s)) <;> rfl
theorem evOpsD_nil (i : Nat) (prev : List Fp) (st : St) : evOpsD K i prev [] st = some st := rfl
theorem evOpsD_cons (i : Nat) (prev : List Fp) (d : Option Nat) (op : AOp) (bf : Nat) (os : List AOper) : evOpsD K i prev (⟨d, op, none, bf⟩ :: os) ⟨f, h, nx⟩ = opsDR K f h nx i bf prev os d (evOp K true f h nx op) := by
  simp only [evOpsD, evStep]
  cases evOp K true f h nx op <;> rfl
theorem evOpsD_consg (i : Nat) (prev : List Fp) (d : Option Nat) (op : AOp) (bf s : Nat) (want : Bool) (os : List AOper) : evOpsD K i prev (⟨d, op, some (s, want), bf⟩ :: os) ⟨f, h, nx⟩ = opsDR K f h nx i bf prev os d (gdR nx want (evOp K true f h nx op) (gdB (f.get s))) := by
  simp only [evOpsD, evStep, gd_eq]
  cases gdR nx want (evOp K true f h nx op) (gdB (f.get s)) <;> rfl
theorem opsR_d (os : List AOper) (d : Nat) (v : AV) (w : List (Nat × Option Loc)) (r : List Nat) (nx' : Nat) : opsR K f h os (some d) (some ⟨v, w, r, nx'⟩) = evOps K os ⟨(d, v) :: f, h.upd w, nx'⟩ := rfl
theorem opsR_n (os : List AOper) (v : AV) (w : List (Nat × Option Loc)) (r : List Nat) (nx' : Nat) : opsR K f h os none (some ⟨v, w, r, nx'⟩) = evOps K os ⟨f, h.upd w, nx'⟩ := rfl
theorem opsDR_d (i bf : Nat) (prev : List Fp) (os : List AOper) (d : Nat) (v : AV) (w : List (Nat × Option Loc)) (r : List Nat) (nx' : Nat) : opsDR K f h nx i bf prev os (some d) (some ⟨v, w, r, nx'⟩) = iteB (beside bf r (w.map (·.1)) (Re.ids ⟨v, w, r, nx'⟩) prev) (evOpsD K (i + 1) (addFp i nx ⟨v, w, r, nx'⟩ prev) os ⟨(d, v) :: f, h.upd w, nx'⟩) none := rfl
theorem opsDR_n (i bf : Nat) (prev : List Fp) (os : List AOper) (v : AV) (w : List (Nat × Option Loc)) (r : List Nat) (nx' : Nat) : opsDR K f h nx i bf prev os none (some ⟨v, w, r, nx'⟩) = iteB (beside bf r (w.map (·.1)) (Re.ids ⟨v, w, r, nx'⟩) prev) (evOpsD K (i + 1) (addFp i nx ⟨v, w, r, nx'⟩ prev) os ⟨f, h.upd w, nx'⟩) none := rfl
theorem gdR_tt (x : Option Re) : gdR nx true x (some (some true)) = x := rfl
theorem gdR_ft (x : Option Re) : gdR nx true x (some (some false)) = some ⟨.tu [], [], [], nx⟩ := rfl
theorem gdR_tf (x : Option Re) : gdR nx false x (some (some true)) = some ⟨.tu [], [], [], nx⟩ := rfl
theorem gdR_ff (x : Option Re) : gdR nx false x (some (some false)) = x := rfl
theorem gdR_n (want : Bool) (x : Option Re) : gdR nx want x (some none) = some ⟨.tu [], [], [], nx⟩ := rfl
theorem gdB_tu (xs : List PV) : gdB (.tu xs) = some none := rfl
theorem gdB_b (b : Bool) : gdB (.c (.d (.sc (.bool b)))) = some (some b) := rfl

/-! ### Operations -/
theorem evOp_mv (x : AO) : evOp K dr f h nx (.mv x) = some ⟨x.ev f, [], [], nx⟩ := rfl
def asgR : AV → Option Re
  | .c .nil => some ⟨.c (.gr nx []), [(nx, some (.tok 0 0))], [], nx + 1⟩
  | v => some ⟨v, [], [], nx⟩
theorem evOp_asg (x : AO) : evOp K dr f h nx (.asg x) = asgR nx (x.ev f) := by
  cases hx : x.ev f with
  | c y => cases y <;> simp [evOp, hx, asgR, ok1]
  | _ => simp [evOp, hx, asgR, ok1]
theorem asgR_nil : asgR nx (.c .nil) = some ⟨.c (.gr nx []), [(nx, some (.tok 0 0))], [], nx + 1⟩ := rfl
theorem asgR_d (x : D) : asgR nx (.c (.d x)) = some ⟨.c (.d x), [], [], nx⟩ := rfl
theorem asgR_gr (t : Nat) (es : List (List D)) : asgR nx (.c (.gr t es)) = some ⟨.c (.gr t es), [], [], nx⟩ := rfl
theorem asgR_ag (cs : List C) : asgR nx (.ag cs) = some ⟨.ag cs, [], [], nx⟩ := rfl
theorem asgR_tu (cs : List PV) : asgR nx (.tu cs) = some ⟨.tu cs, [], [], nx⟩ := rfl
theorem asgR_ref (i o l : Nat) : asgR nx (.ref i o l) = some ⟨.ref i o l, [], [], nx⟩ := rfl
theorem asgR_ptr (i o : Nat) : asgR nx (.ptr i o) = some ⟨.ptr i o, [], [], nx⟩ := rfl
theorem evOp_pick (c a b : AO) : evOp K dr f h nx (.pick c a b) = bindO (asBool (c.ev f)) fun q => some ⟨iteB q (a.ev f) (b.ev f), [], [], nx⟩ := by
  show bindO _ _ = _
  congr 1; funext q; cases q <;> rfl
theorem evOp_alloc (zero : List C) : evOp K dr f h nx (.alloc zero) = boxed (births nx zero) := rfl
theorem boxed_mk (cs : List C) (w : List (Nat × Option Loc)) (n : Nat) : boxed (cs, w, n) = some ⟨.ptr n 0, w ++ [(n, some (.arr cs))], [], n + 1⟩ := rfl
theorem births_nil (n : Nat) : births n [] = ([], [], n) := rfl
def birthR1 (q : List C × List (Nat × Option Loc) × Nat) (n : Nat) : List C × List (Nat × Option Loc) × Nat := (.gr n [] :: q.1, (n, some (.tok 0 0)) :: q.2.1, q.2.2)
def birthR2 (q : List C × List (Nat × Option Loc) × Nat) (x : C) : List C × List (Nat × Option Loc) × Nat := (x :: q.1, q.2.1, q.2.2)
theorem birthR1_mk (cs : List C) (w : List (Nat × Option Loc)) (m n : Nat) : birthR1 (cs, w, m) n = (.gr n [] :: cs, (n, some (.tok 0 0)) :: w, m) := rfl
theorem birthR2_mk (cs : List C) (w : List (Nat × Option Loc)) (m : Nat) (x : C) : birthR2 (cs, w, m) x = (x :: cs, w, m) := rfl
theorem births_n (n : Nat) (r : List C) : births n (.nil :: r) = birthR1 (births (n + 1) r) n := rfl
theorem births_d (n : Nat) (x : D) (r : List C) : births n (.d x :: r) = birthR2 (births n r) (.d x) := rfl
theorem births_gr (n t : Nat) (es : List (List D)) (r : List C) : births n (.gr t es :: r) = birthR2 (births n r) (.gr t es) := rfl
def boxR : AV → Option Re
  | .c y => boxed (births nx [y])
  | .ag cs => boxed (births nx cs)
  | _ => none
theorem evOp_box (x : AO) : evOp K dr f h nx (.box x) = boxR nx (x.ev f) := by
  cases hx : x.ev f <;> simp [evOp, hx, boxR]
theorem boxR_c (y : C) : boxR nx (.c y) = boxed (births nx [y]) := rfl
theorem boxR_ag (cs : List C) : boxR nx (.ag cs) = boxed (births nx cs) := rfl
theorem evOp_build (zero : List C) (parts : List (Nat × Nat × AO)) : evOp K dr f h nx (.build zero parts) = bindO (putParts f zero parts) fun cs => some ⟨.ag cs, [], [], nx⟩ := rfl
theorem putParts_nil (cells : List C) : putParts f cells [] = some cells := rfl
theorem putParts_cons (cells : List C) (off sz : Nat) (x : AO) (r : List (Nat × Nat × AO)) : putParts f cells ((off, sz, x) :: r) = bindO (putPart cells off sz (x.ev f)) fun cs => putParts f cs r := rfl
theorem putPart_c (cells : List C) (off sz : Nat) (x : C) : putPart cells off sz (.c x) = if sz = 1 ∧ off < cells.length then some (cells.set off x) else none := rfl
theorem putPart_ag (cells : List C) (off sz : Nat) (cs : List C) : putPart cells off sz (.ag cs) = if cs.length = sz ∧ off + sz ≤ cells.length then some (cells.take off ++ cs ++ cells.drop (off + sz)) else none := rfl
theorem evOp_bslf (sz n : Nat) (zero : List C) (parts : List (Nat × AO)) : evOp K dr f h nx (.bsl false sz n zero parts) = bindO (litElems f sz (List.replicate n zero) parts) fun es => some ⟨.c (.gr nx (es.map (·.map C.toD))), [(nx, some (.tok n sz))], [], nx + 1⟩ := rfl
theorem evOp_bslt (sz n : Nat) (zero : List C) (parts : List (Nat × AO)) : evOp K dr f h nx (.bsl true sz n zero parts) = bindO (litElems f sz (List.replicate n zero) parts) fun es => some ⟨.ref nx 0 n, [(nx, some (.arr es.flatten))], [], nx + 1⟩ := rfl
theorem litElems_nil (sz : Nat) (es : List (List C)) : litElems f sz es [] = some es := rfl
theorem litElems_cons (sz : Nat) (es : List (List C)) (i : Nat) (x : AO) (r : List (Nat × AO)) : litElems f sz es ((i, x) :: r) = bindO (cellsOf sz (x.ev f)) fun cs => if i < es.length then litElems f sz (es.set i cs) r else none := rfl
theorem cellsOf_c (sz : Nat) (x : C) : cellsOf sz (.c x) = if sz = 1 then some [x] else none := rfl
theorem cellsOf_ag (sz : Nat) (cs : List C) : cellsOf sz (.ag cs) = if cs.length = sz then some cs else none := rfl
def ldPR (agg : Bool) (sz id off : Nat) : Option Loc → Option Re
  | some (.arr cells) => if agg then (if off + sz ≤ cells.length then some ⟨.ag ((cells.drop off).take sz), [], [id], nx⟩ else none)
        else match cells[off]? with | some x => some ⟨.c x, [], [id], nx⟩ | none => none
  | _ => none
def ldR (agg : Bool) (sz : Nat) : AV → Option Re
  | .ptr id off => ldPR nx agg sz id off (h.get id)
  | .fptr xs =>
      if agg then (if sz ≤ xs.length then ok1 (.ag ((xs.take sz).map C.d)) nx else none)
      else match xs with | x :: _ => ok1 (.c (.d x)) nx | [] => none
  | _ => none
theorem evOp_ld (agg : Bool) (sz : Nat) (a : AO) : evOp K dr f h nx (.ld agg sz a) = ldR h nx agg sz (a.ev f) := by
  cases hx : a.ev f with
  | ptr id off =>
    simp only [evOp, hx, ldR]
    cases hl : h.get id with
    | none => rfl
    | some l => cases l <;> rfl
  | fptr xs => simp only [evOp, hx, ldR]; cases xs <;> rfl
  | _ => simp [evOp, hx, ldR]
theorem ldR_ptr (agg : Bool) (sz id off : Nat) : ldR h nx agg sz (.ptr id off) = ldPR nx agg sz id off (h.get id) := rfl
theorem ldPR_t (sz id off : Nat) (cells : List C) : ldPR nx true sz id off (some (.arr cells)) = if off + sz ≤ cells.length then some ⟨.ag ((cells.drop off).take sz), [], [id], nx⟩ else none := rfl
def ldcR (id : Nat) : Option C → Option Re
  | some x => some ⟨.c x, [], [id], nx⟩
  | none => none
theorem ldPR_f (sz id off : Nat) (cells : List C) : ldPR nx false sz id off (some (.arr cells)) = ldcR nx id cells[off]? := by
  simp only [ldPR]
  cases cells[off]? <;> rfl
theorem ldcR_some (id : Nat) (x : C) : ldcR nx id (some x) = some ⟨.c x, [], [id], nx⟩ := rfl
theorem ldR_fptrt (sz : Nat) (xs : List D) : ldR h nx true sz (.fptr xs) = if sz ≤ xs.length then some ⟨.ag ((xs.take sz).map C.d), [], [], nx⟩ else none := rfl
theorem ldR_fptrf (sz : Nat) (x : D) (xs : List D) : ldR h nx false sz (.fptr (x :: xs)) = some ⟨.c (.d x), [], [], nx⟩ := rfl
def stPR (sz id off : Nat) (v : AV × List (Nat × Option Loc) × Nat) : Option Loc → Option Re
  | some (.arr cells) => bindO (putPart cells off sz v.1) fun cs => some ⟨.top, v.2.1 ++ [(id, some (.arr cs))], [id], v.2.2⟩
  | _ => none
def stR (sz : Nat) (v : AV × List (Nat × Option Loc) × Nat) : AV → Option Re
  | .ptr id off => stPR sz id off v (h.get id)
  | _ => none
theorem evOp_st (sz : Nat) (a x : AO) : evOp K dr f h nx (.st sz a x) = stR h sz (birthV nx (x.ev f)) (a.ev f) := by
  cases hx : a.ev f with
  | ptr id off =>
    simp only [evOp, hx, stR, stPR, bindV]
    cases hl : h.get id with
    | none => rfl
    | some l => cases l <;> rfl
  | _ => simp [evOp, hx, stR]
theorem stR_ptr (sz id off : Nat) (v : AV × List (Nat × Option Loc) × Nat) : stR h sz v (.ptr id off) = stPR sz id off v (h.get id) := rfl
theorem stPR_arr (sz id off n : Nat) (v : AV) (w : List (Nat × Option Loc)) (cells : List C) : stPR sz id off (v, w, n) (some (.arr cells)) = bindO (putPart cells off sz v) fun cs => some ⟨.top, w ++ [(id, some (.arr cs))], [id], n⟩ := rfl
theorem birthV_nil : birthV nx (.c .nil) = (.c (.gr nx []), [(nx, some (.tok 0 0))], nx + 1) := rfl
theorem birthV_d (x : D) : birthV nx (.c (.d x)) = (.c (.d x), [], nx) := rfl
theorem birthV_gr (t : Nat) (es : List (List D)) : birthV nx (.c (.gr t es)) = (.c (.gr t es), [], nx) := rfl
def birthA (q : List C × List (Nat × Option Loc) × Nat) : AV × List (Nat × Option Loc) × Nat := (.ag q.1, q.2.1, q.2.2)
theorem birthV_ag (cs : List C) : birthV nx (.ag cs) = birthA (births nx cs) := rfl
theorem birthA_mk (cs : List C) (w : List (Nat × Option Loc)) (n : Nat) : birthA (cs, w, n) = (.ag cs, w, n) := rfl
def fadR (off : Nat) : AV → Option Re
  | .ptr id o => if h.has id = true then some ⟨.ptr id (o + off), [], [id], nx⟩ else none
  | .fptr xs => some ⟨.fptr (xs.drop off), [], [], nx⟩
  | _ => none
theorem evOp_fad (off : Nat) (x : AO) : evOp K dr f h nx (.fad off x) = fadR h nx off (x.ev f) := by
  cases hx : x.ev f <;> simp [evOp, hx, fadR, ok1]
theorem fadR_ptr (off id o : Nat) : fadR h nx off (.ptr id o) = if h.has id = true then some ⟨.ptr id (o + off), [], [id], nx⟩ else none := rfl
theorem fadR_fptr (off : Nat) (xs : List D) : fadR h nx off (.fptr xs) = some ⟨.fptr (xs.drop off), [], [], nx⟩ := rfl
def hasR : Option Loc → Bool
  | some (.arr _) => true
  | _ => false
theorem hasR_eq (id : Nat) : Hp.has h id = hasR (h.get id) := by
  unfold Hp.has hasR; rfl
theorem hasR_arr (cells : List C) : hasR (some (.arr cells)) = true := rfl
def fpR (sz : Nat) : Option (List D) → Option Re
  | some e => if e.length = sz then some ⟨.fptr e, [], [], nx⟩ else none
  | none => none
theorem fpR_some (sz : Nat) (e : List D) : fpR nx sz (some e) = if e.length = sz then some ⟨.fptr e, [], [], nx⟩ else none := rfl
def iadR (sz : Nat) (i : Int) : AV → Option Re
  | .c (.d (.sl es)) => if 0 ≤ i then fpR nx sz es[i.toNat]? else none
  | .c (.gr _ es) => if 0 ≤ i then fpR nx sz es[i.toNat]? else none
  | .ref id off len => if 0 ≤ i ∧ i < (len : Int) ∧ h.has id = true then some ⟨.ptr id (off + i.toNat * sz), [], [id], nx⟩ else none
  | _ => none
theorem evOp_iad (sz : Nat) (x i : AO) : evOp K dr f h nx (.iad sz x i) = bindO (asInt (i.ev f)) fun q => iadR h nx sz q.2 (x.ev f) := by
  show bindO _ _ = _
  congr 1
theorem iadR_sl (sz : Nat) (i : Int) (es : List (List D)) : iadR h nx sz i (.c (.d (.sl es))) = if 0 ≤ i then fpR nx sz es[i.toNat]? else none := rfl
theorem iadR_gr (sz t : Nat) (i : Int) (es : List (List D)) : iadR h nx sz i (.c (.gr t es)) = if 0 ≤ i then fpR nx sz es[i.toNat]? else none := rfl
theorem iadR_ref (sz id off len : Nat) (i : Int) : iadR h nx sz i (.ref id off len) = if 0 ≤ i ∧ i < (len : Int) ∧ h.has id = true then some ⟨.ptr id (off + i.toNat * sz), [], [id], nx⟩ else none := rfl
def cR : Option C → Option Re
  | some y => some ⟨.c y, [], [], nx⟩
  | none => none
theorem cR_some (y : C) : cR nx (some y) = some ⟨.c y, [], [], nx⟩ := rfl
def fldR (agg : Bool) (off sz : Nat) : AV → Option Re
  | .ag cs => iteB agg (some ⟨.ag ((cs.drop off).take sz), [], [], nx⟩) (cR nx cs[off]?)
  | _ => none
theorem evOp_fld (agg : Bool) (off sz : Nat) (x : AO) : evOp K dr f h nx (.fld agg off sz x) = fldR nx agg off sz (x.ev f) := by
  cases hx : x.ev f with
  | ag cs =>
    simp only [evOp, hx, fldR]
    cases agg with
    | true => rfl
    | false => cases cs[off]? <;> simp [iteB, cR, ok1]
  | _ => simp [evOp, hx, fldR]
theorem fldR_t (off sz : Nat) (cs : List C) : fldR nx true off sz (.ag cs) = some ⟨.ag ((cs.drop off).take sz), [], [], nx⟩ := rfl
theorem fldR_f (off sz : Nat) (cs : List C) : fldR nx false off sz (.ag cs) = cR nx cs[off]? := rfl
def idxR (agg : Bool) (len sz : Nat) (i : Int) : AV → Option Re
  | .ag cs => if 0 ≤ i ∧ i < (len : Int) then iteB agg (some ⟨.ag ((cs.drop (i.toNat * sz)).take sz), [], [], nx⟩) (cR nx cs[i.toNat * sz]?) else none
  | _ => none
theorem evOp_idx (agg : Bool) (len sz : Nat) (x i : AO) : evOp K dr f h nx (.idx agg len sz x i) = bindO (asInt (i.ev f)) fun q => idxR nx agg len sz q.2 (x.ev f) := by
  show bindO _ _ = _
  congr 1; funext q
  cases hx : x.ev f with
  | ag cs =>
    simp only [idxR]
    split
    · cases agg with
      | true => rfl
      | false => cases cs[q.2.toNat * sz]? <;> simp [iteB, cR, ok1]
    · rfl
  | _ => rfl
theorem idxR_ag (agg : Bool) (len sz : Nat) (i : Int) (cs : List C) : idxR nx agg len sz i (.ag cs) = if 0 ≤ i ∧ i < (len : Int) then iteB agg (some ⟨.ag ((cs.drop (i.toNat * sz)).take sz), [], [], nx⟩) (cR nx cs[i.toNat * sz]?) else none := rfl
def binR (op : BinOp) : AV → AV → Option Re
  | .c (.d (.sc a)), .c (.d (.sc b)) => bindO (evBin op a b) fun v => some ⟨.c (.d (.sc v)), [], [], nx⟩
  | _, _ => none
theorem evOp_bin (op : BinOp) (x y : AO) : evOp K dr f h nx (.bin op x y) = binR nx op (x.ev f) (y.ev f) := rfl
theorem binR_v (op : BinOp) (a b : Value) : binR nx op (.c (.d (.sc a))) (.c (.d (.sc b))) = bindO (evBin op a b) fun v => some ⟨.c (.d (.sc v)), [], [], nx⟩ := rfl
section
variable (k : IntKind) (a b : Int)
theorem bin_add : evBin .add (.int k a) (.int k b) = some (.int k (k.wrap (a + b))) := by simp [evBin]
theorem bin_sub : evBin .sub (.int k a) (.int k b) = some (.int k (k.wrap (a - b))) := by simp [evBin]
theorem bin_mul : evBin .mul (.int k a) (.int k b) = some (.int k (k.wrap (a * b))) := by simp [evBin]
theorem bin_quo : evBin .quo (.int k a) (.int k b) = if b = 0 then none else some (.int k (k.wrap (a.tdiv b))) := by simp [evBin]
theorem bin_rem : evBin .rem (.int k a) (.int k b) = if b = 0 then none else some (.int k (a.tmod b)) := by simp [evBin]
theorem bin_and : evBin .and (.int k a) (.int k b) = some (.int k (k.wrap (BitVec.ofInt k.bits a &&& BitVec.ofInt k.bits b).toNat)) := by simp [evBin]
theorem bin_or : evBin .or (.int k a) (.int k b) = some (.int k (k.wrap (BitVec.ofInt k.bits a ||| BitVec.ofInt k.bits b).toNat)) := by simp [evBin]
theorem bin_xor : evBin .xor (.int k a) (.int k b) = some (.int k (k.wrap (BitVec.ofInt k.bits a ^^^ BitVec.ofInt k.bits b).toNat)) := by simp [evBin]
theorem bin_andNot : evBin .andNot (.int k a) (.int k b) = some (.int k (k.wrap (BitVec.ofInt k.bits a &&& ~~~ BitVec.ofInt k.bits b).toNat)) := by simp [evBin]
theorem bin_eql : evBin .eql (.int k a) (.int k b) = some (.bool (decide (a = b))) := by simp [evBin]
theorem bin_neq : evBin .neq (.int k a) (.int k b) = some (.bool (!decide (a = b))) := by simp [evBin]
theorem bin_lss : evBin .lss (.int k a) (.int k b) = some (.bool (decide (a < b))) := by simp [evBin]
theorem bin_leq : evBin .leq (.int k a) (.int k b) = some (.bool (decide (a ≤ b))) := by simp [evBin]
theorem bin_gtr : evBin .gtr (.int k a) (.int k b) = some (.bool (decide (b < a))) := by simp [evBin]
theorem bin_geq : evBin .geq (.int k a) (.int k b) = some (.bool (decide (b ≤ a))) := by simp [evBin]
theorem bin_shl (k' : IntKind) : evBin .shl (.int k a) (.int k' b) = if 0 ≤ b then some (.int k (k.wrap (a * 2 ^ (min b.toNat k.bits)))) else none := by simp [evBin]
theorem bin_shr (k' : IntKind) : evBin .shr (.int k a) (.int k' b) = if 0 ≤ b then some (.int k (a.fdiv (2 ^ (min b.toNat k.bits)))) else none := by simp [evBin]
theorem bin_seql (s t : ByteArray) : evBin .eql (.string s) (.string t) = some (.bool (decide (s = t))) := rfl
theorem bin_sneq (s t : ByteArray) : evBin .neq (.string s) (.string t) = some (.bool (!decide (s = t))) := rfl
theorem un_not (b : Bool) : evUn .not (.bool b) = some (.bool !b) := rfl
theorem un_neg : evUn .neg (.int k a) = some (.int k (k.wrap (0 - a))) := rfl
theorem un_xor : evUn .xor (.int k a) = some (.int k (k.wrap (BitVec.ofInt k.bits (if k.signed then -1 else k.max) ^^^ BitVec.ofInt k.bits a).toNat)) := rfl
end
def binbR (op : BinOp) : AV → AV → Option Re
  | .c (.d (.sc a)), .c (.d (.sc b)) => bindO (evBinB op a b) fun v => some ⟨.c (.d (.sc v)), [], [], nx⟩
  | _, _ => none
theorem evOp_binb (op : BinOp) (x y : AO) : evOp K dr f h nx (.binb op x y) = binbR nx op (x.ev f) (y.ev f) := rfl
theorem binbR_v (op : BinOp) (a b : Value) : binbR nx op (.c (.d (.sc a))) (.c (.d (.sc b))) = bindO (evBinB op a b) fun v => some ⟨.c (.d (.sc v)), [], [], nx⟩ := rfl
theorem binb_eql (a b : Bool) : evBinB .eql (.bool a) (.bool b) = some (.bool (a == b)) := rfl
theorem binb_neq (a b : Bool) : evBinB .neq (.bool a) (.bool b) = some (.bool (!(a == b))) := rfl
def eqaR (neg : Bool) (ks : List Nat) : AV → AV → Option Re
  | .ag a, .ag b => bindO (eqCells ks (a.map C.toD) (b.map C.toD)) fun q => some ⟨.c (.d (.sc (.bool (iteB neg (!q) q)))), [], [], nx⟩
  | _, _ => none
theorem evOp_eqa (neg : Bool) (ks : List Nat) (x y : AO) : evOp K dr f h nx (.eqa neg ks x y) = eqaR nx neg ks (x.ev f) (y.ev f) := by
  simp only [evOp, eqaR]
  cases x.ev f <;> cases y.ev f <;> try rfl
  cases neg <;> rfl
theorem eqaR_ag (neg : Bool) (ks : List Nat) (a b : List C) : eqaR nx neg ks (.ag a) (.ag b) = bindO (eqCells ks (a.map C.toD) (b.map C.toD)) fun q => some ⟨.c (.d (.sc (.bool (iteB neg (!q) q)))), [], [], nx⟩ := rfl
theorem eqCells_nil : eqCells [] [] [] = some true := rfl
theorem eqCells_cons (k : Nat) (ks : List Nat) (x y : D) (xs ys : List D) : eqCells (k :: ks) (x :: xs) (y :: ys) = bindO (eqCell k x y) fun b => bindO (eqCells ks xs ys) fun b' => some (b && b') := rfl
theorem eqCell_b (a b : Bool) : eqCell 0 (.sc (.bool a)) (.sc (.bool b)) = some (a == b) := rfl
theorem eqCell_i (k : IntKind) (a b : Int) : eqCell 1 (.sc (.int k a)) (.sc (.int k b)) = some (decide (a = b)) := by simp [eqCell]
theorem eqCell_s (a b : ByteArray) : eqCell 2 (.sc (.string a)) (.sc (.string b)) = some (decide (a = b)) := rfl
def unR (op : UnOp) : AV → Option Re
  | .c (.d (.sc a)) => bindO (evUn op a) fun v => some ⟨.c (.d (.sc v)), [], [], nx⟩
  | _ => none
theorem evOp_un (op : UnOp) (x : AO) : evOp K dr f h nx (.un op x) = unR nx op (x.ev f) := rfl
theorem unR_v (op : UnOp) (a : Value) : unR nx op (.c (.d (.sc a))) = bindO (evUn op a) fun v => some ⟨.c (.d (.sc v)), [], [], nx⟩ := rfl
theorem evOp_cvi (k : IntKind) (x : AO) : evOp K dr f h nx (.cvi k x) = bindO (asInt (x.ev f)) fun q => some ⟨.c (.d (.sc (.int k (k.wrap q.2)))), [], [], nx⟩ := rfl
theorem evOp_cvs (x : AO) : evOp K dr f h nx (.cvs x) = bindO (asInt (x.ev f)) fun q => some ⟨.c (.d (.sc (.string (Utf8.encode q.2)))), [], [], nx⟩ := rfl
def sidxR (i : Int) : AV → Option Re
  | .c (.d (.sc (.string s))) => if 0 ≤ i then (match s[i.toNat]? with | some b => some ⟨.c (.d (.sc (.int .u8 b.toNat))), [], [], nx⟩ | none => none) else none
  | _ => none
def loR (f : Fr) : Option AO → Option Int
  | some a => bindO (asInt (a.ev f)) fun q => some q.2
  | none => some 0
def hiR (f : Fr) (n : Nat) : Option AO → Option Int
  | some a => bindO (asInt (a.ev f)) fun q => some q.2
  | none => some n
def slcR (sz : Nat) (l m : Int) : AV → Option Re
  | .c (.d (.sl es)) => if (es.all fun e => e.length == sz) = true then some ⟨.c (.d (.sl ((es.take m.toNat).drop l.toNat))), [], [], nx⟩ else none
  | .c (.gr _ es) => if (es.all fun e => e.length == sz) = true then some ⟨.c (.d (.sl ((es.take m.toNat).drop l.toNat))), [], [], nx⟩ else none
  | .c .nil => some ⟨.c .nil, [], [], nx⟩
  | .ref id off _ => some ⟨.ref id (off + l.toNat * sz) (m - l).toNat, [], [id], nx⟩
  | _ => none
theorem evOp_slc (sz : Nat) (x : AO) (lo hi : Option AO) : evOp K dr f h nx (.slc sz x lo hi) = bindO (loR f lo) fun l => bindO (lenOf h (x.ev f)) fun n => bindO (hiR f n.1 hi) fun m => if 0 ≤ l ∧ l ≤ m ∧ m ≤ (n.1 : Int) then slcR nx sz l m (x.ev f) else none := by
  cases lo <;> cases hi <;> rfl
theorem loR_none : loR f none = some 0 := rfl
theorem loR_some (a : AO) : loR f (some a) = bindO (asInt (a.ev f)) fun q => some q.2 := rfl
theorem hiR_none (n : Nat) : hiR f n none = some (n : Int) := rfl
theorem hiR_some (n : Nat) (a : AO) : hiR f n (some a) = bindO (asInt (a.ev f)) fun q => some q.2 := rfl
theorem slcR_sl (sz : Nat) (l m : Int) (es : List (List D)) : slcR nx sz l m (.c (.d (.sl es))) = if (es.all fun e => e.length == sz) = true then some ⟨.c (.d (.sl ((es.take m.toNat).drop l.toNat))), [], [], nx⟩ else none := rfl
theorem slcR_gr (sz t : Nat) (l m : Int) (es : List (List D)) : slcR nx sz l m (.c (.gr t es)) = if (es.all fun e => e.length == sz) = true then some ⟨.c (.d (.sl ((es.take m.toNat).drop l.toNat))), [], [], nx⟩ else none := rfl
theorem slcR_nil (sz : Nat) (l m : Int) : slcR nx sz l m (.c .nil) = some ⟨.c .nil, [], [], nx⟩ := rfl
theorem slcR_ref (sz id off len : Nat) (l m : Int) : slcR nx sz l m (.ref id off len) = some ⟨.ref id (off + l.toNat * sz) (m - l).toNat, [], [id], nx⟩ := rfl
theorem lenOf_sl (es : List (List D)) : lenOf h (.c (.d (.sl es))) = some (es.length, []) := rfl
theorem lenOf_nil : lenOf h (.c .nil) = some (0, []) := rfl
theorem lenOf_gr (t : Nat) (es : List (List D)) : lenOf h (.c (.gr t es)) = some (es.length, []) := rfl
theorem lenOf_ref (id off len : Nat) : lenOf h (.ref id off len) = if h.has id = true then some (len, [id]) else none := rfl
theorem evOp_mksf (sz bytes : Nat) (zero : List C) (l c : AO) : evOp K dr f h nx (.mks false sz bytes zero l c) = bindO (asInt (l.ev f)) fun n => bindO (asInt (c.ev f)) fun m => if 0 ≤ n.2 ∧ n.2 ≤ m.2 ∧ m.2 * bytes ≤ (maxBytes : Int) ∧ zero.length = sz then some ⟨.c (.gr nx (List.replicate n.2.toNat (zero.map C.toD))), [(nx, some (.tok n.2.toNat sz))], [], nx + 1⟩ else none := rfl
theorem evOp_mkst (sz bytes : Nat) (zero : List C) (l c : AO) : evOp K dr f h nx (.mks true sz bytes zero l c) = bindO (asInt (l.ev f)) fun n => bindO (asInt (c.ev f)) fun m => if 0 ≤ n.2 ∧ n.2 ≤ m.2 ∧ m.2 * bytes ≤ (maxBytes : Int) ∧ zero.length = sz then (if n.2 = m.2 then some ⟨.ref nx 0 n.2.toNat, [(nx, some (.arr (List.replicate n.2.toNat zero).flatten))], [], nx + 1⟩ else none) else none := rfl
def appTR (mu : Bool) (sz bytes t : Nat) (es : List (List D)) (ys : List (List D) × List Nat) : Option Loc → Option Re
  | some (.tok n s) => if es.length = n ∧ (s = sz ∨ s = 0) ∧ (n + ys.1.length) * bytes ≤ maxBytes ∧ (ys.1.all fun e => e.length == sz) = true then
          (if mu then (if n = 0 ∧ s = sz then some ⟨.ref nx 0 ys.1.length, [(t, none), (nx, some (.arr (ys.1.flatten.map C.d)))], t :: ys.2, nx + 1⟩ else none)
           else some ⟨.c (.gr t (es ++ ys.1)), [(t, some (.tok (n + ys.1.length) (if ys.1.isEmpty then s else sz)))], t :: ys.2, nx⟩)
        else none
  | _ => none
def appR (mu : Bool) (sz bytes : Nat) (ys : List (List D) × List Nat) : AV → Option Re
  | .c .nil => if ys.1.length * bytes ≤ maxBytes ∧ (ys.1.all fun e => e.length == sz) = true then
        (if mu then none else some ⟨.c (.gr nx ys.1), [(nx, some (.tok ys.1.length (if ys.1.isEmpty then 0 else sz)))], ys.2, nx + 1⟩) else none
  | .c (.gr t es) => appTR nx mu sz bytes t es ys (h.get t)
  | _ => none
theorem evOp_app (mu : Bool) (sz bytes : Nat) (x y : AO) : evOp K dr f h nx (.app mu sz bytes x y) = bindO (elems h sz (y.ev f)) fun ys => appR h nx mu sz bytes ys (x.ev f) := by
  show bindO _ _ = _
  congr 1
theorem appR_nil (sz bytes : Nat) (ys : List (List D) × List Nat) : appR h nx false sz bytes ys (.c .nil) = if ys.1.length * bytes ≤ maxBytes ∧ (ys.1.all fun e => e.length == sz) = true then some ⟨.c (.gr nx ys.1), [(nx, some (.tok ys.1.length (if ys.1.isEmpty then 0 else sz)))], ys.2, nx + 1⟩ else none := rfl
theorem appR_gr (mu : Bool) (sz bytes t : Nat) (es : List (List D)) (ys : List (List D) × List Nat) : appR h nx mu sz bytes ys (.c (.gr t es)) = appTR nx mu sz bytes t es ys (h.get t) := rfl
theorem appTR_f (sz bytes t n s : Nat) (es : List (List D)) (ys : List (List D) × List Nat) : appTR nx false sz bytes t es ys (some (.tok n s)) = if es.length = n ∧ (s = sz ∨ s = 0) ∧ (n + ys.1.length) * bytes ≤ maxBytes ∧ (ys.1.all fun e => e.length == sz) = true then some ⟨.c (.gr t (es ++ ys.1)), [(t, some (.tok (n + ys.1.length) (if ys.1.isEmpty then s else sz)))], t :: ys.2, nx⟩ else none := rfl
theorem appTR_t (sz bytes t n s : Nat) (es : List (List D)) (ys : List (List D) × List Nat) : appTR nx true sz bytes t es ys (some (.tok n s)) = if es.length = n ∧ (s = sz ∨ s = 0) ∧ (n + ys.1.length) * bytes ≤ maxBytes ∧ (ys.1.all fun e => e.length == sz) = true then (if n = 0 ∧ s = sz then some ⟨.ref nx 0 ys.1.length, [(t, none), (nx, some (.arr (ys.1.flatten.map C.d)))], t :: ys.2, nx + 1⟩ else none) else none := rfl
theorem elems_sl (sz : Nat) (es : List (List D)) : elems h sz (.c (.d (.sl es))) = some (es, []) := rfl
theorem elems_nil (sz : Nat) : elems h sz (.c .nil) = some ([], []) := rfl
theorem elems_gr (sz t : Nat) (es : List (List D)) : elems h sz (.c (.gr t es)) = some (es, []) := rfl
def elemsR (sz id off len : Nat) : Option Loc → Option (List (List D) × List Nat)
  | some (.arr cells) => if off + len * sz ≤ cells.length then some (chunk sz len ((cells.drop off).map C.toD), [id]) else none
  | _ => none
theorem elems_ref (sz id off len : Nat) : elems h sz (.ref id off len) = elemsR sz id off len (h.get id) := by
  simp only [elems, elemsR]
  cases hl : h.get id with
  | none => rfl
  | some l => cases l <;> rfl
theorem elemsR_arr (sz id off len : Nat) (cells : List C) : elemsR sz id off len (some (.arr cells)) = if off + len * sz ≤ cells.length then some (chunk sz len ((cells.drop off).map C.toD), [id]) else none := rfl
def cpyR (id off len : Nat) (ys : List (List D) × List Nat) : Option Loc → Option Re
  | some (.arr cells) => if off + len ≤ cells.length ∧ (ys.1.all fun e => e.length == 1) = true then
          some ⟨.c (.d (.sc (.int .i64 (min ys.1.length len : Nat)))), [(id, some (.arr (cells.take off ++ (ys.1.flatten.take (min ys.1.length len)).map C.d ++ cells.drop (off + min ys.1.length len))))], id :: ys.2, nx⟩
        else none
  | _ => none
def cpyAR (ys : List (List D) × List Nat) : AV → Option Re
  | .ref id off len => cpyR nx id off len ys (h.get id)
  | _ => none
theorem evOp_cpy (x y : AO) : evOp K dr f h nx (.cpy x y) = bindO (elems h 1 (y.ev f)) fun ys => cpyAR h nx ys (x.ev f) := by
  show bindO _ _ = _
  congr 1
theorem cpyAR_ref (ys : List (List D) × List Nat) (id off len : Nat) : cpyAR h nx ys (.ref id off len) = cpyR nx id off len ys (h.get id) := rfl
theorem cpyR_arr (id off len : Nat) (ys : List (List D) × List Nat) (cells : List C) : cpyR nx id off len ys (some (.arr cells)) = if off + len ≤ cells.length ∧ (ys.1.all fun e => e.length == 1) = true then
          some ⟨.c (.d (.sc (.int .i64 (min ys.1.length len : Nat)))), [(id, some (.arr (cells.take off ++ (ys.1.flatten.take (min ys.1.length len)).map C.d ++ cells.drop (off + min ys.1.length len))))], id :: ys.2, nx⟩
        else none := rfl
theorem evOp_len (x : AO) : evOp K dr f h nx (.len x) = bindO (lenOf h (x.ev f)) fun n => some ⟨.c (.d (.sc (.int .i64 n.1))), [], n.2, nx⟩ := rfl
def slenR : AV → Option Re
  | .c (.d (.sc (.string s))) => some ⟨.c (.d (.sc (.int .i64 s.size))), [], [], nx⟩
  | _ => none
theorem evOp_slen (x : AO) : evOp K dr f h nx (.slen x) = slenR nx (x.ev f) := rfl
theorem slenR_s (s : ByteArray) : slenR nx (.c (.d (.sc (.string s)))) = some ⟨.c (.d (.sc (.int .i64 s.size))), [], [], nx⟩ := rfl
theorem evOp_mx (x y : AO) : evOp K dr f h nx (.mx x y) = bindO (asInt (x.ev f)) fun a => bindO (asInt (y.ev f)) fun b => if a.1 = b.1 then some ⟨.c (.d (.sc (.int a.1 (if a.2 < b.2 then b.2 else a.2)))), [], [], nx⟩ else none := rfl
theorem evOp_mn (x y : AO) : evOp K dr f h nx (.mn x y) = bindO (asInt (x.ev f)) fun a => bindO (asInt (y.ev f)) fun b => if a.1 = b.1 then some ⟨.c (.d (.sc (.int a.1 (if b.2 < a.2 then b.2 else a.2)))), [], [], nx⟩ else none := rfl
def extR (i : Nat) : AV → Option Re
  | .tu xs => match xs[i]? with | some p => some ⟨p.toAV, [], [], nx⟩ | none => none
  | _ => none
def extPR : Option PV → Option Re
  | some p => some ⟨p.toAV, [], [], nx⟩
  | none => none
theorem evOp_ext (x : AO) (i : Nat) : evOp K dr f h nx (.ext x i) = extR nx i (x.ev f) := rfl
theorem extR_tu (i : Nat) (xs : List PV) : extR nx i (.tu xs) = extPR nx xs[i]? := by
  simp only [extR]
  cases xs[i]? <;> rfl
theorem extPR_some (p : PV) : extPR nx (some p) = some ⟨p.toAV, [], [], nx⟩ := rfl
def callAR (g : Nat) (a : List PV × List Nat) : Option (List PV) → Option Re
  | some r => if (a.2.isEmpty || r.all PV.flat) = true then some ⟨outAV r, [], a.2, nx⟩
    else some ⟨outAV r, a.2.map (·, none), a.2, nx⟩
  | none => none
def callR1 (g : Nat) : Option (List PV × List Nat) → Option Re
  | some a => callAR nx g a (K.call g a.1)
  | none => none
theorem doCall_eq (g : Nat) (args : List (Nat × AO)) : doCall K dr f h nx g args = callR1 K nx g (toPVs h f args) := by
  simp only [doCall]
  cases ha : toPVs h f args with
  | none => rfl
  | some a => simp only [bindO, callR1]; cases K.call g a.1 <;> rfl
theorem evOp_call (g : Nat) (args : List (Nat × AO)) : evOp K dr f h nx (.call g args) = callR1 K nx g (toPVs h f args) := doCall_eq K dr f h nx g args
def callvR (args : List (Nat × AO)) : Option Nat → Option Re
  | some g => callR1 K nx g (toPVs h f args)
  | none => none
theorem evOp_callv (x : AO) (args : List (Nat × AO)) : evOp K dr f h nx (.callv x args) = callvR K f h nx args (funcOf (x.ev f)) := by
  show bindO _ _ = _
  cases funcOf (x.ev f) with
  | none => rfl
  | some g => exact doCall_eq K dr f h nx g args
theorem callR1_some (g : Nat) (ps : List PV) (ids : List Nat) : callR1 K nx g (some (ps, ids)) = callAR nx g (ps, ids) (K.call g ps) := rfl
theorem callAR_nil (g : Nat) (ps r : List PV) : callAR nx g (ps, []) (some r) = some ⟨outAV r, [], [], nx⟩ := by simp [callAR]
theorem callAR_ids (g : Nat) (ps r : List PV) (ids : List Nat) : callAR nx g (ps, ids) (some r) = if (ids.isEmpty || r.all PV.flat) = true then some ⟨outAV r, [], ids, nx⟩
    else some ⟨outAV r, ids.map (·, none), ids, nx⟩ := rfl
theorem toPVs_nil : toPVs h f [] = some ([], []) := rfl
def pvR (q : Option (PV × List Nat)) (r : Option (List PV × List Nat)) : Option (List PV × List Nat) := bindO q fun a => bindO r fun b => some (a.1 :: b.1, a.2 ++ b.2)
theorem toPVs_cons (sz : Nat) (x : AO) (r : List (Nat × AO)) : toPVs h f ((sz, x) :: r) = pvR (toPV h sz (x.ev f)) (toPVs h f r) := rfl
theorem pvR_some (a : PV) (i : List Nat) (b : List PV) (j : List Nat) : pvR (some (a, i)) (some (b, j)) = some (a :: b, i ++ j) := rfl
theorem toPV_c (sz : Nat) (x : C) : toPV h sz (.c x) = some (.one x.toD, []) := rfl
theorem toPV_ag (sz : Nat) (cs : List C) : toPV h sz (.ag cs) = some (.agg (cs.map C.toD), []) := rfl
theorem toPV_ref (sz id off len : Nat) : toPV h sz (.ref id off len) = bindO (elems h sz (.ref id off len)) fun e => some (.one (.sl e.1), e.2) := rfl
theorem outAV_one (x : PV) : outAV [x] = x.toAV := rfl
theorem outAV_nil : outAV [] = .tu [] := rfl
theorem outAV_two (x y : PV) (r : List PV) : outAV (x :: y :: r) = .tu (x :: y :: r) := rfl
theorem resAll_nil : resAll f h [] = some [] := rfl
def resR (a : Option PV) (b : Option (List PV)) : Option (List PV) := bindO a fun a => bindO b fun b => some (a :: b)
theorem resR_some (a : PV) (b : List PV) : resR (some a) (some b) = some (a :: b) := rfl
theorem resAll_cons (r : ARes) (rs : List ARes) : resAll f h (r :: rs) = resR (resOne f h r) (resAll f h rs) := rfl
theorem resOne_t (s esz : Nat) : resOne f h (.t s esz) = bindO (toPV h esz (f.get s)) fun a => some a.1 := rfl
end
end Go.Proofs.Ytpanbfainilmpaa.Ev
end
section
/- The rules that a step by step evaluation uses, and the laws on numbers that it meets. -/
set_option linter.unusedSimpArgs false
set_option linter.unusedVariables false
namespace Go.Proofs.Ytpanbfainilmpaa.Ev
open Go.IntWalk

theorem iteB_eq {α : Type} (b : Bool) (x y : α) : iteB b x y = if b = true then x else y := by cases b <;> rfl
theorem wrap_i64 (x : Int) (h0 : -9223372036854775808 ≤ x) (h1 : x ≤ 9223372036854775807) : IntKind.i64.wrap x = x := IntWalk.i64_in x ⟨h0, h1⟩
/-- A counter goes on. -/
theorem wrap_succ (i : Nat) (h : i < 2305843009213693952) : IntKind.i64.wrap ((i : Int) + 1) = ((i + 1 : Nat) : Int) := by
  rw [wrap_i64 _ (by omega) (by omega)]; rfl
theorem cast_succ (i : Nat) : ((i : Int) + 1).toNat = i + 1 := by omega
theorem nonneg (i : Nat) : (0 : Int) ≤ (i : Int) := Int.natCast_nonneg i
theorem toNat_cast (i : Nat) : ((i : Int)).toNat = i := Int.toNat_natCast i

def idsW : List (Nat × Option Loc) → List Nat
  | [] => []
  | (n, some l) :: r => n :: (l.ids ++ idsW r)
  | (n, none) :: r => n :: idsW r
theorem ids_eq (v : AV) (w : List (Nat × Option Loc)) (r : List Nat) (nx : Nat) : Re.ids ⟨v, w, r, nx⟩ = v.ids ++ idsW w := by
  have : ∀ w : List (Nat × Option Loc), (w.flatMap fun e => e.1 :: match e.2 with | some l => l.ids | none => []) = idsW w := by
    intro w
    induction w with
    | nil => rfl
    | cons e w ih =>
      obtain ⟨n, l⟩ := e
      rw [List.flatMap_cons, ih]
      cases l <;> simp [idsW]
  exact congrArg (v.ids ++ ·) (this w)
theorem idsW_nil : idsW [] = [] := rfl
theorem idsW_some (n : Nat) (l : Loc) (r : List (Nat × Option Loc)) : idsW ((n, some l) :: r) = n :: (l.ids ++ idsW r) := rfl
theorem idsW_none (n : Nat) (r : List (Nat × Option Loc)) : idsW ((n, none) :: r) = n :: idsW r := rfl
theorem avids_d (x : D) : AV.ids (.c (.d x)) = [] := rfl
theorem avids_nil : AV.ids (.c .nil) = [] := rfl
theorem avids_gr (t : Nat) (es : List (List D)) : AV.ids (.c (.gr t es)) = [t] := rfl
theorem avids_ag (cs : List C) : AV.ids (.ag cs) = cs.flatMap C.ids := rfl
theorem avids_ref (i o l : Nat) : AV.ids (.ref i o l) = [i] := rfl
theorem avids_ptr (i o : Nat) : AV.ids (.ptr i o) = [i] := rfl
theorem avids_fptr (xs : List D) : AV.ids (.fptr xs) = [] := rfl
theorem avids_tu (xs : List PV) : AV.ids (.tu xs) = [] := rfl
theorem avids_top : AV.ids .top = [] := rfl
theorem cids_d (x : D) : C.ids (.d x) = [] := rfl
theorem cids_nil : C.ids .nil = [] := rfl
theorem cids_gr (t : Nat) (es : List (List D)) : C.ids (.gr t es) = [t] := rfl
theorem lids_arr (cells : List C) : Loc.ids (.arr cells) = cells.flatMap C.ids := rfl
theorem lids_tok (n s : Nat) : Loc.ids (.tok n s) = [] := rfl
theorem addFp_same (i lo : Nat) (v : AV) (prev : List Fp) : addFp i lo ⟨v, [], [], lo⟩ prev = prev := by simp [addFp, iteB]
theorem addFp_r (i lo nx x : Nat) (v : AV) (w : List (Nat × Option Loc)) (r : List Nat) (prev : List Fp) : addFp i lo ⟨v, w, x :: r, nx⟩ prev = ⟨i, lo, nx, x :: r, w.map (·.1)⟩ :: prev := rfl
theorem addFp_w (i lo nx : Nat) (v : AV) (x : Nat × Option Loc) (w : List (Nat × Option Loc)) (prev : List Fp) : addFp i lo ⟨v, x :: w, [], nx⟩ prev = ⟨i, lo, nx, [], (x :: w).map (·.1)⟩ :: prev := rfl
theorem beside_nil (bf : Nat) (r w m : List Nat) : beside bf r w m [] = true := rfl
theorem beside_cons (bf : Nat) (r w m : List Nat) (i lo hi : Nat) (r' w' : List Nat) (t : List Fp) : beside bf r w m (⟨i, lo, hi, r', w'⟩ :: t) = ((disj w (r' ++ w') && disj w' (r ++ w) && m.all (fun x => !(decide (lo ≤ x) && decide (x < hi))) || bf.testBit i) && beside bf r w m t) := rfl
theorem disj_nil (b : List Nat) : disj [] b = true := rfl
theorem disj_nil' (a : List Nat) : disj a [] = true := by simp [disj]
theorem disj_cons (x : Nat) (a b : List Nat) : disj (x :: a) b = (!b.contains x && disj a b) := rfl
theorem take_map_d (xs : List D) (n : Nat) : (xs.map C.d).take n = (xs.take n).map C.d := List.map_take.symm
theorem drop_map_d (xs : List D) (n : Nat) : (xs.map C.d).drop n = (xs.drop n).map C.d := List.map_drop.symm

attribute [go_sem] RUN_skip RUN_exit RUN_ret RUN_seq RUN_block RUN_loop RUN_cond RUN_reg RUN_regD
  thenR_norm thenR_exit thenR_ret loopR_norm loopR_exit loopR_ret condR_t condR_f blockR_norm blockR_ret blockR_exit callR_ret callR_norm icallR_ret icallR_norm regR_some
  bindO_some bindV_val iteB_t iteB_f
  Fr.get_cons Fr.get_nil Hp.get_cons Hp.get_nil Hp.set_cons Hp.set_nil Hp.del_cons Hp.del_nil upd_nil upd_some upd_none ev_t ev_k maskF_nil maskF_cons cutH_nil cutH_cons
  old_d old_nil old_gr old_ref old_ptr old_ag old_tu old_fptr old_top oldC_d oldC_nil oldC_gr oldL_arr oldL_tok toD_d toD_nil toD_gr toAV_one toAV_agg initF_nil initF_cons asInt_i asBool_b
  evOps_nil evOps_cons evOps_consg evOpsD_nil evOpsD_cons evOpsD_consg opsR_d opsR_n opsDR_d opsDR_n gdR_tt gdR_ft gdR_tf gdR_ff gdR_n gdB_tu gdB_b
  evOp_mv evOp_asg asgR_nil asgR_d asgR_gr asgR_ag asgR_tu asgR_ref asgR_ptr evOp_pick evOp_alloc boxed_mk births_nil birthR1_mk birthR2_mk births_n births_d births_gr evOp_box boxR_c boxR_ag
  evOp_build putParts_nil putParts_cons putPart_c putPart_ag evOp_bslf evOp_bslt litElems_nil litElems_cons cellsOf_c cellsOf_ag
  evOp_ld ldR_ptr ldPR_t ldPR_f ldcR_some ldR_fptrt ldR_fptrf evOp_st stR_ptr stPR_arr birthV_nil birthV_d birthV_gr birthV_ag birthA_mk evOp_fad fadR_ptr fadR_fptr hasR_eq hasR_arr fpR_some evOp_iad iadR_sl iadR_gr iadR_ref
  cR_some evOp_fld fldR_t fldR_f evOp_idx idxR_ag evOp_bin binR_v bin_add bin_sub bin_mul bin_quo bin_rem bin_and bin_or bin_xor bin_andNot bin_eql bin_neq bin_lss bin_leq bin_gtr bin_geq bin_shl bin_shr bin_seql bin_sneq un_not un_neg un_xor
  evOp_binb binbR_v binb_eql binb_neq evOp_eqa eqaR_ag eqCells_nil eqCells_cons eqCell_b eqCell_i eqCell_s evOp_un unR_v evOp_cvi evOp_cvs evOp_slc loR_none loR_some hiR_none hiR_some slcR_sl slcR_gr slcR_nil slcR_ref
  lenOf_sl lenOf_nil lenOf_gr lenOf_ref evOp_mksf evOp_mkst evOp_app appR_nil appR_gr appTR_f appTR_t elems_sl elems_nil elems_gr elems_ref elemsR_arr evOp_cpy cpyAR_ref cpyR_arr evOp_len evOp_slen slenR_s evOp_mx evOp_mn
  evOp_ext extR_tu extPR_some evOp_call evOp_callv callR1_some callAR_nil callAR_ids toPVs_nil toPVs_cons pvR_some toPV_c toPV_ag toPV_ref outAV_one outAV_nil outAV_two resAll_nil resR_some resAll_cons resOne_t
  ids_eq idsW_nil idsW_some idsW_none avids_d avids_nil avids_gr avids_ag avids_ref avids_ptr avids_fptr avids_tu avids_top cids_d cids_nil cids_gr lids_arr lids_tok addFp_same addFp_r addFp_w beside_nil beside_cons disj_nil disj_nil' disj_cons
  List.map_cons List.map_nil List.flatMap_cons List.flatMap_nil List.nil_append List.cons_append List.append_nil List.length_cons List.length_nil List.length_map List.all_cons List.all_nil List.contains_cons List.contains_nil List.isEmpty_nil List.isEmpty_cons
  List.take_succ_cons List.take_zero List.take_nil List.drop_succ_cons List.drop_zero List.drop_nil List.getElem?_cons_succ List.getElem?_cons_zero List.set_cons_zero List.set_cons_succ List.take_length List.replicate_zero List.replicate_succ List.length_replicate
  nonneg toNat_cast Nat.zero_add ite_self
end Go.Proofs.Ytpanbfainilmpaa.Ev
end
