/- A region of open order ends as its written order does. -/
import Derived.Test.YtpanbfainilmpaaEv17
set_option linter.unusedVariables false
set_option linter.unusedSimpArgs false
namespace Go.Proofs.Ytpanbfainilmpaa.Ev

theorem bare_us (o : AOp) : o.bare.us = o.us := by cases o <;> rfl
theorem bare_us' (o : AOper) : o.bare.us = o.us := by
  simp only [AOper.us, AOper.bare, bare_us]

/-- A run in written order, and what the text says of other orders. -/
structure Run (P : Program) (inl : Nat → Bool) (nt : Nat) (ops : Array Oper) (K : Or) (aos : List AOper) (S : Nat → St) (R : Nat → Re) : Prop where
  hK : KOk P inl K
  len : aos.length = ops.size
  bare : ∀ (i : Nat) (o : Oper) (ao : AOper), ops[i]? = some o → aos[i]? = some ao → ao.bare = compOper P inl nt ops o ((bitsAll [] ops.toList).getD i 0)
  ks : ∀ (i : Nat) (ao : AOper), aos[i]? = some ao → ∀ c ∈ ao.op.ks, c.ids = []
  step : ∀ (k : Nat) (o : AOper), aos[k]? = some o → evStep K true o (S k) = some (R k) ∧ S (k + 1) = (S k).put o.dst (R k)
  bes : ∀ (k l : Nat) (o : AOper), k < l → aos[l]? = some o → o.bf.testBit k = true ∨ Beside (R l) (R k) (S k).nx
  edge : ∀ (i : Nat) (o : Oper), ops[i]? = some o → ∀ e ∈ o.after.toList, Region.binds .any e = true → e.on < i
  slot : ∀ (i j : Nat) (oi oj : AOper), aos[i]? = some oi → aos[j]? = some oj → slotFits oi oj i j = true
  wf : WFr (S 0).f (S 0).nx
  wh : WH (S 0).h (S 0).nx

section
variable {P : Program} {inl : Nat → Bool} {nt : Nat} {ops : Array Oper} {K : Or} {aos : List AOper} {S : Nat → St} {R : Nat → Re}

theorem Run.both (r : Run P inl nt ops K aos S R) {i : Nat} (h : i < ops.size) : ∃ o ao, ops[i]? = some o ∧ aos[i]? = some ao := ⟨ops[i], aos[i]'(by rw [r.len]; exact h), Array.getElem?_eq_getElem h, List.getElem?_eq_getElem _⟩

theorem Run.states (r : Run P inl nt ops K aos S R) : ∀ k, k ≤ ops.size → WFr (S k).f (S k).nx ∧ WH (S k).h (S k).nx
  | 0, _ => ⟨r.wf, r.wh⟩
  | k + 1, h => by
    obtain ⟨h1, h2⟩ := r.states k (by omega)
    obtain ⟨o, ao, _, hao⟩ := r.both (i := k) (by omega)
    obtain ⟨q1, q2⟩ := r.step k ao hao
    have hr := evStep_lt r.hK.wf h1 h2 (r.ks k ao hao) q1
    rw [q2]
    exact ⟨put_wf h1 hr, put_wh h2 hr⟩
theorem Run.re (r : Run P inl nt ops K aos S R) {k : Nat} (h : k < ops.size) : ReOk (S k).nx (R k) ∧ (S (k + 1)).nx = (R k).nx := by
  obtain ⟨h1, h2⟩ := r.states k (by omega)
  obtain ⟨o, ao, _, hao⟩ := r.both h
  obtain ⟨q1, q2⟩ := r.step k ao hao
  exact ⟨evStep_lt r.hK.wf h1 h2 (r.ks k ao hao) q1, by rw [q2]; rfl⟩
theorem Run.nx_le (r : Run P inl nt ops K aos S R) {k : Nat} : ∀ {l : Nat}, k ≤ l → l ≤ ops.size → (S k).nx ≤ (S l).nx
  | 0, h, _ => by have : k = 0 := by omega
                  subst this; exact Nat.le_refl _
  | l + 1, h, hl => by
    rcases Nat.lt_or_ge l k with hk | hk
    · have : k = l + 1 := by omega
      subst this; exact Nat.le_refl _
    · obtain ⟨h1, h2⟩ := r.re (k := l) (by omega)
      rw [h2]
      exact Nat.le_trans (r.nx_le hk (by omega)) h1.1

/-- Where an operation writes. -/
def dstOf (aos : List AOper) (j : Nat) : Option Nat := (aos[j]?).bind (·.dst)

theorem Run.seqH (r : Run P inl nt ops K aos S R) (id : Nat) : ∀ k, k ≤ ops.size → (S k).h.get id = (lastOf (fun j => wr (R j).w id) k).getD ((S 0).h.get id)
  | 0, _ => rfl
  | k + 1, h => by
    obtain ⟨o, ao, _, hao⟩ := r.both (i := k) (by omega)
    obtain ⟨q1, q2⟩ := r.step k ao hao
    rw [q2, put_h, updF_wr]
    simp only [lastOf]
    cases wr (R k).w id with
    | some y => rfl
    | none => exact r.seqH id k (by omega)
theorem Run.seqF (r : Run P inl nt ops K aos S R) (s : Nat) : ∀ k, k ≤ ops.size → (S k).f.get s = (lastOf (fun j => if dstOf aos j = some s then some (R j).v else none) k).getD ((S 0).f.get s)
  | 0, _ => rfl
  | k + 1, h => by
    obtain ⟨o, ao, _, hao⟩ := r.both (i := k) (by omega)
    obtain ⟨q1, q2⟩ := r.step k ao hao
    have hd : dstOf aos k = ao.dst := by simp [dstOf, hao]
    rw [q2, put_f]
    simp only [lastOf, hd]
    by_cases hs : ao.dst = some s
    · rw [if_pos hs, if_pos hs]; rfl
    · rw [if_neg hs, if_neg hs]; exact r.seqF s k (by omega)

/-- The abstract heap, the frame when the operations of L are done. -/
def HL (n : Nat) (S : Nat → St) (R : Nat → Re) (L : Nat → Bool) : HF := fun id => (lastOf (fun j => if L j = true then wr (R j).w id else none) n).getD ((S 0).h.get id)
def FL (n : Nat) (aos : List AOper) (S : Nat → St) (R : Nat → Re) (L : Nat → Bool) : Nat → AV := fun s => (lastOf (fun j => if L j = true ∧ dstOf aos j = some s then some (R j).v else none) n).getD ((S 0).f.get s)

def bfOf (ops : Array Oper) (i : Nat) : Nat := (bitsAll [] ops.toList).getD i 0
theorem Run.bf (r : Run P inl nt ops K aos S R) {i : Nat} {ao : AOper} (h : aos[i]? = some ao) : ao.bf = bfOf ops i := by
  have hlt : i < ops.size := by rw [← r.len]; exact (List.getElem?_eq_some_iff.1 h).1
  have := r.bare i ops[i] ao (Array.getElem?_eq_getElem hlt) h
  have := congrArg AOper.bf this
  exact this
theorem bf_bit {i k : Nat} {o : Oper} (ho : ops[i]? = some o) (hedge : ∀ e ∈ o.after.toList, Region.binds .any e = true → e.on < i) (h : (bfOf ops i).testBit k = true) : ∃ e ∈ o.after.toList, Region.binds .any e = true ∧ (k = e.on ∨ (bfOf ops e.on).testBit k = true) := by
  obtain ⟨pre, h1, h2, h3⟩ := bitsAll_at ops.toList [] i o (by simpa using ho)
  simp only [List.length_nil, Nat.zero_add] at h1 h2 h3
  have hb : bfOf ops i = bitsOf pre o.after.toList := by simp [bfOf, List.getD_eq_getElem?_getD, h3]
  rw [hb] at h
  obtain ⟨e, he, hbind, hk⟩ := (bitsOf_bit pre _ k).1 h
  refine ⟨e, he, hbind, hk.imp id fun hk => ?_⟩
  have hlt := hedge e he hbind
  simp only [bfOf, List.getD_eq_getElem?_getD, ← h2 e.on hlt]
  simpa [List.getD_eq_getElem?_getD] using hk
theorem Run.bf_lt (r : Run P inl nt ops K aos S R) : ∀ (i k : Nat), i < ops.size → (bfOf ops i).testBit k = true → k < i := by
  intro i
  induction i using Nat.strongRecOn with
  | _ i ih =>
    intro k hi h
    obtain ⟨o, ao, ho, _⟩ := r.both hi
    obtain ⟨e, he, hb, hk⟩ := bf_bit ho (r.edge i o ho) h
    have hlt := r.edge i o ho e he hb
    rcases hk with rfl | hk
    · exact hlt
    · exact Nat.lt_trans (ih e.on hlt k (by omega) hk) hlt

/-- With an operation its predecessors. -/
def ClosedL (ops : Array Oper) (L : Nat → Bool) : Prop := ∀ (j : Nat) (o : Oper), ops[j]? = some o → L j = true → ∀ e ∈ o.after.toList, Region.binds .any e = true → L e.on = true
theorem Run.bf_closed (r : Run P inl nt ops K aos S R) {L : Nat → Bool} (hc : ClosedL ops L) : ∀ (i k : Nat) (o : Oper), ops[i]? = some o → (∀ e ∈ o.after.toList, Region.binds .any e = true → L e.on = true) → (bfOf ops i).testBit k = true → L k = true := by
  intro i
  induction i using Nat.strongRecOn with
  | _ i ih =>
    intro k o ho hpre h
    obtain ⟨e, he, hb, hk⟩ := bf_bit ho (r.edge i o ho) h
    have hlt := r.edge i o ho e he hb
    have hi : i < ops.size := (Array.getElem?_eq_some_iff.1 ho).1
    rcases hk with rfl | hk
    · exact hpre e he hb
    · obtain ⟨o', _, ho', _⟩ := r.both (i := e.on) (by omega)
      exact ih e.on hlt k o' ho' (hc e.on o' ho' (hpre e he hb)) hk

/-- An operation that may come up now. -/
structure Ready (ops : Array Oper) (L : Nat → Bool) (i : Nat) : Prop where
  lt : i < ops.size
  new : L i = false
  pre : ∀ (o : Oper), ops[i]? = some o → ∀ e ∈ o.after.toList, Region.binds .any e = true → L e.on = true

theorem Run.early (r : Run P inl nt ops K aos S R) {L : Nat → Bool} (hc : ClosedL ops L) {i j : Nat} (hi : Ready ops L i) (hji : j < i) : L j = true ∨ Beside (R i) (R j) (S j).nx := by
  obtain ⟨o, ao, ho, hao⟩ := r.both hi.lt
  rcases r.bes j i ao hji hao with h | h
  · rw [r.bf hao] at h
    exact .inl (r.bf_closed hc i j o ho (hi.pre o ho) h)
  · exact .inr h
theorem Run.late (r : Run P inl nt ops K aos S R) {L : Nat → Bool} (hc : ClosedL ops L) {i j : Nat} (hi : Ready ops L i) (hij : i < j) (hj : j < ops.size) (hL : L j = true) : Beside (R j) (R i) (S i).nx := by
  obtain ⟨o, ao, ho, hao⟩ := r.both hj
  rcases r.bes i j ao hij hao with h | h
  · rw [r.bf hao] at h
    have := r.bf_closed hc j i o ho (hc j o ho hL) h
    rw [hi.new] at this
    cases this
  · exact h
theorem Run.slots (r : Run P inl nt ops K aos S R) {L : Nat → Bool} (hc : ClosedL ops L) {i j : Nat} {ao : AOper} (hi : Ready ops L i) (hj : j < ops.size) (hne : j ≠ i) {s : Nat} (hd : dstOf aos j = some s) (hao : aos[i]? = some ao) (hs : s ∈ ao.us ∨ dstOf aos i = some s) :
    (j < i → L j = true) ∧ (i < j → L j = false) := by
  obtain ⟨o, _, ho, _⟩ := r.both hi.lt
  obtain ⟨oj, aj, hoj, haj⟩ := r.both hj
  have hslot := r.slot i j ao aj hao haj
  have hdj : aj.dst = some s := by simpa [dstOf, haj] using hd
  simp only [slotFits, hdj, r.bf hao, r.bf haj, Bool.or_eq_true, beq_iff_eq] at hslot
  rcases hslot with ((h | h) | h) | h
  · exact absurd h.symm hne
  · have hlt := r.bf_lt i j hi.lt h
    exact ⟨fun _ => r.bf_closed hc i j o ho (hi.pre o ho) h, fun h => by omega⟩
  · have hlt := r.bf_lt j i hj h
    refine ⟨fun h => by omega, fun _ => ?_⟩
    cases hL : L j with
    | false => rfl
    | true =>
      have := r.bf_closed hc j i oj hoj (hc j oj hoj hL) h
      rw [hi.new] at this
      cases this
  · exfalso
    simp only [Bool.and_eq_true, Bool.not_eq_true', List.contains_eq_mem, decide_eq_false_iff_not] at h
    rcases hs with hs | hs
    · exact h.1 hs
    · have : ao.dst = some s := by simpa [dstOf, hao] using hs
      rw [this] at h
      simp at h

theorem Run.readH (r : Run P inl nt ops K aos S R) {L : Nat → Bool} (hc : ClosedL ops L) {i : Nat} (hi : Ready ops L i) {id : Nat} (hid : id ∈ (R i).r) : HL ops.size S R L id = (S i).h.get id := by
  rw [r.seqH id i (Nat.le_of_lt hi.lt)]
  unfold HL
  congr 1
  rw [lastOf_cut (i := i) (Nat.le_of_lt hi.lt) fun j h1 h2 => ?_]
  · refine lastOf_congr fun j hj => ?_
    split
    · rfl
    · rename_i hL
      rcases r.early hc hi hj with h | h
      · exact absurd h hL
      · cases hw : wr (R j).w id with
        | none => rfl
        | some y => exact absurd hid (h.2.1 id (List.mem_map.2 ⟨_, wr_mem hw, rfl⟩)).1
  · split
    · rename_i hL
      rcases Nat.lt_or_ge i j with hij | hij
      · have h := r.late hc hi hij h2 hL
        cases hw : wr (R j).w id with
        | none => rfl
        | some y => exact absurd hid (h.1 id (List.mem_map.2 ⟨_, wr_mem hw, rfl⟩)).1
      · have : j = i := by omega
        subst this
        rw [hi.new] at hL
        cases hL
    · rfl
theorem Run.readF (r : Run P inl nt ops K aos S R) {L : Nat → Bool} (hc : ClosedL ops L) {i : Nat} {ao : AOper} (hi : Ready ops L i) (hao : aos[i]? = some ao) {s : Nat} (hs : s ∈ ao.us) : FL ops.size aos S R L s = (S i).f.get s := by
  rw [r.seqF s i (Nat.le_of_lt hi.lt)]
  unfold FL
  congr 1
  rw [lastOf_cut (i := i) (Nat.le_of_lt hi.lt) fun j h1 h2 => ?_]
  · refine lastOf_congr fun j hj => ?_
    by_cases hd : dstOf aos j = some s
    · have := (r.slots hc hi (by have := hi.lt; omega) (by omega) hd hao (.inl hs)).1 hj
      simp [hd, this]
    · simp [hd]
  · rw [if_neg]
    rintro ⟨hL, hd⟩
    rcases Nat.lt_or_ge i j with hij | hij
    · have := (r.slots hc hi h2 (by omega) hd hao (.inl hs)).2 hij
      rw [this] at hL
      cases hL
    · have : j = i := by omega
      subst this
      rw [hi.new] at hL
      cases hL

def addL (L : Nat → Bool) (i : Nat) : Nat → Bool := fun j => if j = i then true else L j
theorem Run.stepH (r : Run P inl nt ops K aos S R) {L : Nat → Bool} (hc : ClosedL ops L) {i : Nat} (hi : Ready ops L i) : HL ops.size S R (addL L i) = updF (HL ops.size S R L) (R i).w := by
  funext id
  rw [updF_wr]
  cases hw : wr (R i).w id with
  | some y =>
    simp only [HL, Option.getD_some]
    rw [lastOf_at hi.lt (x := y) (by simp [addL, hw]) fun j h1 h2 => ?_]
    · rfl
    · have hne : j ≠ i := by omega
      simp only [addL, hne, if_false]
      split
      · rename_i hL
        have h := r.late hc hi h1 h2 hL
        cases hw2 : wr (R j).w id with
        | none => rfl
        | some z => exact absurd (List.mem_map.2 ⟨_, wr_mem hw2, rfl⟩) (h.2.1 id (List.mem_map.2 ⟨_, wr_mem hw, rfl⟩)).2
      · rfl
  | none =>
    simp only [HL, Option.getD_none]
    congr 1
    refine lastOf_congr fun j hj => ?_
    by_cases hne : j = i
    · subst hne; simp [addL, hi.new, hw]
    · simp [addL, hne]
theorem Run.stepF (r : Run P inl nt ops K aos S R) {L : Nat → Bool} (hc : ClosedL ops L) {i : Nat} {ao : AOper} (hi : Ready ops L i) (hao : aos[i]? = some ao) (s : Nat) : FL ops.size aos S R (addL L i) s = if ao.dst = some s then (R i).v else FL ops.size aos S R L s := by
  have hd : dstOf aos i = ao.dst := by simp [dstOf, hao]
  by_cases hs : ao.dst = some s
  · rw [if_pos hs]
    simp only [FL]
    rw [lastOf_at hi.lt (x := (R i).v) (by simp [addL, hd, hs]) fun j h1 h2 => ?_]
    · rfl
    · have hne : j ≠ i := by omega
      simp only [addL, hne, if_false]
      rw [if_neg]
      rintro ⟨hL, hdj⟩
      have := (r.slots hc hi h2 hne hdj hao (.inr (hd.trans hs))).2 h1
      rw [this] at hL
      cases hL
  · rw [if_neg hs]
    simp only [FL]
    congr 1
    refine lastOf_congr fun j hj => ?_
    by_cases hne : j = i
    · subst hne; simp [hd, hs]
    · simp [addL, hne]

/-- No other operation names the numbers that this one gives out. -/
theorem Run.names (r : Run P inl nt ops K aos S R) {L : Nat → Bool} (hc : ClosedL ops L) {i j : Nat} (hi : Ready ops L i) (hj : j < ops.size) (hL : L j = true) {x : Nat} (hx : x ∈ (R j).ids) : ¬((S i).nx ≤ x ∧ x < (R i).nx) := by
  rcases Nat.lt_or_ge i j with hij | hij
  · exact (r.late hc hi hij hj hL).2.2 x hx
  · rcases Nat.lt_or_ge j i with hji | hji
    · obtain ⟨h1, h2⟩ := r.re hj
      have := h1.2 x hx
      have := r.nx_le (k := j + 1) (l := i) hji (Nat.le_of_lt hi.lt)
      omega
    · have : j = i := by omega
      subst this
      rw [hi.new] at hL
      cases hL
theorem Run.nx0 (r : Run P inl nt ops K aos S R) {i : Nat} (hi : i < ops.size) : (S 0).nx ≤ (S i).nx := r.nx_le (Nat.zero_le _) (Nat.le_of_lt hi)
theorem ids_w {q : Re} {e : Nat × Option Loc} (he : e ∈ q.w) : e.1 ∈ q.ids ∧ ∀ l, e.2 = some l → ∀ i ∈ l.ids, i ∈ q.ids := by
  have key : ∀ i ∈ (e.1 :: match e.2 with | some l => l.ids | none => []), i ∈ q.ids := fun i hi => List.mem_append_right _ (List.mem_flatMap.2 ⟨e, he, hi⟩)
  refine ⟨key _ List.mem_cons_self, fun l hl i hi => key i (List.mem_cons_of_mem _ ?_)⟩
  rw [hl]
  exact hi

theorem Run.freshH (r : Run P inl nt ops K aos S R) {L : Nat → Bool} (hc : ClosedL ops L) {i : Nat} (hi : Ready ops L i) {x : Nat} (h1 : (S i).nx ≤ x) (h2 : x < (R i).nx) : HL ops.size S R L x = none := by
  unfold HL
  rw [lastOf_none fun j hj => ?_]
  · exact r.wh.fresh (Nat.le_trans (r.nx0 hi.lt) h1)
  · split
    · rename_i hL
      cases hw : wr (R j).w x with
      | none => rfl
      | some y => exact absurd ⟨h1, h2⟩ (r.names hc hi hj hL (ids_w (wr_mem hw)).1)
    · rfl
theorem Run.cleanH (r : Run P inl nt ops K aos S R) {L : Nat → Bool} (hc : ClosedL ops L) {i : Nat} (hi : Ready ops L i) : Clean (HL ops.size S R L) (bn (S i).nx (R i).nx) := by
  intro id cells hcc c hcm x hx hb
  have hb := mem_bn.1 hb
  unfold HL at hcc
  cases hl : lastOf (fun j => if L j = true then wr (R j).w id else none) ops.size with
  | none =>
    rw [hl, Option.getD_none] at hcc
    have := (r.wh.get hcc).2 x (List.mem_flatMap.2 ⟨c, hcm, hx⟩)
    have := r.nx0 hi.lt
    omega
  | some y =>
    rw [hl, Option.getD_some] at hcc
    obtain ⟨j, hj, hg⟩ := lastOf_some hl
    split at hg
    · rename_i hL
      subst hcc
      exact r.names hc hi hj hL ((ids_w (wr_mem hg)).2 _ rfl x (List.mem_flatMap.2 ⟨c, hcm, hx⟩)) hb
    · cases hg
theorem Run.frameL (r : Run P inl nt ops K aos S R) {L : Nat → Bool} (hc : ClosedL ops L) {i : Nat} (hi : Ready ops L i) (s : Nat) : ∀ x ∈ (FL ops.size aos S R L s).ids, x ∉ bn (S i).nx (R i).nx := by
  intro x hx hb
  have hb := mem_bn.1 hb
  unfold FL at hx
  cases hl : lastOf (fun j => if L j = true ∧ dstOf aos j = some s then some (R j).v else none) ops.size with
  | none =>
    rw [hl, Option.getD_none] at hx
    have := r.wf s x hx
    have := r.nx0 hi.lt
    omega
  | some y =>
    rw [hl, Option.getD_some] at hx
    obtain ⟨j, hj, hg⟩ := lastOf_some hl
    split at hg
    · rename_i hL
      cases hg
      exact r.names hc hi hj hL.1 (List.mem_append_left _ hx) hb
    · cases hg

/-- A machine that has done the operations of L. -/
structure AI (nt : Nat) (ops : Array Oper) (aos : List AOper) (S : Nat → St) (R : Nat → Re) (w0 : World) (g0 : Gh) (a0 : Act) (L : Nat → Bool) (w : World) (g : Gh) (a : Act) : Prop where
  hi : HI w g (HL ops.size S R L)
  fr : ∀ s, AVR w g (HL ops.size S R L) (FL ops.size aos S R L s) (a.tmps.getD s undef)
  sz : nt ≤ a.tmps.size
  stp : Stp (bn (S 0).nx (S ops.size).nx) w0 g0 (S 0).h.get w g (HL ops.size S R L)
  df : a.defers = a0.defers
  closed : ClosedL ops L

theorem Run.any (r : Run P inl nt ops K aos S R) {w0 : World} {g0 : Gh} {a0 : Act} {Q : Exit → Act → World → Prop}
    (hQ : ∀ w' g' a', SI nt w' g' (S ops.size) a' → Stp (bn (S 0).nx (S ops.size).nx) w0 g0 (S 0).h.get w' g' (S ops.size).h.get → a'.defers = a0.defers → Q .normal a' w') :
    ∀ (fuel : Nat) (listed : Array Bool) (w : World) (g : Gh) (a : Act), listed.size = ops.size → ((List.range ops.size).filter fun j => !listed.getD j true).length ≤ fuel → AI nt ops aos S R w0 g0 a0 (fun j => listed.getD j true) w g a →
      wpAny P .any ops Q fuel listed a w := by
  -- all are done
  have fin : ∀ (listed : Array Bool) (w : World) (g : Gh) (a : Act), (∀ j, j < ops.size → listed.getD j true = true) → AI nt ops aos S R w0 g0 a0 (fun j => listed.getD j true) w g a → Q .normal a w := by
    intro listed w g a hall h
    have hH : HL ops.size S R (fun j => listed.getD j true) = (S ops.size).h.get := by
      funext id
      rw [r.seqH id ops.size (Nat.le_refl _)]
      unfold HL
      congr 1
      exact lastOf_congr fun j hj => by simp [hall j hj]
    have hF : ∀ s, FL ops.size aos S R (fun j => listed.getD j true) s = (S ops.size).f.get s := by
      intro s
      rw [r.seqF s ops.size (Nat.le_refl _)]
      unfold FL
      congr 1
      exact lastOf_congr fun j hj => by simp [hall j hj]
    obtain ⟨s1, s2⟩ := r.states ops.size (Nat.le_refl _)
    refine hQ w g a ⟨hH ▸ h.hi, fun s => ?_, s1, s2, h.sz⟩ (hH ▸ h.stp) h.df
    have := h.fr s
    rw [hF, hH] at this
    exact this
  have rdy : ∀ (listed : Array Bool), listed.size = ops.size → ∀ i, i ∈ Region.ready .any ops listed ↔ Ready ops (fun j => listed.getD j true) i := by
    intro listed hsz i
    simp only [Region.ready, List.mem_filter, List.mem_range, Bool.and_eq_true, Bool.not_eq_true']
    constructor
    · rintro ⟨h1, h2, h3⟩
      refine ⟨h1, h2, fun o ho e he hb => ?_⟩
      rw [ho] at h3
      simp only [Option.map_some, Option.getD_some] at h3
      rw [Array.all_eq_true_iff_forall_mem] at h3
      have := h3 e (Array.mem_toList_iff.1 he)
      simp only [hb, Bool.not_true, Bool.false_or] at this
      have hlt := r.edge i o ho e he hb
      have hlt2 : e.on < listed.size := by rw [hsz]; omega
      simp [Array.getD, hlt2] at this ⊢
      exact this
    · intro h
      refine ⟨h.lt, h.new, ?_⟩
      obtain ⟨o, _, ho, _⟩ := r.both h.lt
      rw [ho]
      simp only [Option.map_some, Option.getD_some]
      rw [Array.all_eq_true_iff_forall_mem]
      intro e he
      cases hb : Region.binds .any e with
      | false => rfl
      | true =>
        have he' := Array.mem_toList_iff.2 he
        have := h.pre o ho e he' hb
        have hlt := r.edge i o ho e he' hb
        have hlt2 : e.on < listed.size := by rw [hsz]; have := h.lt; omega
        simp [Array.getD, hlt2] at this ⊢
        exact this
  intro fuel
  induction fuel with
  | zero =>
    intro listed w g a hsz hcount h
    have hall : ∀ j, j < ops.size → listed.getD j true = true := by
      intro j hj
      cases hL : listed.getD j true with
      | true => rfl
      | false =>
        have : j ∈ (List.range ops.size).filter fun j => !listed.getD j true := List.mem_filter.2 ⟨List.mem_range.2 hj, by rw [hL]; rfl⟩
        have := List.length_pos_of_mem this
        omega
    refine ⟨?_, fin listed w g a hall h⟩
    cases hr : Region.ready .any ops listed with
    | nil => rfl
    | cons i t =>
      have := (rdy listed hsz i).1 (by rw [hr]; exact List.mem_cons_self)
      have h2 := hall i this.lt
      have h3 : listed.getD i true = false := this.new
      rw [h2] at h3
      cases h3
  | succ fuel ih =>
    intro listed w g a hsz hcount h
    refine ⟨fun hr => fin listed w g a (fun j hj => ?_) h, fun i hir => ?_⟩
    · induction j using Nat.strongRecOn with
      | _ j ihj =>
        cases hL : listed.getD j true with
        | true => rfl
        | false =>
          have : j ∈ Region.ready .any ops listed := (rdy listed hsz j).2 ⟨hj, hL, fun o ho e he hb => ihj e.on (r.edge j o ho e he hb) (by have := r.edge j o ho e he hb; omega)⟩
          rw [hr] at this
          cases this
    · have hi := (rdy listed hsz i).1 hir
      obtain ⟨o, ao, ho, hao⟩ := r.both hi.lt
      obtain ⟨q1, q2⟩ := r.step i ao hao
      obtain ⟨s1, s2⟩ := r.states i (Nat.le_of_lt hi.lt)
      obtain ⟨e1, e2⟩ := r.re hi.lt
      have core : ∀ (next : Act → World → Prop), (∀ v w' g', HI w' g' (updF (HL ops.size S R fun j => listed.getD j true) (R i).w) → Stp (bn (S i).nx (R i).nx) w g (HL ops.size S R fun j => listed.getD j true) w' g' (updF (HL ops.size S R fun j => listed.getD j true) (R i).w) → AVR w' g' (updF (HL ops.size S R fun j => listed.getD j true) (R i).w) (R i).v v → next (a.put o.dst v) w') →
          wpOp P ops Q i next a w ∧ (∀ d, o.dst = some d → d < nt ∨ (R i).v = .tu []) ∧ ao.dst = o.dst := fun next hn =>
        step_core h.hi r.hK s1 s2 ho (r.bare i o ao ho hao) (r.ks i ao hao) (fun s hs => by
          have := h.fr s
          rw [r.readF h.closed hi hao hs] at this
          exact this) q1 (fun id hid => r.readH h.closed hi hid) (fun x h1 h2 => r.freshH h.closed hi h1 h2) (r.cleanH h.closed hi) hn
      refine (core _ fun v w' g' h1 h2 h3 => ?_).1
      obtain ⟨_, hd1, hd2⟩ := core (fun _ _ => True) fun _ _ _ _ _ _ => trivial
      have hL' : (fun j => (listed.setIfInBounds i true).getD j true) = addL (fun j => listed.getD j true) i := by
        funext j
        simp only [addL]
        by_cases hj : j = i
        · subst hj
          simp [Array.getD]
        · rw [if_neg hj, Array.getD_eq_getD_getElem?, Array.getD_eq_getD_getElem?, Array.getElem?_setIfInBounds, if_neg (fun h => hj h.symm)]
      refine ih (listed.setIfInBounds i true) w' g' (a.put o.dst v) (by simpa using hsz) ?_ ?_
      · have hlt : ((List.range ops.size).filter fun j => !(listed.setIfInBounds i true).getD j true).length < ((List.range ops.size).filter fun j => !listed.getD j true).length := by
          have e : ((List.range ops.size).filter fun j => !(listed.setIfInBounds i true).getD j true) = ((List.range ops.size).filter fun j => !listed.getD j true).filter fun j => !(j == i) := by
            rw [List.filter_filter]
            refine List.filter_congr fun j _ => ?_
            have := congrFun hL' j
            simp only [addL] at this
            rw [this]
            by_cases hj : j = i
            · subst hj; simp
            · simp [hj]
          rw [e]
          refine List.length_filter_lt_length_iff_exists.2 ⟨i, List.mem_filter.2 ⟨List.mem_range.2 hi.lt, ?_⟩, by simp⟩
          have h9 : listed.getD i true = false := hi.new
          rw [h9]
          rfl
        omega
      · rw [hL']
        have eH := r.stepH h.closed hi
        refine ⟨by rw [eH]; exact h1, fun s => ?_, by rw [put_size]; exact h.sz, ?_, (put_defers _ _ _).trans h.df, ?_⟩
        · rw [eH, r.stepF h.closed hi hao, put_get, hd2]
          by_cases hds : o.dst = some s
          · rw [if_pos hds]
            by_cases hsz : s < a.tmps.size
            · rw [if_pos ⟨hds, hsz⟩]; exact h3
            · rw [if_neg (fun h => hsz h.2)]
              rcases hd1 s hds with hh | hh
              · exact absurd (Nat.lt_of_lt_of_le hh h.sz) hsz
              · rw [hh, getD_out hsz]; exact ⟨[], rfl, .nil⟩
          · rw [if_neg hds, if_neg (fun h => hds h.1)]
            exact AVR.step h2 (r.frameL h.closed hi s) (h.fr s)
        · rw [eH]
          refine (Stp.trans h.stp h2).weaken fun j hj => ?_
          rcases List.mem_append.1 hj with hj | hj
          · exact hj
          · have h5 := mem_bn.1 hj
            have h6 := r.nx0 hi.lt
            have h7 := r.nx_le (k := i + 1) (l := ops.size) hi.lt (Nat.le_refl _)
            exact mem_bn.2 ⟨by omega, by omega⟩
        · intro j oj hoj hLj e he hb
          simp only [addL] at hLj ⊢
          split
          · rfl
          · by_cases hji : j = i
            · subst hji
              rw [ho] at hoj
              cases hoj
              exact hi.pre o ho e he hb
            · rw [if_neg hji] at hLj
              exact h.closed j oj hoj hLj e he hb
end
end Go.Proofs.Ytpanbfainilmpaa.Ev
