/- Streams, plainly: members in order, of each its texts. -/
import Derived.Test.YtpanbfainilmpaaEvL3
set_option linter.unusedVariables false
set_option linter.unusedSimpArgs false
namespace Go.Proofs.Ytpanbfainilmpaa.Ev.S
open Go Go.Proofs.Ytpanbfainilmpaa.Ev

theorem sM_iff {a b : Mem} : sM a b = true ↔ a = b := by
  obtain ⟨a1, a2⟩ := a
  obtain ⟨b1, b2⟩ := b
  simp [sM]
theorem mem_ext {a b : Mem} (h : a.node = b.node) (k : a.inc = b.inc) : a = b := by
  obtain ⟨a1, a2⟩ := a
  obtain ⟨b1, b2⟩ := b
  simp only at h k
  rw [h, k]
theorem sM_self (a : Mem) : sM a a = true := sM_iff.2 rfl
theorem sV_iff {a b : Vid} : sV a b = true ↔ a = b := by
  obtain ⟨a1, a2, a3⟩ := a
  obtain ⟨b1, b2, b3⟩ := b
  simp [sV]
theorem less_iff {a b : Mem} : less a b = true ↔ a.node < b.node ∨ (a.node = b.node ∧ a.inc < b.inc) := by
  simp [less]
theorem less_trans {a b c : Mem} (h : less a b = true) (k : less b c = true) : less a c = true := by
  rw [less_iff] at h k ⊢
  omega
theorem less_irrefl (a : Mem) : less a a = false := by
  cases h : less a a with
  | false => rfl
  | true => rw [less_iff] at h; omega
theorem less_ne {a b : Mem} (h : less a b = true) : a ≠ b := by
  rintro rfl
  rw [less_irrefl] at h
  cases h
theorem less_tri {a b : Mem} (h : less a b = false) (hn : a ≠ b) : less b a = true := by
  rw [less_iff]
  have h' : ¬ (a.node < b.node ∨ (a.node = b.node ∧ a.inc < b.inc)) := by
    rw [← less_iff, h]; simp
  obtain ⟨a1, a2⟩ := a
  obtain ⟨b1, b2⟩ := b
  simp only [ne_eq, Mem.mk.injEq] at hn
  simp only at h' ⊢
  omega
def Srt (l : List Strm) : Prop := (l.map (·.who)).Pairwise fun a b => less a b = true
theorem Srt.nil : Srt [] := List.Pairwise.nil
theorem Srt.lt {l : List Strm} (h : Srt l) {i j : Nat} (hij : i < j) (hj : j < l.length) : less (l[i]'(by omega)).who l[j].who = true := by
  have := List.pairwise_iff_getElem.1 h i j (by simp; omega) (by simpa using hj) hij
  simpa using this
theorem Srt.inj {l : List Strm} (h : Srt l) {i j : Nat} (hi : i < l.length) (hj : j < l.length) (he : l[i].who = l[j].who) : i = j := by
  rcases Nat.lt_trichotomy i j with hij | hij | hij
  · exact absurd he (less_ne (h.lt hij hj))
  · exact hij
  · exact absurd he.symm (less_ne (h.lt hij hi))
theorem find_who {l : List Strm} {m : Mem} (h : l.findIdx? (fun s => sM s.who m) = none) : ∀ s ∈ l, s.who ≠ m := by
  rw [List.findIdx?_eq_none_iff] at h
  intro s hs he
  have := h s hs
  rw [he, sM_self] at this
  cases this
theorem addF_cases (l : List Strm) (m : Mem) (t : ByteArray) :
    (∃ k, ∃ hk : k < l.length, l[k].who = m ∧ addF l m t = l.set k ⟨m, l[k].texts ++ [t]⟩) ∨
    ((∀ s ∈ l, s.who ≠ m) ∧ ∃ k, k ≤ l.length ∧ (∀ j (hj : j < k) (hl : j < l.length), less l[j].who m = true) ∧ (∀ hk : k < l.length, less l[k].who m = false) ∧ addF l m t = l.take k ++ ⟨m, [t]⟩ :: l.drop k) := by
  cases hf : l.findIdx? (fun s => sM s.who m) with
  | some k =>
    obtain ⟨hk, h1, _⟩ := find_some hf
    have hx : l[k]? = some l[k] := List.getElem?_eq_getElem hk
    have hw := sM_iff.1 h1
    refine .inl ⟨k, hk, hw, ?_⟩
    simp only [addF, hf, hx, hw]
  | none =>
    refine .inr ⟨find_who hf, insAt l m, ?_⟩
    have e : addF l m t = l.take (insAt l m) ++ ⟨m, [t]⟩ :: l.drop (insAt l m) := by simp only [addF, hf]
    cases hg : l.findIdx? (fun s => !less s.who m) with
    | none =>
      have hi : insAt l m = l.length := by simp only [insAt, hg, Option.getD_none]
      rw [e, hi]
      exact ⟨Nat.le_refl _, fun j _ hjl => by simpa using find_none hg hjl, fun h => absurd h (Nat.lt_irrefl _), rfl⟩
    | some k =>
      obtain ⟨hk, h1, h2⟩ := find_some hg
      have hi : insAt l m = k := by simp only [insAt, hg, Option.getD_some]
      rw [e, hi]
      exact ⟨Nat.le_of_lt hk, fun j hj _ => by simpa using h2 j hj, fun _ => by simpa using h1, rfl⟩
theorem addF_srt {l : List Strm} (h : Srt l) (m : Mem) (t : ByteArray) : Srt (addF l m t) := by
  rcases addF_cases l m t with ⟨k, hk, hw, e⟩ | ⟨hn, k, hk, h1, h2, e⟩
  · rw [e]
    unfold Srt
    rw [List.map_set]
    have : (l.map (·.who)).set k m = l.map (·.who) := by
      apply List.ext_getElem
      · simp
      · intro i h1 h2
        rw [List.getElem_set]
        split
        · rename_i he; subst he; simp [hw]
        · rfl
    rw [this]
    exact h
  · rw [e]
    unfold Srt at h ⊢
    have hsplit : (l.map (·.who)) = (l.take k).map (·.who) ++ (l.drop k).map (·.who) := by rw [← List.map_append, List.take_append_drop]
    rw [hsplit, List.pairwise_append] at h
    rw [List.map_append, List.map_cons, List.pairwise_append, List.pairwise_cons]
    obtain ⟨p1, p2, p3⟩ := h
    have hpre : ∀ a ∈ (l.take k).map (·.who), less a m = true := by
      intro a ha
      obtain ⟨s, hs, rfl⟩ := List.mem_map.1 ha
      obtain ⟨j, hj, rfl⟩ := List.mem_iff_getElem.1 hs
      rw [List.length_take] at hj
      rw [List.getElem_take]
      exact h1 j (by omega) (by omega)
    have hsuf : ∀ b ∈ (l.drop k).map (·.who), less m b = true := by
      intro b hb
      have hk' : k < l.length := by
        rcases Nat.lt_or_ge k l.length with h | h
        · exact h
        · rw [List.drop_eq_nil_of_le h] at hb; simp at hb
      have hm : less m l[k].who = true := less_tri (h2 hk') (hn _ (List.getElem_mem hk'))
      rw [List.drop_eq_getElem_cons hk', List.map_cons] at hb p2
      rw [List.pairwise_cons] at p2
      rcases List.mem_cons.1 hb with rfl | hb
      · exact hm
      · exact less_trans hm (p2.1 b hb)
    refine ⟨p1, ⟨hsuf, p2⟩, fun a ha b hb => ?_⟩
    rcases List.mem_cons.1 hb with rfl | hb
    · exact hpre a ha
    · exact p3 a ha b hb
theorem adds_srt {l : List Strm} (h : Srt l) (t : List Txt) : Srt (adds l t) := by
  unfold adds
  induction t generalizing l with
  | nil => exact h
  | cons x t ih => exact ih (addF_srt h _ _)

/-- How many texts there are. -/
def total (l : List Strm) : Nat := (l.map (·.texts.length)).sum
theorem sum_set (l : List Nat) {k : Nat} (hk : k < l.length) : (l.set k (l[k] + 1)).sum = l.sum + 1 := by
  induction l generalizing k with
  | nil => simp at hk
  | cons a l ih =>
    cases k with
    | zero => simp only [List.set_cons_zero, List.sum_cons, List.getElem_cons_zero]; omega
    | succ k =>
      have := ih (show k < l.length by simpa using hk)
      simp only [List.set_cons_succ, List.sum_cons, List.getElem_cons_succ, this]; omega
theorem addF_total (l : List Strm) (m : Mem) (t : ByteArray) : total (addF l m t) = total l + 1 := by
  rcases addF_cases l m t with ⟨k, hk, hw, e⟩ | ⟨hn, k, hk, h1, h2, e⟩
  · rw [e]
    unfold total
    rw [List.map_set]
    have := sum_set (l.map (·.texts.length)) (k := k) (by simpa using hk)
    rw [← this]
    simp
  · rw [e]
    unfold total
    have hsplit : (l.map (·.texts.length)) = (l.take k).map (·.texts.length) ++ (l.drop k).map (·.texts.length) := by rw [← List.map_append, List.take_append_drop]
    rw [hsplit, List.map_append, List.map_cons, List.sum_append, List.sum_append, List.sum_cons]
    simp only [List.length_cons, List.length_nil]
    omega
theorem adds_total (l : List Strm) (t : List Txt) : total (adds l t) = total l + t.length := by
  unfold adds
  induction t generalizing l with
  | nil => rfl
  | cons x t ih =>
    rw [List.foldl_cons, ih, addF_total, List.length_cons]; omega

/-- A member's texts among all. -/
def tx (t : List Txt) (w : Mem) : List ByteArray := (t.filter fun x => sM x.who w).map (·.text)
theorem tx_append (a b : List Txt) (w : Mem) : tx (a ++ b) w = tx a w ++ tx b w := by simp [tx]
theorem tx_cons (x : Txt) (t : List Txt) (w : Mem) : tx (x :: t) w = (if sM x.who w = true then [x.text] else []) ++ tx t w := by
  unfold tx
  rw [List.filter_cons]
  split <;> simp
theorem addF_mem {l : List Strm} (h : Srt l) (m : Mem) (t : ByteArray) {s : Strm} (hs : s ∈ addF l m t) :
    (s ∈ l ∧ s.who ≠ m) ∨ (s.who = m ∧ ((∃ s' ∈ l, s'.who = m ∧ s.texts = s'.texts ++ [t]) ∨ ((∀ s' ∈ l, s'.who ≠ m) ∧ s.texts = [t]))) := by
  rcases addF_cases l m t with ⟨k, hk, hw, e⟩ | ⟨hn, k, hk, h1, h2, e⟩
  · rw [e] at hs
    obtain ⟨j, hj, rfl⟩ := List.mem_iff_getElem.1 hs
    rw [List.length_set] at hj
    rw [List.getElem_set]
    split
    · exact .inr ⟨rfl, .inl ⟨_, List.getElem_mem hk, hw, rfl⟩⟩
    · rename_i hne
      refine .inl ⟨List.getElem_mem hj, fun he => hne ?_⟩
      exact h.inj hk hj (hw.trans he.symm)
  · rw [e] at hs
    rcases List.mem_append.1 hs with hs | hs
    · have := List.mem_of_mem_take hs
      exact .inl ⟨this, hn s this⟩
    · rcases List.mem_cons.1 hs with rfl | hs
      · exact .inr ⟨rfl, .inr ⟨hn, rfl⟩⟩
      · have := List.mem_of_mem_drop hs
        exact .inl ⟨this, hn s this⟩
theorem addF_who (l : List Strm) (m : Mem) (t : ByteArray) : (∃ s ∈ addF l m t, s.who = m) ∧ ∀ s ∈ l, ∃ s' ∈ addF l m t, s'.who = s.who := by
  rcases addF_cases l m t with ⟨k, hk, hw, e⟩ | ⟨hn, k, hk, h1, h2, e⟩
  · rw [e]
    have hm : (⟨m, l[k].texts ++ [t]⟩ : Strm) ∈ l.set k ⟨m, l[k].texts ++ [t]⟩ := List.mem_set hk _
    refine ⟨⟨_, hm, rfl⟩, fun s hs => ?_⟩
    obtain ⟨j, hj, rfl⟩ := List.mem_iff_getElem.1 hs
    by_cases hjk : k = j
    · subst hjk
      exact ⟨_, hm, hw.symm⟩
    · refine ⟨l[j], ?_, rfl⟩
      have : (l.set k ⟨m, l[k].texts ++ [t]⟩)[j]? = some l[j] := by rw [List.getElem?_set_ne hjk]; simp [hj]
      exact List.mem_of_getElem? this
  · rw [e]
    refine ⟨⟨_, List.mem_append_right _ List.mem_cons_self, rfl⟩, fun s hs => ⟨s, ?_, rfl⟩⟩
    rw [← List.take_append_drop k l] at hs
    rcases List.mem_append.1 hs with hs | hs
    · exact List.mem_append_left _ hs
    · exact List.mem_append_right _ (List.mem_cons_of_mem _ hs)
structure Inv (x : List Strm) (t : List Txt) : Prop where
  srt : Srt x
  tex : ∀ s ∈ x, s.texts = tx t s.who
  all : ∀ y ∈ t, ∃ s ∈ x, s.who = y.who
theorem Inv.nil : Inv [] [] := ⟨Srt.nil, by simp, by simp⟩
theorem Inv.add {x : List Strm} {t : List Txt} (h : Inv x t) (y : Txt) : Inv (addF x y.who y.text) (t ++ [y]) := by
  refine ⟨addF_srt h.srt _ _, fun s hs => ?_, fun z hz => ?_⟩
  · rw [tx_append, tx_cons]
    rcases addF_mem h.srt _ _ hs with ⟨h1, h2⟩ | ⟨h1, h2⟩
    · have : sM y.who s.who = false := by
        cases hh : sM y.who s.who with
        | false => rfl
        | true => exact absurd (sM_iff.1 hh).symm h2
      rw [this, h.tex s h1]
      simp [tx]
    · rw [h1, sM_self]
      rcases h2 with ⟨s', h3, h4, h5⟩ | ⟨h3, h4⟩
      · rw [h5, h.tex s' h3, h4]
        simp [tx]
      · have : tx t y.who = [] := by
          unfold tx
          rw [List.map_eq_nil_iff, List.filter_eq_nil_iff]
          intro z hz hzz
          obtain ⟨s', hs', hw⟩ := h.all z hz
          exact h3 s' hs' (hw.trans (sM_iff.1 hzz))
        rw [h4, this]
        simp [tx]
  · rcases List.mem_append.1 hz with hz | hz
    · obtain ⟨s, hs, hw⟩ := h.all z hz
      obtain ⟨s', hs', hw'⟩ := (addF_who x y.who y.text).2 s hs
      exact ⟨s', hs', hw'.trans hw⟩
    · rcases List.mem_singleton.1 hz with rfl
      exact (addF_who x z.who z.text).1
theorem inv_adds (t : List Txt) : Inv (adds [] t) t := by
  have : ∀ (u : List Txt) (x : List Strm) (s : List Txt), Inv x s → Inv (adds x u) (s ++ u) := by
    intro u
    induction u with
    | nil => intro x s h; simpa [adds] using h
    | cons y u ih =>
      intro x s h
      have := ih _ _ (h.add y)
      simpa [adds] using this
  simpa using this t [] [] Inv.nil
theorem count_at {x : List Strm} (h : Srt x) {i : Nat} (hi : i < x.length) : count x x[i].who = x[i].texts.length := by
  have key : ∀ (x : List Strm) (i : Nat) (hi : i < x.length), (∀ j (hj : j < i), (x[j]'(by omega)).who ≠ x[i].who) → count x x[i].who = x[i].texts.length := by
    intro x
    induction x with
    | nil => intro i hi; simp at hi
    | cons s x ih =>
      intro i hi hne
      cases i with
      | zero => simp [count]
      | succ i =>
        have hi' : i < x.length := by simpa using hi
        have h0 := hne 0 (by omega)
        simp only [List.getElem_cons_zero, List.getElem_cons_succ] at h0 ⊢
        have : ¬ (s.who.node = x[i].who.node ∧ s.who.inc = x[i].who.inc) := fun hc => h0 (mem_ext hc.1 hc.2)
        rw [count, if_neg this]
        exact ih i hi' fun j hj => by simpa using hne (j + 1) (by omega)
  exact key x i hi fun j hj => less_ne (h.lt hj hi)
theorem tx_get (t : List Txt) (w : Mem) {j : Nat} (hj : j < t.length) (hw : sM t[j].who w = true) : (tx t w)[(tx (t.take j) w).length]? = some t[j].text := by
  have e : tx t w = tx (t.take j) w ++ (t[j].text :: tx (t.drop (j + 1)) w) := by
    have : t = t.take j ++ t[j] :: t.drop (j + 1) := by rw [← List.drop_eq_getElem_cons hj, List.take_append_drop]
    conv => lhs; rw [this]
    rw [tx_append, tx_cons, hw]
    rfl
  rw [e, List.getElem?_append_right (Nat.le_refl _), Nat.sub_self]
  rfl
theorem tx_take (t : List Txt) (w : Mem) {j : Nat} (hj : j < t.length) : (tx (t.take (j + 1)) w).length = (tx (t.take j) w).length + (if sM t[j].who w = true then 1 else 0) := by
  rw [← List.take_append_getElem hj, tx_append, tx_cons]
  simp only [tx, List.filter_nil, List.map_nil, List.append_nil, List.length_append]
  split <;> simp
end Go.Proofs.Ytpanbfainilmpaa.Ev.S
