/- Unions, plainly: of each member the longest. -/
import Derived.Test.YtpanbfainilmpaaEvL8
set_option linter.unusedVariables false
set_option linter.unusedSimpArgs false
namespace Go.Proofs.Ytpanbfainilmpaa.Ev.S
open Go Go.Proofs.Ytpanbfainilmpaa.Ev

theorem count_append (a b : List Strm) (w : Mem) : count (a ++ b) w = if (∃ s ∈ a, s.who = w) then count a w else count b w := by
  induction a with
  | nil => simp
  | cons s a ih =>
    rw [List.cons_append, count, count]
    by_cases h : s.who = w
    · subst h
      rw [if_pos ⟨rfl, rfl⟩, if_pos ⟨s, by simp, rfl⟩, if_pos ⟨rfl, rfl⟩]
    · have h' : ¬ (s.who.node = w.node ∧ s.who.inc = w.inc) := fun hc => h (mem_ext hc.1 hc.2)
      rw [if_neg h', if_neg h', ih]
      have : (∃ x ∈ s :: a, x.who = w) ↔ ∃ x ∈ a, x.who = w := by
        constructor
        · rintro ⟨x, hx, hw⟩
          rcases List.mem_cons.1 hx with rfl | hx
          · exact absurd hw h
          · exact ⟨x, hx, hw⟩
        · rintro ⟨x, hx, hw⟩
          exact ⟨x, by simp [hx], hw⟩
      simp only [this]
theorem count_none {l : List Strm} {w : Mem} (h : ∀ s ∈ l, s.who ≠ w) : count l w = 0 := by
  induction l with
  | nil => rfl
  | cons s l ih =>
    rw [count, if_neg (fun hc => h s (by simp) (mem_ext hc.1 hc.2))]
    exact ih fun x hx => h x (by simp [hx])
theorem count_mem {l : List Strm} (h : Srt l) {s : Strm} (hs : s ∈ l) : count l s.who = s.texts.length := by
  obtain ⟨i, hi, rfl⟩ := List.mem_iff_getElem.1 hs
  exact count_at h hi
theorem count_addF {l : List Strm} (h : Srt l) (m : Mem) (t : ByteArray) (w : Mem) : count (addF l m t) w = if w = m then count l w + 1 else count l w := by
  have hs := addF_srt h m t
  by_cases hw : w = m
  · subst hw
    rw [if_pos rfl]
    obtain ⟨s, hs1, hs2⟩ := (addF_who l w t).1
    have hc := count_mem hs hs1
    rw [hs2] at hc
    rw [hc]
    rcases addF_mem h w t hs1 with ⟨_, h2⟩ | ⟨_, ⟨s', h3, h4, h5⟩ | ⟨h3, h4⟩⟩
    · exact absurd hs2 h2
    · have hd := count_mem h h3
      rw [h4] at hd
      rw [hd, h5]; simp
    · rw [count_none h3, h4]; rfl
  · rw [if_neg hw]
    by_cases hx : ∃ s ∈ l, s.who = w
    · obtain ⟨s, hsl, hsw⟩ := hx
      obtain ⟨s', h1, h2⟩ := (addF_who l m t).2 s hsl
      have h3 : s'.who = w := h2.trans hsw
      rw [← h3, count_mem hs h1]
      rcases addF_mem h m t h1 with ⟨h4, _⟩ | ⟨h4, _⟩
      · rw [count_mem h h4]
      · exact absurd (h3.symm.trans h4) hw
    · have h1 : ∀ s ∈ l, s.who ≠ w := fun s hs he => hx ⟨s, hs, he⟩
      rw [count_none h1, count_none]
      intro s hs' he
      rcases addF_mem h m t hs' with ⟨h4, _⟩ | ⟨h4, _⟩
      · exact h1 s h4 he
      · exact hw (he.symm.trans h4)
theorem adds_one {l : List Strm} (h : Srt l) (m : Mem) (ts : List ByteArray) (w : Mem) : Srt (ts.foldl (fun o t => addF o m t) l) ∧ count (ts.foldl (fun o t => addF o m t) l) w = if w = m then count l w + ts.length else count l w := by
  induction ts generalizing l with
  | nil => exact ⟨h, by simp⟩
  | cons t ts ih =>
    obtain ⟨h1, h2⟩ := ih (addF_srt h m t)
    refine ⟨h1, ?_⟩
    rw [List.foldl_cons, h2, count_addF h]
    split
    · rw [List.length_cons]; omega
    · rfl
theorem grow_srt {o : List Strm} (h : Srt o) (x : Strm) : Srt (grow o x) := (adds_one h x.who _ x.who).1
theorem grow_count {o : List Strm} (h : Srt o) (x : Strm) (w : Mem) : count (grow o x) w = if w = x.who then max (count o w) x.texts.length else count o w := by
  unfold grow
  rw [(adds_one h x.who _ w).2]
  split
  · rename_i hw
    subst hw
    rw [List.length_drop]; omega
  · rfl
theorem grow_id {o : List Strm} {x : Strm} (h : x.texts.length ≤ count o x.who) : grow o x = o := by
  unfold grow
  rw [List.drop_eq_nil_of_le h]; rfl
theorem grows_srt {o : List Strm} (h : Srt o) (xs : List Strm) : Srt (xs.foldl grow o) := by
  induction xs generalizing o with
  | nil => exact h
  | cons x xs ih => exact ih (grow_srt h x)
theorem tells_srt {o : List Strm} (h : Srt o) (f : Flu) (old : Vid) : Srt (tells o f old) := by
  unfold tells
  split
  · exact h
  · exact grows_srt h _
/-- What is told that counts. -/
def told (l : List Flu) (old : Vid) : List Strm := l.flatMap fun f => if (!sV f.old old || isNone old) = true then [] else f.streams
theorem union_told (l : List Flu) (old : Vid) : unionF l old = (told l old).foldl grow [] := by
  unfold unionF told
  have : ∀ (l : List Flu) (o : List Strm), l.foldl (fun o f => tells o f old) o = (l.flatMap fun f => if (!sV f.old old || isNone old) = true then [] else f.streams).foldl grow o := by
    intro l
    induction l with
    | nil => intro o; rfl
    | cons f l ih =>
      intro o
      rw [List.foldl_cons, List.flatMap_cons, List.foldl_append, ih]
      congr 1
      unfold tells
      split <;> rfl
  exact this l []
theorem union_srt (l : List Flu) (old : Vid) : Srt (unionF l old) := by
  rw [union_told]
  exact grows_srt Srt.nil _
theorem grows_count (xs : List Strm) (w : Mem) : ∀ (o : List Strm), Srt o → (count o w ≤ count (xs.foldl grow o) w ∧ (∀ x ∈ xs, x.who = w → x.texts.length ≤ count (xs.foldl grow o) w) ∧ (count (xs.foldl grow o) w = count o w ∨ ∃ x ∈ xs, x.who = w ∧ x.texts.length = count (xs.foldl grow o) w)) := by
  induction xs with
  | nil => intro o h; exact ⟨Nat.le_refl _, by simp, .inl rfl⟩
  | cons x xs ih =>
    intro o h
    obtain ⟨h1, h2, h3⟩ := ih (grow o x) (grow_srt h x)
    have hc := grow_count h x w
    rw [List.foldl_cons]
    refine ⟨?_, ?_, ?_⟩
    · refine Nat.le_trans ?_ h1
      rw [hc]; split <;> omega
    · intro y hy hw
      rcases List.mem_cons.1 hy with rfl | hy
      · refine Nat.le_trans ?_ h1
        rw [hc, if_pos hw.symm]; omega
      · exact h2 y hy hw
    · rcases h3 with h3 | ⟨y, hy, hw, hl⟩
      · rw [h3, hc]
        split
        · rename_i hw
          rcases Nat.le_total x.texts.length (count o w) with hle | hle
          · exact .inl (by omega)
          · exact .inr ⟨x, by simp, hw.symm, by omega⟩
        · exact .inl rfl
      · exact .inr ⟨y, by simp [hy], hw, hl⟩
/-- Nobody stands there without a text. -/
def Full (o : List Strm) : Prop := ∀ s ∈ o, 0 < s.texts.length
theorem addF_full {o : List Strm} (hs : Srt o) (h : Full o) (m : Mem) (t : ByteArray) : Full (addF o m t) := by
  intro s hs'
  rcases addF_mem hs m t hs' with ⟨h1, _⟩ | ⟨_, ⟨s', h3, _, h5⟩ | ⟨_, h4⟩⟩
  · exact h s h1
  · rw [h5]; simp
  · rw [h4]; simp
theorem grow_full {o : List Strm} (hs : Srt o) (h : Full o) (x : Strm) : Full (grow o x) := by
  unfold grow
  have : ∀ (ts : List ByteArray) (o : List Strm), Srt o → Full o → Full (ts.foldl (fun o t => addF o x.who t) o) := by
    intro ts
    induction ts with
    | nil => intro o _ h; exact h
    | cons t ts ih => intro o hs h; exact ih _ (addF_srt hs _ _) (addF_full hs h _ _)
  exact this _ o hs h
theorem grows_full (xs : List Strm) : ∀ {o : List Strm}, Srt o → Full o → Full (xs.foldl grow o) := by
  induction xs with
  | nil => intro o _ h; exact h
  | cons x xs ih => intro o hs h; exact ih (grow_srt hs x) (grow_full hs h x)
theorem union_full (l : List Flu) (old : Vid) : Full (unionF l old) := by
  rw [union_told]
  exact grows_full _ Srt.nil (by simp [Full])
/-- Two rising lists of the same members are one. -/
theorem sorted_ext : ∀ {a b : List Mem}, a.Pairwise (fun x y => less x y = true) → b.Pairwise (fun x y => less x y = true) → (∀ x, x ∈ a ↔ x ∈ b) → a = b := by
  intro a
  induction a with
  | nil =>
    intro b _ _ h
    cases b with
    | nil => rfl
    | cons y b => exact absurd ((h y).2 (by simp)) (by simp)
  | cons x a ih =>
    intro b ha hb h
    cases b with
    | nil => exact absurd ((h x).1 (by simp)) (by simp)
    | cons y b =>
      rw [List.pairwise_cons] at ha hb
      have hxy : x = y := by
        rcases List.mem_cons.1 ((h x).1 (by simp)) with e | hx
        · exact e
        · rcases List.mem_cons.1 ((h y).2 (by simp)) with e | hy
          · exact e.symm
          · have h1 := hb.1 x hx
            have h2 := ha.1 y hy
            have := less_trans h1 h2
            rw [less_irrefl] at this
            cases this
      subst hxy
      congr 1
      refine ih ha.2 hb.2 fun z => ?_
      constructor
      · intro hz
        rcases List.mem_cons.1 ((h z).1 (by simp [hz])) with e | hz'
        · subst e
          have := ha.1 z hz
          rw [less_irrefl] at this
          cases this
        · exact hz'
      · intro hz
        rcases List.mem_cons.1 ((h z).2 (by simp [hz])) with e | hz'
        · subst e
          have := hb.1 z hz
          rw [less_irrefl] at this
          cases this
        · exact hz'
theorem full_mem {o : List Strm} (hs : Srt o) (h : Full o) (w : Mem) : w ∈ o.map (·.who) ↔ 0 < count o w := by
  constructor
  · intro hw
    obtain ⟨s, hs', rfl⟩ := List.mem_map.1 hw
    rw [count_mem hs hs']
    exact h s hs'
  · intro hc
    by_cases hx : ∃ s ∈ o, s.who = w
    · obtain ⟨s, h1, h2⟩ := hx
      exact List.mem_map.2 ⟨s, h1, h2⟩
    · rw [count_none fun s hs' he => hx ⟨s, hs', he⟩] at hc
      omega
/-- Who tells what in which order turns no length. -/
theorem union_same {a b : List Flu} {old : Vid} (h : ∀ x, x ∈ told a old ↔ x ∈ told b old) (w : Mem) : count (unionF a old) w = count (unionF b old) w := by
  rw [union_told, union_told]
  obtain ⟨_, a2, a3⟩ := grows_count (told a old) w [] Srt.nil
  obtain ⟨_, b2, b3⟩ := grows_count (told b old) w [] Srt.nil
  have h0 : count [] w = 0 := rfl
  have h1 : count ((told a old).foldl grow []) w ≤ count ((told b old).foldl grow []) w := by
    rcases a3 with e | ⟨x, hx, hw, e⟩
    · omega
    · rw [← e]; exact b2 x ((h x).1 hx) hw
  have h2 : count ((told b old).foldl grow []) w ≤ count ((told a old).foldl grow []) w := by
    rcases b3 with e | ⟨x, hx, hw, e⟩
    · omega
    · rw [← e]; exact a2 x ((h x).2 hx) hw
  omega
theorem union_lens {a b : List Flu} {old : Vid} (h : ∀ x, x ∈ told a old ↔ x ∈ told b old) : (unionF a old).length = (unionF b old).length ∧ ∀ (i : Nat) (hi : i < (unionF a old).length) (hj : i < (unionF b old).length), (unionF a old)[i].who = (unionF b old)[i].who ∧ (unionF a old)[i].texts.length = (unionF b old)[i].texts.length := by
  have sa := union_srt a old
  have sb := union_srt b old
  have e : (unionF a old).map (·.who) = (unionF b old).map (·.who) := by
    refine sorted_ext sa sb fun w => ?_
    rw [full_mem sa (union_full a old), full_mem sb (union_full b old), union_same h]
  have hl : (unionF a old).length = (unionF b old).length := by
    have := congrArg List.length e
    simpa using this
  refine ⟨hl, fun i hi hj => ?_⟩
  have hw : (unionF a old)[i].who = (unionF b old)[i].who := by
    have : ((unionF a old).map (·.who))[i]? = ((unionF b old).map (·.who))[i]? := by rw [e]
    simpa [hi, hj] using this
  refine ⟨hw, ?_⟩
  rw [← count_at sa hi, ← count_at sb hj, hw, union_same h]
theorem told_append (a b : List Flu) (old : Vid) : told (a ++ b) old = told a old ++ told b old := by
  unfold told
  rw [List.flatMap_append]
theorem union_twice (l : List Flu) (old : Vid) : unionF (l ++ l) old = unionF l old := by
  rw [union_told, told_append, List.foldl_append, ← union_told]
  have : ∀ (xs : List Strm), (∀ x ∈ xs, x.texts.length ≤ count (unionF l old) x.who) → xs.foldl grow (unionF l old) = unionF l old := by
    intro xs
    induction xs with
    | nil => intro _; rfl
    | cons x xs ih =>
      intro h
      rw [List.foldl_cons, grow_id (h x (by simp))]
      exact ih fun y hy => h y (by simp [hy])
  refine this _ fun x hx => ?_
  rw [union_told]
  exact (grows_count (told l old) x.who [] Srt.nil).2.1 x hx rfl
theorem union_here (l : List Flu) (old : Vid) : unionF (l.filter fun f => sV f.old old) old = unionF l old := by
  rw [union_told, union_told]
  congr 1
  unfold told
  induction l with
  | nil => rfl
  | cons f l ih =>
    rw [List.filter_cons, List.flatMap_cons]
    cases h : sV f.old old with
    | true => rw [if_pos rfl, List.flatMap_cons, ih, h]
    | false => rw [if_neg (by simp), ih]; simp
theorem told_turn (l : List Flu) (old : Vid) (k : Nat) (x : Strm) : x ∈ told (l.drop k ++ l.take k) old ↔ x ∈ told l old := by
  rw [told_append]
  conv => rhs; rw [← List.take_append_drop k l, told_append]
  simp only [List.mem_append]
  exact Or.comm
end Go.Proofs.Ytpanbfainilmpaa.Ev.S
