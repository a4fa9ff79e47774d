/- Members that each had a beginning of the same texts, plainly. -/
import Derived.Test.YtpanbfainilmpaaEvT2
import Derived.Test.YtpanbfainilmpaaEvL9
set_option linter.unusedVariables false
set_option linter.unusedSimpArgs false
namespace Go.Proofs.Ytpanbfainilmpaa.Ev.S
open Go Go.Proofs.Ytpanbfainilmpaa.Ev

/-- Two rising lists of the same streams are one. -/
theorem srt_ext : ∀ {a b : List Strm}, Srt a → Srt b → (∀ x, x ∈ a ↔ x ∈ b) → a = b := by
  intro a
  induction a with
  | nil =>
    intro b _ _ h
    cases b with
    | nil => rfl
    | cons y b => exact absurd ((h y).2 (by simp)) (by simp)
  | cons x a ih =>
    intro b ha hb h
    cases b with
    | nil => exact absurd ((h x).1 (by simp)) (by simp)
    | cons y b =>
      unfold Srt at ha hb
      rw [List.map_cons, List.pairwise_cons] at ha hb
      have la : ∀ z ∈ a, less x.who z.who = true := fun z hz => ha.1 _ (List.mem_map.2 ⟨z, hz, rfl⟩)
      have lb : ∀ z ∈ b, less y.who z.who = true := fun z hz => hb.1 _ (List.mem_map.2 ⟨z, hz, rfl⟩)
      have hxy : x = y := by
        rcases List.mem_cons.1 ((h x).1 (by simp)) with e | hx
        · exact e
        · rcases List.mem_cons.1 ((h y).2 (by simp)) with e | hy
          · exact e.symm
          · have := less_trans (lb x hx) (la y hy)
            rw [less_irrefl] at this
            cases this
      subst hxy
      congr 1
      refine ih ha.2 hb.2 fun z => ?_
      constructor
      · intro hz
        rcases List.mem_cons.1 ((h z).1 (by simp [hz])) with e | hz'
        · subst e
          have := la z hz
          rw [less_irrefl] at this
          cases this
        · exact hz'
      · intro hz
        rcases List.mem_cons.1 ((h z).2 (by simp [hz])) with e | hz'
        · subst e
          have := lb z hz
          rw [less_irrefl] at this
          cases this
        · exact hz'
theorem srt_who {l : List Strm} (h : Srt l) {a b : Strm} (ha : a ∈ l) (hb : b ∈ l) (hw : a.who = b.who) : a = b := by
  obtain ⟨i, hi, rfl⟩ := List.mem_iff_getElem.1 ha
  obtain ⟨j, hj, rfl⟩ := List.mem_iff_getElem.1 hb
  obtain rfl := h.inj hi hj hw
  rfl
theorem addF_mem_iff {l : List Strm} (h : Srt l) (m : Mem) (t : ByteArray) (s : Strm) :
    s ∈ addF l m t ↔ (s ∈ l ∧ s.who ≠ m) ∨ (s.who = m ∧ ((∃ s' ∈ l, s'.who = m ∧ s.texts = s'.texts ++ [t]) ∨ ((∀ s' ∈ l, s'.who ≠ m) ∧ s.texts = [t]))) := by
  constructor
  · exact addF_mem h m t
  · have hs := addF_srt h m t
    have feq : ∀ {a b : Strm}, a.who = b.who → a.texts = b.texts → a = b := by
      intro a b h1 h2
      cases a; cases b
      simp only at h1 h2
      rw [h1, h2]
    rintro (⟨h1, h2⟩ | ⟨h1, h2⟩)
    · obtain ⟨s', k1, k2⟩ := (addF_who l m t).2 s h1
      rcases addF_mem h m t k1 with ⟨k3, _⟩ | ⟨k3, _⟩
      · rw [← srt_who h k3 h1 k2]; exact k1
      · exact absurd (k2.symm.trans k3) h2
    · obtain ⟨s', k1, k2⟩ := (addF_who l m t).1
      have : s' = s := by
        refine feq (k2.trans h1.symm) ?_
        rcases addF_mem h m t k1 with ⟨_, k3⟩ | ⟨_, k3⟩
        · exact absurd k2 k3
        · rcases h2 with ⟨a, ha, hw, ht⟩ | ⟨hn, ht⟩
          · rcases k3 with ⟨b, hb, hbw, hbt⟩ | ⟨hbn, _⟩
            · rw [ht, hbt, srt_who h ha hb (hw.trans hbw.symm)]
            · exact absurd hw (hbn a ha)
          · rcases k3 with ⟨b, hb, hbw, _⟩ | ⟨_, hbt⟩
            · exact absurd hbw (hn b hb)
            · rw [ht, hbt]
      rw [← this]; exact k1

/-- The k-th member. -/
def mk (k : Nat) : Mem := ⟨(k : Int), 1⟩
theorem mk_inj {j k : Nat} (h : mk j = mk k) : j = k := by
  have := congrArg Mem.node h
  simp only [mk] at this
  omega
section
variable (T : List (List ByteArray))
def tk (j : Nat) : List ByteArray := (T[j]?).getD []
def st (g : Nat → Nat) (j : Nat) : List Strm := if 0 < g j then [⟨mk j, (tk T j).take (g j)⟩] else []
/-- Of each of the first k members a beginning of its texts, as long as g says. -/
def lv (g : Nat → Nat) (k : Nat) : List Strm := (List.range k).flatMap (st T g)
theorem lv_succ (g : Nat → Nat) (k : Nat) : lv T g (k + 1) = lv T g k ++ st T g k := by
  unfold lv
  rw [List.range_succ, List.flatMap_append, List.flatMap_cons, List.flatMap_nil, List.append_nil]
theorem lv_mem {g : Nat → Nat} {k : Nat} {s : Strm} : s ∈ lv T g k ↔ ∃ j, j < k ∧ 0 < g j ∧ s = ⟨mk j, (tk T j).take (g j)⟩ := by
  unfold lv
  rw [List.mem_flatMap]
  constructor
  · rintro ⟨j, hj, hs⟩
    unfold st at hs
    split at hs
    · rename_i h0
      exact ⟨j, List.mem_range.1 hj, h0, List.mem_singleton.1 hs⟩
    · simp at hs
  · rintro ⟨j, hj, h0, rfl⟩
    exact ⟨j, List.mem_range.2 hj, by unfold st; rw [if_pos h0]; simp⟩
theorem lv_srt (g : Nat → Nat) (k : Nat) : Srt (lv T g k) := by
  induction k with
  | zero => exact List.Pairwise.nil
  | succ k ih =>
    rw [lv_succ]
    unfold Srt at ih ⊢
    rw [List.map_append, List.pairwise_append]
    refine ⟨ih, ?_, fun a ha b hb => ?_⟩
    · unfold st; split <;> simp
    · obtain ⟨s, hs, rfl⟩ := List.mem_map.1 ha
      obtain ⟨j, hj, _, rfl⟩ := (lv_mem T).1 hs
      unfold st at hb
      split at hb
      · simp only [List.map_cons, List.map_nil, List.mem_singleton] at hb
        subst hb
        rw [less_iff]
        exact .inl (by simp only [mk]; omega)
      · simp at hb
theorem lv_len (g : Nat → Nat) (k : Nat) : (lv T g k).length ≤ k := by
  induction k with
  | zero => exact Nat.le_refl _
  | succ k ih =>
    rw [lv_succ, List.length_append]
    unfold st
    split <;> simp <;> omega
theorem lv_none {g : Nat → Nat} {k j : Nat} (h : ¬ (j < k ∧ 0 < g j)) : ∀ s ∈ lv T g k, s.who ≠ mk j := by
  intro s hs he
  obtain ⟨i, hi, h0, rfl⟩ := (lv_mem T).1 hs
  obtain rfl := mk_inj he
  exact h ⟨hi, h0⟩
theorem lv_count {g : Nat → Nat} {k j : Nat} (hj : j < k) (hg : g j ≤ (tk T j).length) : count (lv T g k) (mk j) = g j := by
  by_cases h0 : 0 < g j
  · have hm : (⟨mk j, (tk T j).take (g j)⟩ : Strm) ∈ lv T g k := (lv_mem T).2 ⟨j, hj, h0, rfl⟩
    have := count_mem (lv_srt T g k) hm
    simp only [List.length_take] at this
    rw [this]; omega
  · rw [count_none (lv_none T (fun h => h0 h.2))]; omega
def upd (g : Nat → Nat) (k n : Nat) : Nat → Nat := fun j => if j = k then n else g j
theorem take_get {α : Type} (l : List α) {n : Nat} (h : n < l.length) : l.take (n + 1) = l.take n ++ [l[n]] := (List.take_append_getElem h).symm
theorem addF_lv {g : Nat → Nat} {K k : Nat} (hk : k < K) (h : g k < (tk T k).length) : addF (lv T g K) (mk k) (tk T k)[g k] = lv T (upd g k (g k + 1)) K := by
  refine srt_ext (addF_srt (lv_srt T g K) _ _) (lv_srt T _ K) fun s => ?_
  rw [addF_mem_iff (lv_srt T g K)]
  constructor
  · rintro (⟨h1, h2⟩ | ⟨h1, h2⟩)
    · obtain ⟨j, hj, h0, rfl⟩ := (lv_mem T).1 h1
      have hjk : j ≠ k := fun e => h2 (by rw [e])
      exact (lv_mem T).2 ⟨j, hj, by simpa [upd, hjk] using h0, by simp [upd, hjk]⟩
    · refine (lv_mem T).2 ⟨k, hk, by simp [upd], ?_⟩
      have : s.texts = (tk T k).take (g k + 1) := by
        rw [take_get _ h]
        rcases h2 with ⟨s', h3, h4, h5⟩ | ⟨h3, h4⟩
        · obtain ⟨j, hj, h0, rfl⟩ := (lv_mem T).1 h3
          obtain rfl := mk_inj h4
          exact h5
        · have h0 : g k = 0 := by
            rcases Nat.eq_zero_or_pos (g k) with e | e
            · exact e
            · exact absurd rfl (h3 _ ((lv_mem T).2 ⟨k, hk, e, rfl⟩))
          rw [h4]
          simp [h0]
      cases s
      simp only at h1 this
      simp only [upd, if_pos, h1, this]
  · intro hs
    obtain ⟨j, hj, h0, rfl⟩ := (lv_mem T).1 hs
    by_cases hjk : j = k
    · subst hjk
      refine .inr ⟨rfl, ?_⟩
      simp only [upd, if_true]
      rw [take_get _ h]
      by_cases hg0 : 0 < g j
      · exact .inl ⟨_, (lv_mem T).2 ⟨j, hj, hg0, rfl⟩, rfl, rfl⟩
      · have h00 : g j = 0 := by omega
        exact .inr ⟨lv_none T (fun h => hg0 h.2), by simp [h00]⟩
    · refine .inl ⟨(lv_mem T).2 ⟨j, hj, by simpa [upd, hjk] using h0, by simp [upd, hjk]⟩, fun e => hjk (mk_inj e)⟩
theorem upd_upd (g : Nat → Nat) (k a b : Nat) : upd (upd g k a) k b = upd g k b := by
  funext j
  unfold upd
  split <;> rfl
theorem upd_self (g : Nat → Nat) (k : Nat) : upd g k (g k) = g := by
  funext j
  unfold upd
  split
  · rename_i h; rw [h]
  · rfl
/-- Texts k of the k-th member, from where it stands up to n. -/
theorem adds_lv {K k : Nat} (hk : k < K) : ∀ (d : Nat) (g : Nat → Nat) (n : Nat), n - g k = d → n ≤ (tk T k).length → g k ≤ n → (((tk T k).take n).drop (g k)).foldl (fun o t => addF o (mk k) t) (lv T g K) = lv T (upd g k n) K := by
  intro d
  induction d with
  | zero =>
    intro g n hd hn hle
    have : g k = n := by omega
    rw [List.drop_eq_nil_of_le (by rw [List.length_take]; omega), ← this, upd_self]
    rfl
  | succ d ih =>
    intro g n hd hn hle
    have hlt : g k < ((tk T k).take n).length := by rw [List.length_take]; omega
    rw [List.drop_eq_getElem_cons hlt, List.foldl_cons, List.getElem_take, addF_lv T hk (by omega)]
    have := ih (upd g k (g k + 1)) n (by simp [upd]; omega) hn (by simp [upd]; omega)
    simp only [upd_upd, show upd g k (g k + 1) k = g k + 1 by simp [upd]] at this
    exact this
theorem grow_lv {K k : Nat} (hk : k < K) {g : Nat → Nat} {n : Nat} (hg : g k ≤ (tk T k).length) (hn : n ≤ (tk T k).length) : grow (lv T g K) ⟨mk k, (tk T k).take n⟩ = lv T (upd g k (max (g k) n)) K := by
  unfold grow
  rw [lv_count T hk hg]
  rcases Nat.le_total (g k) n with h | h
  · rw [adds_lv T hk _ g n rfl hn h, Nat.max_eq_right h]
  · rw [List.drop_eq_nil_of_le (by simp only [List.length_take]; omega), Nat.max_eq_left h, upd_self]
    rfl
theorem grows_lv {K : Nat} {g h : Nat → Nat} (hg : ∀ j, j < K → g j ≤ (tk T j).length) (hh : ∀ j, j < K → h j ≤ (tk T j).length) : ∀ k, k ≤ K → (lv T h k).foldl grow (lv T g K) = lv T (fun j => if j < k then max (g j) (h j) else g j) K := by
  intro k
  induction k with
  | zero => intro _; simp [lv]
  | succ k ih =>
    intro hk
    rw [lv_succ, List.foldl_append, ih (by omega)]
    have e : (fun j => if j < k + 1 then max (g j) (h j) else g j) = upd (fun j => if j < k then max (g j) (h j) else g j) k (max (g k) (h k)) := by
      funext j
      unfold upd
      by_cases h1 : j = k
      · subst h1; simp
      · by_cases h2 : j < k
        · simp [h1, h2, show j < k + 1 by omega]
        · simp [h1, h2, show ¬ j < k + 1 by omega]
    unfold st
    split
    · rename_i h0
      rw [List.foldl_cons, List.foldl_nil, grow_lv T (by omega) (by simp; exact hg k (by omega)) (hh k (by omega)), e]
      simp
    · rename_i h0
      rw [List.foldl_nil, e]
      have : h k = 0 := by omega
      congr 1
      funext j
      by_cases hj : j = k
      · subst hj; simp [upd, this]
      · simp [upd, hj]
/-- What one lacks, put to what one has. -/
theorem put_mS (o : List Strm) (w : Mem) (id : Vid) : ∀ (ts : List ByteArray) (n : Nat) (o : List Strm), putF o (mS w id n ts) = ts.foldl (fun o t => addF o w t) o := by
  intro ts
  induction ts with
  | nil => intro n o; rfl
  | cons t ts ih =>
    intro n o
    have := ih (n + 1) (addF o w t)
    unfold putF at this ⊢
    rw [mS, List.foldl_cons, List.foldl_cons, this]
theorem put_append (o : List Strm) (a b : List Hld) : putF o (a ++ b) = putF (putF o a) b := by
  unfold putF
  rw [List.foldl_append]
theorem level {K : Nat} {g L : Nat → Nat} (id : Vid) (hg : ∀ j, j < K → g j ≤ L j) (hL : ∀ j, j < K → L j ≤ (tk T j).length) : ∀ k, k ≤ K → putF (lv T g K) (missF (lv T g K) (lv T L k) id) = lv T (fun j => if j < k then L j else g j) K := by
  intro k
  induction k with
  | zero => intro _; simp [lv, missF, putF]
  | succ k ih =>
    intro hk
    have hk' : k < K := by omega
    rw [lv_succ, missF_append, put_append, ih (by omega)]
    have e : (fun j => if j < k + 1 then L j else g j) = upd (fun j => if j < k then L j else g j) k (L k) := by
      funext j
      unfold upd
      by_cases h1 : j = k
      · subst h1; simp
      · by_cases h2 : j < k
        · simp [h1, h2, show j < k + 1 by omega]
        · simp [h1, h2, show ¬ j < k + 1 by omega]
    have hgk := hg k hk'
    have hLk := hL k hk'
    unfold st
    split
    · rename_i h0
      have hm : missF (lv T g K) [⟨mk k, (tk T k).take (L k)⟩] id = mS (mk k) id (g k) (((tk T k).take (L k)).drop (g k)) := by
        unfold missF
        rw [List.flatMap_cons, List.flatMap_nil, List.append_nil, lv_count T hk' (by omega)]
      rw [hm, put_mS [] (mk k) id]
      have := adds_lv T hk' _ (fun j => if j < k then L j else g j) (L k) rfl hLk (by simp; exact hgk)
      simp only [show ¬ k < k from Nat.lt_irrefl k, if_false] at this
      rw [this, e]
    · rename_i h0
      have hz : L k = 0 := by omega
      rw [show missF (lv T g K) [] id = [] from rfl]
      show lv T _ K = _
      congr 1
      rw [e]
      funext j
      by_cases hj : j = k
      · subst hj; simp [upd]; omega
      · simp [upd, hj]
theorem lv_ext {g h : Nat → Nat} {K : Nat} (e : ∀ j, j < K → g j = h j) : lv T g K = lv T h K := by
  induction K with
  | zero => rfl
  | succ K ih =>
    rw [lv_succ, lv_succ, ih fun j hj => e j (by omega)]
    unfold st
    rw [e K (by omega)]
theorem miss_self {K : Nat} {L : Nat → Nat} (id : Vid) (hL : ∀ j, j < K → L j ≤ (tk T j).length) : missF (lv T L K) (lv T L K) id = [] := by
  unfold missF
  rw [List.flatMap_eq_nil_iff]
  intro s hs
  obtain ⟨j, hj, h0, rfl⟩ := (lv_mem T).1 hs
  rw [lv_count T hj (hL j hj), List.drop_eq_nil_of_le (by rw [List.length_take]; omega)]
  rfl
end
end Go.Proofs.Ytpanbfainilmpaa.Ev.S
