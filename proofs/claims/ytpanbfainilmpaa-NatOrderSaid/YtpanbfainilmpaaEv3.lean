/- The steps of which all operations are made: a number is given out, a row grows, an own array is written, a call comes back. -/
import Derived.Test.YtpanbfainilmpaaEv2
import Derived.Below
set_option linter.unusedVariables false
set_option linter.unusedSimpArgs false
namespace Go.Proofs.Ytpanbfainilmpaa.Ev

theorem cellAt {w : World} {b o : Nat} {cur : Array Value} {e : TypeId} {fr : Nat × Nat} (h : w.heap[b]? = some (.cells cur e fr)) : w.cell? ⟨b, o, none⟩ = cur[o]? := by
  simp [World.cell?, h]
theorem cell_blk {w w' : World} {b o : Nat} (h : w'.heap[b]? = w.heap[b]?) : w'.cell? ⟨b, o, none⟩ = w.cell? ⟨b, o, none⟩ := by simp [World.cell?, h]
theorem alloc_new (w : World) (o : Obj) : (w.alloc o).heap[w.heap.size]? = some o := heap_alloc_new w o
theorem alloc_old {w : World} {o : Obj} {b : Nat} (h : b < w.heap.size) : (w.alloc o).heap[b]? = w.heap[b]? := by
  show (w.heap.push o)[b]? = _
  rw [Array.getElem?_push, if_neg (by omega)]
theorem alloc_size (w : World) (o : Obj) : (w.alloc o).heap.size = w.heap.size + 1 := by simp

variable {w : World} {g : Gh} {H : HF}

theorem blk_fup_ne {n i : Nat} {x : Option Loc} (h : i ≠ n) : blk g (fup H n x) i = blk g H i := by simp [blk, fup, h]

/-- The heap of the abstract side loses a number: what it owned is settled. -/
theorem killId (h : HI w g H) (n : Nat) (K : Nat → Prop) (hK : ∀ b, K b → blk g H n = some b) :
    HI w { g with S := fun b o => g.S b o ∨ K b } (fup H n none) ∧ Stp [] w g H w { g with S := fun b o => g.S b o ∨ K b } (fup H n none) := by
  have st : Stp [] w g H w { g with S := fun b o => g.S b o ∨ K b } (fup H n none) := by
    refine ⟨rfl, rfl, rfl, Nat.le_refl _, fun _ _ h => .inl h, fun _ _ _ => rfl, ?_, ?_, fun _ _ _ => rfl, ?_, ?_⟩
    · intro id c _ hc
      by_cases hn : id = n
      · subst hn; rw [fup_same] at hc; cases hc
      · rw [fup_ne hn] at hc; exact ⟨c, hc, rfl, rfl⟩
    · intro t a s _ hc
      by_cases hn : t = n
      · subst hn; rw [fup_same] at hc; cases hc
      · rw [fup_ne hn] at hc; exact ⟨a, s, hc, Nat.le_refl _, fun _ => ⟨rfl, rfl⟩⟩
    · intro id b hb
      by_cases hn : id = n
      · subst hn; simp [blk, fup_same] at hb
      · exact .inl ⟨id, by rw [← hb]; simp [blk, fup, hn]⟩
    · intro b o hs
      rcases hs with hs | hs
      · exact .inl hs
      · exact .inr (.inl ⟨n, hK b hs⟩)
  refine ⟨⟨?_, ?_, ?_, ?_⟩, st⟩
  · intro id c hc
    by_cases hn : id = n
    · subst hn; rw [fup_same] at hc; cases hc
    · rw [fup_ne hn] at hc
      obtain ⟨cur, e, h1, h2, h3, h4⟩ := h.arr id c hc
      refine ⟨cur, e, h1, h2, fun i x hx => ?_, fun o hs => ?_⟩
      · obtain ⟨v, hv, hr⟩ := h3 i x hx
        exact ⟨v, hv, CR.step st (fun _ _ => by simp) hr⟩
      · rcases hs with hs | hs
        · exact h4 o hs
        · exact h.apart n id _ (fun e => hn e.symm) (hK _ hs) (by simp [blk, hc])
  · intro t a s hc
    by_cases hn : t = n
    · subst hn; rw [fup_same] at hc; cases hc
    · rw [fup_ne hn] at hc
      rcases h.tok t a s hc with h1 | ⟨b, cap, cur, e, h1, h2, h3, h4, h5, h6⟩
      · exact .inl h1
      · refine .inr ⟨b, cap, cur, e, h1, h2, h3, h4, h5, fun o hs => ?_⟩
        rcases hs with hs | hs
        · exact h6 o hs
        · exact absurd (by simp [blk, hc, h1, Value.ownBlock]) (h.apart n t b (fun e => hn e.symm) (hK b hs))
  · intro i j b hij hi hj
    by_cases h1 : i = n
    · subst h1; simp [blk, fup_same] at hi
    · by_cases h2 : j = n
      · subst h2; simp [blk, fup_same] at hj
      · refine h.apart i j b hij ?_ ?_
        · rw [← hi]; simp [blk, fup, h1]
        · rw [← hj]; simp [blk, fup, h2]
  · intro b o hs
    rcases hs with hs | hs
    · exact h.lt b o hs
    · exact h.blk_lt (hK b hs)

/-- A nil slice becomes a row that may grow. -/
theorem birthTok (h : HI w g H) {n : Nat} (hf : H n = none) (hc : Clean H [n]) :
    HI w { g with ρ := fup g.ρ n (.slice none 0 0) } (fup H n (some (.tok 0 0))) ∧ Stp [n] w g H w { g with ρ := fup g.ρ n (.slice none 0 0) } (fup H n (some (.tok 0 0))) := by
  have hb : ∀ i, blk { g with ρ := fup g.ρ n (.slice none 0 0) } (fup H n (some (.tok 0 0))) i = if i = n then none else blk g H i := by
    intro i
    by_cases hi : i = n
    · subst hi; simp [blk, fup_same, Value.ownBlock]
    · simp [blk, fup, hi]
  have st : Stp [n] w g H w { g with ρ := fup g.ρ n (.slice none 0 0) } (fup H n (some (.tok 0 0))) := by
    refine ⟨rfl, rfl, rfl, Nat.le_refl _, fun _ _ h => h, fun _ _ _ => rfl, ?_, ?_, fun _ _ _ => rfl, ?_, fun _ _ h => .inl h⟩
    · intro id c hn hc
      rw [fup_ne (by simpa using hn)] at hc
      exact ⟨c, hc, rfl, rfl⟩
    · intro t a s hn hc
      have hn' : t ≠ n := by simpa using hn
      rw [fup_ne hn'] at hc
      exact ⟨a, s, hc, Nat.le_refl _, fun _ => ⟨fup_ne hn', rfl⟩⟩
    · intro id b hi
      rw [hb] at hi
      split at hi
      · cases hi
      · exact .inl ⟨id, hi⟩
  refine ⟨⟨?_, ?_, ?_, h.lt⟩, st⟩
  · intro id c hcc
    by_cases hn : id = n
    · subst hn; rw [fup_same] at hcc; cases hcc
    · rw [fup_ne hn] at hcc
      obtain ⟨cur, e, h1, h2, h3, h4⟩ := h.arr id c hcc
      refine ⟨cur, e, h1, h2, fun i x hx => ?_, h4⟩
      obtain ⟨v, hv, hr⟩ := h3 i x hx
      exact ⟨v, hv, CR.step st (hc id c hcc x (List.mem_of_getElem? hx)) hr⟩
  · intro t a s hcc
    by_cases hn : t = n
    · subst hn
      rw [fup_same] at hcc
      cases hcc
      exact .inl ⟨fup_same _ _ _, rfl, rfl⟩
    · rw [fup_ne hn] at hcc
      have : (fup g.ρ n (.slice none 0 0)) t = g.ρ t := fup_ne hn
      simp only [this]
      exact h.tok t a s hcc
  · intro i j b hij hi hj
    rw [hb] at hi hj
    split at hi
    · cases hi
    · split at hj
      · cases hj
      · exact h.apart i j b hij hi hj

/-- A new own array. -/
theorem birthArr (h : HI w g H) {n : Nat} (hf : H n = none) (hc : Clean H [n]) {cells : List C} {cur : Array Value} {e : TypeId}
    (hl : cells.length ≤ cur.size) (hr : ∀ (i : Nat) (x : C), cells[i]? = some x → ∃ v, cur[i]? = some v ∧ CR w g H x v) (hcl : ∀ x ∈ cells, ∀ i ∈ x.ids, i ∉ [n]) :
    HI (w.alloc (.cells cur e)) { g with β := fup g.β n w.heap.size } (fup H n (some (.arr cells))) ∧
    Stp [n] w g H (w.alloc (.cells cur e)) { g with β := fup g.β n w.heap.size } (fup H n (some (.arr cells))) := by
  have hb : ∀ i, blk { g with β := fup g.β n w.heap.size } (fup H n (some (.arr cells))) i = if i = n then some w.heap.size else blk g H i := by
    intro i
    by_cases hi : i = n
    · subst hi; simp [blk, fup_same]
    · simp [blk, fup, hi]
  have st : Stp [n] w g H (w.alloc (.cells cur e)) { g with β := fup g.β n w.heap.size } (fup H n (some (.arr cells))) := by
    refine ⟨rfl, rfl, rfl, by simp, fun _ _ h => h, fun b o hs => cell_blk (alloc_old (h.lt b o hs)), ?_, ?_, fun b hb _ => alloc_old hb, ?_, fun _ _ h => .inl h⟩
    · intro id c hn hc
      have hn' : id ≠ n := by simpa using hn
      rw [fup_ne hn'] at hc
      exact ⟨c, hc, rfl, fup_ne hn'⟩
    · intro t a s hn hc
      rw [fup_ne (by simpa using hn)] at hc
      exact ⟨a, s, hc, Nat.le_refl _, fun _ => ⟨rfl, rfl⟩⟩
    · intro id b hi
      rw [hb] at hi
      split at hi
      · cases hi; exact .inr (Nat.le_refl _)
      · exact .inl ⟨id, hi⟩
  refine ⟨⟨?_, ?_, ?_, ?_⟩, st⟩
  · intro id c hcc
    by_cases hn : id = n
    · subst hn
      rw [fup_same] at hcc
      cases hcc
      refine ⟨cur, e, ?_, hl, fun i x hx => ?_, fun o hs => ?_⟩
      · simp only [fup_same]; exact alloc_new _ _
      · obtain ⟨v, hv, hr⟩ := hr i x hx
        exact ⟨v, hv, CR.step st (hcl x (List.mem_of_getElem? hx)) hr⟩
      · simp only [fup_same] at hs
        exact Nat.lt_irrefl _ (h.lt _ _ hs)
    · rw [fup_ne hn] at hcc
      obtain ⟨cur', e', h1, h2, h3, h4⟩ := h.arr id c hcc
      have hβ : (fup g.β n w.heap.size) id = g.β id := fup_ne hn
      simp only [hβ]
      refine ⟨cur', e', (alloc_old (Array.getElem?_eq_some_iff.1 h1).1).trans h1, h2, fun i x hx => ?_, h4⟩
      obtain ⟨v, hv, hr⟩ := h3 i x hx
      exact ⟨v, hv, CR.step st (hc id c hcc x (List.mem_of_getElem? hx)) hr⟩
  · intro t a s hcc
    by_cases hn : t = n
    · subst hn; rw [fup_same] at hcc; cases hcc
    · rw [fup_ne hn] at hcc
      rcases h.tok t a s hcc with h1 | ⟨b, cap, cur', e', h1, h2, h3⟩
      · exact .inl h1
      · exact .inr ⟨b, cap, cur', e', h1, (alloc_old (Array.getElem?_eq_some_iff.1 h2).1).trans h2, h3⟩
  · intro i j b hij hi hj
    rw [hb] at hi hj
    split at hi
    · cases hi
      split at hj
      · rename_i h1 h2; exact hij (h1.trans h2.symm)
      · exact Nat.lt_irrefl _ (h.blk_lt hj)
    · split at hj
      · cases hj; exact Nat.lt_irrefl _ (h.blk_lt hi)
      · exact h.apart i j b hij hi hj
  · intro b o hs
    have := h.lt b o hs
    simp
    omega

/-- Elements that lie in a block of memory. -/
theorem DR.inBlock {w : World} {S : Nat → Nat → Prop} {es : List (List D)} {b cap sz : Nat} {cur : Array Value} {e : TypeId} {fr : Nat × Nat} (hb : w.heap[b]? = some (.cells cur e fr)) (hc : es.length ≤ cap)
    (hsz : ∀ x ∈ es, x.length = sz) (hr : ∀ (i : Nat) (x : List D) (j : Nat) (y : D), es[i]? = some x → x[j]? = some y → ∃ v, cur[i * sz + j]? = some v ∧ DR w S y v)
    (hS : ∀ o, o < es.length * sz → S b o) : DR w S (.sl es) (.slice (some ⟨b, 0, none⟩) es.length cap) := by
  refine .sl (sz := sz) (b := b) (o := 0) (fun i j => (cur[i * sz + j]?).getD undef) rfl hc (fun i x hx => hsz x (List.mem_of_getElem? hx)) (fun i x j y hx hy => ?_) (fun i x j y hx hy => ?_)
  · obtain ⟨v, hv, _⟩ := hr i x j y hx hy
    refine ⟨rfl, ?_, hS _ ?_⟩
    · rw [cellAt hb, Nat.zero_add, hv]; rfl
    · have h1 : i < es.length := (List.getElem?_eq_some_iff.1 hx).1
      have h2 : j < x.length := (List.getElem?_eq_some_iff.1 hy).1
      rw [hsz x (List.mem_of_getElem? hx)] at h2
      have : (i + 1) * sz ≤ es.length * sz := Nat.mul_le_mul_right _ h1
      rw [Nat.succ_mul] at this
      omega
  · obtain ⟨v, hv, hd⟩ := hr i x j y hx hy
    rw [hv]
    exact hd

/-- A new row that may grow. -/
theorem birthRow (h : HI w g H) {n : Nat} (hf : H n = none) (hc : Clean H [n]) {es : List (List D)} {cur : Array Value} {e : TypeId} {cap sz : Nat} (h0 : 0 < sz)
    (hcap : es.length ≤ cap) (hfit : cap * sz ≤ cur.size) (hsz : ∀ x ∈ es, x.length = sz)
    (hr : ∀ (i : Nat) (x : List D) (j : Nat) (y : D), es[i]? = some x → x[j]? = some y → ∃ v, cur[i * sz + j]? = some v ∧ DR w g.S y v) :
    let g' : Gh := { g with S := fun b o => g.S b o ∨ (b = w.heap.size ∧ o < es.length * sz), ρ := fup g.ρ n (.slice (some ⟨w.heap.size, 0, none⟩) es.length cap) }
    HI (w.alloc (.cells cur e)) g' (fup H n (some (.tok es.length sz))) ∧ Stp [n] w g H (w.alloc (.cells cur e)) g' (fup H n (some (.tok es.length sz))) ∧
      DR (w.alloc (.cells cur e)) g'.S (.sl es) (.slice (some ⟨w.heap.size, 0, none⟩) es.length cap) := by
  intro g'
  have hb : ∀ i, blk g' (fup H n (some (.tok es.length sz))) i = if i = n then some w.heap.size else blk g H i := by
    intro i
    by_cases hi : i = n
    · subst hi; simp [blk, fup_same, g', Value.ownBlock]
    · simp [blk, fup, hi, g']
  have st : Stp [n] w g H (w.alloc (.cells cur e)) g' (fup H n (some (.tok es.length sz))) := by
    refine ⟨rfl, rfl, rfl, by simp, fun _ _ h => .inl h, fun b o hs => cell_blk (alloc_old (h.lt b o hs)), ?_, ?_, fun b hb _ => alloc_old hb, ?_, ?_⟩
    · intro id c hn hc
      rw [fup_ne (by simpa using hn)] at hc
      exact ⟨c, hc, rfl, rfl⟩
    · intro t a s hn hc
      have hn' : t ≠ n := by simpa using hn
      rw [fup_ne hn'] at hc
      exact ⟨a, s, hc, Nat.le_refl _, fun _ => ⟨fup_ne hn', rfl⟩⟩
    · intro id b hi
      rw [hb] at hi
      split at hi
      · cases hi; exact .inr (Nat.le_refl _)
      · exact .inl ⟨id, hi⟩
    · intro b o hs
      rcases hs with hs | ⟨rfl, _⟩
      · exact .inl hs
      · exact .inr (.inr (Nat.le_refl _))
  refine ⟨⟨?_, ?_, ?_, ?_⟩, st, ?_⟩
  · intro id c hcc
    by_cases hn : id = n
    · subst hn; rw [fup_same] at hcc; cases hcc
    · rw [fup_ne hn] at hcc
      obtain ⟨cur', e', h1, h2, h3, h4⟩ := h.arr id c hcc
      have hlt := (Array.getElem?_eq_some_iff.1 h1).1
      refine ⟨cur', e', (alloc_old hlt).trans h1, h2, fun i x hx => ?_, fun o hs => ?_⟩
      · obtain ⟨v, hv, hr⟩ := h3 i x hx
        exact ⟨v, hv, CR.step st (hc id c hcc x (List.mem_of_getElem? hx)) hr⟩
      · rcases hs with hs | ⟨he, _⟩
        · exact h4 o hs
        · have : g.β id = w.heap.size := he
          omega
  · intro t a s hcc
    by_cases hn : t = n
    · subst hn
      rw [fup_same] at hcc
      cases hcc
      refine .inr ⟨w.heap.size, cap, cur, e, fup_same _ _ _, alloc_new _ _, hcap, hfit, h0, fun o hs => ?_⟩
      rcases hs with hs | ⟨_, hs⟩
      · exact absurd (h.lt _ _ hs) (Nat.lt_irrefl _)
      · exact hs
    · rw [fup_ne hn] at hcc
      have hρ : g'.ρ t = g.ρ t := fup_ne hn
      rw [hρ]
      rcases h.tok t a s hcc with h1 | ⟨b, cap', cur', e', h1, h2, h3, h4, h5, h6⟩
      · exact .inl h1
      · have hlt := (Array.getElem?_eq_some_iff.1 h2).1
        refine .inr ⟨b, cap', cur', e', h1, (alloc_old hlt).trans h2, h3, h4, h5, fun o hs => ?_⟩
        rcases hs with hs | ⟨he, _⟩
        · exact h6 o hs
        · omega
  · intro i j b hij hi hj
    rw [hb] at hi hj
    split at hi
    · cases hi
      split at hj
      · rename_i h1 h2; exact hij (h1.trans h2.symm)
      · exact Nat.lt_irrefl _ (h.blk_lt hj)
    · split at hj
      · cases hj; exact Nat.lt_irrefl _ (h.blk_lt hi)
      · exact h.apart i j b hij hi hj
  · intro b o hs
    rcases hs with hs | ⟨rfl, _⟩
    · have := h.lt b o hs
      simp
      omega
    · simp
  · refine DR.inBlock (alloc_new w (.cells cur e)) hcap hsz (fun i x j y hx hy => ?_) (fun o ho => .inr ⟨rfl, ho⟩)
    obtain ⟨v, hv, hd⟩ := hr i x j y hx hy
    exact ⟨v, hv, DR.move st.dr hd⟩

theorem heap_setRow_other {b k : Nat} {cs : Array Value} (h : k ≠ b) : (w.setRow b cs).heap[k]? = w.heap[k]? := by
  simp only [World.setRow, Array.getElem?_modify]
  rw [if_neg (fun e => h e.symm)]

/-- An own array is written. -/
theorem storeArr (h : HI w g H) {id : Nat} {cells cells2 : List C} (hc : H id = some (.arr cells)) {cur cur2 : Array Value} {e : TypeId} (hb : w.heap[g.β id]? = some (.cells cur e (0, 0)))
    (hlen : cells2.length = cells.length) (hl : cells2.length ≤ cur2.size) (hr : ∀ (i : Nat) (x : C), cells2[i]? = some x → ∃ v, cur2[i]? = some v ∧ CR w g H x v) :
    HI (w.setRow (g.β id) cur2) g (fup H id (some (.arr cells2))) ∧ Stp [] w g H (w.setRow (g.β id) cur2) g (fup H id (some (.arr cells2))) := by
  have hS : ∀ b o, g.S b o → b ≠ g.β id := by
    intro b o hs he
    subst he
    obtain ⟨_, _, _, _, _, h4⟩ := h.arr id cells hc
    exact h4 o hs
  have hblk : ∀ i, blk g (fup H id (some (.arr cells2))) i = blk g H i := by
    intro i
    by_cases hi : i = id
    · subst hi; simp [blk, fup_same, hc]
    · simp [blk, fup, hi]
  have st : Stp [] w g H (w.setRow (g.β id) cur2) g (fup H id (some (.arr cells2))) := by
    refine ⟨rfl, rfl, rfl, by simp, fun _ _ h => h, fun b o hs => cell_blk (heap_setRow_other (hS b o hs)), ?_, ?_, fun b _ hn => heap_setRow_other (fun he => hn id (by rw [he]; simp [blk, hc])), ?_, fun _ _ h => .inl h⟩
    · intro i c _ hci
      by_cases hi : i = id
      · subst hi; rw [fup_same] at hci; cases hci; exact ⟨cells, hc, hlen, rfl⟩
      · rw [fup_ne hi] at hci; exact ⟨c, hci, rfl, rfl⟩
    · intro t a s _ hci
      by_cases hi : t = id
      · subst hi; rw [fup_same] at hci; cases hci
      · rw [fup_ne hi] at hci; exact ⟨a, s, hci, Nat.le_refl _, fun _ => ⟨rfl, rfl⟩⟩
    · intro i b hb
      rw [hblk] at hb
      exact .inl ⟨i, hb⟩
  refine ⟨⟨?_, ?_, ?_, ?_⟩, st⟩
  · intro i c hci
    by_cases hi : i = id
    · subst hi
      rw [fup_same] at hci
      cases hci
      obtain ⟨_, _, _, _, _, h4⟩ := h.arr i cells hc
      refine ⟨cur2, e, setRow_heap w _ cur cur2 e (0, 0) hb, hl, fun j x hx => ?_, h4⟩
      obtain ⟨v, hv, hd⟩ := hr j x hx
      exact ⟨v, hv, CR.step st (fun _ _ => by simp) hd⟩
    · rw [fup_ne hi] at hci
      obtain ⟨cur', e', h1, h2, h3, h4⟩ := h.arr i c hci
      have hne : g.β i ≠ g.β id := fun he => h.apart i id (g.β i) hi (by simp [blk, hci]) (by rw [he]; simp [blk, hc])
      refine ⟨cur', e', (heap_setRow_other hne).trans h1, h2, fun j x hx => ?_, h4⟩
      obtain ⟨v, hv, hd⟩ := h3 j x hx
      exact ⟨v, hv, CR.step st (fun _ _ => by simp) hd⟩
  · intro t a s hct
    by_cases hi : t = id
    · subst hi; rw [fup_same] at hct; cases hct
    · rw [fup_ne hi] at hct
      rcases h.tok t a s hct with h1 | ⟨b, cap, cur', e', h1, h2, h3⟩
      · exact .inl h1
      · have hne : b ≠ g.β id := fun he => h.apart t id b hi (by simp [blk, hct, h1, Value.ownBlock]) (by rw [he]; simp [blk, hc])
        exact .inr ⟨b, cap, cur', e', h1, (heap_setRow_other hne).trans h2, h3⟩
  · intro i j b hij hi hj
    rw [hblk] at hi hj
    exact h.apart i j b hij hi hj
  · intro b o hs
    have := h.lt b o hs
    simpa using this

/-- What the elements of two lists one behind the other are, cell by cell. -/
theorem elems_append {es ys : List (List D)} {sz : Nat} (he : ∀ x ∈ es, x.length = sz) {R : Nat → D → Prop}
    (h1 : ∀ (i : Nat) (x : List D) (j : Nat) (y : D), es[i]? = some x → x[j]? = some y → R (i * sz + j) y)
    (h2 : ∀ (i : Nat) (x : List D) (j : Nat) (y : D), ys[i]? = some x → x[j]? = some y → R (es.length * sz + (i * sz + j)) y) :
    ∀ (i : Nat) (x : List D) (j : Nat) (y : D), (es ++ ys)[i]? = some x → x[j]? = some y → R (i * sz + j) y := by
  intro i x j y hx hy
  rcases Nat.lt_or_ge i es.length with hi | hi
  · rw [List.getElem?_append_left hi] at hx
    exact h1 i x j y hx hy
  · rw [List.getElem?_append_right hi] at hx
    have := h2 (i - es.length) x j y hx hy
    have e : es.length * sz + ((i - es.length) * sz + j) = i * sz + j := by
      rw [← Nat.add_assoc, ← Nat.add_mul, Nat.add_sub_cancel' hi]
    rwa [e] at this

/-- A row grows where it lies. -/
theorem growIn (h : HI w g H) {t n sz b cap : Nat} (ht : H t = some (.tok n sz)) (hρ : g.ρ t = .slice (some ⟨b, 0, none⟩) n cap) {cur : Array Value} {e : TypeId} (hb : w.heap[b]? = some (.cells cur e (0, 0)))
    {es ys : List (List D)} {us : List Value} (hn : es.length = n) (hes : ∀ x ∈ es, x.length = sz) (hd : DR w g.S (.sl es) (g.ρ t)) (h0 : 0 < sz) (hfit : cap * sz ≤ cur.size) (hcap : n + ys.length ≤ cap)
    (hus : us.length = ys.length * sz) (hys : ∀ x ∈ ys, x.length = sz)
    (hr : ∀ (i : Nat) (x : List D) (j : Nat) (y : D), ys[i]? = some x → x[j]? = some y → ∃ v, us[i * sz + j]? = some v ∧ DR w g.S y v) :
    let w' := w.setRow b (cur.toList.take (n * sz) ++ us ++ cur.toList.drop (n * sz + us.length)).toArray
    let g' : Gh := { g with S := fun b' o => g.S b' o ∨ (b' = b ∧ o < (n + ys.length) * sz), ρ := fup g.ρ t (.slice (some ⟨b, 0, none⟩) (n + ys.length) cap) }
    HI w' g' (fup H t (some (.tok (n + ys.length) sz))) ∧ Stp [] w g H w' g' (fup H t (some (.tok (n + ys.length) sz))) ∧ DR w' g'.S (.sl (es ++ ys)) (.slice (some ⟨b, 0, none⟩) (n + ys.length) cap) := by
  intro w' g'
  have hroom : n * sz + us.length ≤ cur.size := by
    rw [hus, ← Nat.add_mul]
    exact Nat.le_trans (Nat.mul_le_mul_right _ hcap) hfit
  have hlt : b < w.heap.size := (Array.getElem?_eq_some_iff.1 hb).1
  have hown : blk g H t = some b := by simp [blk, ht, hρ, Value.ownBlock]
  have hSb : ∀ o, g.S b o → o < n * sz := by
    rcases h.tok t n sz ht with ⟨h1, _⟩ | ⟨b', cap', cur', e', h1, h2, h3, h4, h5, h6⟩
    · rw [h1] at hρ; cases hρ
    · rw [h1] at hρ
      injection hρ with hq _ _
      injection hq with hq
      injection hq with hq _ _
      subst hq
      exact h6
  have hcells : ∀ o, o < n * sz → w'.cell? ⟨b, o, none⟩ = w.cell? ⟨b, o, none⟩ := by
    intro o ho
    rw [cellAt (setRow_heap w b cur _ e (0, 0) hb), cellAt hb]
    simp only [List.getElem?_toArray]
    rw [List.append_assoc, List.getElem?_append_left (by simp; omega), List.getElem?_take, if_pos ho, Array.getElem?_toList]
  have hblk : ∀ i, blk g' (fup H t (some (.tok (n + ys.length) sz))) i = blk g H i := by
    intro i
    by_cases hi : i = t
    · subst hi; rw [hown]; simp [blk, fup_same, g', Value.ownBlock]
    · simp [blk, fup, hi, g']
  have st : Stp [] w g H w' g' (fup H t (some (.tok (n + ys.length) sz))) := by
    refine ⟨rfl, rfl, rfl, by simp [w'], fun _ _ h => .inl h, fun b' o hs => ?_, ?_, ?_, fun b' _ hn => heap_setRow_other (fun he => hn t (he ▸ hown)), ?_, ?_⟩
    · by_cases hbb : b' = b
      · subst hbb; exact hcells o (hSb o hs)
      · exact cell_blk (heap_setRow_other hbb)
    · intro i c _ hci
      by_cases hi : i = t
      · subst hi; rw [fup_same] at hci; cases hci
      · rw [fup_ne hi] at hci; exact ⟨c, hci, rfl, rfl⟩
    · intro i a s _ hci
      by_cases hi : i = t
      · subst hi
        rw [fup_same] at hci
        cases hci
        refine ⟨n, sz, ht, Nat.le_add_right _ _, fun _he => ⟨?_, rfl⟩⟩
        simp only [g', fup_same]
        rw [hρ, ← _he]
      · rw [fup_ne hi] at hci
        exact ⟨a, s, hci, Nat.le_refl _, fun _ => ⟨fup_ne hi, rfl⟩⟩
    · intro i b' hb'
      rw [hblk] at hb'
      exact .inl ⟨i, hb'⟩
    · intro b' o hs
      rcases hs with hs | ⟨rfl, _⟩
      · exact .inl hs
      · exact .inr (.inl ⟨t, hown⟩)
  have hus2 : ∀ k v, us[k]? = some v → (cur.toList.take (n * sz) ++ us ++ cur.toList.drop (n * sz + us.length))[n * sz + k]? = some v := by
    intro k v hk
    have hkl : k < us.length := (List.getElem?_eq_some_iff.1 hk).1
    rw [List.getElem?_append_left (by simp; omega), List.getElem?_append_right (by simp; omega), List.length_take, Nat.min_eq_left (by simp; omega), Nat.add_sub_cancel_left, hk]
  refine ⟨⟨?_, ?_, ?_, ?_⟩, st, ?_⟩
  · intro i c hci
    by_cases hi : i = t
    · subst hi; rw [fup_same] at hci; cases hci
    · rw [fup_ne hi] at hci
      obtain ⟨cur', e', h1, h2, h3, h4⟩ := h.arr i c hci
      have hne : g.β i ≠ b := fun he => h.apart i t (g.β i) hi (by simp [blk, hci]) (he ▸ hown)
      refine ⟨cur', e', (heap_setRow_other hne).trans h1, h2, fun j x hx => ?_, fun o hs => ?_⟩
      · obtain ⟨v, hv, hdd⟩ := h3 j x hx
        exact ⟨v, hv, CR.step st (fun _ _ => by simp) hdd⟩
      · rcases hs with hs | ⟨he, _⟩
        · exact h4 o hs
        · exact hne he
  · intro i a s hci
    by_cases hi : i = t
    · subst hi
      rw [fup_same] at hci
      cases hci
      refine .inr ⟨b, cap, _, e, fup_same _ _ _, setRow_heap w b cur _ e (0, 0) hb, hcap, ?_, h0, fun o hs => ?_⟩
      · simp; omega
      · rcases hs with hs | ⟨_, hs⟩
        · have := hSb o hs
          have h2 : n * sz ≤ (n + ys.length) * sz := Nat.mul_le_mul_right _ (Nat.le_add_right _ _)
          omega
        · exact hs
    · rw [fup_ne hi] at hci
      have hρi : g'.ρ i = g.ρ i := fup_ne hi
      rw [hρi]
      rcases h.tok i a s hci with h1 | ⟨b', cap', cur', e', h1, h2, h3, h4, h5, h6⟩
      · exact .inl h1
      · have hne : b' ≠ b := fun he => h.apart i t b' hi (by simp [blk, hci, h1, Value.ownBlock]) (he ▸ hown)
        refine .inr ⟨b', cap', cur', e', h1, (heap_setRow_other hne).trans h2, h3, h4, h5, fun o hs => ?_⟩
        rcases hs with hs | ⟨he, _⟩
        · exact h6 o hs
        · exact absurd he hne
  · intro i j b' hij hi hj
    rw [hblk] at hi hj
    exact h.apart i j b' hij hi hj
  · intro b' o hs
    rcases hs with hs | ⟨rfl, _⟩
    · have := h.lt b' o hs
      simpa [w'] using this
    · simpa [w'] using hlt
  · have hd' := DR.move st.dr hd
    rw [hρ] at hd
    have hes2 : ∀ (i : Nat) (x : List D) (j : Nat) (y : D), es[i]? = some x → x[j]? = some y → ∃ v, cur[i * sz + j]? = some v ∧ DR w g.S y v := by
      cases hd with
      | sl vs hn' hc' hsz' ha' hr' =>
        intro i x j y hx hy
        obtain ⟨q1, q2, _⟩ := ha' i x j y hx hy
        have hsz1 := hsz' i x hx
        have hsz2 := hes x (List.mem_of_getElem? hx)
        have hsz3 := hsz1.symm.trans hsz2
        injection q1 with q1
        injection q1 with qb qo
        subst qb; subst qo
        subst hsz3
        rw [Nat.zero_add, cellAt hb] at q2
        exact ⟨_, q2, hr' i x j y hx hy⟩
    have key := elems_append (R := fun k y => ∃ v, (cur.toList.take (n * sz) ++ us ++ cur.toList.drop (n * sz + us.length)).toArray[k]? = some v ∧ DR w' g'.S y v) hes (es := es) (ys := ys)
      (fun i x j y hx hy => by
        obtain ⟨v, hv, hdv⟩ := hes2 i x j y hx hy
        refine ⟨v, ?_, DR.move st.dr hdv⟩
        have h1 : i < es.length := (List.getElem?_eq_some_iff.1 hx).1
        have h2 : j < x.length := (List.getElem?_eq_some_iff.1 hy).1
        rw [hes x (List.mem_of_getElem? hx)] at h2
        have h3 : (i + 1) * sz ≤ es.length * sz := Nat.mul_le_mul_right _ h1
        rw [Nat.succ_mul] at h3
        rw [hn] at h3
        simp only [List.getElem?_toArray]
        rw [List.append_assoc, List.getElem?_append_left (by simp; omega), List.getElem?_take, if_pos (by omega), Array.getElem?_toList]
        exact hv)
      (fun i x j y hx hy => by
        obtain ⟨v, hv, hdv⟩ := hr i x j y hx hy
        refine ⟨v, ?_, DR.move st.dr hdv⟩
        simp only [List.getElem?_toArray]
        rw [hn]
        exact hus2 _ v hv)
    have hlen : (es ++ ys).length = n + ys.length := by simp [hn]
    have := DR.inBlock (w := w') (S := g'.S) (es := es ++ ys) (cap := cap) (sz := sz) (setRow_heap w b cur _ e (0, 0) hb) (by rw [hlen]; exact hcap)
      (fun x hx => by
        rcases List.mem_append.1 hx with hx | hx
        · exact hes x hx
        · exact hys x hx) key (fun o ho => .inr ⟨rfl, by rw [hlen] at ho; exact ho⟩)
    rwa [hlen] at this

/-- A row grows into a new place (w1: w, some answers drawn). -/
theorem growNew (h : HI w g H) {t n s sz cap : Nat} (ht : H t = some (.tok n s)) {cur : Array Value} {e : TypeId} {es : List (List D)} (h0 : 0 < sz) (hn : n < es.length)
    (hcap : es.length ≤ cap) (hfit : cap * sz ≤ cur.size) (hsz : ∀ x ∈ es, x.length = sz)
    (hr : ∀ (i : Nat) (x : List D) (j : Nat) (y : D), es[i]? = some x → x[j]? = some y → ∃ v, cur[i * sz + j]? = some v ∧ DR w g.S y v) :
    let w' := w.drew.alloc (.cells cur e)
    let g' : Gh := { g with S := fun b o => g.S b o ∨ (b = w.heap.size ∧ o < es.length * sz), ρ := fup g.ρ t (.slice (some ⟨w.heap.size, 0, none⟩) es.length cap) }
    HI w' g' (fup H t (some (.tok es.length sz))) ∧ Stp [] w g H w' g' (fup H t (some (.tok es.length sz))) ∧ DR w' g'.S (.sl es) (.slice (some ⟨w.heap.size, 0, none⟩) es.length cap) := by
  intro w' g'
  have hw : ∀ b, b < w.heap.size → w'.heap[b]? = w.heap[b]? := fun b hb => by
    show (w.drew.alloc (.cells cur e)).heap[b]? = _
    rw [alloc_old (by simpa using hb)]; rfl
  have hnew : w'.heap[w.heap.size]? = some (.cells cur e (0, 0)) := alloc_new w.drew (.cells cur e)
  have hblk : ∀ i, blk g' (fup H t (some (.tok es.length sz))) i = if i = t then some w.heap.size else blk g H i := by
    intro i
    by_cases hi : i = t
    · subst hi; simp [blk, fup_same, g', Value.ownBlock]
    · simp [blk, fup, hi, g']
  have st : Stp [] w g H w' g' (fup H t (some (.tok es.length sz))) := by
    refine ⟨rfl, rfl, rfl, by simp [w'], fun _ _ h => .inl h, fun b o hs => cell_blk (hw b (h.lt b o hs)), ?_, ?_, fun b hb _ => hw b hb, ?_, ?_⟩
    · intro i c _ hci
      by_cases hi : i = t
      · subst hi; rw [fup_same] at hci; cases hci
      · rw [fup_ne hi] at hci; exact ⟨c, hci, rfl, rfl⟩
    · intro i a s' _ hci
      by_cases hi : i = t
      · subst hi
        rw [fup_same] at hci
        cases hci
        exact ⟨n, s, ht, Nat.le_of_lt hn, fun he => by omega⟩
      · rw [fup_ne hi] at hci
        exact ⟨a, s', hci, Nat.le_refl _, fun _ => ⟨fup_ne hi, rfl⟩⟩
    · intro i b hb
      rw [hblk] at hb
      split at hb
      · cases hb; exact .inr (Nat.le_refl _)
      · exact .inl ⟨i, hb⟩
    · intro b o hs
      rcases hs with hs | ⟨rfl, _⟩
      · exact .inl hs
      · exact .inr (.inr (Nat.le_refl _))
  refine ⟨⟨?_, ?_, ?_, ?_⟩, st, ?_⟩
  · intro i c hci
    by_cases hi : i = t
    · subst hi; rw [fup_same] at hci; cases hci
    · rw [fup_ne hi] at hci
      obtain ⟨cur', e', h1, h2, h3, h4⟩ := h.arr i c hci
      have hlt := (Array.getElem?_eq_some_iff.1 h1).1
      refine ⟨cur', e', (hw _ hlt).trans h1, h2, fun j x hx => ?_, fun o hs => ?_⟩
      · obtain ⟨v, hv, hdd⟩ := h3 j x hx
        exact ⟨v, hv, CR.step st (fun _ _ => by simp) hdd⟩
      · rcases hs with hs | ⟨he, _⟩
        · exact h4 o hs
        · have : g.β i = w.heap.size := he
          omega
  · intro i a s' hci
    by_cases hi : i = t
    · subst hi
      rw [fup_same] at hci
      cases hci
      refine .inr ⟨w.heap.size, cap, cur, e, fup_same _ _ _, hnew, hcap, hfit, h0, fun o hs => ?_⟩
      rcases hs with hs | ⟨_, hs⟩
      · exact absurd (h.lt _ _ hs) (Nat.lt_irrefl _)
      · exact hs
    · rw [fup_ne hi] at hci
      have hρ : g'.ρ i = g.ρ i := fup_ne hi
      rw [hρ]
      rcases h.tok i a s' hci with h1 | ⟨b, cap', cur', e', h1, h2, h3, h4, h5, h6⟩
      · exact .inl h1
      · have hlt := (Array.getElem?_eq_some_iff.1 h2).1
        refine .inr ⟨b, cap', cur', e', h1, (hw _ hlt).trans h2, h3, h4, h5, fun o hs => ?_⟩
        rcases hs with hs | ⟨he, _⟩
        · exact h6 o hs
        · omega
  · intro i j b hij hi hj
    rw [hblk] at hi hj
    split at hi
    · cases hi
      split at hj
      · rename_i h1 h2; exact hij (h1.trans h2.symm)
      · exact Nat.lt_irrefl _ (h.blk_lt hj)
    · split at hj
      · cases hj; exact Nat.lt_irrefl _ (h.blk_lt hi)
      · exact h.apart i j b hij hi hj
  · intro b o hs
    rcases hs with hs | ⟨rfl, _⟩
    · have := h.lt b o hs
      simp [w']
      omega
    · simp [w']
  · refine DR.inBlock hnew hcap hsz (fun i x j y hx hy => ?_) (fun o ho => .inr ⟨rfl, ho⟩)
    obtain ⟨v, hv, hdd⟩ := hr i x j y hx hy
    exact ⟨v, hv, DR.move st.dr hdd⟩

/-- Something came back that changed nothing of what was there; what it made is settled. -/
theorem cameBack (h : HI w g H) {w1 : World} (hb : RowKit.Below w.heap.size w w1) :
    let g' : Gh := { g with S := fun b o => g.S b o ∨ (w.heap.size ≤ b ∧ b < w1.heap.size) }
    HI w1 g' H ∧ Stp [] w g H w1 g' H := by
  intro g'
  have hblk : ∀ i, blk g' H i = blk g H i := fun i => rfl
  have st : Stp [] w g H w1 g' H := by
    refine ⟨hb.os, hb.tape, hb.output, hb.size, fun _ _ h => .inl h, fun b o hs => cell_blk (hb.block b (h.lt b o hs)), fun i c _ hc => ⟨c, hc, rfl, rfl⟩,
      fun i a s _ hc => ⟨a, s, hc, Nat.le_refl _, fun _ => ⟨rfl, rfl⟩⟩, fun b hlt _ => hb.block b hlt, fun i b hb => .inl ⟨i, hb⟩, ?_⟩
    intro b o hs
    rcases hs with hs | ⟨hs, _⟩
    · exact .inl hs
    · exact .inr (.inr hs)
  refine ⟨⟨?_, ?_, h.apart, ?_⟩, st⟩
  · intro i c hci
    obtain ⟨cur', e', h1, h2, h3, h4⟩ := h.arr i c hci
    have hlt := (Array.getElem?_eq_some_iff.1 h1).1
    refine ⟨cur', e', (hb.block _ hlt).trans h1, h2, fun j x hx => ?_, fun o hs => ?_⟩
    · obtain ⟨v, hv, hdd⟩ := h3 j x hx
      exact ⟨v, hv, CR.step st (fun _ _ => by simp) hdd⟩
    · rcases hs with hs | ⟨he, _⟩
      · exact h4 o hs
      · exact absurd he (Nat.not_le.2 hlt)
  · intro i a s hci
    rcases h.tok i a s hci with h1 | ⟨b, cap', cur', e', h1, h2, h3, h4, h5, h6⟩
    · exact .inl h1
    · have hlt := (Array.getElem?_eq_some_iff.1 h2).1
      refine .inr ⟨b, cap', cur', e', h1, (hb.block _ hlt).trans h2, h3, h4, h5, fun o hs => ?_⟩
      rcases hs with hs | ⟨he, _⟩
      · exact h6 o hs
      · exact absurd he (Nat.not_le.2 hlt)
  · intro b o hs
    rcases hs with hs | ⟨_, hs⟩
    · exact Nat.lt_of_lt_of_le (h.lt b o hs) hb.size
    · exact hs

end Go.Proofs.Ytpanbfainilmpaa.Ev
