/- What an evaluator's value says of a value in memory; how memory may go on. -/
import Derived.Test.YtpanbfainilmpaaEv1
set_option linter.unusedVariables false
set_option linter.unusedSimpArgs false
namespace Go.Proofs.Ytpanbfainilmpaa.Ev

/-- Lists side by side. -/
def RelL {α β : Type} (R : α → β → Prop) (xs : List α) (vs : List β) : Prop := xs.length = vs.length ∧ ∀ (i : Nat) (x : α) (v : β), xs[i]? = some x → vs[i]? = some v → R x v

section RelL
variable {α β : Type} {R R' : α → β → Prop}
theorem RelL.nil : RelL R [] [] := ⟨rfl, fun i x v h => by simp at h⟩
theorem RelL.cons {x : α} {v : β} {xs : List α} {vs : List β} (h : R x v) (t : RelL R xs vs) : RelL R (x :: xs) (v :: vs) := by
  refine ⟨by simp [t.1], fun i y u hy hu => ?_⟩
  cases i with
  | zero => simp at hy hu; subst hy; subst hu; exact h
  | succ i => exact t.2 i y u (by simpa using hy) (by simpa using hu)
theorem RelL.head {x : α} {v : β} {xs : List α} {vs : List β} (h : RelL R (x :: xs) (v :: vs)) : R x v := h.2 0 x v rfl rfl
theorem RelL.tail {x : α} {v : β} {xs : List α} {vs : List β} (h : RelL R (x :: xs) (v :: vs)) : RelL R xs vs :=
  ⟨by have := h.1; simpa using this, fun i y u hy hu => h.2 (i + 1) y u (by simpa using hy) (by simpa using hu)⟩
theorem RelL.imp {xs : List α} {vs : List β} (h : RelL R xs vs) (hR : ∀ x ∈ xs, ∀ v, R x v → R' x v) : RelL R' xs vs :=
  ⟨h.1, fun i x v hx hv => hR x (List.mem_of_getElem? hx) v (h.2 i x v hx hv)⟩
theorem RelL.append {xs ys : List α} {vs us : List β} (h : RelL R xs vs) (k : RelL R ys us) : RelL R (xs ++ ys) (vs ++ us) := by
  refine ⟨by simp [h.1, k.1], fun i x v hx hv => ?_⟩
  rcases Nat.lt_or_ge i xs.length with hi | hi
  · rw [List.getElem?_append_left hi] at hx
    rw [List.getElem?_append_left (h.1 ▸ hi)] at hv
    exact h.2 i x v hx hv
  · rw [List.getElem?_append_right hi] at hx
    rw [List.getElem?_append_right (h.1 ▸ hi), ← h.1] at hv
    exact k.2 _ x v hx hv
theorem RelL.take {xs : List α} {vs : List β} (h : RelL R xs vs) (n : Nat) : RelL R (xs.take n) (vs.take n) := by
  refine ⟨by simp [h.1], fun i x v hx hv => ?_⟩
  rw [List.getElem?_take] at hx hv
  split at hx
  · rename_i hi; rw [if_pos hi] at hv; exact h.2 i x v hx hv
  · cases hx
theorem RelL.drop {xs : List α} {vs : List β} (h : RelL R xs vs) (n : Nat) : RelL R (xs.drop n) (vs.drop n) := by
  refine ⟨by simp [h.1], fun i x v hx hv => ?_⟩
  rw [List.getElem?_drop] at hx hv
  exact h.2 _ x v hx hv
theorem RelL.set {xs : List α} {vs : List β} (h : RelL R xs vs) {x : α} {v : β} (hxv : R x v) (n : Nat) : RelL R (xs.set n x) (vs.set n v) := by
  refine ⟨by simp [h.1], fun i y u hy hu => ?_⟩
  rw [List.getElem?_set] at hy hu
  by_cases hn : n = i
  · subst hn
    simp only [if_true] at hy hu
    have hl := h.1
    by_cases hlt : n < xs.length
    · rw [if_pos hlt] at hy; rw [if_pos (hl ▸ hlt)] at hu
      cases hy; cases hu; exact hxv
    · rw [if_neg hlt] at hy; cases hy
  · rw [if_neg hn] at hy hu
    exact h.2 i y u hy hu
theorem RelL.get {xs : List α} {vs : List β} (h : RelL R xs vs) {i : Nat} {x : α} (hx : xs[i]? = some x) : ∃ v, vs[i]? = some v ∧ R x v := by
  have hi : i < xs.length := (List.getElem?_eq_some_iff.1 hx).1
  have hv : vs[i]? = some (vs[i]'(h.1 ▸ hi)) := List.getElem?_eq_getElem _
  exact ⟨_, hv, h.2 i x _ hx hv⟩
theorem RelL.map {γ : Type} {f : γ → α} {xs : List γ} {vs : List β} (h : RelL (fun x v => R (f x) v) xs vs) : RelL R (xs.map f) vs := by
  refine ⟨by simp [h.1], fun i x v hx hv => ?_⟩
  rw [List.getElem?_map] at hx
  obtain ⟨y, hy, rfl⟩ := Option.map_eq_some_iff.1 hx
  exact h.2 i y v hy hv
end RelL

/-- A datum and a value. S: the cells that nobody writes any more. -/
inductive DR (w : World) (S : Nat → Nat → Prop) : D → Value → Prop
  | sc {v : Value} (h : v.oneCell' = true) : DR w S (.sc v) v
  | sl {es : List (List D)} {a : Option Addr} {n c sz b o : Nat} (vs : Nat → Nat → Value)
      (hn : n = es.length) (hc : n ≤ c)
      (hsz : ∀ (i : Nat) (e : List D), es[i]? = some e → e.length = sz)
      (ha : ∀ (i : Nat) (e : List D) (j : Nat) (x : D), es[i]? = some e → e[j]? = some x → a = some ⟨b, o, none⟩ ∧ w.cell? ⟨b, o + (i * sz + j), none⟩ = some (vs i j) ∧ S b (o + (i * sz + j)))
      (hr : ∀ (i : Nat) (e : List D) (j : Nat) (x : D), es[i]? = some e → e[j]? = some x → DR w S x (vs i j)) : DR w S (.sl es) (.slice a n c)

theorem DR.one {w : World} {S : Nat → Nat → Prop} {x : D} {v : Value} (h : DR w S x v) : v.oneCell' = true := by
  cases h with
  | sc h => exact h
  | sl => rfl

/-- A datum lives on where its cells do. -/
theorem DR.move {w w' : World} {S S' : Nat → Nat → Prop} (hS : ∀ b o u, S b o → w.cell? ⟨b, o, none⟩ = some u → S' b o ∧ w'.cell? ⟨b, o, none⟩ = some u) {x : D} {v : Value} (h : DR w S x v) : DR w' S' x v := by
  induction h with
  | sc h => exact .sc h
  | @sl es a n c sz b o vs hn hc hsz ha _ ih =>
    refine .sl (b := b) (o := o) vs hn hc hsz (fun i e j x he hx => ?_) ih
    obtain ⟨h1, h2, h3⟩ := ha i e j x he hx
    obtain ⟨h4, h5⟩ := hS _ _ _ h3 h2
    exact ⟨h1, h5, h4⟩

/-- A flat datum is what it is. -/
theorem DR.flat {w : World} {S : Nat → Nat → Prop} {x : D} {v : Value} (h : DR w S x v) (hf : x.flat = true) (w' : World) (S' : Nat → Nat → Prop) : DR w' S' x v := by
  cases h with
  | sc h => exact .sc h
  | @sl es a n c sz b o vs hn hc hsz ha hr =>
    cases es with
    | nil => exact .sl (sz := sz) (b := b) (o := o) vs hn hc hsz (fun _ _ _ _ h => by cases h) (fun _ _ _ _ h => by cases h)
    | cons => cases hf

def PR (w : World) (S : Nat → Nat → Prop) : PV → Value → Prop
  | .one x, v => DR w S x v
  | .agg xs, v => ∃ vs : List Value, v = .agg vs.toArray ∧ RelL (DR w S) xs vs
theorem PR.move {w w' : World} {S S' : Nat → Nat → Prop} (hS : ∀ b o u, S b o → w.cell? ⟨b, o, none⟩ = some u → S' b o ∧ w'.cell? ⟨b, o, none⟩ = some u) {x : PV} {v : Value} (h : PR w S x v) : PR w' S' x v := by
  cases x with
  | one x => exact DR.move hS h
  | agg xs =>
    obtain ⟨vs, rfl, hr⟩ := h
    exact ⟨vs, rfl, hr.imp fun _ _ _ h => DR.move hS h⟩
theorem PR.flat {w : World} {S : Nat → Nat → Prop} {x : PV} {v : Value} (h : PR w S x v) (hf : x.flat = true) (w' : World) (S' : Nat → Nat → Prop) : PR w' S' x v := by
  cases x with
  | one x => exact DR.flat h hf w' S'
  | agg xs =>
    obtain ⟨vs, rfl, hr⟩ := h
    refine ⟨vs, rfl, hr.imp fun x hx _ h => DR.flat h ?_ w' S'⟩
    simp only [PV.flat, List.all_eq_true] at hf
    exact hf x hx

/-- What only the proof knows: the settled cells, where each own array lies, each growing row's value. -/
structure Gh where
  S : Nat → Nat → Prop
  β : Nat → Nat
  ρ : Nat → Value

abbrev HF := Nat → Option Loc
def fup {α : Type} (f : Nat → α) (n : Nat) (x : α) : Nat → α := fun i => if i = n then x else f i
theorem fup_same {α : Type} (f : Nat → α) (n : Nat) (x : α) : fup f n x n = x := by simp [fup]
theorem fup_ne {α : Type} {f : Nat → α} {n i : Nat} {x : α} (h : i ≠ n) : fup f n x i = f i := by simp [fup, h]
def updF (H : HF) : List (Nat × Option Loc) → HF
  | [] => H
  | (n, x) :: r => updF (fup H n x) r
theorem updF_append (H : HF) (a b : List (Nat × Option Loc)) : updF H (a ++ b) = updF (updF H a) b := by
  induction a generalizing H with
  | nil => rfl
  | cons e r ih => exact ih _

theorem Hp.get_set (h : Hp) (n : Nat) (l : Loc) : (h.set n l).get = fup h.get n (some l) := by
  funext i
  induction h with
  | nil => simp only [Hp.set, Hp.get, fup]
  | cons e r ih =>
    obtain ⟨m, v⟩ := e
    simp only [Hp.set]
    split
    · rename_i hn
      subst hn
      simp only [Hp.get, fup]
      split <;> rfl
    · rename_i hn
      simp only [Hp.get, ih, fup]
      by_cases h1 : i = m
      · subst h1
        simp only [if_true]
        rw [if_neg (fun h => hn h.symm)]
      · simp only [if_neg h1]
theorem Hp.get_del (h : Hp) (n : Nat) : (h.del n).get = fup h.get n none := by
  funext i
  induction h with
  | nil => simp [Hp.del, Hp.get, fup]
  | cons e r ih =>
    obtain ⟨m, v⟩ := e
    simp only [Hp.del]
    split
    · rename_i hn
      subst hn
      rw [ih]
      simp only [Hp.get, fup]
      split <;> rfl
    · rename_i hn
      simp only [Hp.get, ih, fup]
      by_cases h1 : i = m
      · subst h1
        simp only [if_true]
        rw [if_neg (fun h => hn h.symm)]
      · simp only [if_neg h1]
theorem Hp.get_upd (h : Hp) (w : List (Nat × Option Loc)) : (h.upd w).get = updF h.get w := by
  induction w generalizing h with
  | nil => rfl
  | cons e r ih =>
    obtain ⟨n, x⟩ := e
    cases x with
    | none => simp only [Hp.upd, updF, ih, Hp.get_del]
    | some l => simp only [Hp.upd, updF, ih, Hp.get_set]

section
variable (w : World) (g : Gh) (H : HF)
def CR : C → Value → Prop
  | .d x, v => DR w g.S x v
  | .nil, v => v = .slice none 0 0
  | .gr t es, v => DR w g.S (.sl es) v ∧ ∀ n sz, H t = some (.tok n sz) → es.length ≤ n ∧ (es.length = n → v = g.ρ t ∧ ∀ e ∈ es, e.length = sz)
def AVR : AV → Value → Prop
  | .c x, v => CR w g H x v
  | .ag cs, v => ∃ vs : List Value, v = .agg vs.toArray ∧ RelL (CR w g H) cs vs
  | .tu xs, v => ∃ vs : List Value, v = .tuple vs.toArray ∧ RelL (PR w g.S) xs vs
  | .ref id off len, v => ∀ cells, H id = some (.arr cells) → ∃ p cap, v = .slice p len cap ∧ len ≤ cap ∧ (0 < len → p = some ⟨g.β id, off, none⟩)
  | .ptr id off, v => ∀ cells, H id = some (.arr cells) → v = .pointer (some ⟨g.β id, off, none⟩)
  | .fptr xs, v => ∃ b o, v = .pointer (some ⟨b, o, none⟩) ∧ ∀ (j : Nat) (x : D), xs[j]? = some x → ∃ u, w.cell? ⟨b, o + j, none⟩ = some u ∧ g.S b (o + j) ∧ DR w g.S x u
  | .top, _ => True
/-- The block of memory that a number owns. -/
def blk (id : Nat) : Option Nat :=
  match H id with
  | some (.arr _) => some (g.β id)
  | some (.tok _ _) => (g.ρ id).ownBlock
  | none => none
structure HI : Prop where
  arr : ∀ id cells, H id = some (.arr cells) → ∃ cur e, w.heap[g.β id]? = some (.cells cur e (0, 0)) ∧ cells.length ≤ cur.size ∧
    (∀ (i : Nat) (x : C), cells[i]? = some x → ∃ v, cur[i]? = some v ∧ CR w g H x v) ∧ ∀ o, ¬ g.S (g.β id) o
  tok : ∀ t n sz, H t = some (.tok n sz) → (g.ρ t = .slice none 0 0 ∧ n = 0 ∧ sz = 0) ∨
    ∃ b cap cur e, g.ρ t = .slice (some ⟨b, 0, none⟩) n cap ∧ w.heap[b]? = some (.cells cur e (0, 0)) ∧ n ≤ cap ∧ cap * sz ≤ cur.size ∧ 0 < sz ∧ ∀ o, g.S b o → o < n * sz
  apart : ∀ i j b, i ≠ j → blk g H i = some b → blk g H j ≠ some b
  lt : ∀ b o, g.S b o → b < w.heap.size
end

theorem CR.one {w : World} {g : Gh} {H : HF} {x : C} {v : Value} (h : CR w g H x v) : v.oneCell' = true := by
  cases x with
  | d x => exact DR.one h
  | nil => simp only [CR] at h; subst h; rfl
  | gr t es => exact DR.one h.1
/-- A cell's datum. -/
theorem CR.toD {w : World} {g : Gh} {H : HF} {x : C} {v : Value} (h : CR w g H x v) : DR w g.S x.toD v := by
  cases x with
  | d x => exact h
  | nil =>
    simp only [CR] at h; subst h
    exact .sl (sz := 0) (b := 0) (o := 0) (fun _ _ => undef) rfl (Nat.le_refl _) (fun i e h => by simp at h) (fun i e j x h => by simp at h) (fun i e j x h => by simp at h)
  | gr t es => exact h.1

theorem HI.blk_lt {w : World} {g : Gh} {H : HF} (h : HI w g H) {id b : Nat} (hb : blk g H id = some b) : b < w.heap.size := by
  unfold blk at hb
  split at hb
  · rename_i cells hc
    obtain ⟨cur, e, h1, _⟩ := h.arr id cells hc
    cases hb
    exact (Array.getElem?_eq_some_iff.1 h1).1
  · rename_i n sz hc
    rcases h.tok id n sz hc with ⟨h1, _⟩ | ⟨b', cap, cur, e, h1, h2, _⟩
    · rw [h1] at hb; cases hb
    · rw [h1] at hb
      simp only [Value.ownBlock, Option.some.injEq] at hb
      subst hb
      exact (Array.getElem?_eq_some_iff.1 h2).1
  · cases hb

/-- Memory goes on: Bn are the numbers that were given out on the way. -/
structure Stp (Bn : List Nat) (w : World) (g : Gh) (H : HF) (w' : World) (g' : Gh) (H' : HF) : Prop where
  os : w'.os = w.os
  tape : w'.tape = w.tape
  output : w'.output = w.output
  size : w.heap.size ≤ w'.heap.size
  S : ∀ b o, g.S b o → g'.S b o
  cell : ∀ b o, g.S b o → w'.cell? ⟨b, o, none⟩ = w.cell? ⟨b, o, none⟩
  arr : ∀ id cells', id ∉ Bn → H' id = some (.arr cells') → ∃ cells, H id = some (.arr cells) ∧ cells'.length = cells.length ∧ g'.β id = g.β id
  tok : ∀ t n' s', t ∉ Bn → H' t = some (.tok n' s') → ∃ n s, H t = some (.tok n s) ∧ n ≤ n' ∧ (n = n' → g'.ρ t = g.ρ t ∧ s' = s)
  fp : ∀ b, b < w.heap.size → (∀ id, blk g H id ≠ some b) → w'.heap[b]? = w.heap[b]?
  own : ∀ id b, blk g' H' id = some b → (∃ j, blk g H j = some b) ∨ w.heap.size ≤ b
  Snew : ∀ b o, g'.S b o → g.S b o ∨ (∃ j, blk g H j = some b) ∨ w.heap.size ≤ b

theorem Stp.refl (w : World) (g : Gh) (H : HF) : Stp [] w g H w g H where
  os := rfl
  tape := rfl
  output := rfl
  size := Nat.le_refl _
  S := fun _ _ h => h
  cell := fun _ _ _ => rfl
  arr := fun _ c _ h => ⟨c, h, rfl, rfl⟩
  tok := fun _ n s _ h => ⟨n, s, h, Nat.le_refl _, fun _ => ⟨rfl, rfl⟩⟩
  fp := fun _ _ _ => rfl
  own := fun id _ h => .inl ⟨id, h⟩
  Snew := fun _ _ h => .inl h

theorem Stp.trans {A B : List Nat} {w w1 w2 : World} {g g1 g2 : Gh} {H H1 H2 : HF} (a : Stp A w g H w1 g1 H1) (b : Stp B w1 g1 H1 w2 g2 H2) : Stp (A ++ B) w g H w2 g2 H2 where
  os := b.os.trans a.os
  tape := b.tape.trans a.tape
  output := b.output.trans a.output
  size := Nat.le_trans a.size b.size
  S := fun x o h => b.S x o (a.S x o h)
  cell := fun x o h => (b.cell x o (a.S x o h)).trans (a.cell x o h)
  arr := fun id c hn h => by
    rw [List.mem_append, not_or] at hn
    obtain ⟨c1, h1, h2, h3⟩ := b.arr id c hn.2 h
    obtain ⟨c2, h4, h5, h6⟩ := a.arr id c1 hn.1 h1
    exact ⟨c2, h4, h2.trans h5, h3.trans h6⟩
  tok := fun t n s hn h => by
    rw [List.mem_append, not_or] at hn
    obtain ⟨n1, s1, h1, h2, h3⟩ := b.tok t n s hn.2 h
    obtain ⟨n2, s2, h4, h5, h6⟩ := a.tok t n1 s1 hn.1 h1
    refine ⟨n2, s2, h4, Nat.le_trans h5 h2, fun he => ?_⟩
    have e1 : n1 = n := by omega
    have e2 : n2 = n1 := by omega
    exact ⟨(h3 e1).1.trans (h6 e2).1, (h3 e1).2.trans (h6 e2).2⟩
  fp := fun x hx hn => by
    rw [b.fp x (Nat.lt_of_lt_of_le hx a.size) (fun id he => ?_), a.fp x hx hn]
    rcases a.own id x he with ⟨j, hj⟩ | hle
    · exact hn j hj
    · omega
  own := fun id x h => by
    rcases b.own id x h with ⟨j, hj⟩ | hle
    · exact a.own j x hj
    · exact .inr (Nat.le_trans a.size hle)
  Snew := fun x o h => by
    rcases b.Snew x o h with h | ⟨j, hj⟩ | hle
    · exact a.Snew x o h
    · rcases a.own j x hj with h | h
      · exact .inr (.inl h)
      · exact .inr (.inr h)
    · exact .inr (.inr (Nat.le_trans a.size hle))

theorem Stp.weaken {A B : List Nat} {w w1 : World} {g g1 : Gh} {H H1 : HF} (a : Stp A w g H w1 g1 H1) (h : ∀ i ∈ A, i ∈ B) : Stp B w g H w1 g1 H1 :=
  { a with arr := fun id c hn => a.arr id c (fun hm => hn (h id hm)), tok := fun t n s hn => a.tok t n s (fun hm => hn (h t hm)) }

theorem Stp.dr {A : List Nat} {w w1 : World} {g g1 : Gh} {H H1 : HF} (a : Stp A w g H w1 g1 H1) : ∀ b o u, g.S b o → w.cell? ⟨b, o, none⟩ = some u → g1.S b o ∧ w1.cell? ⟨b, o, none⟩ = some u :=
  fun b o _ hS hu => ⟨a.S b o hS, (a.cell b o hS).trans hu⟩

theorem CR.step {A : List Nat} {w w1 : World} {g g1 : Gh} {H H1 : HF} (a : Stp A w g H w1 g1 H1) {x : C} {v : Value} (hx : ∀ i ∈ x.ids, i ∉ A) (h : CR w g H x v) : CR w1 g1 H1 x v := by
  cases x with
  | d x => exact DR.move a.dr h
  | nil => exact h
  | gr t es =>
    refine ⟨DR.move a.dr h.1, fun n sz ht => ?_⟩
    obtain ⟨n1, s1, h1, h2, h3⟩ := a.tok t n sz (hx t (by simp [C.ids])) ht
    obtain ⟨h4, h5⟩ := h.2 n1 s1 h1
    refine ⟨Nat.le_trans h4 h2, fun he => ?_⟩
    have e : n1 = n := by omega
    rw [(h3 e).1, (h3 e).2]
    exact h5 (by omega)
theorem AVR.step {A : List Nat} {w w1 : World} {g g1 : Gh} {H H1 : HF} (a : Stp A w g H w1 g1 H1) {x : AV} {v : Value} (hx : ∀ i ∈ x.ids, i ∉ A) (h : AVR w g H x v) : AVR w1 g1 H1 x v := by
  cases x with
  | c x => exact CR.step a hx h
  | ag cs =>
    obtain ⟨vs, rfl, hr⟩ := h
    refine ⟨vs, rfl, hr.imp fun x hm v h => CR.step a (fun i hi => hx i ?_) h⟩
    exact List.mem_flatMap.2 ⟨x, hm, hi⟩
  | tu xs =>
    obtain ⟨vs, rfl, hr⟩ := h
    exact ⟨vs, rfl, hr.imp fun x _ v h => PR.move a.dr h⟩
  | ref id off len =>
    intro cells hc
    obtain ⟨c1, h1, _, h3⟩ := a.arr id cells (hx id (by simp [AV.ids])) hc
    rw [h3]
    exact h c1 h1
  | ptr id off =>
    intro cells hc
    obtain ⟨c1, h1, _, h3⟩ := a.arr id cells (hx id (by simp [AV.ids])) hc
    rw [h3]
    exact h c1 h1
  | fptr xs =>
    obtain ⟨b, o, rfl, hr⟩ := h
    refine ⟨b, o, rfl, fun j x hj => ?_⟩
    obtain ⟨u, h1, h2, h3⟩ := hr j x hj
    exact ⟨u, (a.cell _ _ h2).trans h1, a.S _ _ h2, DR.move a.dr h3⟩
  | top => trivial

/-- No cell of the abstract heap names a number of B. -/
def Clean (H : HF) (B : List Nat) : Prop := ∀ id cells, H id = some (.arr cells) → ∀ x ∈ cells, ∀ i ∈ C.ids x, i ∉ B

/-- The frame's slots. -/
def FR (w : World) (g : Gh) (H : HF) (f : Fr) (a : Act) : Prop := ∀ s, AVR w g H (f.get s) (a.tmps.getD s undef)

end Go.Proofs.Ytpanbfainilmpaa.Ev
