/- Code: what the machine does is what the evaluator says. -/
import Derived.Test.YtpanbfainilmpaaEv19
set_option linter.unusedVariables false
set_option linter.unusedSimpArgs false
namespace Go.Proofs.Ytpanbfainilmpaa.Ev

theorem cutH_get (n : Nat) : ∀ (h : Hp) (i : Nat), (cutH n h).get i = if i < n then (h.get i).map (Loc.old n) else none
  | [], i => by simp [cutH, Hp.get]
  | (j, l) :: r, i => by
    simp only [cutH]
    by_cases hj : j < n
    · rw [if_pos hj]
      simp only [Hp.get, cutH_get n r]
      by_cases hi : i = j
      · subst hi; simp [hj]
      · simp [hi]
    · rw [if_neg hj]
      simp only [Hp.get, cutH_get n r]
      by_cases hi : i = j
      · subst hi; simp [hj]
      · simp [hi]

section
variable {w : World} {g : Gh} {h : Hp} {n : Nat}
theorem cut_some {i : Nat} {l : Loc} (hl : (cutH n h).get i = some l) : i < n ∧ ∃ l0, h.get i = some l0 ∧ l = l0.old n := by
  rw [cutH_get] at hl
  split at hl
  · rename_i hi
    obtain ⟨l0, h0, rfl⟩ := Option.map_eq_some_iff.1 hl
    exact ⟨hi, l0, h0, rfl⟩
  · cases hl
theorem cut_arr {i : Nat} {cells : List C} (hl : (cutH n h).get i = some (.arr cells)) : i < n ∧ ∃ c0, h.get i = some (.arr c0) ∧ cells = c0.map (C.old n) := by
  obtain ⟨hi, l0, h0, he⟩ := cut_some hl
  cases l0 with
  | arr c0 => simp only [Loc.old, Loc.arr.injEq] at he; exact ⟨hi, c0, h0, he⟩
  | tok a b => simp [Loc.old] at he
theorem cut_tok {i a b : Nat} (hl : (cutH n h).get i = some (.tok a b)) : i < n ∧ h.get i = some (.tok a b) := by
  obtain ⟨hi, l0, h0, he⟩ := cut_some hl
  cases l0 with
  | arr c0 => simp [Loc.old] at he
  | tok a' b' => simp only [Loc.old, Loc.tok.injEq] at he; obtain ⟨rfl, rfl⟩ := he; exact ⟨hi, h0⟩
theorem cut_blk {i b : Nat} (hb : blk g (cutH n h).get i = some b) : blk g h.get i = some b := by
  unfold blk at hb ⊢
  split at hb
  · rename_i c hc
    obtain ⟨_, c0, h0, _⟩ := cut_arr hc
    rw [h0]; exact hb
  · rename_i a s hc
    rw [(cut_tok hc).2]; exact hb
  · cases hb

theorem CR.cut {x : C} {v : Value} (hx : CR w g h.get x v) : CR w g (cutH n h).get (x.old n) v := by
  cases x with
  | d x => exact hx
  | nil => exact hx
  | gr t es =>
    simp only [C.old]
    split
    · exact ⟨hx.1, fun m s hm => hx.2 m s (cut_tok hm).2⟩
    · exact hx.1
theorem AVR.cut {x : AV} {v : Value} (hx : AVR w g h.get x v) : AVR w g (cutH n h).get (x.old n) v := by
  cases x with
  | c x =>
    cases x with
    | d x => exact hx
    | nil => exact hx
    | gr t es =>
      simp only [AV.old]
      split
      · exact ⟨hx.1, fun m s hm => hx.2 m s (cut_tok hm).2⟩
      · exact hx.1
  | ag cs =>
    obtain ⟨vs, rfl, hr⟩ := hx
    exact ⟨vs, rfl, RelL.map (hr.imp fun x _ v h => CR.cut h)⟩
  | tu xs => exact hx
  | ref id off len =>
    simp only [AV.old]
    split
    · intro cells hc
      obtain ⟨_, c0, h0, _⟩ := cut_arr hc
      exact hx c0 h0
    · trivial
  | ptr id off =>
    simp only [AV.old]
    split
    · intro cells hc
      obtain ⟨_, c0, h0, _⟩ := cut_arr hc
      exact hx c0 h0
    · trivial
  | fptr xs => exact hx
  | top => trivial
theorem HI.cut (hi : HI w g h.get) : HI w g (cutH n h).get := by
  refine ⟨fun id cells hc => ?_, fun t a s ht => hi.tok t a s (cut_tok ht).2, fun i j b hij h1 h2 => hi.apart i j b hij (cut_blk h1) (cut_blk h2), hi.lt⟩
  obtain ⟨_, c0, h0, rfl⟩ := cut_arr hc
  obtain ⟨cur, e, k1, k2, k3, k4⟩ := hi.arr id c0 h0
  refine ⟨cur, e, k1, by simpa using k2, fun i x hx => ?_, k4⟩
  rw [List.getElem?_map] at hx
  obtain ⟨y, hy, rfl⟩ := Option.map_eq_some_iff.1 hx
  obtain ⟨v, hv, hd⟩ := k3 i y hy
  exact ⟨v, hv, CR.cut hd⟩
/-- What is forgotten at a loop's head need not be told. -/
theorem Stp.cut {w0 : World} {g0 : Gh} {H0 : HF} {B : List Nat} (st : Stp B w0 g0 H0 w g h.get) (hB : ∀ i ∈ B, n ≤ i) : Stp [] w0 g0 H0 w g (cutH n h).get := by
  refine ⟨st.os, st.tape, st.output, st.size, st.S, st.cell, fun id c _ hc => ?_, fun t a s _ ht => ?_, st.fp, fun id b hb => st.own id b (cut_blk hb), st.Snew⟩
  · obtain ⟨hi, c0, h0, rfl⟩ := cut_arr hc
    obtain ⟨c1, k1, k2, k3⟩ := st.arr id c0 (fun hm => by have := hB id hm; omega) h0
    exact ⟨c1, k1, by simpa using k2, k3⟩
  · obtain ⟨hi, h0⟩ := cut_tok ht
    exact st.tok t a s (fun hm => by have := hB t hm; omega) h0
theorem SI.head {nt : Nat} {st : St} {a : Act} (s : SI nt w g st a) (keep : List Nat) (n : Nat) : SI nt w g (st.head keep n) a := by
  refine ⟨HI.cut s.hi, fun sl => ?_, head_wf keep n st, head_wh keep n st, s.sz⟩
  show AVR w g (cutH n st.h).get ((maskF st.f n keep).get sl) _
  rw [maskF_get]
  split
  · exact AVR.cut (s.fr sl)
  · trivial
end

theorem wp_loopN {P : Program} {Q : Exit → Act → World → Prop} {c : Code} (J : Nat → Act → World → Prop) (round : ∀ n a w, J n a w → c.wp P (Exit.then (fun a' w' => ∃ m, m < n ∧ J m a' w') Q) a w) {n : Nat} {a : Act} {w : World} (h0 : J n a w) : (Code.loop c).wp P Q a w := by
  intro b k cs
  have key : ∀ n a w, J n a w → ∃ e a' w', Q e a' w' ∧ Arrives P (lone (b.at a (.code c :: .inLoop c :: k)) cs w) b k cs e a' w' := by
    intro n
    induction n using Nat.strongRecOn with
    | _ n ih =>
      intro a w hJ
      obtain ⟨e, a₁, w₁, hq, harr⟩ := round n a w hJ b (.inLoop c :: k) cs
      cases e with
      | normal =>
        obtain ⟨m, hlt, hJ₁⟩ := hq
        obtain ⟨e₂, a₂, w₂, hq₂, harr₂⟩ := ih m hlt a₁ w₁ hJ₁
        exact ⟨e₂, a₂, w₂, hq₂, .of_steps (Steps.trans harr (.one step_inLoop)) harr₂⟩
      | exit id => exact ⟨_, a₁, w₁, hq, .pass (x := .inLoop c) rfl (fun _ _ => .inl (by simp)) harr⟩
      | goto l => exact ⟨_, a₁, w₁, hq, .pass (x := .inLoop c) rfl (fun _ _ => .inl (by simp)) harr⟩
      | ret => exact ⟨_, a₁, w₁, hq, .pass (x := .inLoop c) rfl (fun _ _ => .inl (by simp)) harr⟩
      | panic ch => exact ⟨_, a₁, w₁, hq, .pass (x := .inLoop c) rfl (fun _ _ => .inl (by simp)) harr⟩
      | outgrown => exact ⟨_, a₁, w₁, hq, .pass (x := .inLoop c) rfl (fun _ _ => .inl (by simp)) harr⟩
  obtain ⟨e, a', w', hq, harr⟩ := key n a w h0
  exact ⟨e, a', w', hq, .of_steps (.one step_loop) harr⟩

def Ex.out : Ex → Exit
  | .norm => .normal
  | .exit i => .exit i
  | .ret => .ret

/-- Where code comes out. -/
def Post (nt : Nat) (st st' : St) (ex : Ex) (w : World) (g : Gh) (a : Act) : Exit → Act → World → Prop := fun e a' w' =>
  e = ex.out ∧ a'.defers = a.defers ∧ st.nx ≤ st'.nx ∧ ∃ g', SI nt w' g' st' a' ∧ Stp (bn st.nx st'.nx) w g st.h.get w' g' st'.h.get

theorem bn_trans {a b c : Nat} (h1 : a ≤ b) (h2 : b ≤ c) : ∀ i ∈ bn a b ++ bn b c, i ∈ bn a c := by
  intro i hi
  rcases List.mem_append.1 hi with hi | hi
  · have := mem_bn.1 hi; exact mem_bn.2 ⟨this.1, by omega⟩
  · have := mem_bn.1 hi; exact mem_bn.2 ⟨by omega, this.2⟩
theorem Post.from {nt : Nat} {st st1 st' : St} {ex : Ex} {w w1 : World} {g g1 : Gh} {a a1 : Act} (hd : a1.defers = a.defers) (hn : st.nx ≤ st1.nx) (hs : Stp (bn st.nx st1.nx) w g st.h.get w1 g1 st1.h.get) {e : Exit} {a' : Act} {w' : World}
    (h : Post nt st1 st' ex w1 g1 a1 e a' w') : Post nt st st' ex w g a e a' w' := by
  obtain ⟨h1, h2, h3, g', h4, h5⟩ := h
  exact ⟨h1, h2.trans hd, Nat.le_trans hn h3, g', h4, (Stp.trans hs h5).weaken (bn_trans hn h3)⟩

theorem compOpers_at {P : Program} {inl : Nat → Bool} {nt : Nat} {ops : Array Oper} : ∀ (os : List Oper) (bs : List Nat) (i : Nat) (o : Oper), os[i]? = some o → (compOpers P inl nt ops os bs)[i]? = some (compOper P inl nt ops o (bs.getD i 0))
  | [], bs, i, o, h => by simp at h
  | o' :: os, bs, 0, o, h => by
    simp only [List.getElem?_cons_zero, Option.some.injEq] at h
    subst h
    cases bs <;> simp [compOpers, List.getD]
  | o' :: os, bs, i + 1, o, h => by
    simp only [List.getElem?_cons_succ] at h
    simp only [compOpers, List.getElem?_cons_succ]
    rw [compOpers_at os bs.tail i o h]
    cases bs <;> simp [List.getD]
theorem compOpers_len {P : Program} {inl : Nat → Bool} {nt : Nat} {ops : Array Oper} : ∀ (os : List Oper) (bs : List Nat), (compOpers P inl nt ops os bs).length = os.length
  | [], bs => rfl
  | o :: os, bs => by simp [compOpers, compOpers_len os]
theorem bareOps_map : ∀ (os : List AOper), bareOps os = os.map AOper.bare
  | [] => rfl
  | o :: os => by simp [bareOps, bareOps_map os]

theorem drew_dr {w : World} {S : Nat → Nat → Prop} : ∀ b o u, S b o → w.cell? ⟨b, o, none⟩ = some u → S b o ∧ World.cell? { w with drawn := w.drawn + 1 } ⟨b, o, none⟩ = some u := fun _ _ _ h k => ⟨h, k⟩
theorem Stp.drew {w : World} {g : Gh} {H : HF} : Stp [] w g H { w with drawn := w.drawn + 1 } g H :=
  ⟨rfl, rfl, rfl, Nat.le_refl _, fun _ _ h => h, fun _ _ _ => rfl, fun id c _ hc => ⟨c, hc, rfl, rfl⟩, fun t a s _ ht => ⟨a, s, ht, Nat.le_refl _, fun _ => ⟨rfl, rfl⟩⟩, fun _ _ _ => rfl, fun id b hb => .inl ⟨id, hb⟩, fun _ _ h => .inl h⟩
theorem HI.drew {w : World} {g : Gh} {H : HF} (hi : HI w g H) : HI { w with drawn := w.drawn + 1 } g H := by
  refine ⟨fun id cells hc => ?_, hi.tok, hi.apart, hi.lt⟩
  obtain ⟨cur, e, k1, k2, k3, k4⟩ := hi.arr id cells hc
  refine ⟨cur, e, k1, k2, fun i x hx => ?_, k4⟩
  obtain ⟨v, hv, hd⟩ := k3 i x hx
  exact ⟨v, hv, CR.step Stp.drew (fun _ _ => by simp) hd⟩
theorem SI.drew {nt : Nat} {w : World} {g : Gh} {st : St} {a : Act} (s : SI nt w g st a) : SI nt { w with drawn := w.drawn + 1 } g st a :=
  ⟨s.hi.drew, fun sl => AVR.step Stp.drew (fun _ _ => by simp) (s.fr sl), s.wf, s.wh, s.sz⟩
end Go.Proofs.Ytpanbfainilmpaa.Ev
