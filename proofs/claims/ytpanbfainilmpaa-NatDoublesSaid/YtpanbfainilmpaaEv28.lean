/- Reading a claim's arguments as the evaluator's data. -/
import Derived.Test.YtpanbfainilmpaaEv23
import Derived.SizedLaws
import Derived.ChangeArms
import Derived.ChangeStays
import Derived.WideShapes
import Derived.ChangeShapes
import Derived.WideKeyArgs
import Derived.ChangeSame
import Derived.OpenShut
import Derived.ProofKit
set_option linter.unusedVariables false
set_option linter.unusedSimpArgs false
namespace Go.Proofs.Ytpanbfainilmpaa.Ev
open Go.ChangeShapes Go.WideShapes Go.RowKit Go.WideElems

/-- The cells that are there. -/
def Sz (w : World) : Nat → Nat → Prop := fun b _ => b < w.heap.size

/-- What reads as a datum of type t is, cell by cell, the code of some α. -/
structure RD (P : Program) (t : TypeId) {α : Type} (en : α → List D) (ok : α → Prop) : Prop where
  run : ∀ {H : Type} {enc : TypeId × Value → H} {w : World} {base : Nat} {spare : Nat → Bool} {held : Bool} (n : Nat) (cs : List Value) (x : DataW H × List MemPlace),
    DataW.trod enc P w base spare held n t cs = some x → (x.1.weights P t).all (· ≤ reachBytes) = true → ∃ a : α, RelL (DR w (Sz w)) (en a) cs ∧ ok a
/-- The same of a struct's fields from an offset on. -/
structure RDs (P : Program) (fs : List Field) (off tot : Nat) {α : Type} (en : α → List D) (ok : α → Prop) : Prop where
  run : ∀ {H : Type} {enc : TypeId × Value → H} {w : World} {base : Nat} {spare : Nat → Bool} {held : Bool} (n : Nat) (cs : List Value) (xs : List (DataW H × List MemPlace)),
    cs.length = tot → xs.length = fs.length → (∀ (i : Nat) (f : Field), fs[i]? = some f → DataW.trod enc P w base spare held n f.type ((cs.drop f.offset).take (P.cellsOf f.type)) = xs[i]?) →
    (DataW.weightsEach P (fs.map (·.type)) (xs.map (·.1))).all (· ≤ reachBytes) = true → ∃ a : α, RelL (DR w (Sz w)) (en a) (cs.drop off) ∧ ok a

section
variable {P : Program} {t e : TypeId}
theorem RD.int {k : IntKind} (ht : P.underlying t = some (.int k)) : RD P t (fun n : Int => [.sc (.int k n)]) (fun n => (Lit.int k n).wf = true) := by
  refine ⟨?_⟩
  intro H enc w base spare held n cs x h hw
  obtain ⟨m, rfl, _, h2⟩ := DataW.trod_int ht h
  exact ⟨m, .cons (.sc rfl) .nil, h2⟩
theorem RD.bool (ht : P.underlying t = some .bool) : RD P t (fun n : Bool => [.sc (.bool n)]) (fun _ => True) := by
  refine ⟨?_⟩
  intro H enc w base spare held n cs x h hw
  obtain ⟨m, rfl, _⟩ := DataW.trod_bool ht h
  exact ⟨m, .cons (.sc rfl) .nil, trivial⟩
theorem RD.str (ht : P.underlying t = some .string) : RD P t (fun s : ByteArray => [.sc (.string s)]) (fun s => s.size ≤ reachBytes) := by
  refine ⟨?_⟩
  intro H enc w base spare held n cs x h hw
  obtain ⟨s, rfl, rfl, h2⟩ := DataW.trod_string ht h
  refine ⟨s, .cons (.sc rfl) .nil, ?_⟩
  simp only [DataW.weights, List.all_cons, List.all_nil, Bool.and_true, decide_eq_true_eq] at hw
  rwa [Array.length_toList] at hw
theorem weightsAll_all {H : Type} {ds : List (DataW H)} (h : (DataW.weightsAll P e ds).all (· ≤ reachBytes) = true) {i : Nat} {d : DataW H} (hd : ds[i]? = some d) : (d.weights P e).all (· ≤ reachBytes) = true := by
  induction ds generalizing i with
  | nil => simp at hd
  | cons a r ih =>
    simp only [DataW.weightsAll, List.all_append, Bool.and_eq_true] at h
    cases i with
    | zero => simp at hd; subst hd; exact h.1
    | succ i => exact ih h.2 (by simpa using hd)
theorem RD.slice {α : Type} {en : α → List D} {ok : α → Prop} {sz by' : Nat} (ht : P.underlying t = some (.slice e)) (hb : P.bytesOf e = by') (hc : P.cellsOf e = sz) (h0 : 0 < sz) (hlen : ∀ a, (en a).length = sz) (he : RD P e en ok) :
    RD P t (fun l : List α => [.sl (l.map en)]) (fun l => l.length * by' ≤ reachBytes ∧ ∀ a ∈ l, ok a) := by
  refine ⟨?_⟩
  intro H enc w base spare held n cs x h hw
  rcases DataW.trod_slice ht h with ⟨rfl, rfl⟩ | ⟨a, len, cap, elems, rest, m, rfl, rfl, rfl, hbase, hl, hcap, hel, hat, hsp, hns⟩
  · refine ⟨[], .cons ?_ .nil, by simp, by simp⟩
    exact .sl (sz := 0) (b := 0) (o := 0) (fun _ _ => undef) rfl (Nat.le_refl _) (by simp) (by simp) (by simp)
  · rw [hc] at hat
    simp only [DataW.weights, ht, hb, List.all_cons, List.all_append, Bool.and_eq_true, decide_eq_true_eq, List.length_map] at hw
    obtain ⟨hw1, hw2, _⟩ := hw
    have key : ∀ i : Fin len, ∃ (a' : α) (cs' : List Value), w.cells? base (a.add (i.1 * sz)) sz = some cs' ∧ RelL (DR w (Sz w)) (en a') cs' ∧ ok a' := by
      intro i
      have hi := hat i.1 i.2
      have hlt : i.1 < elems.length := by rw [hel]; exact i.2
      rw [List.getElem?_eq_getElem hlt] at hi
      rw [Option.bind_eq_some_iff] at hi
      obtain ⟨cs', h1, h2⟩ := hi
      obtain ⟨a', h3, h4⟩ := he.run _ _ _ h2 (weightsAll_all hw2 (i := i.1) (by rw [List.getElem?_map, List.getElem?_eq_getElem hlt]; rfl))
      exact ⟨a', cs', h1, h3, h4⟩
    refine ⟨List.ofFn fun i => Classical.choose (key i), .cons ?_ .nil, ?_, ?_⟩
    · have hget : ∀ (i : Nat) (e' : List D), ((List.ofFn fun i => Classical.choose (key i)).map en)[i]? = some e' → ∃ (hi : i < len), e' = en (Classical.choose (key ⟨i, hi⟩)) := by
        intro i e' h
        rw [List.getElem?_map] at h
        obtain ⟨y, hy, rfl⟩ := Option.map_eq_some_iff.1 h
        rw [List.getElem?_ofFn] at hy
        split at hy
        · rename_i hi; cases hy; exact ⟨hi, rfl⟩
        · cases hy
      have hcell : ∀ (i : Nat) (hi : i < len) (j : Nat) (x : D), (en (Classical.choose (key ⟨i, hi⟩)))[j]? = some x → ∃ v, w.cell? ((a.add (i * sz)).add j) = some v ∧ DR w (Sz w) x v := by
        intro i hi j x hx
        obtain ⟨cs', h1, h2, _⟩ := Classical.choose_spec (key ⟨i, hi⟩)
        obtain ⟨v, hv, hr⟩ := h2.get hx
        have hj : j < sz := by rw [← hlen (Classical.choose (key ⟨i, hi⟩))]; exact (List.getElem?_eq_some_iff.1 hx).1
        obtain ⟨_, _, h3⟩ := World.cells?_some h1
        exact ⟨v, by rw [h3 j hj]; exact hv, hr⟩
      have hspot : ∀ (i : Nat) (hi : i < len), a.spot = none := by
        intro i hi
        have h0l : 0 < len := by omega
        have : ∃ x, (en (Classical.choose (key ⟨0, h0l⟩)))[0]? = some x := ⟨_, List.getElem?_eq_getElem (by rw [hlen]; exact h0)⟩
        obtain ⟨x, hx⟩ := this
        obtain ⟨v, hv, _⟩ := hcell 0 h0l 0 x hx
        simp only [Nat.zero_mul, Addr.add, if_true] at hv
        unfold World.cell? at hv
        split at hv
        · cases hs : a.spot with
          | none => rfl
          | some _ => simp [hs] at hv
        · cases hv
      have hadr : ∀ (i : Nat) (hi : i < len) (j : Nat), (a.add (i * sz)).add j = ⟨a.block, a.off + (i * sz + j), none⟩ := by
        intro i hi j
        have hs := hspot i hi
        obtain ⟨b, o, s⟩ := a
        simp only at hs
        subst hs
        simp only [Addr.add]
        split <;> split <;> simp_all <;> omega
      refine .sl (sz := sz) (b := a.block) (o := a.off) (fun i j => (w.cell? ⟨a.block, a.off + (i * sz + j), none⟩).getD undef) (by simp) hl ?_ ?_ ?_
      · intro i e' h
        obtain ⟨hi, rfl⟩ := hget i e' h
        exact hlen _
      · intro i e' j x h hx
        obtain ⟨hi, rfl⟩ := hget i e' h
        obtain ⟨v, hv, _⟩ := hcell i hi j x hx
        rw [hadr i hi j] at hv
        refine ⟨?_, by rw [hv]; rfl, ?_⟩
        · have := hspot i hi
          obtain ⟨b, o, s⟩ := a
          simp only at this
          subst this
          rfl
        · show a.block < w.heap.size
          unfold World.cell? at hv
          cases hh : w.heap[a.block]? with
          | none => simp [hh] at hv
          | some _ => exact (Array.getElem?_eq_some_iff.1 hh).1
      · intro i e' j x h hx
        obtain ⟨hi, rfl⟩ := hget i e' h
        obtain ⟨v, hv, hr⟩ := hcell i hi j x hx
        rw [hadr i hi j] at hv
        simp only [hv, Option.getD_some]
        exact hr
    · rw [List.length_ofFn]
      rw [hel] at hw1
      exact Nat.le_trans (Nat.mul_le_mul_right _ (Nat.le_add_right _ _)) hw1
    · intro a' ha
      rw [List.mem_ofFn] at ha
      obtain ⟨i, rfl⟩ := ha
      exact (Classical.choose_spec (Classical.choose_spec (key i))).2.2
theorem RDs.nil (tot : Nat) : RDs P [] tot tot (fun _ : Unit => []) (fun _ => True) := by
  refine ⟨?_⟩
  intro H enc w base spare held n cs xs hc hx h hw
  refine ⟨(), ?_, trivial⟩
  rw [← hc, List.drop_length]
  exact .nil
theorem RDs.cons {f : Field} {fs : List Field} {off tot sz : Nat} {α β : Type} {en1 : α → List D} {en2 : β → List D} {ok1 : α → Prop} {ok2 : β → Prop} (hoff : f.offset = off) (hsz : P.cellsOf f.type = sz) (hlen : ∀ a, (en1 a).length = sz)
    (h1 : RD P f.type en1 ok1) (h2 : RDs P fs (off + sz) tot en2 ok2) : RDs P (f :: fs) off tot (fun p : α × β => en1 p.1 ++ en2 p.2) (fun p => ok1 p.1 ∧ ok2 p.2) := by
  refine ⟨?_⟩
  intro H enc w base spare held n cs xs hc hx h hw
  cases xs with
  | nil => simp at hx
  | cons x xs =>
    simp only [List.map_cons, DataW.weightsEach, List.all_append, Bool.and_eq_true] at hw
    have e0 := h 0 f rfl
    rw [hoff, hsz] at e0
    obtain ⟨a, r1, r2⟩ := h1.run _ _ x (by simpa using e0) hw.1
    obtain ⟨b, r3, r4⟩ := h2.run n cs xs hc (by simpa using hx) (fun i f' hf => by simpa using h (i + 1) f' (by simpa using hf)) hw.2
    refine ⟨(a, b), ?_, r2, r4⟩
    have := r1.append r3
    have hd : (cs.drop off).take sz ++ cs.drop (off + sz) = cs.drop off := by
      rw [← List.drop_drop, List.take_append_drop]
    rwa [hd] at this
theorem RD.struct {fs : Array Field} {tot : Nat} {α : Type} {en : α → List D} {ok : α → Prop} (ht : P.underlying t = some (.struct fs)) (hc : P.cellsOf t = tot) (h : RDs P fs.toList 0 tot en ok) : RD P t en ok := by
  refine ⟨?_⟩
  intro H enc w base spare held n cs x hx hw
  obtain ⟨xs, m, rfl, rfl, hl, hxl, hat⟩ := DataW.trod_struct ht hx
  simp only [DataW.weights, ht] at hw
  exact h.run m cs xs (hl.trans hc) (by simpa using hxl) (fun i f hf => hat i f (by simpa using hf)) hw
theorem RD.iso {α β : Type} {en : α → List D} {ok : α → Prop} {en' : β → List D} {ok' : β → Prop} (h : RD P t en ok) (f : α → β) (he : ∀ a, en' (f a) = en a) (hok : ∀ a, ok a → ok' (f a)) : RD P t en' ok' := by
  refine ⟨?_⟩
  intro H enc w base spare held n cs x hx hw
  obtain ⟨a, h1, h2⟩ := h.run n cs x hx hw
  exact ⟨f a, by rw [he]; exact h1, hok a h2⟩

/-! ### Arguments -/
variable {H : Type} {enc : TypeId × Value → H} {w : World} {base b0 : Nat} {spare : Nat → Bool} {held : Bool} {v : Value} {d : DataW H} {p : List MemPlace}
theorem RD.arg1 {α : Type} {en : α → D} {ok : α → Prop} (h : RD P t (fun a => [en a]) ok) (hv : v.cells = #[v]) (hd : DataW.Trod enc P w base spare held t v d p) (hw : (d.weights P t).all (· ≤ reachBytes) = true) :
    ∃ a, PR w (Sz w) (.one (en a)) v ∧ ok a := by
  obtain ⟨n, hn⟩ := hd
  obtain ⟨a, h1, h2⟩ := h.run n _ _ hn hw
  rw [hv] at h1
  exact ⟨a, h1.head, h2⟩
theorem RD.argA {α : Type} {en : α → List D} {ok : α → Prop} {fs : Array Field} (h : RD P t en ok) (ht : P.underlying t = some (.struct fs)) (hval : Value.okWide P w .any b0 t v) (hd : DataW.Trod enc P w base spare held t v d p) (hw : (d.weights P t).all (· ≤ reachBytes) = true) :
    ∃ a, PR w (Sz w) (.agg (en a)) v ∧ ok a := by
  obtain ⟨cs, rfl, _⟩ := okWide_struct ht hval
  obtain ⟨n, hn⟩ := hd
  obtain ⟨a, h1, h2⟩ := h.run n _ _ hn hw
  exact ⟨a, ⟨cs.toList, by simp, by simpa [Value.cells] using h1⟩, h2⟩
theorem RD.argS {α : Type} {en : α → D} {ok : α → Prop} (h : RD P t (fun a => [en a]) ok) (ht : P.underlying t = some (.slice e)) (hval : Value.okWide P w .any b0 t v) (hd : DataW.Trod enc P w base spare held t v d p) (hw : (d.weights P t).all (· ≤ reachBytes) = true) :
    ∃ a, PR w (Sz w) (.one (en a)) v ∧ ok a := by
  obtain ⟨a, l, c, rfl⟩ := okWide_slice ht hval
  exact h.arg1 rfl hd hw
theorem RD.argI {α : Type} {en : α → D} {ok : α → Prop} {k : IntKind} (h : RD P t (fun a => [en a]) ok) (ht : P.underlying t = some (.int k)) (hval : Value.okWide P w .any b0 t v) (hd : DataW.Trod enc P w base spare held t v d p) (hw : (d.weights P t).all (· ≤ reachBytes) = true) :
    ∃ a, PR w (Sz w) (.one (en a)) v ∧ ok a := by
  obtain ⟨n, rfl⟩ := okWide_int ht hval
  exact h.arg1 rfl hd hw

/-! ### A law's call -/
theorem law_calls {inl : Nat → Bool} {A : Nat → Option AFunc} {X : Nat → Option (List PV → Option (List PV))} (env : Env P inl A X) {k n : Nat} {fa : AFunc} (hA : A k = some fa) {args : List PV}
    (h : (mkK A X n).call k args = some [.one (.sc (.bool true))]) {W : World} {vs : List Value} (hargs : RelL (PR W (Sz W)) args vs) :
    Calls P k vs.toArray W fun e W' => e = .returned (.bool true) ∧ Below W.heap.size W W' := by
  obtain ⟨fn, hf, _, _, hok⟩ := env.fn k fa hA
  have h1 := (kOk env n).call k args _ h W (Sz W) vs (fun b o h => h) hargs
  obtain ⟨c, hc, hrun⟩ := enter_ok hf hok vs.toArray W
  rcases h1 with ⟨_, h2⟩ | ⟨v, w1, h2, _⟩
  · refine h2.mono fun e W' he => ?_
    cases e with
    | returned v =>
      obtain ⟨hb, hp⟩ := he
      have : v = .bool true := by
        cases hp with
        | sc h => rfl
      subst this
      exact ⟨rfl, hb⟩
    | panicked c => exact he.elim
    | outgrown => exact he.elim
  · rw [hrun] at h2
    simp at h2

theorem sameAt_below {W W' : World} (hb : Below W.heap.size W W') {p : MemPlace} (hp : p.block < W.heap.size) : W.sameAt W' p := by
  cases p with
  | cell b o => simp only [World.sameAt, World.cell?, hb.block b hp]
  | map b => simp only [World.sameAt, hb.block b hp]

theorem post_of_below {f : Func} {s : ChangeSpec} {apart fresh handsOn again : Bool} {W W' : World} {args : Array Value} {v : Value} {ds gs : List (DataW H)} {before pa pv : List MemPlace}
    (hW : DataW.Whole enc P f.params.toList s.vars apart W args.toList ds gs before)
    (hres : ∀ (b : Nat) (sp : Nat → Bool) (hd : Bool), DataW.TrodAll enc P W' b sp hd f.resultTypes.toList (v.resultList f.resultTypes.size) (s.fn H (ds ++ gs)).results [])
    (hargs : ∀ sp : Nat → Bool, (∀ p ∈ before, sp p.block = true) → DataW.TrodAll enc P W' 0 sp true f.params.toList args.toList (s.fn H (ds ++ gs)).args pa)
    (hvars : ∀ sp : Nat → Bool, (∀ p ∈ before, sp p.block = true) → DataW.TrodVars enc P W' sp s.vars (s.fn H (ds ++ gs)).vars pv)
    (hps : before = pa ++ pv) (hb : Below W.heap.size W W')
    (hok : ∀ (j : Nat) (t : TypeId) (r : Value), f.resultTypes[j]? = some t → (v.resultList f.resultTypes.size)[j]? = some r → Value.okWide P W' .any 0 t r) :
    s.post enc P f apart fresh handsOn again W args v W' := by
  have hlt : ∀ p ∈ before, p.block < W.heap.size := fun p hp => hW.lt p hp
  have hold : ∀ p ∈ before, (fun b => decide (b < W.heap.size)) p.block = true := fun p hp => by simpa using hlt p hp
  refine ⟨ds, gs, before, [], pa, pv, hW, hres _ _ _, hargs _ hold, hvars _ hold, World.keptBut_mono (fun p hp => ⟨hp, ?_⟩) (hb.frame (· ∈ before)), fun _ => ?_⟩
  · rw [hps, List.mem_append] at hp
    exact Or.inr hp
  · obtain ⟨_, _, _, _, _, hz, hn⟩ := hW
    refine ⟨hok, _, _, ([] ++ pa) ++ pv, ⟨[] ++ pa, pv, trodAll_append (hargs _ (fun _ _ => rfl)) (hres _ _ _), hvars _ (fun _ _ => rfl), rfl, ?_, ?_⟩, ?_⟩
    · intro b off hp
      have hin : MemPlace.cell b off ∈ before := by rw [hps]; simpa using hp
      rw [hb.frozen (hlt _ hin)]
      exact hz b off hin
    · intro ha
      have := hn ha
      rw [hps] at this
      simpa using this
    · intro p hp _
      rw [hps]
      simpa using hp

theorem trodAll_stays {W W' : World} (hl : laidOutB P = true) {sp : Nat → Bool} : ∀ {ts : List TypeId} {vs : List Value} {ds : List (DataW H)} {ps : List MemPlace},
    (∀ t ∈ ts, P.readableRec t = true ∧ t < P.types.size) → DataW.TrodAll enc P W 0 (fun _ => true) true ts vs ds ps → (∀ p ∈ ps, W.sameAt W' p) → (∀ p ∈ ps, sp p.block = true) → DataW.TrodAll enc P W' 0 sp true ts vs ds ps
  | [], [], [], ps, _, h, _, _ => h
  | t :: ts, v :: vs, d :: ds, ps, ht, h, hs, hp => by
    obtain ⟨p, q, h1, h2, rfl⟩ := h
    exact ⟨p, q, Trod_stays hl (ht t (by simp)).1 (ht t (by simp)).2 h1 (fun x hx => hs x (by simp [hx])) (fun x hx => hp x (by simp [hx])),
      trodAll_stays hl (fun t' ht' => ht t' (by simp [ht'])) h2 (fun x hx => hs x (by simp [hx])) (fun x hx => hp x (by simp [hx])), rfl⟩
  | [], [], _ :: _, ps, _, h, _, _ => h.elim
  | [], _ :: _, _, ps, _, h, _, _ => h.elim
  | _ :: _, [], _, ps, _, h, _, _ => h.elim
  | _ :: _, _ :: _, [], ps, _, h, _, _ => h.elim
end
end Go.Proofs.Ytpanbfainilmpaa.Ev
