/- Functions: what the evaluator may call is what the program does. -/
import Derived.Test.YtpanbfainilmpaaEv21
set_option linter.unusedVariables false
set_option linter.unusedSimpArgs false
namespace Go.Proofs.Ytpanbfainilmpaa.Ev

def okR (P : Program) : ResultVar → Bool
  | .tmp _ => true
  | .cell _ t => (P.underlying t).isSome && decide (0 < szOf P t)
def okF (P : Program) (fn : Func) : Bool := (fn.name != "runtime.NumGoroutine") && fn.body.isSome && fn.results.toList.all (okR P)

/-- The evaluator's tables are the program's. -/
structure Env (P : Program) (inl : Nat → Bool) (A : Nat → Option AFunc) (X : Nat → Option (List PV → Option (List PV))) : Prop where
  mixed : P.follows .mixedOrders = true
  fn : ∀ f fn', A f = some fn' → ∃ fn, P.funcs[f]? = some fn ∧ fn'.bare = compF P inl fn ∧ fn'.body.cl = true ∧ okF P fn = true
  ext : ∀ f e, X f = some e → ∀ args rs, e args = some rs → FnOk P f args rs

/-- Everything that a state stands on. -/
def Sall (g : Gh) (H : HF) : Nat → Nat → Prop := fun b o => g.S b o ∨ ∃ id, blk g H id = some b
theorem Sall.of_sp {w : World} {g : Gh} {H : HF} {ids : List Nat} : ∀ b o u, Sp g H ids b o → w.cell? ⟨b, o, none⟩ = some u → Sall g H b o ∧ w.cell? ⟨b, o, none⟩ = some u := by
  intro b o u h k
  refine ⟨?_, k⟩
  rcases h with h | ⟨i, _, hb⟩
  · exact .inl h
  · exact .inr ⟨i, hb⟩
theorem Sall.of_s {w : World} {g : Gh} {H : HF} : ∀ b o u, g.S b o → w.cell? ⟨b, o, none⟩ = some u → Sall g H b o ∧ w.cell? ⟨b, o, none⟩ = some u := fun _ _ _ h k => ⟨.inl h, k⟩

/-- Results as one value. -/
def outV : List Value → Value
  | [v] => v
  | vs => .tuple vs.toArray

def runR (tmps : Array Value) : ResultVar → Sem Value
  | .tmp t => pure (tmps.getD t undef)
  | .cell a t => do loadVar t (← asAddr (tmps.getD a undef))

section
variable {P : Program} {inl : Nat → Bool} {nt : Nat} {w : World} {g : Gh} {st : St} {a : Act}

theorem resOne_ok (hs : SI nt w g st a) {r : ResultVar} {ty : TypeId} (hok : okR P r = true) {p : PV} (h : resOne st.f st.h (compRes P r ty) = some p) : ∃ v, (runR a.tmps r).run P w = .ok v w ∧ PR w (Sall g st.h.get) p v := by
  cases r with
  | tmp t =>
    simp only [compRes, resOne, bindO_eq] at h
    obtain ⟨q, hq, he⟩ := h
    cases he
    exact ⟨_, rfl, PR.move Sall.of_sp (toPV_ok hs.hi hq (hs.fr t) fun _ _ => rfl)⟩
  | cell c t =>
    simp only [okR, Bool.and_eq_true, decide_eq_true_eq] at hok
    obtain ⟨hu, h0⟩ := hok
    simp only [compRes] at h
    split at h
    · rename_i hagg
      simp only [resOne] at h
      split at h
      · rename_i id off hx
        split at h
        · rename_i cells hcells
          split at h
          · rename_i hl
            cases h
            have hv := hs.fr c
            rw [hx] at hv
            have e1 := hv cells hcells
            obtain ⟨vs, k1, k2, k3⟩ := arr_vals hs.hi hcells hl
            refine ⟨.agg vs.toArray, ?_, vs, rfl, RelL.map (k2.imp fun _ _ _ h => DR.move Sall.of_s (CR.toD h))⟩
            have := loadVar_agg (P := P) (w := w) (t := t) (b := g.β id) (off := off) (vs := vs) (isSome_ex hu) h0 hagg (by rw [k1]) (fun j v hv => k3 j v hv)
            simp [runR, e1, asAddr, this]
          · cases h
        · cases h
      · cases h
    · rename_i hagg
      simp only [resOne] at h
      split at h
      · rename_i id off hx
        split at h
        · rename_i cells hcells
          split at h
          · rename_i x hxx
            cases h
            have hv := hs.fr c
            rw [hx] at hv
            have e1 := hv cells hcells
            obtain ⟨v, k1, k2⟩ := arr_val hs.hi hcells hxx
            refine ⟨v, ?_, DR.move Sall.of_s (CR.toD k2)⟩
            have := loadVar_one (P := P) (w := w) (t := t) (b := g.β id) (off := off) (v := v) (isSome_ex hu) (by simpa using hagg) k1
            simp [runR, e1, asAddr, this]
          · cases h
        · cases h
      · cases h

theorem resAll_ok (hs : SI nt w g st a) : ∀ {rs : List ResultVar} {ts : List TypeId} {ps : List PV}, rs.all (okR P) = true → resAll st.f st.h (compRess P rs ts) = some ps → ∃ vs : List Value, (rs.mapM (runR a.tmps)).run P w = .ok vs w ∧ RelL (PR w (Sall g st.h.get)) ps vs
  | [], ts, ps, _, h => by
    simp only [compRess, resAll, Option.some.injEq] at h
    subst h
    exact ⟨[], by simp, .nil⟩
  | r :: rs, ts, ps, hok, h => by
    simp only [List.all_cons, Bool.and_eq_true] at hok
    simp only [compRess, resAll, bindO_eq] at h
    obtain ⟨p, hp, qs, hq, he⟩ := h
    cases he
    obtain ⟨v, k1, k2⟩ := resOne_ok hs hok.1 hp
    obtain ⟨vs, k3, k4⟩ := resAll_ok hs hok.2 hq
    refine ⟨v :: vs, ?_, .cons k2 k4⟩
    simp [List.mapM_cons, k1, k3]

theorem run_results {fn : Func} {tmps : Array Value} {vs : List Value} (h : (fn.results.toList.mapM (runR tmps)).run P w = .ok vs w) : (results fn tmps).run P w = .ok (outV vs) w := by
  have e : results fn tmps = (do let vs ← fn.results.mapM (runR tmps); pure (if h : vs.size = 1 then vs[0] else .tuple vs)) := by
    unfold results runR
    rfl
  rw [e, Array.mapM_eq_mapM_toList]
  simp only [Sem.run_bind, Sem.run_map, h, Result.andThen_ok, Sem.run_pure]
  congr 1
  match vs with
  | [] => simp [outV]
  | [v] => simp [outV]
  | v :: u :: r => simp [outV]
end
end Go.Proofs.Ytpanbfainilmpaa.Ev
