/- Functions by value and in place, with any fuel. -/
import Derived.Test.YtpanbfainilmpaaEv22
set_option linter.unusedVariables false
set_option linter.unusedSimpArgs false
namespace Go.Proofs.Ytpanbfainilmpaa.Ev

theorem toAV_ok {w : World} {g : Gh} {H : HF} {p : PV} {v : Value} (h : PR w g.S p v) : AVR w g H p.toAV v := by
  cases p with
  | one x => exact h
  | agg xs =>
    obtain ⟨vs, rfl, hr⟩ := h
    exact ⟨vs, rfl, RelL.map (R := CR w g H) (f := C.d) hr⟩

theorem PRs_of {w : World} {S : Nat → Nat → Prop} {ps : List PV} {vs : List Value} (h : RelL (PR w S) ps vs) : PRs w S ps (outV vs) := by
  match ps, vs, h with
  | [], [], h => exact ⟨[], rfl, h⟩
  | [p], [v], h => exact h.head
  | p :: q :: r, v :: u :: t, h => exact ⟨_, rfl, h⟩
  | [], v :: t, h => have := h.1; simp at this
  | [p], [], h => have := h.1; simp at this
  | [p], v :: u :: t, h => have := h.1; simp at this
  | p :: q :: r, [], h => have := h.1; simp at this
  | p :: q :: r, [v], h => have := h.1; simp at this

theorem args_get {vs : List Value} {n s : Nat} : (vs.toArray ++ Array.replicate n undef).getD s undef = (vs[s]?).getD undef := by
  rw [Array.getD_eq_getD_getElem?]
  by_cases h : s < vs.length
  · rw [Array.getElem?_append_left (by simpa using h)]; simp
  · rw [Array.getElem?_append_right (by simpa using h)]
    simp only [List.size_toArray, Array.getElem?_replicate, List.getElem?_eq_none (Nat.le_of_not_lt h)]
    split <;> rfl

section
variable {P : Program} {inl : Nat → Bool} {A : Nat → Option AFunc} {X : Nat → Option (List PV → Option (List PV))}

theorem enter_ok {f : FuncId} {fn : Func} (hf : P.funcs[f]? = some fn) (hok : okF P fn = true) (vs : Array Value) (w : World) : ∃ c, fn.body = some c ∧ (callFunc f vs).run P w = .ok (.enter f vs) w := by
  simp only [okF, Bool.and_eq_true, bne_iff_ne, ne_eq] at hok
  obtain ⟨⟨h1, h2⟩, _⟩ := hok
  obtain ⟨c, hc⟩ := isSome_ex h2
  refine ⟨c, hc, ?_⟩
  simp [callFunc, run_program, hf, h1, hc]

theorem fn_call (env : Env P inl A X) (n : Nat) (hK : ∀ m, m < n → KOk P inl (mkK A X m)) (f : Nat) (args rs : List PV) (h : (mkK A X n).call f args = some rs) : FnOk P f args rs := by
  simp only [mkK] at h
  split at h
  · rename_i e he; exact env.ext f e he args rs h
  · simp only [bindO_eq] at h
    obtain ⟨fn', hA, h⟩ := h
    split at h
    case isFalse => cases h
    simp only [bindO_eq] at h
    obtain ⟨q, hq, h⟩ := h
    obtain ⟨fn, hf, hb, hcl, hok⟩ := env.fn f fn' hA
    intro w S vs hlt hargs
    obtain ⟨c, hc, hrun⟩ := enter_ok hf hok vs.toArray w
    refine .inl ⟨hrun, ?_⟩
    have hbody : fn'.body.bare = comp P inl fn.ntmps c := by
      have := congrArg AFunc.body hb
      simpa [AFunc.bare, compF, hc] using this
    have hres : fn'.res = compRess P fn.results.toList fn.resultTypes.toList := by
      have := congrArg AFunc.res hb
      simpa [AFunc.bare, compF] using this
    let g0 : Gh := ⟨S, fun _ => 0, fun _ => undef⟩
    let st0 : St := ⟨initF 0 (args.map PV.toAV), [], 0⟩
    have hs0 : SI fn.ntmps w g0 st0 { tmps := vs.toArray ++ Array.replicate (fn.ntmps - vs.toArray.size) undef, defers := [] } := by
      refine ⟨⟨fun id cells hc => by simp [st0, Hp.get] at hc, fun t a s ht => by simp [st0, Hp.get] at ht, fun i j b _ hi => by simp [blk, st0, Hp.get] at hi, hlt⟩, fun s => ?_, initF_wf fun v hv => ?_, fun e he => (by cases he), by simp; omega⟩
      · show AVR w g0 _ ((initF 0 (args.map PV.toAV)).get s) _
        rw [args_get, initF_get]
        simp only [Nat.zero_le, if_true, Nat.sub_zero, List.getElem?_map]
        cases hs : args[s]? with
        | none => trivial
        | some p =>
          obtain ⟨v, hv, hd⟩ := hargs.get hs
          rw [hv]
          exact toAV_ok hd
      · obtain ⟨p, _, rfl⟩ := List.mem_map.1 hv
        rw [PV.toAV_ids]
        exact Lt.nil
    refine calls_of_wp hf hc (wp_mono (code_at env.mixed (fun f fn hA => let ⟨_, _, _, h, _⟩ := env.fn f fn hA; h) n hK c fn'.body st0 q hbody hcl hq w g0 _ hs0) fun e a' w' hp => ?_)
    obtain ⟨h1, h2, h3, g', h4, h5⟩ := hp
    have hfin : resAll q.2.f q.2.h fn'.res = some rs → a'.defers = [] ∧ ∃ v, (results fn a'.tmps).run P w' = .ok v w' ∧ RowKit.Below w.heap.size w w' ∧ PRs w' (fun b o => S b o ∨ (w.heap.size ≤ b ∧ b < w'.heap.size)) rs v := by
      intro hr
      rw [hres] at hr
      simp only [okF, Bool.and_eq_true] at hok
      obtain ⟨us, k1, k2⟩ := resAll_ok h4 hok.2 hr
      have hnob : ∀ id b, blk g0 st0.h.get id ≠ some b := fun id b hb => by simp [blk, st0, Hp.get] at hb
      refine ⟨h2, _, run_results k1, ⟨h5.os, h5.tape, h5.output, h5.size, fun k hk => h5.fp k hk fun id => hnob id k⟩, PRs.move (fun b o u hb hu => ⟨?_, hu⟩) (PRs_of k2)⟩
      rcases hb with hb | ⟨id, hb⟩
      · rcases h5.Snew b o hb with hb' | ⟨j, hj⟩ | hb'
        · exact .inl hb'
        · exact absurd hj (hnob j b)
        · exact .inr ⟨hb', h4.hi.lt b o hb⟩
      · rcases h5.own id b hb with ⟨j, hj⟩ | hb'
        · exact absurd hj (hnob j b)
        · exact .inr ⟨hb', h4.hi.blk_lt hb⟩
    subst h1
    cases hx : q.1 with
    | norm =>
      rw [hx] at h
      obtain ⟨r1, v, r2, r3⟩ := hfin h
      exact ⟨r1, v, r2, r3⟩
    | ret =>
      rw [hx] at h
      obtain ⟨r1, v, r2, r3⟩ := hfin h
      exact ⟨r1, v, r2, r3⟩
    | exit i => rw [hx] at h; cases h

theorem fn_icall (env : Env P inl A X) (n : Nat) (hK : ∀ m, m < n → KOk P inl (mkK A X m)) (f : Nat) (vs : List AV) (h : Hp) (nx : Nat) (q : AV × Hp × Nat) (hq : (mkK A X n).icall f vs h nx = some q) : IFnOk P f vs h nx q := by
  simp only [mkK, bindO_eq] at hq
  obtain ⟨fn', hA, hq⟩ := hq
  split at hq
  case isFalse => cases hq
  simp only [bindO_eq] at hq
  obtain ⟨r, hr, hq⟩ := hq
  obtain ⟨fn, hf, hb, hcl, hok⟩ := env.fn f fn' hA
  intro w g us hi hwh hvs hargs
  obtain ⟨c, hc, hrun⟩ := enter_ok hf hok us.toArray w
  refine .inl ⟨hrun, ?_⟩
  have hbody : fn'.body.bare = comp P inl fn.ntmps c := by
    have := congrArg AFunc.body hb
    simpa [AFunc.bare, compF, hc] using this
  have hres : fn'.res = compRess P fn.results.toList fn.resultTypes.toList := by
    have := congrArg AFunc.res hb
    simpa [AFunc.bare, compF] using this
  have hs0 : SI fn.ntmps w g ⟨initF 0 vs, h, nx⟩ { tmps := us.toArray ++ Array.replicate (fn.ntmps - us.toArray.size) undef, defers := [] } := by
    refine ⟨hi, fun s => ?_, initF_wf hvs, hwh, by simp; omega⟩
    show AVR w g _ ((initF 0 vs).get s) _
    rw [args_get, initF_get]
    simp only [Nat.zero_le, if_true, Nat.sub_zero]
    cases hs : vs[s]? with
    | none => trivial
    | some p =>
      obtain ⟨v, hv, hd⟩ := hargs.get hs
      rw [hv]
      exact hd
  refine calls_of_wp hf hc (wp_mono (code_at env.mixed (fun f fn hA => let ⟨_, _, _, h, _⟩ := env.fn f fn hA; h) n hK c fn'.body ⟨initF 0 vs, h, nx⟩ r hbody hcl hr w g _ hs0) fun e a' w' hp => ?_)
  obtain ⟨h1, h2, h3, g', h4, h5⟩ := hp
  have hfin : ∀ v, resIn r.2.f r.2.h fn'.res = some v → q = (v, r.2.h, r.2.nx) → a'.defers = [] ∧ ∃ u, (results fn a'.tmps).run P w' = .ok u w' ∧ ∃ g', HI w' g' q.2.1.get ∧ Stp (bn nx q.2.2) w g h.get w' g' q.2.1.get ∧ AVR w' g' q.2.1.get q.1 u := by
    intro v hv he
    subst he
    rw [hres] at hv
    simp only [okF, Bool.and_eq_true] at hok
    unfold resIn at hv
    split at hv
    · rename_i hnil
      cases hv
      have : fn.results.toList = [] := by
        cases hl : fn.results.toList with
        | nil => rfl
        | cons x t => rw [hl] at hnil; simp [compRess] at hnil
      have hrr := run_results (P := P) (w := w') (fn := fn) (tmps := a'.tmps) (vs := []) (by rw [this]; simp)
      exact ⟨h2, _, hrr, g', h4.hi, h5, [], rfl, .nil⟩
    · rename_i s es hone
      cases hv
      have : fn.results.toList = [.tmp s] := by
        cases hl : fn.results.toList with
        | nil => rw [hl] at hone; simp [compRess] at hone
        | cons x t =>
          rw [hl] at hone
          simp only [compRess, List.cons.injEq] at hone
          cases t with
          | nil =>
            cases x with
            | tmp y => simp only [compRes, ARes.t.injEq] at hone; rw [hone.1.1]
            | cell y z => simp only [compRes] at hone; split at hone <;> simp at hone
          | cons y t => simp [compRess] at hone
      have hrr := run_results (P := P) (w := w') (fn := fn) (tmps := a'.tmps) (vs := [a'.tmps.getD s undef]) (by rw [this]; simp [runR])
      exact ⟨h2, _, hrr, g', h4.hi, h5, h4.fr s⟩
    · simp only [bindO_eq] at hv
      obtain ⟨b, hb, hv⟩ := hv
      split at hv
      case isFalse => cases hv
      rename_i hflat
      cases hv
      obtain ⟨us', k1, k2⟩ := resAll_ok h4 hok.2 hb
      exact ⟨h2, _, run_results k1, g', h4.hi, h5, PRs.out (PRs.flat (PRs_of k2) hflat _ _)⟩
  subst h1
  cases hx : r.1 with
  | norm =>
    rw [hx] at hq
    simp only [bindO_eq] at hq
    obtain ⟨v, hv, he⟩ := hq
    obtain ⟨r1, u, r2, r3⟩ := hfin v hv (Option.some.inj he).symm
    exact ⟨r1, u, r2, r3⟩
  | ret =>
    rw [hx] at hq
    simp only [bindO_eq] at hq
    obtain ⟨v, hv, he⟩ := hq
    obtain ⟨r1, u, r2, r3⟩ := hfin v hv (Option.some.inj he).symm
    exact ⟨r1, u, r2, r3⟩
  | exit i => rw [hx] at hq; cases hq

/-- All calls, with any fuel. -/
theorem kOk (env : Env P inl A X) : ∀ n, KOk P inl (mkK A X n) := by
  intro n
  induction n using Nat.strongRecOn with
  | _ n ih => exact ⟨fn_call env n ih, fn_icall env n ih, mkK_wf (fun f fn hA => let ⟨_, _, _, h, _⟩ := env.fn f fn hA; h) n⟩
end
end Go.Proofs.Ytpanbfainilmpaa.Ev
