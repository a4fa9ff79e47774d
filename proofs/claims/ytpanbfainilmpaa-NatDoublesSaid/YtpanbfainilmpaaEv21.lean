/- Code: what the machine does is what the evaluator says (all codes). -/
import Derived.Test.YtpanbfainilmpaaEv20
set_option linter.unusedVariables false
set_option linter.unusedSimpArgs false
namespace Go.Proofs.Ytpanbfainilmpaa.Ev

section
variable {P : Program} {inl : Nat → Bool} {A : Nat → Option AFunc} {X : Nat → Option (List PV → Option (List PV))} {nt : Nat}

theorem opsOk_of {ops : Array Oper} {aos : List AOper} {bs : List Nat} (h : bareOps aos = compOpers P inl nt ops ops.toList bs) (hks : ∀ o ∈ aos, ∀ c ∈ o.op.ks, c.ids = []) :
    aos.length = ops.size ∧ (∀ (i : Nat) (o : Oper) (ao : AOper), ops[i]? = some o → aos[i]? = some ao → ao.bare = compOper P inl nt ops o (bs.getD i 0)) ∧ ∀ (i : Nat) (ao : AOper), aos[i]? = some ao → ∀ c ∈ ao.op.ks, c.ids = [] := by
  rw [bareOps_map] at h
  refine ⟨?_, fun i o ao ho hao => ?_, fun i ao hao => hks ao (List.mem_of_getElem? hao)⟩
  · have := congrArg List.length h
    simpa [compOpers_len] using this
  · have h1 : (aos.map AOper.bare)[i]? = some ao.bare := by simp [hao]
    rw [h, compOpers_at ops.toList bs i o (by simpa using ho)] at h1
    exact (Option.some.inj h1).symm

/-- A region. -/
theorem reg_ok (hmix : P.follows .mixedOrders = true) {K : Or} (hK : KOk P inl K) {id : Nat} {ops : Array Oper} {draw d : Bool} {aos : List AOper} (hb : (ACode.reg d aos).bare = compReg P inl nt ops draw) (hcl : (ACode.reg d aos).cl = true) {st st' : St}
    (he : iteB d (evOpsD K 0 [] aos st) (evOps K aos st) = some st') {w : World} {g : Gh} {a : Act} (hs : SI nt w g st a) : (Code.region id ops draw).wp P (Post nt st st' .norm w g a) a w := by
  unfold compReg at hb
  cases draw with
  | false =>
    simp only [Bool.false_eq_true, if_false, ACode.bare, ACode.reg.injEq] at hb
    obtain ⟨rfl, hb⟩ := hb
    obtain ⟨k1, k2, k3⟩ := opsOk_of hb (cl_reg hcl)
    simp only [iteB] at he
    refine wp_region ?_
    rw [List.range_eq_range']
    exact seq_ok hK ⟨k1, fun i o ao ho hao => ⟨⟨_, k2 i o ao ho hao⟩, k3 i ao hao⟩⟩ ops.size 0 st w g a (by omega) (by simpa using he) hs fun w' g' a' h1 h2 h3 h4 => ⟨rfl, h3, h4, g', h1, h2⟩
  | true =>
    simp only [if_true] at hb
    split at hb
    case isFalse => simp [ACode.bare] at hb
    rename_i hok
    simp only [ACode.bare, ACode.reg.injEq] at hb
    obtain ⟨rfl, hb⟩ := hb
    obtain ⟨k1, k2, k3⟩ := opsOk_of hb (cl_reg hcl)
    simp only [iteB] at he
    simp only [Bool.and_eq_true] at hok
    obtain ⟨S, R, h1, h2, h3, _, h5⟩ := evOpsD_run he
    simp only [Nat.zero_add, k1] at h1 h2 h3 h5
    subst h1
    have r : Run P inl nt ops K aos S R := by
      refine ⟨hK, k1, k2, k3, h3, h5, fun i o ho e hee hbind => ?_, fun i j oi oj hoi hoj => ?_, hs.wf, hs.wh⟩
      · have := hok.1
        simp only [edgesOk, List.all_eq_true] at this
        have := this (o, i) (by rw [List.mem_zipIdx_iff_getElem?]; simpa using ho) e hee
        simp only [hbind, Bool.not_true, Bool.false_or, decide_eq_true_eq] at this
        exact this
      · have hh := hok.2
        rw [← hb, bareOps_map] at hh
        simp only [slotsOk, List.all_eq_true] at hh
        have := hh (oi.bare, i) (by rw [List.mem_zipIdx_iff_getElem?]; simp [hoi]) (oj.bare, j) (by rw [List.mem_zipIdx_iff_getElem?]; simp [hoj])
        simp only [slotFits, bare_us'] at this ⊢
        exact this
    refine wp_region_any hmix ?_
    have hs' := hs.drew
    have hH : HL ops.size S R (fun _ => false) = (S 0).h.get := by
      funext x
      simp only [HL]
      rw [lastOf_none fun j hj => by simp]
      rfl
    have hF : ∀ s, FL ops.size aos S R (fun _ => false) s = (S 0).f.get s := by
      intro s
      simp only [FL]
      rw [lastOf_none fun j hj => by simp]
      rfl
    have hLf : ∀ (i : Nat), i < ops.size → (Array.replicate ops.size false).getD i true = false := by
      intro i hi
      simp [Array.getD, hi]
    have hL2 : HL ops.size S R (fun j => (Array.replicate ops.size false).getD j true) = (S 0).h.get := by
      rw [← hH]
      funext x
      simp only [HL]
      congr 1
      exact lastOf_congr fun j hj => by simp only [hLf j hj]
    have hF2 : ∀ s, FL ops.size aos S R (fun j => (Array.replicate ops.size false).getD j true) s = (S 0).f.get s := by
      intro s
      rw [← hF]
      simp only [FL]
      congr 1
      exact lastOf_congr fun j hj => by simp only [hLf j hj]
    refine r.any (w0 := w) (g0 := g) (a0 := a) (fun w' g' a' q1 q2 q3 => ?_) ops.size (Array.replicate ops.size false) _ g a (by simp) ?_ ?_
    · rw [h2] at q1 q2
      refine ⟨rfl, q3, ?_, g', q1, q2⟩
      rw [← h2]
      exact r.nx_le (Nat.zero_le _) (Nat.le_refl _)
    · exact Nat.le_trans (List.length_filter_le _ _) (by simp)
    · refine ⟨by rw [hL2]; exact hs'.hi, fun s => by rw [hL2, hF2]; exact hs'.fr s, hs.sz, ?_, rfl, fun j o ho hL => ?_⟩
      · rw [hL2]
        exact Stp.drew.weaken (by simp)
      · have := hLf j (Array.getElem?_eq_some_iff.1 ho).1
        rw [this] at hL
        cases hL

/-- All codes, with fuel n. -/
theorem code_at (hmix : P.follows .mixedOrders = true) (hA : ∀ f fn, A f = some fn → fn.body.cl = true) : ∀ (n : Nat), (∀ m, m < n → KOk P inl (mkK A X m)) → ∀ (c : Code) (c' : ACode) (st : St) (q : Ex × St), c'.bare = comp P inl nt c → c'.cl = true → evC A X n c' st = some q →
    ∀ (w : World) (g : Gh) (a : Act), SI nt w g st a → c.wp P (Post nt st q.2 q.1 w g a) a w := by
  intro n
  induction n using Nat.strongRecOn with
  | _ n ih =>
    intro hK c c' st q hb hcl he w g a hs
    cases n with
    | zero => rw [evC] at he; cases he
    | succ n =>
      have ihn := ih n (Nat.lt_succ_self n) fun m hm => hK m (Nat.lt_succ_of_lt hm)
      cases c' with
      | bad => rw [evC] at he; cases he
      | skip =>
        rw [evC] at he; cases he
        cases c <;> simp only [comp, compReg, ACode.bare] at hb <;> first | (cases hb; done) | skip
        all_goals first
          | exact wp_skip ⟨rfl, rfl, Nat.le_refl _, g, hs, by rw [bn_self]; exact Stp.refl _ _ _⟩
          | (repeat' split at hb) <;> cases hb
      | exit id =>
        rw [evC] at he; cases he
        cases c <;> simp only [comp, compReg, ACode.bare] at hb <;> first | (cases hb; done) | skip
        all_goals first
          | (cases hb; exact wp_exit ⟨rfl, rfl, Nat.le_refl _, g, hs, by rw [bn_self]; exact Stp.refl _ _ _⟩)
          | (repeat' split at hb) <;> cases hb
      | ret =>
        rw [evC] at he; cases he
        cases c <;> simp only [comp, compReg, ACode.bare] at hb <;> first | (cases hb; done) | skip
        all_goals first
          | exact wp_ret ⟨rfl, rfl, Nat.le_refl _, g, hs, by rw [bn_self]; exact Stp.refl _ _ _⟩
          | (repeat' split at hb) <;> cases hb
      | reg d ops =>
        rw [evC_reg] at he
        simp only [bindO_eq] at he
        obtain ⟨st', he, hq⟩ := he
        cases hq
        cases c with
        | region id ops' draw => exact reg_ok hmix (hK n (Nat.lt_succ_self n)) hb hcl he hs
        | _ => simp only [comp, ACode.bare] at hb <;> first | (cases hb; done) | ((repeat' split at hb) <;> cases hb)
      | seq x y =>
        cases c with
        | seq c1 c2 =>
          simp only [comp, ACode.bare, ACode.seq.injEq] at hb
          simp only [ACode.cl, Bool.and_eq_true] at hcl
          rw [evC] at he
          simp only [bindO_eq] at he
          obtain ⟨q1, hq1, he⟩ := he
          refine wp_seq (wp_mono (ihn c1 x st q1 hb.1 hcl.1 hq1 w g a hs) fun e a' w' hp => ?_)
          obtain ⟨h1, h2, h3, g', h4, h5⟩ := hp
          subst h1
          cases hx : q1.1 with
          | norm =>
            rw [hx] at he
            exact wp_mono (ihn c2 y q1.2 q hb.2 hcl.2 he w' g' a' h4) fun e a2 w2 hp => Post.from h2 h3 h5 hp
          | exit i => rw [hx] at he; cases he; exact ⟨rfl, h2, h3, g', h4, h5⟩
          | ret => rw [hx] at he; cases he; exact ⟨rfl, h2, h3, g', h4, h5⟩
        | _ => simp only [comp, compReg, ACode.bare] at hb <;> first | (cases hb; done) | ((repeat' split at hb) <;> cases hb)
      | cond x a1 a2 =>
        cases c with
        | cond cx c1 c2 =>
          simp only [comp] at hb
          split at hb
          · rename_i y hy
            simp only [ACode.bare, ACode.cond.injEq] at hb
            obtain ⟨rfl, hb1, hb2⟩ := hb
            simp only [ACode.cl, Bool.and_eq_true] at hcl
            rw [evC] at he
            simp only [bindO_eq] at he
            obtain ⟨b, hbq, he⟩ := he
            have hv := asBool_val hbq (compA_ok hy fun s _ => hs.fr s)
            refine wp_cond hv ?_
            cases b
            · exact ihn c2 a2 st q hb2 hcl.2 he w g a hs
            · exact ihn c1 a1 st q hb1 hcl.1 he w g a hs
          · cases hb
        | _ => simp only [comp, compReg, ACode.bare] at hb <;> first | (cases hb; done) | ((repeat' split at hb) <;> cases hb)
      | block id x =>
        cases c with
        | block id' c1 =>
          simp only [comp, ACode.bare, ACode.block.injEq] at hb
          obtain ⟨rfl, hb⟩ := hb
          rw [evC] at he
          simp only [bindO_eq] at he
          obtain ⟨q1, hq1, he⟩ := he
          refine wp_block (wp_mono (ihn c1 x st q1 hb hcl hq1 w g a hs) fun e a' w' hp => ?_)
          obtain ⟨h1, h2, h3, g', h4, h5⟩ := hp
          subst h1
          cases hx : q1.1 with
          | norm => rw [hx] at he; cases he; exact ⟨rfl, h2, h3, g', h4, h5⟩
          | exit i =>
            rw [hx] at he
            simp only at he
            simp only [Ex.out, Exit.inBlock]
            split at he
            · rename_i hi; rw [if_pos hi]; cases he; exact ⟨rfl, h2, h3, g', h4, h5⟩
            · rename_i hi; rw [if_neg hi]; cases he; exact ⟨rfl, h2, h3, g', h4, h5⟩
          | ret => rw [hx] at he; cases he; exact ⟨rfl, h2, h3, g', h4, h5⟩
        | _ => simp only [comp, compReg, ACode.bare] at hb <;> first | (cases hb; done) | ((repeat' split at hb) <;> cases hb)
      | loop keep x =>
        cases c with
        | loop c1 =>
          simp only [comp, ACode.bare, ACode.loop.injEq, true_and] at hb
          refine wp_loopN (n := n + 1) (fun m a1 w1 => m ≤ n + 1 ∧ ∃ g1 s1, s1.nx = st.nx ∧ evC A X m (.loop keep x) s1 = some q ∧ SI nt w1 g1 s1 a1 ∧ (∀ e a' w', Post nt s1 q.2 q.1 w1 g1 a1 e a' w' → Post nt st q.2 q.1 w g a e a' w')) (fun m a1 w1 hJ => ?_) ⟨Nat.le_refl _, g, st, rfl, he, hs, fun _ _ _ h => h⟩
          obtain ⟨hm, g1, s1, hnx, he1, hs1, hfrom⟩ := hJ
          cases m with
          | zero => rw [evC] at he1; cases he1
          | succ m =>
            rw [evC] at he1
            simp only [bindO_eq] at he1
            obtain ⟨q1, hq1, he1⟩ := he1
            have hhead := hs1.head keep s1.nx
            have hcut : Stp [] w1 g1 s1.h.get w1 g1 (cutH s1.nx s1.h).get := Stp.cut (Stp.refl _ _ _) (by simp)
            refine wp_mono (ih m (by omega) (fun k hk => hK k (by omega)) c1 x (s1.head keep s1.nx) q1 hb hcl hq1 w1 g1 a1 hhead) fun e a' w' hp => ?_
            obtain ⟨h1, h2, h3, g', h4, h5⟩ := hp
            have h3' : s1.nx ≤ q1.2.nx := h3
            have h5' : Stp (bn s1.nx q1.2.nx) w1 g1 s1.h.get w' g' q1.2.h.get := (Stp.trans hcut h5).weaken (by simp [St.head])
            subst h1
            cases hx : q1.1 with
            | norm =>
              rw [hx] at he1
              refine ⟨m, Nat.lt_succ_self m, by omega, g', q1.2.head keep s1.nx, hnx, he1, h4.head keep s1.nx, fun e a2 w2 hp => hfrom e a2 w2 ?_⟩
              have h6 : Stp [] w1 g1 s1.h.get w' g' (q1.2.head keep s1.nx).h.get := Stp.cut h5' fun i hi => (mem_bn.1 hi).1
              refine Post.from (st := s1) (st1 := q1.2.head keep s1.nx) h2 (Nat.le_refl _) (h6.weaken (by simp)) hp
            | exit i => rw [hx] at he1; cases he1; exact hfrom _ _ _ ⟨rfl, h2, h3', g', h4, h5'⟩
            | ret => rw [hx] at he1; cases he1; exact hfrom _ _ _ ⟨rfl, h2, h3', g', h4, h5'⟩
        | _ => simp only [comp, compReg, ACode.bare] at hb <;> first | (cases hb; done) | ((repeat' split at hb) <;> cases hb)
end
end Go.Proofs.Ytpanbfainilmpaa.Ev
