/- The rules that a step by step evaluation uses, and the laws on numbers that it meets. -/
import Derived.Test.YtpanbfainilmpaaEv26
set_option linter.unusedSimpArgs false
set_option linter.unusedVariables false
namespace Go.Proofs.Ytpanbfainilmpaa.Ev
open Go.IntWalk

theorem iteB_eq {α : Type} (b : Bool) (x y : α) : iteB b x y = if b = true then x else y := by cases b <;> rfl
theorem wrap_i64 (x : Int) (h0 : -9223372036854775808 ≤ x) (h1 : x ≤ 9223372036854775807) : IntKind.i64.wrap x = x := IntWalk.i64_in x ⟨h0, h1⟩
/-- A counter goes on. -/
theorem wrap_succ (i : Nat) (h : i < 2305843009213693952) : IntKind.i64.wrap ((i : Int) + 1) = ((i + 1 : Nat) : Int) := by
  rw [wrap_i64 _ (by omega) (by omega)]; rfl
theorem cast_succ (i : Nat) : ((i : Int) + 1).toNat = i + 1 := by omega
theorem nonneg (i : Nat) : (0 : Int) ≤ (i : Int) := Int.natCast_nonneg i
theorem toNat_cast (i : Nat) : ((i : Int)).toNat = i := Int.toNat_natCast i

def idsW : List (Nat × Option Loc) → List Nat
  | [] => []
  | (n, some l) :: r => n :: (l.ids ++ idsW r)
  | (n, none) :: r => n :: idsW r
theorem ids_eq (v : AV) (w : List (Nat × Option Loc)) (r : List Nat) (nx : Nat) : Re.ids ⟨v, w, r, nx⟩ = v.ids ++ idsW w := by
  have : ∀ w : List (Nat × Option Loc), (w.flatMap fun e => e.1 :: match e.2 with | some l => l.ids | none => []) = idsW w := by
    intro w
    induction w with
    | nil => rfl
    | cons e w ih =>
      obtain ⟨n, l⟩ := e
      rw [List.flatMap_cons, ih]
      cases l <;> simp [idsW]
  exact congrArg (v.ids ++ ·) (this w)
theorem idsW_nil : idsW [] = [] := rfl
theorem idsW_some (n : Nat) (l : Loc) (r : List (Nat × Option Loc)) : idsW ((n, some l) :: r) = n :: (l.ids ++ idsW r) := rfl
theorem idsW_none (n : Nat) (r : List (Nat × Option Loc)) : idsW ((n, none) :: r) = n :: idsW r := rfl
theorem avids_d (x : D) : AV.ids (.c (.d x)) = [] := rfl
theorem avids_nil : AV.ids (.c .nil) = [] := rfl
theorem avids_gr (t : Nat) (es : List (List D)) : AV.ids (.c (.gr t es)) = [t] := rfl
theorem avids_ag (cs : List C) : AV.ids (.ag cs) = cs.flatMap C.ids := rfl
theorem avids_ref (i o l : Nat) : AV.ids (.ref i o l) = [i] := rfl
theorem avids_ptr (i o : Nat) : AV.ids (.ptr i o) = [i] := rfl
theorem avids_fptr (xs : List D) : AV.ids (.fptr xs) = [] := rfl
theorem avids_tu (xs : List PV) : AV.ids (.tu xs) = [] := rfl
theorem avids_top : AV.ids .top = [] := rfl
theorem cids_d (x : D) : C.ids (.d x) = [] := rfl
theorem cids_nil : C.ids .nil = [] := rfl
theorem cids_gr (t : Nat) (es : List (List D)) : C.ids (.gr t es) = [t] := rfl
theorem lids_arr (cells : List C) : Loc.ids (.arr cells) = cells.flatMap C.ids := rfl
theorem lids_tok (n s : Nat) : Loc.ids (.tok n s) = [] := rfl
theorem addFp_same (i lo : Nat) (v : AV) (prev : List Fp) : addFp i lo ⟨v, [], [], lo⟩ prev = prev := by simp [addFp, iteB]
theorem addFp_r (i lo nx x : Nat) (v : AV) (w : List (Nat × Option Loc)) (r : List Nat) (prev : List Fp) : addFp i lo ⟨v, w, x :: r, nx⟩ prev = ⟨i, lo, nx, x :: r, w.map (·.1)⟩ :: prev := rfl
theorem addFp_w (i lo nx : Nat) (v : AV) (x : Nat × Option Loc) (w : List (Nat × Option Loc)) (prev : List Fp) : addFp i lo ⟨v, x :: w, [], nx⟩ prev = ⟨i, lo, nx, [], (x :: w).map (·.1)⟩ :: prev := rfl
theorem beside_nil (bf : Nat) (r w m : List Nat) : beside bf r w m [] = true := rfl
theorem beside_cons (bf : Nat) (r w m : List Nat) (i lo hi : Nat) (r' w' : List Nat) (t : List Fp) : beside bf r w m (⟨i, lo, hi, r', w'⟩ :: t) = ((disj w (r' ++ w') && disj w' (r ++ w) && m.all (fun x => !(decide (lo ≤ x) && decide (x < hi))) || bf.testBit i) && beside bf r w m t) := rfl
theorem disj_nil (b : List Nat) : disj [] b = true := rfl
theorem disj_nil' (a : List Nat) : disj a [] = true := by simp [disj]
theorem disj_cons (x : Nat) (a b : List Nat) : disj (x :: a) b = (!b.contains x && disj a b) := rfl
theorem take_map_d (xs : List D) (n : Nat) : (xs.map C.d).take n = (xs.take n).map C.d := List.map_take.symm
theorem drop_map_d (xs : List D) (n : Nat) : (xs.map C.d).drop n = (xs.drop n).map C.d := List.map_drop.symm

attribute [go_sem] RUN_skip RUN_exit RUN_ret RUN_seq RUN_block RUN_loop RUN_cond RUN_reg RUN_regD
  thenR_norm thenR_exit thenR_ret loopR_norm loopR_exit loopR_ret condR_t condR_f blockR_norm blockR_ret blockR_exit callR_ret callR_norm icallR_ret icallR_norm regR_some
  bindO_some bindV_val iteB_t iteB_f
  Fr.get_cons Fr.get_nil Hp.get_cons Hp.get_nil Hp.set_cons Hp.set_nil Hp.del_cons Hp.del_nil upd_nil upd_some upd_none ev_t ev_k maskF_nil maskF_cons cutH_nil cutH_cons
  old_d old_nil old_gr old_ref old_ptr old_ag old_tu old_fptr old_top oldC_d oldC_nil oldC_gr oldL_arr oldL_tok toD_d toD_nil toD_gr toAV_one toAV_agg initF_nil initF_cons asInt_i asBool_b
  evOps_nil evOps_cons evOps_consg evOpsD_nil evOpsD_cons evOpsD_consg opsR_d opsR_n opsDR_d opsDR_n gdR_tt gdR_ft gdR_tf gdR_ff gdR_n gdB_tu gdB_b
  evOp_mv evOp_asg asgR_nil asgR_d asgR_gr asgR_ag asgR_tu asgR_ref asgR_ptr evOp_pick evOp_alloc boxed_mk births_nil birthR1_mk birthR2_mk births_n births_d births_gr evOp_box boxR_c boxR_ag
  evOp_build putParts_nil putParts_cons putPart_c putPart_ag evOp_bslf evOp_bslt litElems_nil litElems_cons cellsOf_c cellsOf_ag
  evOp_ld ldR_ptr ldPR_t ldPR_f ldcR_some ldR_fptrt ldR_fptrf evOp_st stR_ptr stPR_arr birthV_nil birthV_d birthV_gr birthV_ag birthA_mk evOp_fad fadR_ptr fadR_fptr hasR_eq hasR_arr fpR_some evOp_iad iadR_sl iadR_gr iadR_ref
  cR_some evOp_fld fldR_t fldR_f evOp_idx idxR_ag evOp_bin binR_v bin_add bin_sub bin_mul bin_quo bin_rem bin_and bin_or bin_xor bin_andNot bin_eql bin_neq bin_lss bin_leq bin_gtr bin_geq bin_shl bin_shr bin_seql bin_sneq un_not un_neg un_xor
  evOp_binb binbR_v binb_eql binb_neq evOp_eqa eqaR_ag eqCells_nil eqCells_cons eqCell_b eqCell_i eqCell_s evOp_un unR_v evOp_cvi evOp_cvs evOp_slc loR_none loR_some hiR_none hiR_some slcR_sl slcR_gr slcR_nil slcR_ref
  lenOf_sl lenOf_nil lenOf_gr lenOf_ref evOp_mksf evOp_mkst evOp_app appR_nil appR_gr appTR_f appTR_t elems_sl elems_nil elems_gr elems_ref elemsR_arr evOp_cpy cpyAR_ref cpyR_arr evOp_len evOp_slen slenR_s evOp_mx evOp_mn
  evOp_ext extR_tu extPR_some evOp_call evOp_callv callR1_some callAR_nil callAR_ids toPVs_nil toPVs_cons pvR_some toPV_c toPV_ag toPV_ref outAV_one outAV_nil outAV_two resAll_nil resR_some resAll_cons resOne_t
  ids_eq idsW_nil idsW_some idsW_none avids_d avids_nil avids_gr avids_ag avids_ref avids_ptr avids_fptr avids_tu avids_top cids_d cids_nil cids_gr lids_arr lids_tok addFp_same addFp_r addFp_w beside_nil beside_cons disj_nil disj_nil' disj_cons
  List.map_cons List.map_nil List.flatMap_cons List.flatMap_nil List.nil_append List.cons_append List.append_nil List.length_cons List.length_nil List.length_map List.all_cons List.all_nil List.contains_cons List.contains_nil List.isEmpty_nil List.isEmpty_cons
  List.take_succ_cons List.take_zero List.take_nil List.drop_succ_cons List.drop_zero List.drop_nil List.getElem?_cons_succ List.getElem?_cons_zero List.set_cons_zero List.set_cons_succ List.take_length List.replicate_zero List.replicate_succ List.length_replicate
  nonneg toNat_cast Nat.zero_add ite_self
end Go.Proofs.Ytpanbfainilmpaa.Ev
