/- The evaluator's steps as rewriting rules: one rule for each operation, and one for each shape of its operands. -/
import Derived.Test.YtpanbfainilmpaaEv25
set_option linter.unusedVariables false
set_option linter.unusedSimpArgs false
namespace Go.Proofs.Ytpanbfainilmpaa.Ev

/-! ### Control -/
section
variable (A : Nat → Option AFunc) (X : Nat → Option (List PV → Option (List PV)))
theorem thenR_norm (b : ACode) (st : St) : thenR A X b (some (.norm, st)) = RUN A X b st := rfl
theorem thenR_exit (b : ACode) (i : Nat) (st : St) : thenR A X b (some (.exit i, st)) = some (.exit i, st) := rfl
theorem thenR_ret (b : ACode) (st : St) : thenR A X b (some (.ret, st)) = some (.ret, st) := rfl
theorem loopR_norm (keep : List Nat) (n : Nat) (a : ACode) (st : St) : loopR A X keep n a (some (.norm, st)) = loopR A X keep n a (RUN A X a ⟨maskF (maskF st.f n keep) n keep, cutH n (cutH n st.h), n⟩) := by
  show RUN A X (.loop keep a) _ = _
  rw [RUN_loop]
theorem loopR_exit (keep : List Nat) (n i : Nat) (a : ACode) (st : St) : loopR A X keep n a (some (.exit i, st)) = some (.exit i, st) := rfl
theorem loopR_ret (keep : List Nat) (n : Nat) (a : ACode) (st : St) : loopR A X keep n a (some (.ret, st)) = some (.ret, st) := rfl
theorem condR_t (a b : ACode) (st : St) : condR A X a b st (some true) = RUN A X a st := rfl
theorem condR_f (a b : ACode) (st : St) : condR A X a b st (some false) = RUN A X b st := rfl
end
theorem blockR_norm (id : Nat) (st : St) : blockR id (some (.norm, st)) = some (.norm, st) := rfl
theorem blockR_ret (id : Nat) (st : St) : blockR id (some (.ret, st)) = some (.ret, st) := rfl
theorem blockR_exit (id i : Nat) (st : St) : blockR id (some (.exit i, st)) = if i = id then some (.norm, st) else some (.exit i, st) := rfl
theorem callR_ret (res : List ARes) (f : Fr) (h : Hp) (nx : Nat) : callR res (some (.ret, ⟨f, h, nx⟩)) = resAll f h res := rfl
theorem callR_norm (res : List ARes) (f : Fr) (h : Hp) (nx : Nat) : callR res (some (.norm, ⟨f, h, nx⟩)) = resAll f h res := rfl
theorem icallR_ret (res : List ARes) (f : Fr) (h : Hp) (nx : Nat) : icallR res (some (.ret, ⟨f, h, nx⟩)) = bindO (resIn f h res) fun v => some (v, h, nx) := rfl
theorem icallR_norm (res : List ARes) (f : Fr) (h : Hp) (nx : Nat) : icallR res (some (.norm, ⟨f, h, nx⟩)) = bindO (resIn f h res) fun v => some (v, h, nx) := rfl
theorem regR_some (st : St) : regR (some st) = some (.norm, st) := rfl

theorem bindO_some {α β : Type} (a : α) (f : α → Option β) : bindO (some a) f = f a := rfl
theorem bindV_val {α β : Type} (a : α) (f : α → β) : bindV a f = f a := rfl
theorem iteB_t {α : Type} (x y : α) : iteB true x y = x := rfl
theorem iteB_f {α : Type} (x y : α) : iteB false x y = y := rfl

/-! ### Frames -/
theorem Fr.get_cons (m n : Nat) (v : AV) (r : Fr) : Fr.get ((m, v) :: r) n = if n = m then v else Fr.get r n := rfl
theorem Fr.get_nil (n : Nat) : Fr.get [] n = .top := rfl
theorem Hp.get_cons (m n : Nat) (v : Loc) (r : Hp) : Hp.get ((m, v) :: r) n = if n = m then some v else Hp.get r n := rfl
theorem Hp.get_nil (n : Nat) : Hp.get [] n = none := rfl
theorem Hp.set_cons (m n : Nat) (l v : Loc) (r : Hp) : Hp.set ((m, v) :: r) n l = if n = m then (m, l) :: r else (m, v) :: Hp.set r n l := rfl
theorem Hp.set_nil (n : Nat) (l : Loc) : Hp.set [] n l = [(n, l)] := rfl
theorem Hp.del_cons (m n : Nat) (v : Loc) (r : Hp) : Hp.del ((m, v) :: r) n = if n = m then Hp.del r n else (m, v) :: Hp.del r n := rfl
theorem Hp.del_nil (n : Nat) : Hp.del [] n = [] := rfl
theorem upd_nil (h : Hp) : Hp.upd h [] = h := rfl
theorem upd_some (h : Hp) (n : Nat) (l : Loc) (r : List (Nat × Option Loc)) : Hp.upd h ((n, some l) :: r) = Hp.upd (Hp.set h n l) r := rfl
theorem upd_none (h : Hp) (n : Nat) (r : List (Nat × Option Loc)) : Hp.upd h ((n, none) :: r) = Hp.upd (Hp.del h n) r := rfl
theorem ev_t (f : Fr) (n : Nat) : AO.ev f (.t n) = f.get n := rfl
theorem ev_k (f : Fr) (x : C) : AO.ev f (.k x) = .c x := rfl
theorem maskF_nil (f : Fr) (n : Nat) : maskF f n [] = [] := rfl
theorem maskF_cons (f : Fr) (n s : Nat) (r : List Nat) : maskF f n (s :: r) = (s, (f.get s).old n) :: maskF f n r := rfl
theorem cutH_nil (n : Nat) : cutH n [] = [] := rfl
theorem cutH_cons (n i : Nat) (l : Loc) (r : Hp) : cutH n ((i, l) :: r) = if i < n then (i, l.old n) :: cutH n r else cutH n r := rfl
theorem old_d (n : Nat) (x : D) : AV.old n (.c (.d x)) = .c (.d x) := rfl
theorem old_nil (n : Nat) : AV.old n (.c .nil) = .c .nil := rfl
theorem old_gr (n t : Nat) (es : List (List D)) : AV.old n (.c (.gr t es)) = if t < n then .c (.gr t es) else .c (.d (.sl es)) := rfl
theorem old_ref (n i o l : Nat) : AV.old n (.ref i o l) = if i < n then .ref i o l else .top := rfl
theorem old_ptr (n i o : Nat) : AV.old n (.ptr i o) = if i < n then .ptr i o else .top := rfl
theorem old_ag (n : Nat) (cs : List C) : AV.old n (.ag cs) = .ag (cs.map (C.old n)) := rfl
theorem old_tu (n : Nat) (xs : List PV) : AV.old n (.tu xs) = .tu xs := rfl
theorem old_fptr (n : Nat) (xs : List D) : AV.old n (.fptr xs) = .fptr xs := rfl
theorem old_top (n : Nat) : AV.old n .top = .top := rfl
theorem oldC_d (n : Nat) (x : D) : C.old n (.d x) = .d x := rfl
theorem oldC_nil (n : Nat) : C.old n .nil = .nil := rfl
theorem oldC_gr (n t : Nat) (es : List (List D)) : C.old n (.gr t es) = if t < n then .gr t es else .d (.sl es) := rfl
theorem oldL_arr (n : Nat) (cells : List C) : Loc.old n (.arr cells) = .arr (cells.map (C.old n)) := rfl
theorem oldL_tok (n a s : Nat) : Loc.old n (.tok a s) = .tok a s := rfl
theorem toD_d (x : D) : C.toD (.d x) = x := rfl
theorem toD_nil : C.toD .nil = .sl [] := rfl
theorem toD_gr (t : Nat) (es : List (List D)) : C.toD (.gr t es) = .sl es := rfl
theorem toAV_one (x : D) : PV.toAV (.one x) = .c (.d x) := rfl
theorem toAV_agg (xs : List D) : PV.toAV (.agg xs) = .ag (xs.map C.d) := rfl
theorem initF_nil (n : Nat) : initF n [] = [] := rfl
theorem initF_cons (n : Nat) (v : AV) (r : List AV) : initF n (v :: r) = (n, v) :: initF (n + 1) r := rfl
theorem asInt_i (k : IntKind) (n : Int) : asInt (.c (.d (.sc (.int k n)))) = some (k, n) := rfl
theorem asBool_b (b : Bool) : asBool (.c (.d (.sc (.bool b)))) = some b := rfl

/-! ### Regions -/
section
variable (K : Or) (dr : Bool) (f : Fr) (h : Hp) (nx : Nat)
def opsR (os : List AOper) (d : Option Nat) : Option Re → Option St
  | some ⟨v, w, r, nx'⟩ => evOps K os ⟨match d with | some d => (d, v) :: f | none => f, h.upd w, nx'⟩
  | none => none
def opsDR (i bf : Nat) (prev : List Fp) (os : List AOper) (d : Option Nat) : Option Re → Option St
  | some ⟨v, w, r, nx'⟩ => iteB (beside bf r (w.map (·.1)) (Re.ids ⟨v, w, r, nx'⟩) prev) (evOpsD K (i + 1) (addFp i nx ⟨v, w, r, nx'⟩ prev) os ⟨match d with | some d => (d, v) :: f | none => f, h.upd w, nx'⟩) none
  | none => none
def gdR (want : Bool) (x : Option Re) : Option (Option Bool) → Option Re
  | some (some b) => iteB (b == want) x (some ⟨.tu [], [], [], nx⟩)
  | some none => some ⟨.tu [], [], [], nx⟩
  | none => none
theorem evOps_nil (st : St) : evOps K [] st = some st := rfl
theorem evOps_cons (d : Option Nat) (op : AOp) (bf : Nat) (os : List AOper) : evOps K (⟨d, op, none, bf⟩ :: os) ⟨f, h, nx⟩ = opsR K f h os d (evOp K false f h nx op) := by
  simp only [evOps, evStep]
  cases evOp K false f h nx op <;> rfl
theorem gd_eq (want : Bool) (op : AOp) (s : Nat) : (bindO (gdB (f.get s)) fun b => if b = some want then evOp K dr f h nx op else ok1 (.tu []) nx) = gdR nx want (evOp K dr f h nx op) (gdB (f.get s)) := by
  cases gdB (f.get s) with
  | none => rfl
  | some b =>
    cases b with
    | none => simp [bindO, gdR, ok1]
    | some b => cases b <;> cases want <;> simp [bindO, gdR, iteB, ok1]
theorem evOps_consg (d : Option Nat) (op : AOp) (bf s : Nat) (want : Bool) (os : List AOper) : evOps K (⟨d, op, some (s, want), bf⟩ :: os) ⟨f, h, nx⟩ = opsR K f h os d (gdR nx want (evOp K false f h nx op) (gdB (f.get s))) := by
  simp only [evOps, evStep, gd_eq]
  cases gdR nx want (evOp K false f h nx op) (gdB (f.get s)) <;> rfl
theorem evOpsD_nil (i : Nat) (prev : List Fp) (st : St) : evOpsD K i prev [] st = some st := rfl
theorem evOpsD_cons (i : Nat) (prev : List Fp) (d : Option Nat) (op : AOp) (bf : Nat) (os : List AOper) : evOpsD K i prev (⟨d, op, none, bf⟩ :: os) ⟨f, h, nx⟩ = opsDR K f h nx i bf prev os d (evOp K true f h nx op) := by
  simp only [evOpsD, evStep]
  cases evOp K true f h nx op <;> rfl
theorem evOpsD_consg (i : Nat) (prev : List Fp) (d : Option Nat) (op : AOp) (bf s : Nat) (want : Bool) (os : List AOper) : evOpsD K i prev (⟨d, op, some (s, want), bf⟩ :: os) ⟨f, h, nx⟩ = opsDR K f h nx i bf prev os d (gdR nx want (evOp K true f h nx op) (gdB (f.get s))) := by
  simp only [evOpsD, evStep, gd_eq]
  cases gdR nx want (evOp K true f h nx op) (gdB (f.get s)) <;> rfl
theorem opsR_d (os : List AOper) (d : Nat) (v : AV) (w : List (Nat × Option Loc)) (r : List Nat) (nx' : Nat) : opsR K f h os (some d) (some ⟨v, w, r, nx'⟩) = evOps K os ⟨(d, v) :: f, h.upd w, nx'⟩ := rfl
theorem opsR_n (os : List AOper) (v : AV) (w : List (Nat × Option Loc)) (r : List Nat) (nx' : Nat) : opsR K f h os none (some ⟨v, w, r, nx'⟩) = evOps K os ⟨f, h.upd w, nx'⟩ := rfl
theorem opsDR_d (i bf : Nat) (prev : List Fp) (os : List AOper) (d : Nat) (v : AV) (w : List (Nat × Option Loc)) (r : List Nat) (nx' : Nat) : opsDR K f h nx i bf prev os (some d) (some ⟨v, w, r, nx'⟩) = iteB (beside bf r (w.map (·.1)) (Re.ids ⟨v, w, r, nx'⟩) prev) (evOpsD K (i + 1) (addFp i nx ⟨v, w, r, nx'⟩ prev) os ⟨(d, v) :: f, h.upd w, nx'⟩) none := rfl
theorem opsDR_n (i bf : Nat) (prev : List Fp) (os : List AOper) (v : AV) (w : List (Nat × Option Loc)) (r : List Nat) (nx' : Nat) : opsDR K f h nx i bf prev os none (some ⟨v, w, r, nx'⟩) = iteB (beside bf r (w.map (·.1)) (Re.ids ⟨v, w, r, nx'⟩) prev) (evOpsD K (i + 1) (addFp i nx ⟨v, w, r, nx'⟩ prev) os ⟨f, h.upd w, nx'⟩) none := rfl
theorem gdR_tt (x : Option Re) : gdR nx true x (some (some true)) = x := rfl
theorem gdR_ft (x : Option Re) : gdR nx true x (some (some false)) = some ⟨.tu [], [], [], nx⟩ := rfl
theorem gdR_tf (x : Option Re) : gdR nx false x (some (some true)) = some ⟨.tu [], [], [], nx⟩ := rfl
theorem gdR_ff (x : Option Re) : gdR nx false x (some (some false)) = x := rfl
theorem gdR_n (want : Bool) (x : Option Re) : gdR nx want x (some none) = some ⟨.tu [], [], [], nx⟩ := rfl
theorem gdB_tu (xs : List PV) : gdB (.tu xs) = some none := rfl
theorem gdB_b (b : Bool) : gdB (.c (.d (.sc (.bool b)))) = some (some b) := rfl

/-! ### Operations -/
theorem evOp_mv (x : AO) : evOp K dr f h nx (.mv x) = some ⟨x.ev f, [], [], nx⟩ := rfl
def asgR : AV → Option Re
  | .c .nil => some ⟨.c (.gr nx []), [(nx, some (.tok 0 0))], [], nx + 1⟩
  | v => some ⟨v, [], [], nx⟩
theorem evOp_asg (x : AO) : evOp K dr f h nx (.asg x) = asgR nx (x.ev f) := by
  cases hx : x.ev f with
  | c y => cases y <;> simp [evOp, hx, asgR, ok1]
  | _ => simp [evOp, hx, asgR, ok1]
theorem asgR_nil : asgR nx (.c .nil) = some ⟨.c (.gr nx []), [(nx, some (.tok 0 0))], [], nx + 1⟩ := rfl
theorem asgR_d (x : D) : asgR nx (.c (.d x)) = some ⟨.c (.d x), [], [], nx⟩ := rfl
theorem asgR_gr (t : Nat) (es : List (List D)) : asgR nx (.c (.gr t es)) = some ⟨.c (.gr t es), [], [], nx⟩ := rfl
theorem asgR_ag (cs : List C) : asgR nx (.ag cs) = some ⟨.ag cs, [], [], nx⟩ := rfl
theorem asgR_tu (cs : List PV) : asgR nx (.tu cs) = some ⟨.tu cs, [], [], nx⟩ := rfl
theorem asgR_ref (i o l : Nat) : asgR nx (.ref i o l) = some ⟨.ref i o l, [], [], nx⟩ := rfl
theorem asgR_ptr (i o : Nat) : asgR nx (.ptr i o) = some ⟨.ptr i o, [], [], nx⟩ := rfl
theorem evOp_pick (c a b : AO) : evOp K dr f h nx (.pick c a b) = bindO (asBool (c.ev f)) fun q => some ⟨iteB q (a.ev f) (b.ev f), [], [], nx⟩ := by
  show bindO _ _ = _
  congr 1; funext q; cases q <;> rfl
theorem evOp_alloc (zero : List C) : evOp K dr f h nx (.alloc zero) = boxed (births nx zero) := rfl
theorem boxed_mk (cs : List C) (w : List (Nat × Option Loc)) (n : Nat) : boxed (cs, w, n) = some ⟨.ptr n 0, w ++ [(n, some (.arr cs))], [], n + 1⟩ := rfl
theorem births_nil (n : Nat) : births n [] = ([], [], n) := rfl
def birthR1 (q : List C × List (Nat × Option Loc) × Nat) (n : Nat) : List C × List (Nat × Option Loc) × Nat := (.gr n [] :: q.1, (n, some (.tok 0 0)) :: q.2.1, q.2.2)
def birthR2 (q : List C × List (Nat × Option Loc) × Nat) (x : C) : List C × List (Nat × Option Loc) × Nat := (x :: q.1, q.2.1, q.2.2)
theorem birthR1_mk (cs : List C) (w : List (Nat × Option Loc)) (m n : Nat) : birthR1 (cs, w, m) n = (.gr n [] :: cs, (n, some (.tok 0 0)) :: w, m) := rfl
theorem birthR2_mk (cs : List C) (w : List (Nat × Option Loc)) (m : Nat) (x : C) : birthR2 (cs, w, m) x = (x :: cs, w, m) := rfl
theorem births_n (n : Nat) (r : List C) : births n (.nil :: r) = birthR1 (births (n + 1) r) n := rfl
theorem births_d (n : Nat) (x : D) (r : List C) : births n (.d x :: r) = birthR2 (births n r) (.d x) := rfl
theorem births_gr (n t : Nat) (es : List (List D)) (r : List C) : births n (.gr t es :: r) = birthR2 (births n r) (.gr t es) := rfl
def boxR : AV → Option Re
  | .c y => boxed (births nx [y])
  | .ag cs => boxed (births nx cs)
  | _ => none
theorem evOp_box (x : AO) : evOp K dr f h nx (.box x) = boxR nx (x.ev f) := by
  cases hx : x.ev f <;> simp [evOp, hx, boxR]
theorem boxR_c (y : C) : boxR nx (.c y) = boxed (births nx [y]) := rfl
theorem boxR_ag (cs : List C) : boxR nx (.ag cs) = boxed (births nx cs) := rfl
theorem evOp_build (zero : List C) (parts : List (Nat × Nat × AO)) : evOp K dr f h nx (.build zero parts) = bindO (putParts f zero parts) fun cs => some ⟨.ag cs, [], [], nx⟩ := rfl
theorem putParts_nil (cells : List C) : putParts f cells [] = some cells := rfl
theorem putParts_cons (cells : List C) (off sz : Nat) (x : AO) (r : List (Nat × Nat × AO)) : putParts f cells ((off, sz, x) :: r) = bindO (putPart cells off sz (x.ev f)) fun cs => putParts f cs r := rfl
theorem putPart_c (cells : List C) (off sz : Nat) (x : C) : putPart cells off sz (.c x) = if sz = 1 ∧ off < cells.length then some (cells.set off x) else none := rfl
theorem putPart_ag (cells : List C) (off sz : Nat) (cs : List C) : putPart cells off sz (.ag cs) = if cs.length = sz ∧ off + sz ≤ cells.length then some (cells.take off ++ cs ++ cells.drop (off + sz)) else none := rfl
theorem evOp_bslf (sz n : Nat) (zero : List C) (parts : List (Nat × AO)) : evOp K dr f h nx (.bsl false sz n zero parts) = bindO (litElems f sz (List.replicate n zero) parts) fun es => some ⟨.c (.gr nx (es.map (·.map C.toD))), [(nx, some (.tok n sz))], [], nx + 1⟩ := rfl
theorem evOp_bslt (sz n : Nat) (zero : List C) (parts : List (Nat × AO)) : evOp K dr f h nx (.bsl true sz n zero parts) = bindO (litElems f sz (List.replicate n zero) parts) fun es => some ⟨.ref nx 0 n, [(nx, some (.arr es.flatten))], [], nx + 1⟩ := rfl
theorem litElems_nil (sz : Nat) (es : List (List C)) : litElems f sz es [] = some es := rfl
theorem litElems_cons (sz : Nat) (es : List (List C)) (i : Nat) (x : AO) (r : List (Nat × AO)) : litElems f sz es ((i, x) :: r) = bindO (cellsOf sz (x.ev f)) fun cs => if i < es.length then litElems f sz (es.set i cs) r else none := rfl
theorem cellsOf_c (sz : Nat) (x : C) : cellsOf sz (.c x) = if sz = 1 then some [x] else none := rfl
theorem cellsOf_ag (sz : Nat) (cs : List C) : cellsOf sz (.ag cs) = if cs.length = sz then some cs else none := rfl
def ldPR (agg : Bool) (sz id off : Nat) : Option Loc → Option Re
  | some (.arr cells) => if agg then (if off + sz ≤ cells.length then some ⟨.ag ((cells.drop off).take sz), [], [id], nx⟩ else none)
        else match cells[off]? with | some x => some ⟨.c x, [], [id], nx⟩ | none => none
  | _ => none
def ldR (agg : Bool) (sz : Nat) : AV → Option Re
  | .ptr id off => ldPR nx agg sz id off (h.get id)
  | .fptr xs =>
      if agg then (if sz ≤ xs.length then ok1 (.ag ((xs.take sz).map C.d)) nx else none)
      else match xs with | x :: _ => ok1 (.c (.d x)) nx | [] => none
  | _ => none
theorem evOp_ld (agg : Bool) (sz : Nat) (a : AO) : evOp K dr f h nx (.ld agg sz a) = ldR h nx agg sz (a.ev f) := by
  cases hx : a.ev f with
  | ptr id off =>
    simp only [evOp, hx, ldR]
    cases hl : h.get id with
    | none => rfl
    | some l => cases l <;> rfl
  | fptr xs => simp only [evOp, hx, ldR]; cases xs <;> rfl
  | _ => simp [evOp, hx, ldR]
theorem ldR_ptr (agg : Bool) (sz id off : Nat) : ldR h nx agg sz (.ptr id off) = ldPR nx agg sz id off (h.get id) := rfl
theorem ldPR_t (sz id off : Nat) (cells : List C) : ldPR nx true sz id off (some (.arr cells)) = if off + sz ≤ cells.length then some ⟨.ag ((cells.drop off).take sz), [], [id], nx⟩ else none := rfl
def ldcR (id : Nat) : Option C → Option Re
  | some x => some ⟨.c x, [], [id], nx⟩
  | none => none
theorem ldPR_f (sz id off : Nat) (cells : List C) : ldPR nx false sz id off (some (.arr cells)) = ldcR nx id cells[off]? := by
  simp only [ldPR]
  cases cells[off]? <;> rfl
theorem ldcR_some (id : Nat) (x : C) : ldcR nx id (some x) = some ⟨.c x, [], [id], nx⟩ := rfl
theorem ldR_fptrt (sz : Nat) (xs : List D) : ldR h nx true sz (.fptr xs) = if sz ≤ xs.length then some ⟨.ag ((xs.take sz).map C.d), [], [], nx⟩ else none := rfl
theorem ldR_fptrf (sz : Nat) (x : D) (xs : List D) : ldR h nx false sz (.fptr (x :: xs)) = some ⟨.c (.d x), [], [], nx⟩ := rfl
def stPR (sz id off : Nat) (v : AV × List (Nat × Option Loc) × Nat) : Option Loc → Option Re
  | some (.arr cells) => bindO (putPart cells off sz v.1) fun cs => some ⟨.top, v.2.1 ++ [(id, some (.arr cs))], [id], v.2.2⟩
  | _ => none
def stR (sz : Nat) (v : AV × List (Nat × Option Loc) × Nat) : AV → Option Re
  | .ptr id off => stPR sz id off v (h.get id)
  | _ => none
theorem evOp_st (sz : Nat) (a x : AO) : evOp K dr f h nx (.st sz a x) = stR h sz (birthV nx (x.ev f)) (a.ev f) := by
  cases hx : a.ev f with
  | ptr id off =>
    simp only [evOp, hx, stR, stPR, bindV]
    cases hl : h.get id with
    | none => rfl
    | some l => cases l <;> rfl
  | _ => simp [evOp, hx, stR]
theorem stR_ptr (sz id off : Nat) (v : AV × List (Nat × Option Loc) × Nat) : stR h sz v (.ptr id off) = stPR sz id off v (h.get id) := rfl
theorem stPR_arr (sz id off n : Nat) (v : AV) (w : List (Nat × Option Loc)) (cells : List C) : stPR sz id off (v, w, n) (some (.arr cells)) = bindO (putPart cells off sz v) fun cs => some ⟨.top, w ++ [(id, some (.arr cs))], [id], n⟩ := rfl
theorem birthV_nil : birthV nx (.c .nil) = (.c (.gr nx []), [(nx, some (.tok 0 0))], nx + 1) := rfl
theorem birthV_d (x : D) : birthV nx (.c (.d x)) = (.c (.d x), [], nx) := rfl
theorem birthV_gr (t : Nat) (es : List (List D)) : birthV nx (.c (.gr t es)) = (.c (.gr t es), [], nx) := rfl
def birthA (q : List C × List (Nat × Option Loc) × Nat) : AV × List (Nat × Option Loc) × Nat := (.ag q.1, q.2.1, q.2.2)
theorem birthV_ag (cs : List C) : birthV nx (.ag cs) = birthA (births nx cs) := rfl
theorem birthA_mk (cs : List C) (w : List (Nat × Option Loc)) (n : Nat) : birthA (cs, w, n) = (.ag cs, w, n) := rfl
def fadR (off : Nat) : AV → Option Re
  | .ptr id o => if h.has id = true then some ⟨.ptr id (o + off), [], [id], nx⟩ else none
  | .fptr xs => some ⟨.fptr (xs.drop off), [], [], nx⟩
  | _ => none
theorem evOp_fad (off : Nat) (x : AO) : evOp K dr f h nx (.fad off x) = fadR h nx off (x.ev f) := by
  cases hx : x.ev f <;> simp [evOp, hx, fadR, ok1]
theorem fadR_ptr (off id o : Nat) : fadR h nx off (.ptr id o) = if h.has id = true then some ⟨.ptr id (o + off), [], [id], nx⟩ else none := rfl
theorem fadR_fptr (off : Nat) (xs : List D) : fadR h nx off (.fptr xs) = some ⟨.fptr (xs.drop off), [], [], nx⟩ := rfl
def hasR : Option Loc → Bool
  | some (.arr _) => true
  | _ => false
theorem hasR_eq (id : Nat) : Hp.has h id = hasR (h.get id) := by
  unfold Hp.has hasR; rfl
theorem hasR_arr (cells : List C) : hasR (some (.arr cells)) = true := rfl
def fpR (sz : Nat) : Option (List D) → Option Re
  | some e => if e.length = sz then some ⟨.fptr e, [], [], nx⟩ else none
  | none => none
theorem fpR_some (sz : Nat) (e : List D) : fpR nx sz (some e) = if e.length = sz then some ⟨.fptr e, [], [], nx⟩ else none := rfl
def iadR (sz : Nat) (i : Int) : AV → Option Re
  | .c (.d (.sl es)) => if 0 ≤ i then fpR nx sz es[i.toNat]? else none
  | .c (.gr _ es) => if 0 ≤ i then fpR nx sz es[i.toNat]? else none
  | .ref id off len => if 0 ≤ i ∧ i < (len : Int) ∧ h.has id = true then some ⟨.ptr id (off + i.toNat * sz), [], [id], nx⟩ else none
  | _ => none
theorem evOp_iad (sz : Nat) (x i : AO) : evOp K dr f h nx (.iad sz x i) = bindO (asInt (i.ev f)) fun q => iadR h nx sz q.2 (x.ev f) := by
  show bindO _ _ = _
  congr 1
theorem iadR_sl (sz : Nat) (i : Int) (es : List (List D)) : iadR h nx sz i (.c (.d (.sl es))) = if 0 ≤ i then fpR nx sz es[i.toNat]? else none := rfl
theorem iadR_gr (sz t : Nat) (i : Int) (es : List (List D)) : iadR h nx sz i (.c (.gr t es)) = if 0 ≤ i then fpR nx sz es[i.toNat]? else none := rfl
theorem iadR_ref (sz id off len : Nat) (i : Int) : iadR h nx sz i (.ref id off len) = if 0 ≤ i ∧ i < (len : Int) ∧ h.has id = true then some ⟨.ptr id (off + i.toNat * sz), [], [id], nx⟩ else none := rfl
def cR : Option C → Option Re
  | some y => some ⟨.c y, [], [], nx⟩
  | none => none
theorem cR_some (y : C) : cR nx (some y) = some ⟨.c y, [], [], nx⟩ := rfl
def fldR (agg : Bool) (off sz : Nat) : AV → Option Re
  | .ag cs => iteB agg (some ⟨.ag ((cs.drop off).take sz), [], [], nx⟩) (cR nx cs[off]?)
  | _ => none
theorem evOp_fld (agg : Bool) (off sz : Nat) (x : AO) : evOp K dr f h nx (.fld agg off sz x) = fldR nx agg off sz (x.ev f) := by
  cases hx : x.ev f with
  | ag cs =>
    simp only [evOp, hx, fldR]
    cases agg with
    | true => rfl
    | false => cases cs[off]? <;> simp [iteB, cR, ok1]
  | _ => simp [evOp, hx, fldR]
theorem fldR_t (off sz : Nat) (cs : List C) : fldR nx true off sz (.ag cs) = some ⟨.ag ((cs.drop off).take sz), [], [], nx⟩ := rfl
theorem fldR_f (off sz : Nat) (cs : List C) : fldR nx false off sz (.ag cs) = cR nx cs[off]? := rfl
def idxR (agg : Bool) (len sz : Nat) (i : Int) : AV → Option Re
  | .ag cs => if 0 ≤ i ∧ i < (len : Int) then iteB agg (some ⟨.ag ((cs.drop (i.toNat * sz)).take sz), [], [], nx⟩) (cR nx cs[i.toNat * sz]?) else none
  | _ => none
theorem evOp_idx (agg : Bool) (len sz : Nat) (x i : AO) : evOp K dr f h nx (.idx agg len sz x i) = bindO (asInt (i.ev f)) fun q => idxR nx agg len sz q.2 (x.ev f) := by
  show bindO _ _ = _
  congr 1; funext q
  cases hx : x.ev f with
  | ag cs =>
    simp only [idxR]
    split
    · cases agg with
      | true => rfl
      | false => cases cs[q.2.toNat * sz]? <;> simp [iteB, cR, ok1]
    · rfl
  | _ => rfl
theorem idxR_ag (agg : Bool) (len sz : Nat) (i : Int) (cs : List C) : idxR nx agg len sz i (.ag cs) = if 0 ≤ i ∧ i < (len : Int) then iteB agg (some ⟨.ag ((cs.drop (i.toNat * sz)).take sz), [], [], nx⟩) (cR nx cs[i.toNat * sz]?) else none := rfl
def binR (op : BinOp) : AV → AV → Option Re
  | .c (.d (.sc a)), .c (.d (.sc b)) => bindO (evBin op a b) fun v => some ⟨.c (.d (.sc v)), [], [], nx⟩
  | _, _ => none
theorem evOp_bin (op : BinOp) (x y : AO) : evOp K dr f h nx (.bin op x y) = binR nx op (x.ev f) (y.ev f) := rfl
theorem binR_v (op : BinOp) (a b : Value) : binR nx op (.c (.d (.sc a))) (.c (.d (.sc b))) = bindO (evBin op a b) fun v => some ⟨.c (.d (.sc v)), [], [], nx⟩ := rfl
section
variable (k : IntKind) (a b : Int)
theorem bin_add : evBin .add (.int k a) (.int k b) = some (.int k (k.wrap (a + b))) := by simp [evBin]
theorem bin_sub : evBin .sub (.int k a) (.int k b) = some (.int k (k.wrap (a - b))) := by simp [evBin]
theorem bin_mul : evBin .mul (.int k a) (.int k b) = some (.int k (k.wrap (a * b))) := by simp [evBin]
theorem bin_quo : evBin .quo (.int k a) (.int k b) = if b = 0 then none else some (.int k (k.wrap (a.tdiv b))) := by simp [evBin]
theorem bin_rem : evBin .rem (.int k a) (.int k b) = if b = 0 then none else some (.int k (a.tmod b)) := by simp [evBin]
theorem bin_and : evBin .and (.int k a) (.int k b) = some (.int k (k.wrap (BitVec.ofInt k.bits a &&& BitVec.ofInt k.bits b).toNat)) := by simp [evBin]
theorem bin_or : evBin .or (.int k a) (.int k b) = some (.int k (k.wrap (BitVec.ofInt k.bits a ||| BitVec.ofInt k.bits b).toNat)) := by simp [evBin]
theorem bin_xor : evBin .xor (.int k a) (.int k b) = some (.int k (k.wrap (BitVec.ofInt k.bits a ^^^ BitVec.ofInt k.bits b).toNat)) := by simp [evBin]
theorem bin_andNot : evBin .andNot (.int k a) (.int k b) = some (.int k (k.wrap (BitVec.ofInt k.bits a &&& ~~~ BitVec.ofInt k.bits b).toNat)) := by simp [evBin]
theorem bin_eql : evBin .eql (.int k a) (.int k b) = some (.bool (decide (a = b))) := by simp [evBin]
theorem bin_neq : evBin .neq (.int k a) (.int k b) = some (.bool (!decide (a = b))) := by simp [evBin]
theorem bin_lss : evBin .lss (.int k a) (.int k b) = some (.bool (decide (a < b))) := by simp [evBin]
theorem bin_leq : evBin .leq (.int k a) (.int k b) = some (.bool (decide (a ≤ b))) := by simp [evBin]
theorem bin_gtr : evBin .gtr (.int k a) (.int k b) = some (.bool (decide (b < a))) := by simp [evBin]
theorem bin_geq : evBin .geq (.int k a) (.int k b) = some (.bool (decide (b ≤ a))) := by simp [evBin]
theorem bin_shl (k' : IntKind) : evBin .shl (.int k a) (.int k' b) = if 0 ≤ b then some (.int k (k.wrap (a * 2 ^ (min b.toNat k.bits)))) else none := by simp [evBin]
theorem bin_shr (k' : IntKind) : evBin .shr (.int k a) (.int k' b) = if 0 ≤ b then some (.int k (a.fdiv (2 ^ (min b.toNat k.bits)))) else none := by simp [evBin]
theorem bin_seql (s t : ByteArray) : evBin .eql (.string s) (.string t) = some (.bool (decide (s = t))) := rfl
theorem bin_sneq (s t : ByteArray) : evBin .neq (.string s) (.string t) = some (.bool (!decide (s = t))) := rfl
theorem un_not (b : Bool) : evUn .not (.bool b) = some (.bool !b) := rfl
theorem un_neg : evUn .neg (.int k a) = some (.int k (k.wrap (0 - a))) := rfl
theorem un_xor : evUn .xor (.int k a) = some (.int k (k.wrap (BitVec.ofInt k.bits (if k.signed then -1 else k.max) ^^^ BitVec.ofInt k.bits a).toNat)) := rfl
end
def binbR (op : BinOp) : AV → AV → Option Re
  | .c (.d (.sc a)), .c (.d (.sc b)) => bindO (evBinB op a b) fun v => some ⟨.c (.d (.sc v)), [], [], nx⟩
  | _, _ => none
theorem evOp_binb (op : BinOp) (x y : AO) : evOp K dr f h nx (.binb op x y) = binbR nx op (x.ev f) (y.ev f) := rfl
theorem binbR_v (op : BinOp) (a b : Value) : binbR nx op (.c (.d (.sc a))) (.c (.d (.sc b))) = bindO (evBinB op a b) fun v => some ⟨.c (.d (.sc v)), [], [], nx⟩ := rfl
theorem binb_eql (a b : Bool) : evBinB .eql (.bool a) (.bool b) = some (.bool (a == b)) := rfl
theorem binb_neq (a b : Bool) : evBinB .neq (.bool a) (.bool b) = some (.bool (!(a == b))) := rfl
def eqaR (neg : Bool) (ks : List Nat) : AV → AV → Option Re
  | .ag a, .ag b => bindO (eqCells ks (a.map C.toD) (b.map C.toD)) fun q => some ⟨.c (.d (.sc (.bool (iteB neg (!q) q)))), [], [], nx⟩
  | _, _ => none
theorem evOp_eqa (neg : Bool) (ks : List Nat) (x y : AO) : evOp K dr f h nx (.eqa neg ks x y) = eqaR nx neg ks (x.ev f) (y.ev f) := by
  simp only [evOp, eqaR]
  cases x.ev f <;> cases y.ev f <;> try rfl
  cases neg <;> rfl
theorem eqaR_ag (neg : Bool) (ks : List Nat) (a b : List C) : eqaR nx neg ks (.ag a) (.ag b) = bindO (eqCells ks (a.map C.toD) (b.map C.toD)) fun q => some ⟨.c (.d (.sc (.bool (iteB neg (!q) q)))), [], [], nx⟩ := rfl
theorem eqCells_nil : eqCells [] [] [] = some true := rfl
theorem eqCells_cons (k : Nat) (ks : List Nat) (x y : D) (xs ys : List D) : eqCells (k :: ks) (x :: xs) (y :: ys) = bindO (eqCell k x y) fun b => bindO (eqCells ks xs ys) fun b' => some (b && b') := rfl
theorem eqCell_b (a b : Bool) : eqCell 0 (.sc (.bool a)) (.sc (.bool b)) = some (a == b) := rfl
theorem eqCell_i (k : IntKind) (a b : Int) : eqCell 1 (.sc (.int k a)) (.sc (.int k b)) = some (decide (a = b)) := by simp [eqCell]
theorem eqCell_s (a b : ByteArray) : eqCell 2 (.sc (.string a)) (.sc (.string b)) = some (decide (a = b)) := rfl
def unR (op : UnOp) : AV → Option Re
  | .c (.d (.sc a)) => bindO (evUn op a) fun v => some ⟨.c (.d (.sc v)), [], [], nx⟩
  | _ => none
theorem evOp_un (op : UnOp) (x : AO) : evOp K dr f h nx (.un op x) = unR nx op (x.ev f) := rfl
theorem unR_v (op : UnOp) (a : Value) : unR nx op (.c (.d (.sc a))) = bindO (evUn op a) fun v => some ⟨.c (.d (.sc v)), [], [], nx⟩ := rfl
theorem evOp_cvi (k : IntKind) (x : AO) : evOp K dr f h nx (.cvi k x) = bindO (asInt (x.ev f)) fun q => some ⟨.c (.d (.sc (.int k (k.wrap q.2)))), [], [], nx⟩ := rfl
theorem evOp_cvs (x : AO) : evOp K dr f h nx (.cvs x) = bindO (asInt (x.ev f)) fun q => some ⟨.c (.d (.sc (.string (Utf8.encode q.2)))), [], [], nx⟩ := rfl
def sidxR (i : Int) : AV → Option Re
  | .c (.d (.sc (.string s))) => if 0 ≤ i then (match s[i.toNat]? with | some b => some ⟨.c (.d (.sc (.int .u8 b.toNat))), [], [], nx⟩ | none => none) else none
  | _ => none
def loR (f : Fr) : Option AO → Option Int
  | some a => bindO (asInt (a.ev f)) fun q => some q.2
  | none => some 0
def hiR (f : Fr) (n : Nat) : Option AO → Option Int
  | some a => bindO (asInt (a.ev f)) fun q => some q.2
  | none => some n
def slcR (sz : Nat) (l m : Int) : AV → Option Re
  | .c (.d (.sl es)) => if (es.all fun e => e.length == sz) = true then some ⟨.c (.d (.sl ((es.take m.toNat).drop l.toNat))), [], [], nx⟩ else none
  | .c (.gr _ es) => if (es.all fun e => e.length == sz) = true then some ⟨.c (.d (.sl ((es.take m.toNat).drop l.toNat))), [], [], nx⟩ else none
  | .c .nil => some ⟨.c .nil, [], [], nx⟩
  | .ref id off _ => some ⟨.ref id (off + l.toNat * sz) (m - l).toNat, [], [id], nx⟩
  | _ => none
theorem evOp_slc (sz : Nat) (x : AO) (lo hi : Option AO) : evOp K dr f h nx (.slc sz x lo hi) = bindO (loR f lo) fun l => bindO (lenOf h (x.ev f)) fun n => bindO (hiR f n.1 hi) fun m => if 0 ≤ l ∧ l ≤ m ∧ m ≤ (n.1 : Int) then slcR nx sz l m (x.ev f) else none := by
  cases lo <;> cases hi <;> rfl
theorem loR_none : loR f none = some 0 := rfl
theorem loR_some (a : AO) : loR f (some a) = bindO (asInt (a.ev f)) fun q => some q.2 := rfl
theorem hiR_none (n : Nat) : hiR f n none = some (n : Int) := rfl
theorem hiR_some (n : Nat) (a : AO) : hiR f n (some a) = bindO (asInt (a.ev f)) fun q => some q.2 := rfl
theorem slcR_sl (sz : Nat) (l m : Int) (es : List (List D)) : slcR nx sz l m (.c (.d (.sl es))) = if (es.all fun e => e.length == sz) = true then some ⟨.c (.d (.sl ((es.take m.toNat).drop l.toNat))), [], [], nx⟩ else none := rfl
theorem slcR_gr (sz t : Nat) (l m : Int) (es : List (List D)) : slcR nx sz l m (.c (.gr t es)) = if (es.all fun e => e.length == sz) = true then some ⟨.c (.d (.sl ((es.take m.toNat).drop l.toNat))), [], [], nx⟩ else none := rfl
theorem slcR_nil (sz : Nat) (l m : Int) : slcR nx sz l m (.c .nil) = some ⟨.c .nil, [], [], nx⟩ := rfl
theorem slcR_ref (sz id off len : Nat) (l m : Int) : slcR nx sz l m (.ref id off len) = some ⟨.ref id (off + l.toNat * sz) (m - l).toNat, [], [id], nx⟩ := rfl
theorem lenOf_sl (es : List (List D)) : lenOf h (.c (.d (.sl es))) = some (es.length, []) := rfl
theorem lenOf_nil : lenOf h (.c .nil) = some (0, []) := rfl
theorem lenOf_gr (t : Nat) (es : List (List D)) : lenOf h (.c (.gr t es)) = some (es.length, []) := rfl
theorem lenOf_ref (id off len : Nat) : lenOf h (.ref id off len) = if h.has id = true then some (len, [id]) else none := rfl
theorem evOp_mksf (sz bytes : Nat) (zero : List C) (l c : AO) : evOp K dr f h nx (.mks false sz bytes zero l c) = bindO (asInt (l.ev f)) fun n => bindO (asInt (c.ev f)) fun m => if 0 ≤ n.2 ∧ n.2 ≤ m.2 ∧ m.2 * bytes ≤ (maxBytes : Int) ∧ zero.length = sz then some ⟨.c (.gr nx (List.replicate n.2.toNat (zero.map C.toD))), [(nx, some (.tok n.2.toNat sz))], [], nx + 1⟩ else none := rfl
theorem evOp_mkst (sz bytes : Nat) (zero : List C) (l c : AO) : evOp K dr f h nx (.mks true sz bytes zero l c) = bindO (asInt (l.ev f)) fun n => bindO (asInt (c.ev f)) fun m => if 0 ≤ n.2 ∧ n.2 ≤ m.2 ∧ m.2 * bytes ≤ (maxBytes : Int) ∧ zero.length = sz then (if n.2 = m.2 then some ⟨.ref nx 0 n.2.toNat, [(nx, some (.arr (List.replicate n.2.toNat zero).flatten))], [], nx + 1⟩ else none) else none := rfl
def appTR (mu : Bool) (sz bytes t : Nat) (es : List (List D)) (ys : List (List D) × List Nat) : Option Loc → Option Re
  | some (.tok n s) => if es.length = n ∧ (s = sz ∨ s = 0) ∧ (n + ys.1.length) * bytes ≤ maxBytes ∧ (ys.1.all fun e => e.length == sz) = true then
          (if mu then (if n = 0 ∧ s = sz then some ⟨.ref nx 0 ys.1.length, [(t, none), (nx, some (.arr (ys.1.flatten.map C.d)))], t :: ys.2, nx + 1⟩ else none)
           else some ⟨.c (.gr t (es ++ ys.1)), [(t, some (.tok (n + ys.1.length) (if ys.1.isEmpty then s else sz)))], t :: ys.2, nx⟩)
        else none
  | _ => none
def appR (mu : Bool) (sz bytes : Nat) (ys : List (List D) × List Nat) : AV → Option Re
  | .c .nil => if ys.1.length * bytes ≤ maxBytes ∧ (ys.1.all fun e => e.length == sz) = true then
        (if mu then none else some ⟨.c (.gr nx ys.1), [(nx, some (.tok ys.1.length (if ys.1.isEmpty then 0 else sz)))], ys.2, nx + 1⟩) else none
  | .c (.gr t es) => appTR nx mu sz bytes t es ys (h.get t)
  | _ => none
theorem evOp_app (mu : Bool) (sz bytes : Nat) (x y : AO) : evOp K dr f h nx (.app mu sz bytes x y) = bindO (elems h sz (y.ev f)) fun ys => appR h nx mu sz bytes ys (x.ev f) := by
  show bindO _ _ = _
  congr 1
theorem appR_nil (sz bytes : Nat) (ys : List (List D) × List Nat) : appR h nx false sz bytes ys (.c .nil) = if ys.1.length * bytes ≤ maxBytes ∧ (ys.1.all fun e => e.length == sz) = true then some ⟨.c (.gr nx ys.1), [(nx, some (.tok ys.1.length (if ys.1.isEmpty then 0 else sz)))], ys.2, nx + 1⟩ else none := rfl
theorem appR_gr (mu : Bool) (sz bytes t : Nat) (es : List (List D)) (ys : List (List D) × List Nat) : appR h nx mu sz bytes ys (.c (.gr t es)) = appTR nx mu sz bytes t es ys (h.get t) := rfl
theorem appTR_f (sz bytes t n s : Nat) (es : List (List D)) (ys : List (List D) × List Nat) : appTR nx false sz bytes t es ys (some (.tok n s)) = if es.length = n ∧ (s = sz ∨ s = 0) ∧ (n + ys.1.length) * bytes ≤ maxBytes ∧ (ys.1.all fun e => e.length == sz) = true then some ⟨.c (.gr t (es ++ ys.1)), [(t, some (.tok (n + ys.1.length) (if ys.1.isEmpty then s else sz)))], t :: ys.2, nx⟩ else none := rfl
theorem appTR_t (sz bytes t n s : Nat) (es : List (List D)) (ys : List (List D) × List Nat) : appTR nx true sz bytes t es ys (some (.tok n s)) = if es.length = n ∧ (s = sz ∨ s = 0) ∧ (n + ys.1.length) * bytes ≤ maxBytes ∧ (ys.1.all fun e => e.length == sz) = true then (if n = 0 ∧ s = sz then some ⟨.ref nx 0 ys.1.length, [(t, none), (nx, some (.arr (ys.1.flatten.map C.d)))], t :: ys.2, nx + 1⟩ else none) else none := rfl
theorem elems_sl (sz : Nat) (es : List (List D)) : elems h sz (.c (.d (.sl es))) = some (es, []) := rfl
theorem elems_nil (sz : Nat) : elems h sz (.c .nil) = some ([], []) := rfl
theorem elems_gr (sz t : Nat) (es : List (List D)) : elems h sz (.c (.gr t es)) = some (es, []) := rfl
def elemsR (sz id off len : Nat) : Option Loc → Option (List (List D) × List Nat)
  | some (.arr cells) => if off + len * sz ≤ cells.length then some (chunk sz len ((cells.drop off).map C.toD), [id]) else none
  | _ => none
theorem elems_ref (sz id off len : Nat) : elems h sz (.ref id off len) = elemsR sz id off len (h.get id) := by
  simp only [elems, elemsR]
  cases hl : h.get id with
  | none => rfl
  | some l => cases l <;> rfl
theorem elemsR_arr (sz id off len : Nat) (cells : List C) : elemsR sz id off len (some (.arr cells)) = if off + len * sz ≤ cells.length then some (chunk sz len ((cells.drop off).map C.toD), [id]) else none := rfl
def cpyR (id off len : Nat) (ys : List (List D) × List Nat) : Option Loc → Option Re
  | some (.arr cells) => if off + len ≤ cells.length ∧ (ys.1.all fun e => e.length == 1) = true then
          some ⟨.c (.d (.sc (.int .i64 (min ys.1.length len : Nat)))), [(id, some (.arr (cells.take off ++ (ys.1.flatten.take (min ys.1.length len)).map C.d ++ cells.drop (off + min ys.1.length len))))], id :: ys.2, nx⟩
        else none
  | _ => none
def cpyAR (ys : List (List D) × List Nat) : AV → Option Re
  | .ref id off len => cpyR nx id off len ys (h.get id)
  | _ => none
theorem evOp_cpy (x y : AO) : evOp K dr f h nx (.cpy x y) = bindO (elems h 1 (y.ev f)) fun ys => cpyAR h nx ys (x.ev f) := by
  show bindO _ _ = _
  congr 1
theorem cpyAR_ref (ys : List (List D) × List Nat) (id off len : Nat) : cpyAR h nx ys (.ref id off len) = cpyR nx id off len ys (h.get id) := rfl
theorem cpyR_arr (id off len : Nat) (ys : List (List D) × List Nat) (cells : List C) : cpyR nx id off len ys (some (.arr cells)) = if off + len ≤ cells.length ∧ (ys.1.all fun e => e.length == 1) = true then
          some ⟨.c (.d (.sc (.int .i64 (min ys.1.length len : Nat)))), [(id, some (.arr (cells.take off ++ (ys.1.flatten.take (min ys.1.length len)).map C.d ++ cells.drop (off + min ys.1.length len))))], id :: ys.2, nx⟩
        else none := rfl
theorem evOp_len (x : AO) : evOp K dr f h nx (.len x) = bindO (lenOf h (x.ev f)) fun n => some ⟨.c (.d (.sc (.int .i64 n.1))), [], n.2, nx⟩ := rfl
def slenR : AV → Option Re
  | .c (.d (.sc (.string s))) => some ⟨.c (.d (.sc (.int .i64 s.size))), [], [], nx⟩
  | _ => none
theorem evOp_slen (x : AO) : evOp K dr f h nx (.slen x) = slenR nx (x.ev f) := rfl
theorem slenR_s (s : ByteArray) : slenR nx (.c (.d (.sc (.string s)))) = some ⟨.c (.d (.sc (.int .i64 s.size))), [], [], nx⟩ := rfl
theorem evOp_mx (x y : AO) : evOp K dr f h nx (.mx x y) = bindO (asInt (x.ev f)) fun a => bindO (asInt (y.ev f)) fun b => if a.1 = b.1 then some ⟨.c (.d (.sc (.int a.1 (if a.2 < b.2 then b.2 else a.2)))), [], [], nx⟩ else none := rfl
theorem evOp_mn (x y : AO) : evOp K dr f h nx (.mn x y) = bindO (asInt (x.ev f)) fun a => bindO (asInt (y.ev f)) fun b => if a.1 = b.1 then some ⟨.c (.d (.sc (.int a.1 (if b.2 < a.2 then b.2 else a.2)))), [], [], nx⟩ else none := rfl
def extR (i : Nat) : AV → Option Re
  | .tu xs => match xs[i]? with | some p => some ⟨p.toAV, [], [], nx⟩ | none => none
  | _ => none
def extPR : Option PV → Option Re
  | some p => some ⟨p.toAV, [], [], nx⟩
  | none => none
theorem evOp_ext (x : AO) (i : Nat) : evOp K dr f h nx (.ext x i) = extR nx i (x.ev f) := rfl
theorem extR_tu (i : Nat) (xs : List PV) : extR nx i (.tu xs) = extPR nx xs[i]? := by
  simp only [extR]
  cases xs[i]? <;> rfl
theorem extPR_some (p : PV) : extPR nx (some p) = some ⟨p.toAV, [], [], nx⟩ := rfl
def callAR (g : Nat) (a : List PV × List Nat) : Option (List PV) → Option Re
  | some r => if (a.2.isEmpty || r.all PV.flat) = true then some ⟨outAV r, [], a.2, nx⟩
    else some ⟨outAV r, a.2.map (·, none), a.2, nx⟩
  | none => none
def callR1 (g : Nat) : Option (List PV × List Nat) → Option Re
  | some a => callAR nx g a (K.call g a.1)
  | none => none
theorem doCall_eq (g : Nat) (args : List (Nat × AO)) : doCall K dr f h nx g args = callR1 K nx g (toPVs h f args) := by
  simp only [doCall]
  cases ha : toPVs h f args with
  | none => rfl
  | some a => simp only [bindO, callR1]; cases K.call g a.1 <;> rfl
theorem evOp_call (g : Nat) (args : List (Nat × AO)) : evOp K dr f h nx (.call g args) = callR1 K nx g (toPVs h f args) := doCall_eq K dr f h nx g args
def callvR (args : List (Nat × AO)) : Option Nat → Option Re
  | some g => callR1 K nx g (toPVs h f args)
  | none => none
theorem evOp_callv (x : AO) (args : List (Nat × AO)) : evOp K dr f h nx (.callv x args) = callvR K f h nx args (funcOf (x.ev f)) := by
  show bindO _ _ = _
  cases funcOf (x.ev f) with
  | none => rfl
  | some g => exact doCall_eq K dr f h nx g args
theorem callR1_some (g : Nat) (ps : List PV) (ids : List Nat) : callR1 K nx g (some (ps, ids)) = callAR nx g (ps, ids) (K.call g ps) := rfl
theorem callAR_nil (g : Nat) (ps r : List PV) : callAR nx g (ps, []) (some r) = some ⟨outAV r, [], [], nx⟩ := by simp [callAR]
theorem callAR_ids (g : Nat) (ps r : List PV) (ids : List Nat) : callAR nx g (ps, ids) (some r) = if (ids.isEmpty || r.all PV.flat) = true then some ⟨outAV r, [], ids, nx⟩
    else some ⟨outAV r, ids.map (·, none), ids, nx⟩ := rfl
theorem toPVs_nil : toPVs h f [] = some ([], []) := rfl
def pvR (q : Option (PV × List Nat)) (r : Option (List PV × List Nat)) : Option (List PV × List Nat) := bindO q fun a => bindO r fun b => some (a.1 :: b.1, a.2 ++ b.2)
theorem toPVs_cons (sz : Nat) (x : AO) (r : List (Nat × AO)) : toPVs h f ((sz, x) :: r) = pvR (toPV h sz (x.ev f)) (toPVs h f r) := rfl
theorem pvR_some (a : PV) (i : List Nat) (b : List PV) (j : List Nat) : pvR (some (a, i)) (some (b, j)) = some (a :: b, i ++ j) := rfl
theorem toPV_c (sz : Nat) (x : C) : toPV h sz (.c x) = some (.one x.toD, []) := rfl
theorem toPV_ag (sz : Nat) (cs : List C) : toPV h sz (.ag cs) = some (.agg (cs.map C.toD), []) := rfl
theorem toPV_ref (sz id off len : Nat) : toPV h sz (.ref id off len) = bindO (elems h sz (.ref id off len)) fun e => some (.one (.sl e.1), e.2) := rfl
theorem outAV_one (x : PV) : outAV [x] = x.toAV := rfl
theorem outAV_nil : outAV [] = .tu [] := rfl
theorem outAV_two (x y : PV) (r : List PV) : outAV (x :: y :: r) = .tu (x :: y :: r) := rfl
theorem resAll_nil : resAll f h [] = some [] := rfl
def resR (a : Option PV) (b : Option (List PV)) : Option (List PV) := bindO a fun a => bindO b fun b => some (a :: b)
theorem resR_some (a : PV) (b : List PV) : resR (some a) (some b) = some (a :: b) := rfl
theorem resAll_cons (r : ARes) (rs : List ARes) : resAll f h (r :: rs) = resR (resOne f h r) (resAll f h rs) := rfl
theorem resOne_t (s esz : Nat) : resOne f h (.t s esz) = bindO (toPV h esz (f.get s)) fun a => some a.1 := rfl
end
end Go.Proofs.Ytpanbfainilmpaa.Ev
