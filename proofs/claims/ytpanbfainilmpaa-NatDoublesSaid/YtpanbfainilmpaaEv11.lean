/- copy; structs compared. -/
import Derived.Test.YtpanbfainilmpaaEv10
set_option linter.unusedVariables false
set_option linter.unusedSimpArgs false
namespace Go.Proofs.Ytpanbfainilmpaa.Ev

section
variable {P : Program} {o : Oper} {a : Act} {w : World} {g : Gh} {H : HF} {f : Fr} {h : Hp} {nx : Nat} {K : Or} {draw : Bool}

theorem run_copy_zero {t u ty e : TypeId} {info : TypeInfo} (ht : P.underlying t = some (.slice e)) (hi : P.info? e = some info) {b p : Option Addr} {n cap m c : Nat} (h : min m n = 0) :
    (Builtin.copy_ #[t, u] ty #[.slice b n cap, .slice p m c]).run P w = .ok (goInt 0) w := by
  have h' : Nat.min m n = 0 := h
  cases p <;> cases b <;> simp [Builtin.copy_, run_underlying ht, sizeOf, typeInfo, hi, Builtin.lenOf, h', h, Builtin.firstCells, loadCells, loadCellsFrom, storeCells]

theorem op_cpy (hi : HI w g H) {c : Call} {t u e : TypeId} {x y : Operand} {x' y' : AO} (ho : o.op = .call c) (hc : c.callee = .builtin .copy) (ha : c.args = #[x, y]) (hty : c.argTypes = #[t, u]) (ht : elemT P t = some e)
    (h0 : szOf P e = 1) (h1 : compA x = some x') (h2 : compA y = some y')
    (hf : FRu w g H f a (x'.us ++ y'.us)) {re : Re} (hre : evOp K draw f h nx (.cpy x' y') = some re) (hrd : ∀ id ∈ re.r, H id = h.get id) : OpOk P o a w g H nx re := by
  obtain ⟨info, q1, hsz⟩ := sz_info (P := P) (t := e) (by omega)
  have e1 := compA_ok h1 (hf.sub fun s hs => by simp [hs])
  have e2 := compA_ok h2 (hf.sub fun s hs => by simp [hs])
  have hexec : ∀ v' w', (Builtin.copy_ #[t, u] o.type #[a.eval x, a.eval y]).run P w = .ok v' w' → (execOp a.eval o).run P w = .ok (.value v') w' := by
    intro v' w' hrun
    simp [execOp, ho, hc, ha, hty, resolve, invoke, builtin, hrun]
  simp only [evOp, bindO_eq] at hre
  obtain ⟨ys, hys, hre⟩ := hre
  split at hre
  · rename_i id off len hx
    split at hre
    · rename_i cells hcells
      split at hre
      case isFalse => cases hre
      rename_i hcond
      cases hre
      simp only at hrd
      have hysz : ∀ x ∈ ys.1, x.length = 1 := fun x hx => by simpa using List.all_eq_true.1 hcond.2 x hx
      obtain ⟨p, cc, e3, hlc, us, u1, u2, u3, u4⟩ := elems_val hi (by omega) hys e2 (fun id hid => hrd id (List.mem_cons_of_mem _ hid)) hysz
      have hH : H id = some (.arr cells) := (hrd id (by simp)).trans hcells
      rw [hx] at e1
      obtain ⟨b, cap, e4, hcap, hb⟩ := e1 cells hH
      rcases Nat.eq_zero_or_pos (min ys.1.length len) with hz | hz
      · have hrun := run_copy_zero (P := P) (w := w) (u := u) (ty := o.type) (elemT_und ht) q1 (b := b) (p := p) (n := len) (cap := cap) (m := ys.1.length) (c := cc) hz
        have hsame : fup H id (some (.arr cells)) = H := by
          funext i
          by_cases hit : i = id
          · subst hit; rw [fup_same, hH]
          · rw [fup_ne hit]
        refine ⟨goInt 0, w, g, .inl (hexec _ _ (by rw [e4, e3]; exact hrun)), ?_, ?_, ?_⟩
        all_goals simp only [hz, updF, Nat.add_zero, List.take_zero, List.map_nil, List.append_nil, List.take_append_drop, hsame]
        · exact hi
        · rw [bn_self]; exact Stp.refl w g H
        · exact DR.sc rfl
      · have hlen : 0 < len := by omega
        have hyl : 0 < ys.1.length := by omega
        have hb' := hb hlen
        subst hb'
        obtain ⟨ad, rfl, hcell⟩ := u3 hyl
        obtain ⟨cur, e', k1, k2, k3, k4⟩ := hi.arr id cells hH
        have hul : us.length = ys.1.length := by rw [u1, Nat.mul_one]
        have htl : (us.take (min ys.1.length len)).length = min ys.1.length len := by rw [List.length_take, hul]; omega
        have hfl : ys.1.flatten.length = ys.1.length := by rw [flatten_len hysz, Nat.mul_one]
        have hl2 : ((ys.1.flatten.take (min ys.1.length len)).map C.d).length = min ys.1.length len := by rw [List.length_map, List.length_take, hfl]; omega
        have hrun := run_copy_row (P := P) w t u o.type e (g.β id) off len cap ad ys.1.length cc cur e' (us.take (min ys.1.length len)) (elemT_und ht) (by rw [q1]; simp [hsz, h0]) k1 (by rw [htl])
          (fun j v hv => by
            rw [List.getElem?_take] at hv
            split at hv
            · exact hcell j v hv
            · cases hv) (by rw [htl]; omega) (fun v hv => u2 v (List.mem_of_mem_take hv))
        rw [htl] at hrun
        have hcl : (cells.take off ++ (ys.1.flatten.take (min ys.1.length len)).map C.d ++ cells.drop (off + min ys.1.length len)).length = cells.length := by
          have := seg_length (off := off) (l := (ys.1.flatten.take (min ys.1.length len)).map C.d) (cs := cells) (by rw [hl2]; omega)
          simp only [seg, hl2] at this
          exact this
        have hcur : ∀ k, (cur.toList.take off ++ us.take (min ys.1.length len) ++ cur.toList.drop (off + min ys.1.length len))[k]? = if off ≤ k ∧ k < off + min ys.1.length len then (us.take (min ys.1.length len))[k - off]? else cur.toList[k]? := by
          intro k
          have := seg_get (off := off) (l := us.take (min ys.1.length len)) (cs := cur.toList) (by rw [htl]; simp; omega) k
          simp only [seg, htl] at this
          exact this
        have hcls : ∀ k, (cells.take off ++ (ys.1.flatten.take (min ys.1.length len)).map C.d ++ cells.drop (off + min ys.1.length len))[k]? = if off ≤ k ∧ k < off + min ys.1.length len then ((ys.1.flatten.take (min ys.1.length len)).map C.d)[k - off]? else cells[k]? := by
          intro k
          have := seg_get (off := off) (l := (ys.1.flatten.take (min ys.1.length len)).map C.d) (cs := cells) (by rw [hl2]; omega) k
          simp only [seg, hl2] at this
          exact this
        obtain ⟨r1, r2⟩ := storeArr hi hH k1 (cells2 := cells.take off ++ (ys.1.flatten.take (min ys.1.length len)).map C.d ++ cells.drop (off + min ys.1.length len)) (cur2 := (cur.toList.take off ++ us.take (min ys.1.length len) ++ cur.toList.drop (off + min ys.1.length len)).toArray) hcl
          (by rw [hcl]; simp [htl]; omega) (fun i cx hcx => by
            rw [hcls] at hcx
            simp only [List.getElem?_toArray]
            rw [hcur]
            split at hcx
            · rename_i hin
              rw [if_pos hin]
              rw [List.getElem?_map] at hcx
              obtain ⟨d, hd, rfl⟩ := Option.map_eq_some_iff.1 hcx
              rw [List.getElem?_take, if_pos (by omega)] at hd
              rw [List.getElem?_take, if_pos (by omega)]
              have hfg := flatten_get hysz (i - off) 0 (by omega)
              rw [Nat.mul_one, Nat.add_zero, hd] at hfg
              obtain ⟨row, hrow, hd'⟩ := Option.bind_eq_some_iff.1 hfg.symm
              obtain ⟨v, hv, hdv⟩ := u4 _ row _ d hrow hd'
              rw [Nat.mul_one, Nat.add_zero] at hv
              exact ⟨v, hv, hdv⟩
            · rename_i hin
              rw [if_neg hin]
              obtain ⟨v, hv, hd⟩ := k3 i cx hcx
              exact ⟨v, by rw [Array.getElem?_toList]; exact hv, hd⟩)
        refine ⟨_, _, g, .inl (hexec _ _ (by rw [e4, e3]; exact hrun)), r1, by rw [bn_self]; exact r2, DR.sc rfl⟩
    · cases hre
  · cases hre

/-- A value of a type, by its cells. -/
def Val (P : Program) (w : World) (g : Gh) (t : TypeId) (xs : List D) (v : Value) : Prop :=
  (isAggT P t = true ∧ ∃ vs : List Value, v = .agg vs.toArray ∧ RelL (DR w g.S) xs vs) ∨ (isAggT P t = false ∧ ∃ x, xs = [x] ∧ DR w g.S x v)

theorem eqCells_app : ∀ {k a c m b d : _} {q : Bool}, k.length = a.length → a.length = c.length → eqCells (k ++ m) (a ++ b) (c ++ d) = some q → ∃ q1 q2, eqCells k a c = some q1 ∧ eqCells m b d = some q2 ∧ q = (q1 && q2)
  | [], [], [], m, b, d, q, _, _, h => ⟨true, q, rfl, h, by simp⟩
  | k :: ks, x :: a, y :: c, m, b, d, q, hk, hl, h => by
    simp only [List.cons_append, eqCells, bindO_eq] at h
    obtain ⟨q0, h0, q1, h1, he⟩ := h
    obtain ⟨r1, r2, k1, k2, rfl⟩ := eqCells_app (by simpa using hk) (by simpa using hl) h1
    cases he
    refine ⟨q0 && r1, r2, ?_, k2, by rw [Bool.and_assoc]⟩
    simp only [eqCells, bindO_eq]
    exact ⟨q0, h0, r1, k1, rfl⟩

theorem decide_bytes (a b : ByteArray) : (a.toList == b.toList) = decide (a = b) := by
  rw [← beq_toListBytes]
  cases a with | mk x => cases b with | mk y =>
  show (x == y) = _
  by_cases h : x = y
  · subst h; simp
  · have : ¬ (⟨x⟩ : ByteArray) = ⟨y⟩ := fun he => h (by injection he)
    simp [h, this]

theorem eqFields_ok {n d D' : Nat} {xs ys : List D} {vs us : List Value} (hr : RelL (DR w g.S) xs vs) (hs : RelL (DR w g.S) ys us)
    (ih : ∀ t ks, kindsT P d t = some ks → ∀ a b va vb q, Val P w g t a va → Val P w g t b vb → a.length = szOf P t → b.length = szOf P t → eqCells ks a b = some q → (Op.equalIn D' t va vb).run P w = .ok q w)
    (hinfo : ∀ t ks, kindsT P d t = some ks → 0 < szOf P t ∧ (∃ d, P.underlying t = some d) ∧ (isAggT P t = false → szOf P t = 1)) (hxl : xs.length = n) (hyl : ys.length = n) :
    ∀ (fs : List Field) (off : Nat) (ks : List Nat) (q : Bool), kindsFs P (kindsT P d) n off fs = some ks → off ≤ n → eqCells ks (xs.drop off) (ys.drop off) = some q → (Op.eqFields D' vs.toArray us.toArray fs).run P w = .ok q w
  | [], off, ks, q, hf, hle, he => by
    simp only [kindsFs] at hf
    split at hf
    case isFalse => cases hf
    cases hf
    subst_vars
    rw [List.drop_eq_nil_of_le (by omega), List.drop_eq_nil_of_le (by omega)] at he
    cases he
    simp [Op.eqFields]
  | fd :: fs, off, ks, q, hf, hle, he => by
    simp only [kindsFs] at hf
    split at hf
    case isFalse => cases hf
    rename_i hcond
    simp only [bne_iff_ne] at hcond
    obtain ⟨f1, f2⟩ := hcond
    simp only [bindO_eq] at hf
    obtain ⟨k1s, f3, hf⟩ := hf
    split at hf
    case isFalse => cases hf
    rename_i hkl
    simp only [bindO_eq] at hf
    obtain ⟨k2s, f4, hf⟩ := hf
    cases hf
    obtain ⟨k0, k1, k2⟩ := hinfo _ _ f3
    have hoff : ∀ (fs : List Field) (o : Nat) (ks : List Nat), kindsFs P (kindsT P d) n o fs = some ks → o ≤ n := by
      intro fs
      induction fs with
      | nil => intro o ks h; simp only [kindsFs] at h; split at h; · omega
               · cases h
      | cons f r ih' =>
        intro o ks h
        simp only [kindsFs] at h
        split at h
        case isFalse => cases h
        simp only [bindO_eq] at h
        obtain ⟨_, _, h⟩ := h
        split at h
        case isFalse => cases h
        simp only [bindO_eq] at h
        obtain ⟨_, h, _⟩ := h
        have := ih' _ _ h
        omega
    have hle2 := hoff fs _ _ f4
    rw [← List.take_append_drop (szOf P fd.type) (xs.drop off), ← List.take_append_drop (szOf P fd.type) (ys.drop off), List.drop_drop, List.drop_drop] at he
    have l1 : ((xs.drop off).take (szOf P fd.type)).length = szOf P fd.type := by simp; omega
    have l2 : ((ys.drop off).take (szOf P fd.type)).length = szOf P fd.type := by simp; omega
    obtain ⟨q1, q2, e1, e2, rfl⟩ := eqCells_app (hkl.trans l1.symm) (l1.trans l2.symm) he
    have val : ∀ {xs : List D} {vs : List Value}, xs.length = n → RelL (DR w g.S) xs vs → ∃ v, (part fd.type vs.toArray off).run P w = .ok v w ∧ Val P w g fd.type ((xs.drop off).take (szOf P fd.type)) v := by
      intro xs vs hx hr
      cases hagg : isAggT P fd.type with
      | true =>
        obtain ⟨info, hinf, _⟩ := sz_info k0
        exact ⟨_, part_run hagg ⟨info, hinf⟩, .inl ⟨hagg, _, rfl, (hr.drop off).take _⟩⟩
      | false =>
        have hlt : off < xs.length := by omega
        obtain ⟨v, hv, hd⟩ := hr.get (List.getElem?_eq_getElem hlt)
        refine ⟨v, part_run1 hagg k1 hv, .inr ⟨hagg, xs[off], ?_, hd⟩⟩
        rw [k2 hagg, List.drop_eq_getElem_cons hlt]
        rfl
    obtain ⟨v1, p1, val1⟩ := val hxl hr
    obtain ⟨v2, p2, val2⟩ := val hyl hs
    have hrun := ih _ _ f3 _ _ _ _ q1 val1 val2 l1 l2 e1
    have hrest := eqFields_ok hr hs ih hinfo hxl hyl fs _ _ q2 f4 hle2 e2
    simp only [Op.eqFields, f2]
    simp only [ne_eq, f1, not_false_eq_true, if_true, Sem.run_bind, p1, p2, hrun, Result.andThen_ok]
    cases q1
    · simp
    · simp [hrest]

theorem kinds_info : ∀ (d : Nat) (t : TypeId) (ks : List Nat), kindsT P d t = some ks → 0 < szOf P t ∧ (∃ d, P.underlying t = some d) ∧ (isAggT P t = false → szOf P t = 1)
  | 0, t, ks, h => by simp [kindsT] at h
  | d + 1, t, ks, h => by
    unfold kindsT at h
    split at h
    · rename_i hu; split at h; · exact ⟨by omega, ⟨_, hu⟩, fun _ => by assumption⟩
      · cases h
    · rename_i hu; split at h; · exact ⟨by omega, ⟨_, hu⟩, fun _ => by assumption⟩
      · cases h
    · rename_i hu; split at h; · exact ⟨by omega, ⟨_, hu⟩, fun _ => by assumption⟩
      · cases h
    · rename_i fs hu
      split at h
      · rename_i hc
        exact ⟨hc.2, ⟨_, hu⟩, fun ha => by simp [isAggT, hu] at ha⟩
      · cases h
    · cases h

theorem eqCell_one {k : Nat} {a b : List D} {q : Bool} (h : eqCells [k] a b = some q) : ∃ x y, a = [x] ∧ b = [y] ∧ eqCell k x y = some q := by
  cases a with
  | nil => simp [eqCells] at h
  | cons x a => cases b with
    | nil => simp [eqCells] at h
    | cons y b =>
      simp only [eqCells, bindO_eq] at h
      obtain ⟨q0, h0, q1, h1, he⟩ := h
      cases a <;> cases b <;> simp [eqCells] at h1
      subst h1
      cases he
      exact ⟨_, _, rfl, rfl, by simpa using h0⟩

theorem equal_ok : ∀ (d D' : Nat), d ≤ D' → ∀ t ks, kindsT P d t = some ks → ∀ a b va vb q, Val P w g t a va → Val P w g t b vb → a.length = szOf P t → b.length = szOf P t → eqCells ks a b = some q → (Op.equalIn D' t va vb).run P w = .ok q w
  | 0, _, _, t, ks, h => by simp [kindsT] at h
  | d + 1, 0, hd, t, ks, h => by omega
  | d + 1, D' + 1, hd, t, ks, h => by
    intro a b va vb q ha hb hal hbl he
    have scal : ∀ (k : Nat), isAggT P t = false → ks = [k] → ∃ x y, DR w g.S x va ∧ DR w g.S y vb ∧ eqCell k x y = some q := by
      intro k hagg hk
      subst hk
      obtain ⟨x, y, rfl, rfl, he2⟩ := eqCell_one he
      rcases ha with ⟨h1, _⟩ | ⟨_, x', hx, hxd⟩
      · rw [hagg] at h1; cases h1
      rcases hb with ⟨h1, _⟩ | ⟨_, y', hy, hyd⟩
      · rw [hagg] at h1; cases h1
      cases hx; cases hy
      exact ⟨x, y, hxd, hyd, he2⟩
    unfold kindsT at h
    split at h
    · rename_i hu
      split at h
      case isFalse => cases h
      cases h
      obtain ⟨x, y, hx, hy, he⟩ := scal 0 (by simp [isAggT, hu]) rfl
      unfold eqCell at he
      split at he
      · cases he; cases hx; cases hy; exact run_equalIn_bool' w D' t _ _ hu
      · omega
      · omega
      · cases he
    · rename_i hu
      split at h
      case isFalse => cases h
      cases h
      obtain ⟨x, y, hx, hy, he⟩ := scal 1 (by simp [isAggT, hu]) rfl
      unfold eqCell at he
      split at he
      · omega
      · split at he
        · rename_i hk
          subst hk
          cases he; cases hx; cases hy
          exact run_equalIn_int w D' t _ _ _ _ hu
        · cases he
      · omega
      · cases he
    · rename_i hu
      split at h
      case isFalse => cases h
      cases h
      obtain ⟨x, y, hx, hy, he⟩ := scal 2 (by simp [isAggT, hu]) rfl
      unfold eqCell at he
      split at he
      · omega
      · omega
      · cases he; cases hx; cases hy
        rw [run_equalIn_string w D' t _ _ hu, decide_bytes]
      · cases he
    · rename_i fs hu
      split at h
      case isFalse => cases h
      rename_i hc
      have hfs : P.fieldsOf t = fs := by simp [Program.fieldsOf, hu]
      have hagg : isAggT P t = true := by simp [isAggT, hu]
      rcases ha with ⟨_, vs, rfl, hr⟩ | ⟨h1, _⟩
      case inr => rw [hagg] at h1; cases h1
      rcases hb with ⟨_, us, rfl, hs⟩ | ⟨h1, _⟩
      case inr => rw [hagg] at h1; cases h1
      rw [run_equalIn_struct w D' t _ _ (by rw [hfs]; exact hu) hc.1, hfs]
      exact eqFields_ok hr hs (fun t ks h => equal_ok d D' (by omega) t ks h) (kinds_info d) hal hbl fs.toList 0 ks q h (Nat.zero_le _) (by simpa using he)
    · cases h

theorem op_eqa (hi : HI w g H) {op : BinOp} {t : TypeId} {x y : Operand} {x' y' : AO} {neg : Bool} {fs : Array Field} {sy : _} {ks : List Nat} (ho : o.op = .binOp op t x y sy) (hop : (op = .eql ∧ neg = false) ∨ (op = .neq ∧ neg = true)) (hu : P.underlying t = some (.struct fs)) (hm : P.eqGuardType P.depth t = false) (hk : kindsT P 10 t = some ks)
    (h1 : compA x = some x') (h2 : compA y = some y') (hf : FRu w g H f a (x'.us ++ y'.us)) {re : Re} (hre : evOp K draw f h nx (.eqa neg ks x' y') = some re) : OpOk P o a w g H nx re := by
  have e1 := compA_ok h1 (hf.sub fun s hs => by simp [hs])
  have e2 := compA_ok h2 (hf.sub fun s hs => by simp [hs])
  simp only [evOp] at hre
  split at hre
  · rename_i as bs hx hy
    simp only [bindO_eq] at hre
    obtain ⟨q, hq, hre⟩ := hre
    have := ok1_eq hre
    subst this
    rw [hx] at e1
    rw [hy] at e2
    obtain ⟨vs, hvs, hr⟩ := e1
    obtain ⟨us, hus, hs⟩ := e2
    have hagg : isAggT P t = true := by simp [isAggT, hu]
    have hlen : ∀ {ks : List Nat} {a b : List D} {q : Bool}, eqCells ks a b = some q → a.length = ks.length ∧ b.length = ks.length := by
      intro ks
      induction ks with
      | nil => intro a b q h; cases a <;> cases b <;> simp_all [eqCells]
      | cons k ks ih =>
        intro a b q h
        cases a <;> cases b <;> simp only [eqCells, bindO_eq] at h
        · cases h
        · cases h
        · cases h
        · obtain ⟨_, _, _, h, _⟩ := h
          obtain ⟨h1, h2⟩ := ih h
          simp [h1, h2]
    have hkl : ks.length = szOf P t := by
      have : ∀ (n : Nat) (fs : List Field) (off : Nat) (ks : List Nat), kindsFs P (kindsT P 9) n off fs = some ks → off + ks.length = n := by
        intro n fs
        induction fs with
        | nil => intro off ks h; simp only [kindsFs] at h; split at h
                 · cases h; simpa
                 · cases h
        | cons f r ih =>
          intro off ks h
          simp only [kindsFs] at h
          split at h
          case isFalse => cases h
          simp only [bindO_eq] at h
          obtain ⟨k1, _, h⟩ := h
          split at h
          case isFalse => cases h
          simp only [bindO_eq] at h
          obtain ⟨k2, h, he⟩ := h
          cases he
          have := ih _ _ h
          simp
          omega
      unfold kindsT at hk
      rw [hu] at hk
      simp only at hk
      split at hk
      · have := this _ _ _ _ hk; omega
      · cases hk
    obtain ⟨l1, l2⟩ := hlen hq
    have hrun := equal_ok (P := P) (w := w) (g := g) 10 10000 (by omega) t ks hk (as.map C.toD) (bs.map C.toD) (.agg vs.toArray) (.agg us.toArray) q
      (.inl ⟨hagg, vs, rfl, RelL.map (hr.imp fun x _ v h => CR.toD h)⟩) (.inl ⟨hagg, us, rfl, RelL.map (hs.imp fun x _ v h => CR.toD h)⟩) (by omega) (by omega) hq
    have hguard := run_eqGuard_agg (P := P) w op t x y vs.toArray us.toArray hm
    refine OpOk.pure hi (v := .bool (if neg then !q else q)) ?_ (DR.sc rfl)
    rcases hop with ⟨rfl, rfl⟩ | ⟨rfl, rfl⟩
    · simp [execOp, ho, hvs, hus, hguard, run_eql_struct, hrun]
    · simp [execOp, ho, hvs, hus, hguard, run_neq_struct, hrun]
  · cases hre
end
end Go.Proofs.Ytpanbfainilmpaa.Ev
