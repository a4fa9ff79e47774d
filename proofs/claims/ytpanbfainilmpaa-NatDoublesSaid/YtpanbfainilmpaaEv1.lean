/- From the program's code to the evaluator's: types become sizes and offsets. -/
import Derived.Test.YtpanbfainilmpaaEv0
set_option linter.unusedVariables false
set_option linter.unusedSimpArgs false
namespace Go.Proofs.Ytpanbfainilmpaa.Ev

section
variable (P : Program)

def szOf (t : TypeId) : Nat := match P.info? t with | some i => i.size | none => 0
def byOf (t : TypeId) : Nat := match P.info? t with | some i => i.bytes | none => 0
def isAggT (t : TypeId) : Bool := match P.underlying t with | some (.struct _) => true | some (.array _ _) => true | _ => false
def elemT (t : TypeId) : Option TypeId := match P.underlying t with | some (.slice e) => some e | _ => none
def esz (t : TypeId) : Nat := match elemT P t with | some e => szOf P e | none => 1

/-- A scalar that may lie in one cell. -/
def plainV : Value → Bool
  | .bool _ | .int _ _ | .string _ => true
  | .func (.func _) fs cs => fs.isEmpty && cs.isEmpty
  | .nilFunc => true
  | _ => false
def cellC : Value → Option C
  | .slice none 0 0 => some .nil
  | .bool b => some (.d (.sc (.bool b)))
  | .int k n => some (.d (.sc (.int k n)))
  | .string s => some (.d (.sc (.string s)))
  | .nilFunc => some (.d (.sc .nilFunc))
  | _ => none
def cellsC : List Value → Option (List C)
  | [] => some []
  | v :: r => bindO (cellC v) fun x => bindO (cellsC r) fun xs => some (x :: xs)
def zeroC (t : TypeId) : Option (List C) := bindO (P.info? t) fun i => bindO i.zero fun z => cellsC z.cells.toList

def compA : Operand → Option AO
  | .tmp t => some (.t t)
  | .const v => bindO (cellC v) fun x => some (.k x)
  | .func f => some (.k (.d (.sc (.func (.func f) #[] #[]))))
  | .global _ => none
def compO (x : Option Operand) : Option (Option AO) :=
  match x with
  | none => some none
  | some y => bindO (compA y) fun a => some (some a)

def place1 (t : TypeId) (i : Nat) : Option (Nat × Nat) :=
  match P.underlying t with
  | some (.struct fs) => bindO (fs.toList.mapM fun f => (P.info? f.type).map fun i => (f.offset, i.size)) fun ps => ps[i]?
  | some (.array _ e) => bindO (P.info? e) fun ie => some (i * ie.size, ie.size)
  | _ => none
def placeOk (t : TypeId) : Bool :=
  match P.underlying t with
  | some (.struct fs) => (fs.toList.mapM fun f => (P.info? f.type).map fun i => (f.offset, i.size)).isSome
  | some (.array _ e) => (P.info? e).isSome
  | _ => false
def compParts (t : TypeId) : List (Nat × Operand) → Option (List (Nat × Nat × AO))
  | [] => some []
  | (i, x) :: r => bindO (place1 P t i) fun p => bindO (compA x) fun a => bindO (compParts t r) fun ps => some ((p.1, p.2, a) :: ps)
def compParts2 : List (Nat × Operand) → Option (List (Nat × AO))
  | [] => some []
  | (i, x) :: r => bindO (compA x) fun a => bindO (compParts2 r) fun ps => some ((i, a) :: ps)
def compArgs : List Operand → List TypeId → Option (List (Nat × AO))
  | [], _ => some []
  | x :: r, ts => bindO (compA x) fun a => bindO (compArgs r ts.tail) fun ps => some ((match ts with | t :: _ => esz P t | [] => 1, a) :: ps)
def compArgs1 : List Operand → Option (List AO)
  | [] => some []
  | x :: r => bindO (compA x) fun a => bindO (compArgs1 r) fun ps => some (a :: ps)

/-- Structs whose == is that of their cells, one by one: the kinds of the cells. -/
def kindsFs (F : TypeId → Option (List Nat)) (n : Nat) : Nat → List Field → Option (List Nat)
  | off, [] => if off = n then some [] else none
  | off, f :: r => if (f.name != "_") = true ∧ f.offset = off then bindO (F f.type) fun a => if a.length = szOf P f.type then bindO (kindsFs F n (off + szOf P f.type) r) fun b => some (a ++ b) else none else none
def kindsT : Nat → TypeId → Option (List Nat)
  | 0, _ => none
  | d + 1, t => match P.underlying t with
    | some .bool => if szOf P t = 1 then some [0] else none
    | some (.int _) => if szOf P t = 1 then some [1] else none
    | some .string => if szOf P t = 1 then some [2] else none
    | some (.struct fs) => if P.stoodInHeld t = false ∧ 0 < szOf P t then kindsFs P (kindsT d) (szOf P t) 0 fs.toList else none
    | _ => none

def compOp? (inl : Nat → Bool) (o : Oper) : Option AOp :=
  match o.op with
  | .move x => bindO (compA x) fun a => some (.mv a)
  | .assign x => bindO (compA x) fun a => some (.asg a)
  | .pick c a b => bindO (compA c) fun c => bindO (compA a) fun a => bindO (compA b) fun b => some (.pick c a b)
  | .alloc t => bindO (zeroC P t) fun z => some (.alloc z)
  | .box _ x => bindO (compA x) fun a => some (.box a)
  | .build t ps => if placeOk P t = true then bindO (zeroC P t) fun z => bindO (compParts P t ps.toList) fun ps => some (.build z ps) else none
  | .buildSlice t n ps => bindO (elemT P t) fun e => bindO (zeroC P e) fun z => bindO (compParts2 ps.toList) fun ps =>
      if z.length = szOf P e ∧ 0 < szOf P e ∧ n * szOf P e ≤ 2 ^ 24 then some (.bsl false (szOf P e) n z ps) else none
  | .load t a => bindO (compA a) fun a => if 0 < szOf P t ∧ (P.underlying t).isSome = true ∧ (isAggT P t = true ∨ szOf P t = 1) then some (.ld (isAggT P t) (szOf P t) a) else none
  | .store t a x => bindO (compA a) fun a => bindO (compA x) fun x => if 0 < szOf P t then some (.st (szOf P t) a x) else none
  | .fieldAddr t x i => bindO (compA x) fun a => match P.underlying t with
      | some (.struct fs) => bindO fs[i]? fun f => if 0 < szOf P f.type then some (.fad f.offset a) else none
      | _ => none
  | .indexAddr t x i => bindO (elemT P t) fun e => bindO (compA x) fun x => bindO (compA i) fun i => if 0 < szOf P e then some (.iad (szOf P e) x i) else none
  | .field t x i => bindO (compA x) fun a => match P.underlying t with
      | some (.struct fs) => bindO fs[i]? fun f => if (P.underlying f.type).isSome = true ∧ (P.info? f.type).isSome = true then some (.fld (isAggT P f.type) f.offset (szOf P f.type) a) else none
      | _ => none
  | .index t x i => match P.underlying t with
      | some (.array n e) => bindO (compA x) fun x => bindO (compA i) fun i => if 0 < szOf P e ∧ (P.underlying e).isSome = true then some (.idx (isAggT P e) n (szOf P e) x i) else none
      | some .string => bindO (compA x) fun x => bindO (compA i) fun i => some (.sidx x i)
      | _ => none
  | .binOp op t x y _ => bindO (compA x) fun x => bindO (compA y) fun y =>
      match P.underlying t with
        | some (.int _) => some (.bin op x y)
        | some .string => some (.bin op x y)
        | some .bool => some (.binb op x y)
        | some (.struct _) => if P.eqGuardType P.depth t = false then bindO (kindsT P 10 t) fun ks => (match op with
          | .eql => some (.eqa false ks x y)
          | .neq => some (.eqa true ks x y)
          | _ => none) else none
        | _ => none
  | .unOp op _ x => bindO (compA x) fun a => some (.un op a)
  | .convert s d x => bindO (compA x) fun a => match P.underlying s, P.underlying d with
      | some (.int _), some (.int k) => some (.cvi k a)
      | some (.int _), some .string => some (.cvs a)
      | _, _ => none
  | .slice t x lo hi none => bindO (elemT P t) fun e => bindO (compA x) fun x => bindO (compO lo) fun lo => bindO (compO hi) fun hi => if 0 < szOf P e then some (.slc (szOf P e) x lo hi) else none
  | .makeSlice t l c => bindO (elemT P t) fun e => bindO (zeroC P e) fun z => bindO (compA l) fun l => bindO (compA c) fun c => if 0 < szOf P e ∧ z.length = szOf P e ∧ 0 < byOf P e then some (.mks false (szOf P e) (byOf P e) z l c) else none
  | .extract x i => bindO (compA x) fun a => some (.ext a i)
  | .call c => match c.callee with
      | .builtin .append => match c.argTypes.toList, c.args.toList with
          | [t, u], [x, y] => bindO (elemT P t) fun e => bindO (zeroC P e) fun z => bindO (compA x) fun x => bindO (compA y) fun y =>
              if t = u ∧ 0 < szOf P e ∧ z.length = szOf P e ∧ 0 < byOf P e then some (.app false (szOf P e) (byOf P e) x y) else none
          | _, _ => none
      | .builtin .copy => match c.argTypes.toList, c.args.toList with
          | [t, u], [x, y] => bindO (elemT P t) fun e => bindO (elemT P u) fun _ => bindO (compA x) fun x => bindO (compA y) fun y => if szOf P e = 1 then some (.cpy x y) else none
          | _, _ => none
      | .builtin .len => match c.argTypes.toList, c.args.toList with
          | [t], [x] => bindO (compA x) fun x => match P.underlying t with
              | some (.slice _) => some (.len x)
              | some .string => some (.slen x)
              | _ => none
          | _, _ => none
      | .builtin .max => match c.args.toList with | [x, y] => bindO (compA x) fun x => bindO (compA y) fun y => some (.mx x y) | _ => none
      | .builtin .min => match c.args.toList with | [x, y] => bindO (compA x) fun x => bindO (compA y) fun y => some (.mn x y) | _ => none
      | .value (.func f) => if inl f then bindO (compArgs1 c.args.toList) fun as => some (.icall f as)
          else bindO (compArgs P c.args.toList c.argTypes.toList) fun as => some (.call f as)
      | .value x => bindO (compA x) fun x => bindO (compArgs P c.args.toList c.argTypes.toList) fun as => some (.callv x as)
      | _ => none
  | _ => none
def compOp (inl : Nat → Bool) (o : Oper) : AOp := match compOp? P inl o with | some a => a | none => .bad

/-- The predecessors of each operation, as bits. -/
def bitsOf (acc : List Nat) : List Edge → Nat
  | [] => 0
  | e :: r => if Region.binds .any e then 2 ^ e.on ||| acc.getD e.on 0 ||| bitsOf acc r else bitsOf acc r
def bitsAll : List Nat → List Oper → List Nat
  | acc, [] => acc
  | acc, o :: r => bitsAll (acc ++ [bitsOf acc o.after.toList]) r

def compOper (inl : Nat → Bool) (nt : Nat) (ops : Array Oper) (o : Oper) (bf : Nat) : AOper :=
  { dst := o.dst
    op := if (match o.dst with | some d => decide (d < nt) | none => true) = false then .bad else match o.guard with
      | none => compOp P inl o
      | some (j, _) => if ((ops[j]?).bind (·.dst)).isSome then compOp P inl o else .bad
    g := match o.guard with
      | none => none
      | some (j, want) => some (((ops[j]?).bind (·.dst)).getD 0, want)
    bf := bf }
def compOpers (inl : Nat → Bool) (nt : Nat) (ops : Array Oper) : List Oper → List Nat → List AOper
  | [], _ => []
  | o :: r, bs => compOper P inl nt ops o (bs.headD 0) :: compOpers inl nt ops r bs.tail

/-- Each slot's writers stand in an order with whoever else names it. -/
def slotFits (oi oj : AOper) (i j : Nat) : Bool :=
  i == j || oi.bf.testBit j || oj.bf.testBit i || match oj.dst with
    | none => true
    | some d => !(oi.us.contains d) && match oi.dst with | some e => !(e == d) | none => true
def slotsOk (ops : List AOper) : Bool :=
  ops.zipIdx.all fun (oi, i) => ops.zipIdx.all fun (oj, j) => slotFits oi oj i j
def edgesOk (ops : List Oper) : Bool :=
  ops.zipIdx.all fun (o, i) => o.after.toList.all fun e => !Region.binds .any e || decide (e.on < i)
def compReg (inl : Nat → Bool) (nt : Nat) (ops : Array Oper) (draw : Bool) : ACode :=
  if draw then
    (if edgesOk ops.toList && slotsOk (compOpers P inl nt ops ops.toList (bitsAll [] ops.toList)) then .reg true (compOpers P inl nt ops ops.toList (bitsAll [] ops.toList)) else .bad)
  else .reg false (compOpers P inl nt ops ops.toList [])

def comp (inl : Nat → Bool) (nt : Nat) : Code → ACode
  | .skip => .skip
  | .region _ ops draw => compReg P inl nt ops draw
  | .seq a b => .seq (comp inl nt a) (comp inl nt b)
  | .cond c a b => match compA c with | some x => .cond x (comp inl nt a) (comp inl nt b) | none => .bad
  | .block id a => .block id (comp inl nt a)
  | .loop a => .loop [] (comp inl nt a)
  | .exit id => .exit id
  | .ret => .ret
  | _ => .bad

def compRes : ResultVar → TypeId → ARes
  | .tmp t, ty => .t t (esz P ty)
  | .cell a ty, _ => if isAggT P ty then .agg a (szOf P ty) else .one a
def compRess : List ResultVar → List TypeId → List ARes
  | [], _ => []
  | r :: rs, ts => compRes P r (ts.headD 0) :: compRess rs ts.tail

def compF (inl : Nat → Bool) (fn : Func) : AFunc :=
  { np := fn.params.size
    body := match fn.body with | some c => comp P inl fn.ntmps c | none => .bad
    res := compRess P fn.results.toList fn.resultTypes.toList }
end

/-! What a text of a function may choose freely: which slots a loop keeps, which slices are own arrays. -/
def AOp.bare : AOp → AOp
  | .bsl _ sz n z ps => .bsl false sz n z ps
  | .mks _ sz b z l c => .mks false sz b z l c
  | .app _ sz b x y => .app false sz b x y
  | o => o
def AOper.bare (o : AOper) : AOper := { o with op := o.op.bare }
def bareOps : List AOper → List AOper
  | [] => []
  | o :: r => o.bare :: bareOps r
def ACode.bare : ACode → ACode
  | .reg d ops => .reg d (bareOps ops)
  | .seq a b => .seq a.bare b.bare
  | .cond c a b => .cond c a.bare b.bare
  | .block id a => .block id a.bare
  | .loop _ a => .loop [] a.bare
  | c => c
def AFunc.bare (f : AFunc) : AFunc := { f with body := f.body.bare }
end Go.Proofs.Ytpanbfainilmpaa.Ev
