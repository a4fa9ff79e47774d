/- The evaluator over pure data: its data, its operations, its code. No program and no memory in this text. -/
import Derived.WalkKit
import Derived.KernelRfl
set_option linter.unusedVariables false
set_option linter.unusedSimpArgs false
namespace Go.Proofs.Ytpanbfainilmpaa.Ev

/-- Data of one cell: a scalar as it stands, or a slice by value (its elements, each a list of cells). -/
inductive D where
  | sc (v : Value)
  | sl (es : List (List D))
/-- What one cell of a slot or of an own array may be: data; the literal nil slice; a row that may grow (token t). -/
inductive C where
  | d (x : D)
  | nil
  | gr (t : Nat) (es : List (List D))
/-- An argument or a result by value. -/
inductive PV where
  | one (x : D)
  | agg (xs : List D)
/-- What a slot of a frame may hold. -/
inductive AV where
  | c (x : C)
  | ag (cs : List C)
  | tu (xs : List PV)
  | ref (id off len : Nat)
  | ptr (id off : Nat)
  | fptr (xs : List D)
  | top
/-- A place of the abstract heap: an own array's cells; a growable row's length and its elements' size. -/
inductive Loc where
  | arr (cells : List C)
  | tok (n sz : Nat)

/-- Operands. -/
inductive AO where
  | t (n : Nat)
  | k (x : C)

inductive AOp where
  | mv (x : AO)
  | asg (x : AO)
  | pick (c a b : AO)
  | alloc (zero : List C)
  | box (x : AO)
  | build (zero : List C) (parts : List (Nat × Nat × AO))
  | bsl (mu : Bool) (sz n : Nat) (zero : List C) (parts : List (Nat × AO))
  | ld (agg : Bool) (sz : Nat) (a : AO)
  | st (sz : Nat) (a x : AO)
  | fad (off : Nat) (x : AO)
  | iad (sz : Nat) (x i : AO)
  | fld (agg : Bool) (off sz : Nat) (x : AO)
  | idx (agg : Bool) (len sz : Nat) (x i : AO)
  | sidx (x i : AO)
  | bin (op : BinOp) (x y : AO)
  | binb (op : BinOp) (x y : AO)
  | eqa (neg : Bool) (ks : List Nat) (x y : AO)
  | un (op : UnOp) (x : AO)
  | cvi (k : IntKind) (x : AO)
  | cvs (x : AO)
  | slc (sz : Nat) (x : AO) (lo hi : Option AO)
  | mks (mu : Bool) (sz bytes : Nat) (zero : List C) (len cap : AO)
  | app (mu : Bool) (sz bytes : Nat) (x y : AO)
  | cpy (x y : AO)
  | len (x : AO)
  | slen (x : AO)
  | mx (x y : AO)
  | mn (x y : AO)
  | ext (x : AO) (i : Nat)
  | call (f : Nat) (args : List (Nat × AO))
  | callv (x : AO) (args : List (Nat × AO))
  | icall (f : Nat) (args : List AO)
  | bad

/-- One operation of a region: where it writes, what it is, its guard (slot, wanted), its predecessors (bits). -/
structure AOper where
  dst : Option Nat
  op : AOp
  g : Option (Nat × Bool)
  bf : Nat

inductive ACode where
  | skip
  | reg (draw : Bool) (ops : List AOper)
  | seq (a b : ACode)
  | cond (c : AO) (a b : ACode)
  | block (id : Nat) (c : ACode)
  | loop (keep : List Nat) (c : ACode)
  | exit (id : Nat)
  | ret
  | bad

inductive ARes where
  | t (s esz : Nat)
  | one (s : Nat)
  | agg (s sz : Nat)

structure AFunc where
  np : Nat
  body : ACode
  res : List ARes

/-- The slots that an operation reads. -/
def AO.us : AO → List Nat
  | .t n => [n]
  | .k _ => []
def usO : Option AO → List Nat
  | some a => a.us
  | none => []
def AOp.us : AOp → List Nat
  | .mv x => x.us
  | .asg x => x.us
  | .pick c a b => c.us ++ a.us ++ b.us
  | .alloc _ => []
  | .box x => x.us
  | .build _ ps => ps.flatMap fun p => p.2.2.us
  | .bsl _ _ _ _ ps => ps.flatMap fun p => p.2.us
  | .ld _ _ a => a.us
  | .st _ a x => a.us ++ x.us
  | .fad _ x => x.us
  | .iad _ x i => x.us ++ i.us
  | .fld _ _ _ x => x.us
  | .idx _ _ _ x i => x.us ++ i.us
  | .sidx x i => x.us ++ i.us
  | .bin _ x y => x.us ++ y.us
  | .binb _ x y => x.us ++ y.us
  | .eqa _ _ x y => x.us ++ y.us
  | .un _ x => x.us
  | .cvi _ x => x.us
  | .cvs x => x.us
  | .slc _ x lo hi => x.us ++ usO lo ++ usO hi
  | .mks _ _ _ _ l c => l.us ++ c.us
  | .app _ _ _ x y => x.us ++ y.us
  | .cpy x y => x.us ++ y.us
  | .len x => x.us
  | .slen x => x.us
  | .mx x y => x.us ++ y.us
  | .mn x y => x.us ++ y.us
  | .ext x _ => x.us
  | .call _ as => as.flatMap fun p => p.2.us
  | .callv x as => x.us ++ as.flatMap fun p => p.2.us
  | .icall _ as => as.flatMap AO.us
  | .bad => []
def AOper.us (o : AOper) : List Nat := o.op.us ++ match o.g with | some (s, _) => [s] | none => []

/-! ### Small words -/
def bindO {α β : Type} (x : Option α) (f : α → Option β) : Option β :=
  match x with
  | some a => f a
  | none => none
/-- Evaluate x first. -/
def bindV {α β : Type} (x : α) (f : α → β) : β := f x
def iteB {α : Type} (b : Bool) (x y : α) : α := match b with | true => x | false => y

abbrev Fr := List (Nat × AV)
abbrev Hp := List (Nat × Loc)

def Fr.get : Fr → Nat → AV
  | [], _ => .top
  | (m, v) :: r, n => if n = m then v else Fr.get r n
def Hp.get : Hp → Nat → Option Loc
  | [], _ => none
  | (m, v) :: r, n => if n = m then some v else Hp.get r n
def Hp.del : Hp → Nat → Hp
  | [], _ => []
  | (m, v) :: r, n => if n = m then Hp.del r n else (m, v) :: Hp.del r n
def Hp.set : Hp → Nat → Loc → Hp
  | [], n, l => [(n, l)]
  | (m, v) :: r, n, l => if n = m then (m, l) :: r else (m, v) :: Hp.set r n l
def Hp.upd (h : Hp) : List (Nat × Option Loc) → Hp
  | [] => h
  | (n, some l) :: r => Hp.upd (h.set n l) r
  | (n, none) :: r => Hp.upd (h.del n) r

def AO.ev (f : Fr) : AO → AV
  | .t n => f.get n
  | .k x => .c x

def C.toD : C → D
  | .d x => x
  | .nil => .sl []
  | .gr _ es => .sl es

def chunk (sz : Nat) : Nat → List D → List (List D)
  | 0, _ => []
  | n + 1, l => l.take sz :: chunk sz n (l.drop sz)

/-- A slice's elements, and the own arrays that were read for it. -/
def elems (h : Hp) (sz : Nat) : AV → Option (List (List D) × List Nat)
  | .c (.d (.sl es)) => some (es, [])
  | .c .nil => some ([], [])
  | .c (.gr _ es) => some (es, [])
  | .ref id off len =>
    match h.get id with
    | some (.arr cells) => if off + len * sz ≤ cells.length then some (chunk sz len ((cells.drop off).map C.toD), [id]) else none
    | _ => none
  | _ => none

/-- Is this number an own array's? -/
def Hp.has (h : Hp) (id : Nat) : Bool :=
  match h.get id with
  | some (.arr _) => true
  | _ => false
/-- A slice's length, and the own array that it lies in. -/
def lenOf (h : Hp) : AV → Option (Nat × List Nat)
  | .c (.d (.sl es)) => some (es.length, [])
  | .c .nil => some (0, [])
  | .c (.gr _ es) => some (es.length, [])
  | .ref id _ len => if h.has id = true then some (len, [id]) else none
  | _ => none

def asInt : AV → Option (IntKind × Int)
  | .c (.d (.sc (.int k n))) => some (k, n)
  | _ => none
def asBool : AV → Option Bool
  | .c (.d (.sc (.bool b))) => some b
  | _ => none

/-- An operation's answer: the slot's value, the places that it changes, those that it reads, the next free number. -/
structure Re where
  v : AV
  w : List (Nat × Option Loc)
  r : List Nat
  nx : Nat

/-- A function's value. -/
def funcOf : AV → Option Nat
  | .c (.d (.sc (.func (.func g) fs cs))) => if fs.size = 0 ∧ cs.size = 0 then some g else none
  | _ => none

def sc (v : Value) : AV := .c (.d (.sc v))

def evBin (op : BinOp) : Value → Value → Option Value
  | .int k a, .int k' b =>
    match op with
    | .shl => if 0 ≤ b then some (.int k (k.wrap (a * 2 ^ (min b.toNat k.bits)))) else none
    | .shr => if 0 ≤ b then some (.int k (a.fdiv (2 ^ (min b.toNat k.bits)))) else none
    | _ =>
      if k = k' then
        match op with
        | .add => some (.int k (k.wrap (a + b)))
        | .sub => some (.int k (k.wrap (a - b)))
        | .mul => some (.int k (k.wrap (a * b)))
        | .quo => if b = 0 then none else some (.int k (k.wrap (a.tdiv b)))
        | .rem => if b = 0 then none else some (.int k (a.tmod b))
        | .and => some (.int k (k.wrap (BitVec.ofInt k.bits a &&& BitVec.ofInt k.bits b).toNat))
        | .or => some (.int k (k.wrap (BitVec.ofInt k.bits a ||| BitVec.ofInt k.bits b).toNat))
        | .xor => some (.int k (k.wrap (BitVec.ofInt k.bits a ^^^ BitVec.ofInt k.bits b).toNat))
        | .andNot => some (.int k (k.wrap (BitVec.ofInt k.bits a &&& ~~~ BitVec.ofInt k.bits b).toNat))
        | .eql => some (.bool (decide (a = b)))
        | .neq => some (.bool (!decide (a = b)))
        | .lss => some (.bool (decide (a < b)))
        | .leq => some (.bool (decide (a ≤ b)))
        | .gtr => some (.bool (decide (b < a)))
        | .geq => some (.bool (decide (b ≤ a)))
        | _ => none
      else none
  | .string a, .string b =>
    match op with
    | .eql => some (.bool (decide (a = b)))
    | .neq => some (.bool (!decide (a = b)))
    | _ => none
  | _, _ => none
def evBinB (op : BinOp) : Value → Value → Option Value
  | .bool a, .bool b =>
    match op with
    | .eql => some (.bool (a == b))
    | .neq => some (.bool (!(a == b)))
    | _ => none
  | _, _ => none

def evUn (op : UnOp) : Value → Option Value
  | .int k n =>
    match op with
    | .neg => some (.int k (k.wrap (0 - n)))
    | .xor => some (.int k (k.wrap (BitVec.ofInt k.bits (if k.signed then -1 else k.max) ^^^ BitVec.ofInt k.bits n).toNat))
    | _ => none
  | .bool b => match op with | .not => some (.bool !b) | _ => none
  | _ => none

/-- Two cells equal: bools (0), whole numbers (1), strings (2). -/
def eqCell : Nat → D → D → Option Bool
  | 0, .sc (.bool a), .sc (.bool b) => some (a == b)
  | 1, .sc (.int k a), .sc (.int k' b) => if k = k' then some (decide (a = b)) else none
  | 2, .sc (.string a), .sc (.string b) => some (decide (a = b))
  | _, _, _ => none
def eqCells : List Nat → List D → List D → Option Bool
  | [], [], [] => some true
  | k :: ks, x :: xs, y :: ys => bindO (eqCell k x y) fun b => bindO (eqCells ks xs ys) fun b' => some (b && b')
  | _, _, _ => none

/-- Write parts (offset, size, value) over cells. -/
def putPart (cells : List C) (off sz : Nat) : AV → Option (List C)
  | .c x => if sz = 1 ∧ off < cells.length then some (cells.set off x) else none
  | .ag cs => if cs.length = sz ∧ off + sz ≤ cells.length then some (cells.take off ++ cs ++ cells.drop (off + sz)) else none
  | _ => none
def putParts (f : Fr) : List C → List (Nat × Nat × AO) → Option (List C)
  | cells, [] => some cells
  | cells, (off, sz, x) :: r => bindV (x.ev f) fun v => bindO (putPart cells off sz v) fun cs => putParts f cs r

/-- Cells of a box: nil slices become rows that may grow. -/
def births : Nat → List C → List C × List (Nat × Option Loc) × Nat
  | n, [] => ([], [], n)
  | n, .nil :: r => let q := births (n + 1) r; (.gr n [] :: q.1, (n, some (.tok 0 0)) :: q.2.1, q.2.2)
  | n, x :: r => let q := births n r; (x :: q.1, q.2.1, q.2.2)

/-- What is stored: nil slices become rows that may grow. -/
def birthV (nx : Nat) : AV → AV × List (Nat × Option Loc) × Nat
  | .c .nil => (.c (.gr nx []), [(nx, some (.tok 0 0))], nx + 1)
  | .ag cs => (.ag (births nx cs).1, (births nx cs).2.1, (births nx cs).2.2)
  | v => (v, [], nx)

/-- One element of a slice literal. -/
def cellsOf (sz : Nat) : AV → Option (List C)
  | .c x => if sz = 1 then some [x] else none
  | .ag cs => if cs.length = sz then some cs else none
  | _ => none
def litElems (f : Fr) (sz : Nat) : List (List C) → List (Nat × AO) → Option (List (List C))
  | es, [] => some es
  | es, (i, x) :: r => bindV (x.ev f) fun v => bindO (cellsOf sz v) fun cs => if i < es.length then litElems f sz (es.set i cs) r else none

/-- An argument by value. -/
def toPV (h : Hp) (sz : Nat) : AV → Option (PV × List Nat)
  | .c x => some (.one x.toD, [])
  | .ag cs => some (.agg (cs.map C.toD), [])
  | .ref id off len => bindO (elems h sz (.ref id off len)) fun e => some (.one (.sl e.1), e.2)
  | _ => none
def toPVs (h : Hp) (f : Fr) : List (Nat × AO) → Option (List PV × List Nat)
  | [] => some ([], [])
  | x :: r => bindV (x.2.ev f) fun v => bindO (toPV h x.1 v) fun a => bindO (toPVs h f r) fun b => some (a.1 :: b.1, a.2 ++ b.2)
def PV.toAV : PV → AV
  | .one x => .c (.d x)
  | .agg xs => .ag (xs.map C.d)
def outAV : List PV → AV
  | [x] => x.toAV
  | xs => .tu xs
/-- No slice in it. -/
def D.flat : D → Bool
  | .sc _ => true
  | .sl [] => true
  | .sl (_ :: _) => false
def PV.flat : PV → Bool
  | .one x => x.flat
  | .agg xs => xs.all D.flat

/-- The numbers that a value names. -/
def C.ids : C → List Nat
  | .gr t _ => [t]
  | _ => []
def AV.ids : AV → List Nat
  | .c x => x.ids
  | .ag cs => cs.flatMap C.ids
  | .ref id _ _ => [id]
  | .ptr id _ => [id]
  | _ => []
def Loc.ids : Loc → List Nat
  | .arr cells => cells.flatMap C.ids
  | .tok _ _ => []

/-- What an operation may call. -/
structure Or where
  call : Nat → List PV → Option (List PV)
  icall : Nat → List AV → Hp → Nat → Option (AV × Hp × Nat)

def ok1 (v : AV) (nx : Nat) : Option Re := some ⟨v, [], [], nx⟩

def doCall (K : Or) (draw : Bool) (f : Fr) (h : Hp) (nx g : Nat) (args : List (Nat × AO)) : Option Re :=
  bindO (toPVs h f args) fun a => bindO (K.call g a.1) fun r =>
    if (a.2.isEmpty || r.all PV.flat) = true then some ⟨outAV r, [], a.2, nx⟩
    else some ⟨outAV r, a.2.map (·, none), a.2, nx⟩

/-- The abstract heap cut to what these arrays hold. -/
def Hp.reach (h : Hp) (ids : List Nat) : List Nat :=
  ids ++ ids.flatMap fun i => match h.get i with | some l => l.ids | none => []
def Hp.cut (h : Hp) (ids : List Nat) : Hp := h.filter fun e => ids.contains e.1

def doICall (K : Or) (h : Hp) (nx g : Nat) (vs : List AV) : Option Re :=
  let rs := h.reach (vs.flatMap AV.ids)
  bindO (K.icall g vs (h.cut rs) nx) fun q =>
    if ((q.1.ids ++ q.2.1.flatMap fun e => e.2.ids).all fun i => rs.contains i || decide (nx ≤ i)) = true then
      some ⟨q.1, rs.map (fun i => (i, q.2.1.get i)) ++ (q.2.1.filter fun e => nx ≤ e.1).map (fun e => (e.1, q.2.1.get e.1)), rs, q.2.2⟩
    else none

def boxed (q : List C × List (Nat × Option Loc) × Nat) : Option Re := some ⟨.ptr q.2.2 0, q.2.1 ++ [(q.2.2, some (.arr q.1))], [], q.2.2 + 1⟩
def maxBytes : Nat := 140737488355328

def evOp (K : Or) (draw : Bool) (f : Fr) (h : Hp) (nx : Nat) : AOp → Option Re
  | .mv x => ok1 (x.ev f) nx
  | .asg x =>
    match x.ev f with
    | .c .nil => some ⟨.c (.gr nx []), [(nx, some (.tok 0 0))], [], nx + 1⟩
    | v => ok1 v nx
  | .pick c a b => bindO (asBool (c.ev f)) fun q => ok1 (if q then a.ev f else b.ev f) nx
  | .alloc zero => boxed (births nx zero)
  | .box x =>
    match x.ev f with
    | .c y => boxed (births nx [y])
    | .ag cs => boxed (births nx cs)
    | _ => none
  | .build zero parts => bindO (putParts f zero parts) fun cs => ok1 (.ag cs) nx
  | .bsl mu sz n zero parts => bindO (litElems f sz (List.replicate n zero) parts) fun es =>
    if mu then some ⟨.ref nx 0 n, [(nx, some (.arr es.flatten))], [], nx + 1⟩
    else some ⟨.c (.gr nx (es.map (·.map C.toD))), [(nx, some (.tok n sz))], [], nx + 1⟩
  | .ld agg sz a =>
    match a.ev f with
    | .ptr id off =>
      match h.get id with
      | some (.arr cells) =>
        if agg then (if off + sz ≤ cells.length then some ⟨.ag ((cells.drop off).take sz), [], [id], nx⟩ else none)
        else match cells[off]? with | some x => some ⟨.c x, [], [id], nx⟩ | none => none
      | _ => none
    | .fptr xs =>
      if agg then (if sz ≤ xs.length then ok1 (.ag ((xs.take sz).map C.d)) nx else none)
      else match xs with | x :: _ => ok1 (.c (.d x)) nx | [] => none
    | _ => none
  | .st sz a x =>
    match a.ev f with
    | .ptr id off =>
      match h.get id with
      | some (.arr cells) => bindV (birthV nx (x.ev f)) fun v => bindO (putPart cells off sz v.1) fun cs => some ⟨.top, v.2.1 ++ [(id, some (.arr cs))], [id], v.2.2⟩
      | _ => none
    | _ => none
  | .fad off x =>
    match x.ev f with
    | .ptr id o => if h.has id = true then some ⟨.ptr id (o + off), [], [id], nx⟩ else none
    | .fptr xs => ok1 (.fptr (xs.drop off)) nx
    | _ => none
  | .iad sz x i => bindO (asInt (i.ev f)) fun q =>
    match x.ev f with
    | .c (.d (.sl es)) => if 0 ≤ q.2 then (match es[q.2.toNat]? with | some e => if e.length = sz then ok1 (.fptr e) nx else none | none => none) else none
    | .c (.gr _ es) => if 0 ≤ q.2 then (match es[q.2.toNat]? with | some e => if e.length = sz then ok1 (.fptr e) nx else none | none => none) else none
    | .ref id off len => if 0 ≤ q.2 ∧ q.2 < (len : Int) ∧ h.has id = true then some ⟨.ptr id (off + q.2.toNat * sz), [], [id], nx⟩ else none
    | _ => none
  | .fld agg off sz x =>
    match x.ev f with
    | .ag cs => if agg then ok1 (.ag ((cs.drop off).take sz)) nx else (match cs[off]? with | some y => ok1 (.c y) nx | none => none)
    | _ => none
  | .idx agg len sz x i => bindO (asInt (i.ev f)) fun q =>
    match x.ev f with
    | .ag cs => if 0 ≤ q.2 ∧ q.2 < (len : Int) then
        (if agg then ok1 (.ag ((cs.drop (q.2.toNat * sz)).take sz)) nx else (match cs[q.2.toNat * sz]? with | some y => ok1 (.c y) nx | none => none)) else none
    | _ => none
  | .sidx x i => bindO (asInt (i.ev f)) fun q =>
    match x.ev f with
    | .c (.d (.sc (.string s))) => if 0 ≤ q.2 then (match s[q.2.toNat]? with | some b => ok1 (sc (.int .u8 b.toNat)) nx | none => none) else none
    | _ => none
  | .bin op x y =>
    match x.ev f, y.ev f with
    | .c (.d (.sc a)), .c (.d (.sc b)) => bindO (evBin op a b) fun v => ok1 (sc v) nx
    | _, _ => none
  | .binb op x y =>
    match x.ev f, y.ev f with
    | .c (.d (.sc a)), .c (.d (.sc b)) => bindO (evBinB op a b) fun v => ok1 (sc v) nx
    | _, _ => none
  | .eqa neg ks x y =>
    match x.ev f, y.ev f with
    | .ag a, .ag b => bindO (eqCells ks (a.map C.toD) (b.map C.toD)) fun q => ok1 (sc (.bool (if neg then !q else q))) nx
    | _, _ => none
  | .un op x =>
    match x.ev f with
    | .c (.d (.sc a)) => bindO (evUn op a) fun v => ok1 (sc v) nx
    | _ => none
  | .cvi k x => bindO (asInt (x.ev f)) fun q => ok1 (sc (.int k (k.wrap q.2))) nx
  | .cvs x => bindO (asInt (x.ev f)) fun q => ok1 (sc (.string (Utf8.encode q.2))) nx
  | .slc sz x lo hi =>
    bindO (match lo with | some a => bindO (asInt (a.ev f)) fun q => some q.2 | none => some 0) fun l =>
    bindO (lenOf h (x.ev f)) fun n =>
    bindO (match hi with | some a => bindO (asInt (a.ev f)) fun q => some q.2 | none => some (n.1 : Int)) fun m =>
    if 0 ≤ l ∧ l ≤ m ∧ m ≤ (n.1 : Int) then
      match x.ev f with
      | .c (.d (.sl es)) => if (es.all fun e => e.length == sz) = true then ok1 (.c (.d (.sl ((es.take m.toNat).drop l.toNat)))) nx else none
      | .c (.gr _ es) => if (es.all fun e => e.length == sz) = true then ok1 (.c (.d (.sl ((es.take m.toNat).drop l.toNat)))) nx else none
      | .c .nil => ok1 (.c .nil) nx
      | .ref id off _ => some ⟨.ref id (off + l.toNat * sz) (m - l).toNat, [], [id], nx⟩
      | _ => none
    else none
  | .mks mu sz bytes zero l c => bindO (asInt (l.ev f)) fun n => bindO (asInt (c.ev f)) fun m =>
    if 0 ≤ n.2 ∧ n.2 ≤ m.2 ∧ m.2 * bytes ≤ (maxBytes : Int) ∧ zero.length = sz then
      (if mu then (if n.2 = m.2 then some ⟨.ref nx 0 n.2.toNat, [(nx, some (.arr (List.replicate n.2.toNat zero).flatten))], [], nx + 1⟩ else none)
       else some ⟨.c (.gr nx (List.replicate n.2.toNat (zero.map C.toD))), [(nx, some (.tok n.2.toNat sz))], [], nx + 1⟩)
    else none
  | .app mu sz bytes x y => bindO (elems h sz (y.ev f)) fun ys =>
    match x.ev f with
    | .c .nil => if ys.1.length * bytes ≤ maxBytes ∧ (ys.1.all fun e => e.length == sz) = true then
        (if mu then none else some ⟨.c (.gr nx ys.1), [(nx, some (.tok ys.1.length (if ys.1.isEmpty then 0 else sz)))], ys.2, nx + 1⟩) else none
    | .c (.gr t es) =>
      match h.get t with
      | some (.tok n s) =>
        if es.length = n ∧ (s = sz ∨ s = 0) ∧ (n + ys.1.length) * bytes ≤ maxBytes ∧ (ys.1.all fun e => e.length == sz) = true then
          (if mu then (if n = 0 ∧ s = sz then some ⟨.ref nx 0 ys.1.length, [(t, none), (nx, some (.arr (ys.1.flatten.map C.d)))], t :: ys.2, nx + 1⟩ else none)
           else some ⟨.c (.gr t (es ++ ys.1)), [(t, some (.tok (n + ys.1.length) (if ys.1.isEmpty then s else sz)))], t :: ys.2, nx⟩)
        else none
      | _ => none
    | _ => none
  | .cpy x y => bindO (elems h 1 (y.ev f)) fun ys =>
    match x.ev f with
    | .ref id off len =>
      match h.get id with
      | some (.arr cells) =>
        if off + len ≤ cells.length ∧ (ys.1.all fun e => e.length == 1) = true then
          some ⟨sc (.int .i64 (min ys.1.length len : Nat)), [(id, some (.arr (cells.take off ++ (ys.1.flatten.take (min ys.1.length len)).map C.d ++ cells.drop (off + min ys.1.length len))))], id :: ys.2, nx⟩
        else none
      | _ => none
    | _ => none
  | .len x => bindO (lenOf h (x.ev f)) fun n => some ⟨sc (.int .i64 n.1), [], n.2, nx⟩
  | .slen x =>
    match x.ev f with
    | .c (.d (.sc (.string s))) => ok1 (sc (.int .i64 s.size)) nx
    | _ => none
  | .mx x y => bindO (asInt (x.ev f)) fun a => bindO (asInt (y.ev f)) fun b => if a.1 = b.1 then ok1 (sc (.int a.1 (if a.2 < b.2 then b.2 else a.2))) nx else none
  | .mn x y => bindO (asInt (x.ev f)) fun a => bindO (asInt (y.ev f)) fun b => if a.1 = b.1 then ok1 (sc (.int a.1 (if b.2 < a.2 then b.2 else a.2))) nx else none
  | .ext x i =>
    match x.ev f with
    | .tu xs => match xs[i]? with | some p => ok1 p.toAV nx | none => none
    | _ => none
  | .call g args => doCall K draw f h nx g args
  | .callv x args =>
    bindO (funcOf (x.ev f)) fun g => doCall K draw f h nx g args
  | .icall g args => doICall K h nx g (args.map (AO.ev f))
  | .bad => none

structure St where
  f : Fr
  h : Hp
  nx : Nat

def St.put (st : St) (dst : Option Nat) (r : Re) : St :=
  ⟨match dst with | some d => (d, r.v) :: st.f | none => st.f, st.h.upd r.w, r.nx⟩

/-- What a guard's slot says: nothing, where its own operation was not run. -/
def gdB : AV → Option (Option Bool)
  | .tu _ => some none
  | .c (.d (.sc (.bool b))) => some (some b)
  | _ => none
/-- One operation in its place. -/
def evStep (K : Or) (draw : Bool) (o : AOper) (st : St) : Option Re :=
  match o.g with
  | none => evOp K draw st.f st.h st.nx o.op
  | some (s, want) => bindO (gdB (st.f.get s)) fun b =>
    if b = some want then evOp K draw st.f st.h st.nx o.op else ok1 (.tu []) st.nx

def evOps (K : Or) : List AOper → St → Option St
  | [], st => some st
  | o :: os, st => bindO (evStep K false o st) fun r => evOps K os (st.put o.dst r)

def disj (a b : List Nat) : Bool := a.all fun x => !b.contains x
/-- What an operation of open order did: its place, the numbers that it gave out (from, to), what it read, changed. -/
structure Fp where
  i : Nat
  lo : Nat
  hi : Nat
  r : List Nat
  w : List Nat
/-- The numbers that an operation's answer names. -/
def Re.ids (q : Re) : List Nat := q.v.ids ++ q.w.flatMap fun e => e.1 :: match e.2 with | some l => l.ids | none => []
/-- May an operation (predecessors bf, read r, changed w, named m) come up in any order with the earlier ones that are no predecessors of it? -/
def beside (bf : Nat) (r w m : List Nat) : List Fp → Bool
  | [] => true
  | k :: t => ((disj w (k.r ++ k.w) && disj k.w (r ++ w) && m.all fun x => !(decide (k.lo ≤ x) && decide (x < k.hi))) || bf.testBit k.i) && beside bf r w m t
def addFp (i lo : Nat) (q : Re) (prev : List Fp) : List Fp :=
  match q.r, q.w with
  | [], [] => iteB (q.nx == lo) prev (⟨i, lo, q.nx, [], []⟩ :: prev)
  | r, w => ⟨i, lo, q.nx, r, w.map (·.1)⟩ :: prev

def evOpsD (K : Or) : Nat → List Fp → List AOper → St → Option St
  | _, _, [], st => some st
  | i, prev, o :: os, st => bindO (evStep K true o st) fun q =>
    iteB (beside o.bf q.r (q.w.map (·.1)) q.ids prev) (evOpsD K (i + 1) (addFp i st.nx q prev) os (st.put o.dst q)) none

inductive Ex where
  | norm
  | exit (id : Nat)
  | ret

/-- A cell at a loop's head. -/
def C.old (n : Nat) : C → C
  | .gr t es => if t < n then .gr t es else .d (.sl es)
  | x => x
/-- A value at a loop's head: what was made since number n is no longer named. -/
def AV.old (n : Nat) : AV → AV
  | .c (.gr t es) => if t < n then .c (.gr t es) else .c (.d (.sl es))
  | .ref id off len => if id < n then .ref id off len else .top
  | .ptr id off => if id < n then .ptr id off else .top
  | .ag cs => .ag (cs.map (C.old n))
  | v => v
def Loc.old (n : Nat) : Loc → Loc
  | .arr cells => .arr (cells.map (C.old n))
  | l => l
def maskF (f : Fr) (n : Nat) : List Nat → Fr
  | [] => []
  | s :: r => (s, (f.get s).old n) :: maskF f n r
def cutH (n : Nat) : Hp → Hp
  | [] => []
  | (i, l) :: r => if i < n then (i, l.old n) :: cutH n r else cutH n r
def St.head (keep : List Nat) (n : Nat) (st : St) : St := ⟨maskF st.f n keep, cutH n st.h, n⟩

def initF : Nat → List AV → Fr
  | _, [] => []
  | n, v :: r => (n, v) :: initF (n + 1) r

def resOne (f : Fr) (h : Hp) : ARes → Option PV
  | .t s esz => bindO (toPV h esz (f.get s)) fun a => some a.1
  | .one s => match f.get s with
    | .ptr id off => match h.get id with
      | some (.arr cells) => match cells[off]? with | some x => some (.one x.toD) | none => none
      | _ => none
    | _ => none
  | .agg s sz => match f.get s with
    | .ptr id off => match h.get id with
      | some (.arr cells) => if off + sz ≤ cells.length then some (.agg (((cells.drop off).take sz).map C.toD)) else none
      | _ => none
    | _ => none
def resAll (f : Fr) (h : Hp) : List ARes → Option (List PV)
  | [] => some []
  | r :: rs => bindO (resOne f h r) fun a => bindO (resAll f h rs) fun b => some (a :: b)

/-- An inlined call's results: none, or one slot as it stands, or data. -/
def resIn (f : Fr) (h : Hp) : List ARes → Option AV
  | [] => some (.tu [])
  | [.t s _] => some (f.get s)
  | rs => bindO (resAll f h rs) fun b => if b.all PV.flat = true then some (outAV b) else none

section
variable (A : Nat → Option AFunc) (X : Nat → Option (List PV → Option (List PV)))

def evC : Nat → ACode → St → Option (Ex × St)
  | 0, _, _ => none
  | n + 1, c, st =>
    match c with
    | .skip => some (.norm, st)
    | .reg draw ops =>
      let K : Or := {
        call := fun g args => match X g with
          | some e => e args
          | none => bindO (A g) fun fn => if args.length = fn.np then bindO (evC n fn.body ⟨initF 0 (args.map PV.toAV), [], 0⟩) fun q =>
              match q.1 with
              | .exit _ => none
              | _ => resAll q.2.f q.2.h fn.res
            else none
        icall := fun g args h nx => bindO (A g) fun fn => if args.length = fn.np then bindO (evC n fn.body ⟨initF 0 args, h, nx⟩) fun q =>
              match q.1 with
              | .exit _ => none
              | _ => bindO (resIn q.2.f q.2.h fn.res) fun v => some (v, q.2.h, q.2.nx)
            else none }
      bindO (iteB draw (evOpsD K 0 [] ops st) (evOps K ops st)) fun st' => some (.norm, st')
    | .seq a b => bindO (evC n a st) fun q => match q.1 with
      | .norm => evC n b q.2
      | e => some (e, q.2)
    | .cond x a b => bindO (asBool (x.ev st.f)) fun q => iteB q (evC n a st) (evC n b st)
    | .block id a => bindO (evC n a st) fun q => match q.1 with
      | .exit i => if i = id then some (.norm, q.2) else some (.exit i, q.2)
      | e => some (e, q.2)
    | .loop keep a => bindO (evC n a (st.head keep st.nx)) fun q => match q.1 with
      | .norm => evC n (.loop keep a) (q.2.head keep st.nx)
      | e => some (e, q.2)
    | .exit id => some (.exit id, st)
    | .ret => some (.ret, st)
    | .bad => none

end
end Go.Proofs.Ytpanbfainilmpaa.Ev
