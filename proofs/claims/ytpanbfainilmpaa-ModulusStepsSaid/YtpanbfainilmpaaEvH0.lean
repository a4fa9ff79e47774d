/- Texts that were joined: Ev0, Ev1, Ev2, EvX0, EvN0, EvM0, EvM1, EvM2, EvM3, EvM4, EvM5. -/
import Derived.WalkKit
import Derived.KernelRfl
section
/- The evaluator over pure data: its data, its operations, its code. No program and no memory in this text. -/
set_option linter.unusedVariables false
set_option linter.unusedSimpArgs false
namespace Go.Proofs.Ytpanbfainilmpaa.Ev

/-- Data of one cell: a scalar as it stands, or a slice by value (its elements, each a list of cells). -/
inductive D where
  | sc (v : Value)
  | sl (es : List (List D))
/-- What one cell of a slot or of an own array may be: data; the literal nil slice; a row that may grow (token t). -/
inductive C where
  | d (x : D)
  | nil
  | gr (t : Nat) (es : List (List D))
/-- An argument or a result by value. -/
inductive PV where
  | one (x : D)
  | agg (xs : List D)
/-- What a slot of a frame may hold. -/
inductive AV where
  | c (x : C)
  | ag (cs : List C)
  | tu (xs : List PV)
  | ref (id off len : Nat)
  | ptr (id off : Nat)
  | fptr (xs : List D)
  | top
/-- A place of the abstract heap: an own array's cells; a growable row's length and its elements' size. -/
inductive Loc where
  | arr (cells : List C)
  | tok (n sz : Nat)

/-- Operands. -/
inductive AO where
  | t (n : Nat)
  | k (x : C)

inductive AOp where
  | mv (x : AO)
  | asg (x : AO)
  | pick (c a b : AO)
  | alloc (zero : List C)
  | box (x : AO)
  | build (zero : List C) (parts : List (Nat × Nat × AO))
  | bsl (mu : Bool) (sz n : Nat) (zero : List C) (parts : List (Nat × AO))
  | ld (agg : Bool) (sz : Nat) (a : AO)
  | st (sz : Nat) (a x : AO)
  | fad (off : Nat) (x : AO)
  | iad (sz : Nat) (x i : AO)
  | fld (agg : Bool) (off sz : Nat) (x : AO)
  | idx (agg : Bool) (len sz : Nat) (x i : AO)
  | sidx (x i : AO)
  | bin (op : BinOp) (x y : AO)
  | binb (op : BinOp) (x y : AO)
  | eqa (neg : Bool) (ks : List Nat) (x y : AO)
  | un (op : UnOp) (x : AO)
  | cvi (k : IntKind) (x : AO)
  | cvs (x : AO)
  | slc (sz : Nat) (x : AO) (lo hi : Option AO)
  | mks (mu : Bool) (sz bytes : Nat) (zero : List C) (len cap : AO)
  | app (mu : Bool) (sz bytes : Nat) (x y : AO)
  | cpy (x y : AO)
  | len (x : AO)
  | slen (x : AO)
  | mx (x y : AO)
  | mn (x y : AO)
  | ext (x : AO) (i : Nat)
  | call (f : Nat) (args : List (Nat × AO))
  | callv (x : AO) (args : List (Nat × AO))
  | icall (f : Nat) (args : List AO)
  | bad

/-- One operation of a region: where it writes, what it is, its guard (slot, wanted), its predecessors (bits). -/
structure AOper where
  dst : Option Nat
  op : AOp
  g : Option (Nat × Bool)
  bf : Nat

inductive ACode where
  | skip
  | reg (draw : Bool) (ops : List AOper)
  | seq (a b : ACode)
  | cond (c : AO) (a b : ACode)
  | block (id : Nat) (c : ACode)
  | loop (keep : List Nat) (c : ACode)
  | exit (id : Nat)
  | ret
  | bad

inductive ARes where
  | t (s esz : Nat)
  | one (s : Nat)
  | agg (s sz : Nat)

structure AFunc where
  np : Nat
  body : ACode
  res : List ARes

/-- The slots that an operation reads. -/
def AO.us : AO → List Nat
  | .t n => [n]
  | .k _ => []
def usO : Option AO → List Nat
  | some a => a.us
  | none => []
def AOp.us : AOp → List Nat
  | .mv x => x.us
  | .asg x => x.us
  | .pick c a b => c.us ++ a.us ++ b.us
  | .alloc _ => []
  | .box x => x.us
  | .build _ ps => ps.flatMap fun p => p.2.2.us
  | .bsl _ _ _ _ ps => ps.flatMap fun p => p.2.us
  | .ld _ _ a => a.us
  | .st _ a x => a.us ++ x.us
  | .fad _ x => x.us
  | .iad _ x i => x.us ++ i.us
  | .fld _ _ _ x => x.us
  | .idx _ _ _ x i => x.us ++ i.us
  | .sidx x i => x.us ++ i.us
  | .bin _ x y => x.us ++ y.us
  | .binb _ x y => x.us ++ y.us
  | .eqa _ _ x y => x.us ++ y.us
  | .un _ x => x.us
  | .cvi _ x => x.us
  | .cvs x => x.us
  | .slc _ x lo hi => x.us ++ usO lo ++ usO hi
  | .mks _ _ _ _ l c => l.us ++ c.us
  | .app _ _ _ x y => x.us ++ y.us
  | .cpy x y => x.us ++ y.us
  | .len x => x.us
  | .slen x => x.us
  | .mx x y => x.us ++ y.us
  | .mn x y => x.us ++ y.us
  | .ext x _ => x.us
  | .call _ as => as.flatMap fun p => p.2.us
  | .callv x as => x.us ++ as.flatMap fun p => p.2.us
  | .icall _ as => as.flatMap AO.us
  | .bad => []
def AOper.us (o : AOper) : List Nat := o.op.us ++ match o.g with | some (s, _) => [s] | none => []

/-! ### Small words -/
def bindO {α β : Type} (x : Option α) (f : α → Option β) : Option β :=
  match x with
  | some a => f a
  | none => none
/-- Evaluate x first. -/
def bindV {α β : Type} (x : α) (f : α → β) : β := f x
def iteB {α : Type} (b : Bool) (x y : α) : α := match b with | true => x | false => y

abbrev Fr := List (Nat × AV)
abbrev Hp := List (Nat × Loc)

def Fr.get : Fr → Nat → AV
  | [], _ => .top
  | (m, v) :: r, n => if n = m then v else Fr.get r n
def Hp.get : Hp → Nat → Option Loc
  | [], _ => none
  | (m, v) :: r, n => if n = m then some v else Hp.get r n
def Hp.del : Hp → Nat → Hp
  | [], _ => []
  | (m, v) :: r, n => if n = m then Hp.del r n else (m, v) :: Hp.del r n
def Hp.set : Hp → Nat → Loc → Hp
  | [], n, l => [(n, l)]
  | (m, v) :: r, n, l => if n = m then (m, l) :: r else (m, v) :: Hp.set r n l
def Hp.upd (h : Hp) : List (Nat × Option Loc) → Hp
  | [] => h
  | (n, some l) :: r => Hp.upd (h.set n l) r
  | (n, none) :: r => Hp.upd (h.del n) r

def AO.ev (f : Fr) : AO → AV
  | .t n => f.get n
  | .k x => .c x

def C.toD : C → D
  | .d x => x
  | .nil => .sl []
  | .gr _ es => .sl es

def chunk (sz : Nat) : Nat → List D → List (List D)
  | 0, _ => []
  | n + 1, l => l.take sz :: chunk sz n (l.drop sz)

/-- A slice's elements, and the own arrays that were read for it. -/
def elems (h : Hp) (sz : Nat) : AV → Option (List (List D) × List Nat)
  | .c (.d (.sl es)) => some (es, [])
  | .c .nil => some ([], [])
  | .c (.gr _ es) => some (es, [])
  | .ref id off len =>
    match h.get id with
    | some (.arr cells) => if off + len * sz ≤ cells.length then some (chunk sz len ((cells.drop off).map C.toD), [id]) else none
    | _ => none
  | _ => none

/-- Is this number an own array's? -/
def Hp.has (h : Hp) (id : Nat) : Bool :=
  match h.get id with
  | some (.arr _) => true
  | _ => false
/-- A slice's length, and the own array that it lies in. -/
def lenOf (h : Hp) : AV → Option (Nat × List Nat)
  | .c (.d (.sl es)) => some (es.length, [])
  | .c .nil => some (0, [])
  | .c (.gr _ es) => some (es.length, [])
  | .ref id _ len => if h.has id = true then some (len, [id]) else none
  | _ => none

def asInt : AV → Option (IntKind × Int)
  | .c (.d (.sc (.int k n))) => some (k, n)
  | _ => none
def asBool : AV → Option Bool
  | .c (.d (.sc (.bool b))) => some b
  | _ => none

/-- An operation's answer: the slot's value, the places that it changes, those that it reads, the next free number. -/
structure Re where
  v : AV
  w : List (Nat × Option Loc)
  r : List Nat
  nx : Nat

/-- A function's value. -/
def funcOf : AV → Option Nat
  | .c (.d (.sc (.func (.func g) fs cs))) => if fs.size = 0 ∧ cs.size = 0 then some g else none
  | _ => none

def sc (v : Value) : AV := .c (.d (.sc v))

def evBin (op : BinOp) : Value → Value → Option Value
  | .int k a, .int k' b =>
    match op with
    | .shl => if 0 ≤ b then some (.int k (k.wrap (a * 2 ^ (min b.toNat k.bits)))) else none
    | .shr => if 0 ≤ b then some (.int k (a.fdiv (2 ^ (min b.toNat k.bits)))) else none
    | _ =>
      if k = k' then
        match op with
        | .add => some (.int k (k.wrap (a + b)))
        | .sub => some (.int k (k.wrap (a - b)))
        | .mul => some (.int k (k.wrap (a * b)))
        | .quo => if b = 0 then none else some (.int k (k.wrap (a.tdiv b)))
        | .rem => if b = 0 then none else some (.int k (a.tmod b))
        | .and => some (.int k (k.wrap (BitVec.ofInt k.bits a &&& BitVec.ofInt k.bits b).toNat))
        | .or => some (.int k (k.wrap (BitVec.ofInt k.bits a ||| BitVec.ofInt k.bits b).toNat))
        | .xor => some (.int k (k.wrap (BitVec.ofInt k.bits a ^^^ BitVec.ofInt k.bits b).toNat))
        | .andNot => some (.int k (k.wrap (BitVec.ofInt k.bits a &&& ~~~ BitVec.ofInt k.bits b).toNat))
        | .eql => some (.bool (decide (a = b)))
        | .neq => some (.bool (!decide (a = b)))
        | .lss => some (.bool (decide (a < b)))
        | .leq => some (.bool (decide (a ≤ b)))
        | .gtr => some (.bool (decide (b < a)))
        | .geq => some (.bool (decide (b ≤ a)))
        | _ => none
      else none
  | .string a, .string b =>
    match op with
    | .eql => some (.bool (decide (a = b)))
    | .neq => some (.bool (!decide (a = b)))
    | _ => none
  | _, _ => none
def evBinB (op : BinOp) : Value → Value → Option Value
  | .bool a, .bool b =>
    match op with
    | .eql => some (.bool (a == b))
    | .neq => some (.bool (!(a == b)))
    | _ => none
  | _, _ => none

def evUn (op : UnOp) : Value → Option Value
  | .int k n =>
    match op with
    | .neg => some (.int k (k.wrap (0 - n)))
    | .xor => some (.int k (k.wrap (BitVec.ofInt k.bits (if k.signed then -1 else k.max) ^^^ BitVec.ofInt k.bits n).toNat))
    | _ => none
  | .bool b => match op with | .not => some (.bool !b) | _ => none
  | _ => none

/-- Two cells equal: bools (0), whole numbers (1), strings (2). -/
def eqCell : Nat → D → D → Option Bool
  | 0, .sc (.bool a), .sc (.bool b) => some (a == b)
  | 1, .sc (.int k a), .sc (.int k' b) => if k = k' then some (decide (a = b)) else none
  | 2, .sc (.string a), .sc (.string b) => some (decide (a = b))
  | _, _, _ => none
def eqCells : List Nat → List D → List D → Option Bool
  | [], [], [] => some true
  | k :: ks, x :: xs, y :: ys => bindO (eqCell k x y) fun b => bindO (eqCells ks xs ys) fun b' => some (b && b')
  | _, _, _ => none

/-- Write parts (offset, size, value) over cells. -/
def putPart (cells : List C) (off sz : Nat) : AV → Option (List C)
  | .c x => if sz = 1 ∧ off < cells.length then some (cells.set off x) else none
  | .ag cs => if cs.length = sz ∧ off + sz ≤ cells.length then some (cells.take off ++ cs ++ cells.drop (off + sz)) else none
  | _ => none
def putParts (f : Fr) : List C → List (Nat × Nat × AO) → Option (List C)
  | cells, [] => some cells
  | cells, (off, sz, x) :: r => bindV (x.ev f) fun v => bindO (putPart cells off sz v) fun cs => putParts f cs r

/-- Cells of a box: nil slices become rows that may grow. -/
def births : Nat → List C → List C × List (Nat × Option Loc) × Nat
  | n, [] => ([], [], n)
  | n, .nil :: r => let q := births (n + 1) r; (.gr n [] :: q.1, (n, some (.tok 0 0)) :: q.2.1, q.2.2)
  | n, x :: r => let q := births n r; (x :: q.1, q.2.1, q.2.2)

/-- What is stored: nil slices become rows that may grow. -/
def birthV (nx : Nat) : AV → AV × List (Nat × Option Loc) × Nat
  | .c .nil => (.c (.gr nx []), [(nx, some (.tok 0 0))], nx + 1)
  | .ag cs => (.ag (births nx cs).1, (births nx cs).2.1, (births nx cs).2.2)
  | v => (v, [], nx)

/-- One element of a slice literal. -/
def cellsOf (sz : Nat) : AV → Option (List C)
  | .c x => if sz = 1 then some [x] else none
  | .ag cs => if cs.length = sz then some cs else none
  | _ => none
def litElems (f : Fr) (sz : Nat) : List (List C) → List (Nat × AO) → Option (List (List C))
  | es, [] => some es
  | es, (i, x) :: r => bindV (x.ev f) fun v => bindO (cellsOf sz v) fun cs => if i < es.length then litElems f sz (es.set i cs) r else none

/-- An argument by value. -/
def toPV (h : Hp) (sz : Nat) : AV → Option (PV × List Nat)
  | .c x => some (.one x.toD, [])
  | .ag cs => some (.agg (cs.map C.toD), [])
  | .ref id off len => bindO (elems h sz (.ref id off len)) fun e => some (.one (.sl e.1), e.2)
  | _ => none
def toPVs (h : Hp) (f : Fr) : List (Nat × AO) → Option (List PV × List Nat)
  | [] => some ([], [])
  | x :: r => bindV (x.2.ev f) fun v => bindO (toPV h x.1 v) fun a => bindO (toPVs h f r) fun b => some (a.1 :: b.1, a.2 ++ b.2)
def PV.toAV : PV → AV
  | .one x => .c (.d x)
  | .agg xs => .ag (xs.map C.d)
def outAV : List PV → AV
  | [x] => x.toAV
  | xs => .tu xs
/-- No slice in it. -/
def D.flat : D → Bool
  | .sc _ => true
  | .sl [] => true
  | .sl (_ :: _) => false
def PV.flat : PV → Bool
  | .one x => x.flat
  | .agg xs => xs.all D.flat

/-- The numbers that a value names. -/
def C.ids : C → List Nat
  | .gr t _ => [t]
  | _ => []
def AV.ids : AV → List Nat
  | .c x => x.ids
  | .ag cs => cs.flatMap C.ids
  | .ref id _ _ => [id]
  | .ptr id _ => [id]
  | _ => []
def Loc.ids : Loc → List Nat
  | .arr cells => cells.flatMap C.ids
  | .tok _ _ => []

/-- What an operation may call. -/
structure Or where
  call : Nat → List PV → Option (List PV)
  icall : Nat → List AV → Hp → Nat → Option (AV × Hp × Nat)

def ok1 (v : AV) (nx : Nat) : Option Re := some ⟨v, [], [], nx⟩

def doCall (K : Or) (draw : Bool) (f : Fr) (h : Hp) (nx g : Nat) (args : List (Nat × AO)) : Option Re :=
  bindO (toPVs h f args) fun a => bindO (K.call g a.1) fun r =>
    if (a.2.isEmpty || r.all PV.flat) = true then some ⟨outAV r, [], a.2, nx⟩
    else some ⟨outAV r, a.2.map (·, none), a.2, nx⟩

/-- The abstract heap cut to what these arrays hold. -/
def Hp.reach (h : Hp) (ids : List Nat) : List Nat :=
  ids ++ ids.flatMap fun i => match h.get i with | some l => l.ids | none => []
def Hp.cut (h : Hp) (ids : List Nat) : Hp := h.filter fun e => ids.contains e.1

def doICall (K : Or) (h : Hp) (nx g : Nat) (vs : List AV) : Option Re :=
  let rs := h.reach (vs.flatMap AV.ids)
  bindO (K.icall g vs (h.cut rs) nx) fun q =>
    if ((q.1.ids ++ q.2.1.flatMap fun e => e.2.ids).all fun i => rs.contains i || decide (nx ≤ i)) = true then
      some ⟨q.1, rs.map (fun i => (i, q.2.1.get i)) ++ (q.2.1.filter fun e => nx ≤ e.1).map (fun e => (e.1, q.2.1.get e.1)), rs, q.2.2⟩
    else none

def boxed (q : List C × List (Nat × Option Loc) × Nat) : Option Re := some ⟨.ptr q.2.2 0, q.2.1 ++ [(q.2.2, some (.arr q.1))], [], q.2.2 + 1⟩
def maxBytes : Nat := 140737488355328

def evOp (K : Or) (draw : Bool) (f : Fr) (h : Hp) (nx : Nat) : AOp → Option Re
  | .mv x => ok1 (x.ev f) nx
  | .asg x =>
    match x.ev f with
    | .c .nil => some ⟨.c (.gr nx []), [(nx, some (.tok 0 0))], [], nx + 1⟩
    | v => ok1 v nx
  | .pick c a b => bindO (asBool (c.ev f)) fun q => ok1 (if q then a.ev f else b.ev f) nx
  | .alloc zero => boxed (births nx zero)
  | .box x =>
    match x.ev f with
    | .c y => boxed (births nx [y])
    | .ag cs => boxed (births nx cs)
    | _ => none
  | .build zero parts => bindO (putParts f zero parts) fun cs => ok1 (.ag cs) nx
  | .bsl mu sz n zero parts => bindO (litElems f sz (List.replicate n zero) parts) fun es =>
    if mu then some ⟨.ref nx 0 n, [(nx, some (.arr es.flatten))], [], nx + 1⟩
    else some ⟨.c (.gr nx (es.map (·.map C.toD))), [(nx, some (.tok n sz))], [], nx + 1⟩
  | .ld agg sz a =>
    match a.ev f with
    | .ptr id off =>
      match h.get id with
      | some (.arr cells) =>
        if agg then (if off + sz ≤ cells.length then some ⟨.ag ((cells.drop off).take sz), [], [id], nx⟩ else none)
        else match cells[off]? with | some x => some ⟨.c x, [], [id], nx⟩ | none => none
      | _ => none
    | .fptr xs =>
      if agg then (if sz ≤ xs.length then ok1 (.ag ((xs.take sz).map C.d)) nx else none)
      else match xs with | x :: _ => ok1 (.c (.d x)) nx | [] => none
    | _ => none
  | .st sz a x =>
    match a.ev f with
    | .ptr id off =>
      match h.get id with
      | some (.arr cells) => bindV (birthV nx (x.ev f)) fun v => bindO (putPart cells off sz v.1) fun cs => some ⟨.top, v.2.1 ++ [(id, some (.arr cs))], [id], v.2.2⟩
      | _ => none
    | _ => none
  | .fad off x =>
    match x.ev f with
    | .ptr id o => if h.has id = true then some ⟨.ptr id (o + off), [], [id], nx⟩ else none
    | .fptr xs => ok1 (.fptr (xs.drop off)) nx
    | _ => none
  | .iad sz x i => bindO (asInt (i.ev f)) fun q =>
    match x.ev f with
    | .c (.d (.sl es)) => if 0 ≤ q.2 then (match es[q.2.toNat]? with | some e => if e.length = sz then ok1 (.fptr e) nx else none | none => none) else none
    | .c (.gr _ es) => if 0 ≤ q.2 then (match es[q.2.toNat]? with | some e => if e.length = sz then ok1 (.fptr e) nx else none | none => none) else none
    | .ref id off len => if 0 ≤ q.2 ∧ q.2 < (len : Int) ∧ h.has id = true then some ⟨.ptr id (off + q.2.toNat * sz), [], [id], nx⟩ else none
    | _ => none
  | .fld agg off sz x =>
    match x.ev f with
    | .ag cs => if agg then ok1 (.ag ((cs.drop off).take sz)) nx else (match cs[off]? with | some y => ok1 (.c y) nx | none => none)
    | _ => none
  | .idx agg len sz x i => bindO (asInt (i.ev f)) fun q =>
    match x.ev f with
    | .ag cs => if 0 ≤ q.2 ∧ q.2 < (len : Int) then
        (if agg then ok1 (.ag ((cs.drop (q.2.toNat * sz)).take sz)) nx else (match cs[q.2.toNat * sz]? with | some y => ok1 (.c y) nx | none => none)) else none
    | _ => none
  | .sidx x i => bindO (asInt (i.ev f)) fun q =>
    match x.ev f with
    | .c (.d (.sc (.string s))) => if 0 ≤ q.2 then (match s[q.2.toNat]? with | some b => ok1 (sc (.int .u8 b.toNat)) nx | none => none) else none
    | _ => none
  | .bin op x y =>
    match x.ev f, y.ev f with
    | .c (.d (.sc a)), .c (.d (.sc b)) => bindO (evBin op a b) fun v => ok1 (sc v) nx
    | _, _ => none
  | .binb op x y =>
    match x.ev f, y.ev f with
    | .c (.d (.sc a)), .c (.d (.sc b)) => bindO (evBinB op a b) fun v => ok1 (sc v) nx
    | _, _ => none
  | .eqa neg ks x y =>
    match x.ev f, y.ev f with
    | .ag a, .ag b => bindO (eqCells ks (a.map C.toD) (b.map C.toD)) fun q => ok1 (sc (.bool (if neg then !q else q))) nx
    | _, _ => none
  | .un op x =>
    match x.ev f with
    | .c (.d (.sc a)) => bindO (evUn op a) fun v => ok1 (sc v) nx
    | _ => none
  | .cvi k x => bindO (asInt (x.ev f)) fun q => ok1 (sc (.int k (k.wrap q.2))) nx
  | .cvs x => bindO (asInt (x.ev f)) fun q => ok1 (sc (.string (Utf8.encode q.2))) nx
  | .slc sz x lo hi =>
    bindO (match lo with | some a => bindO (asInt (a.ev f)) fun q => some q.2 | none => some 0) fun l =>
    bindO (lenOf h (x.ev f)) fun n =>
    bindO (match hi with | some a => bindO (asInt (a.ev f)) fun q => some q.2 | none => some (n.1 : Int)) fun m =>
    if 0 ≤ l ∧ l ≤ m ∧ m ≤ (n.1 : Int) then
      match x.ev f with
      | .c (.d (.sl es)) => if (es.all fun e => e.length == sz) = true then ok1 (.c (.d (.sl ((es.take m.toNat).drop l.toNat)))) nx else none
      | .c (.gr _ es) => if (es.all fun e => e.length == sz) = true then ok1 (.c (.d (.sl ((es.take m.toNat).drop l.toNat)))) nx else none
      | .c .nil => ok1 (.c .nil) nx
      | .ref id off _ => some ⟨.ref id (off + l.toNat * sz) (m - l).toNat, [], [id], nx⟩
      | _ => none
    else none
  | .mks mu sz bytes zero l c => bindO (asInt (l.ev f)) fun n => bindO (asInt (c.ev f)) fun m =>
    if 0 ≤ n.2 ∧ n.2 ≤ m.2 ∧ m.2 * bytes ≤ (maxBytes : Int) ∧ zero.length = sz then
      (if mu then (if n.2 = m.2 then some ⟨.ref nx 0 n.2.toNat, [(nx, some (.arr (List.replicate n.2.toNat zero).flatten))], [], nx + 1⟩ else none)
       else some ⟨.c (.gr nx (List.replicate n.2.toNat (zero.map C.toD))), [(nx, some (.tok n.2.toNat sz))], [], nx + 1⟩)
    else none
  | .app mu sz bytes x y => bindO (elems h sz (y.ev f)) fun ys =>
    match x.ev f with
    | .c .nil => if ys.1.length * bytes ≤ maxBytes ∧ (ys.1.all fun e => e.length == sz) = true then
        (if mu then none else some ⟨.c (.gr nx ys.1), [(nx, some (.tok ys.1.length (if ys.1.isEmpty then 0 else sz)))], ys.2, nx + 1⟩) else none
    | .c (.gr t es) =>
      match h.get t with
      | some (.tok n s) =>
        if es.length = n ∧ (s = sz ∨ s = 0) ∧ (n + ys.1.length) * bytes ≤ maxBytes ∧ (ys.1.all fun e => e.length == sz) = true then
          (if mu then (if n = 0 ∧ s = sz then some ⟨.ref nx 0 ys.1.length, [(t, none), (nx, some (.arr (ys.1.flatten.map C.d)))], t :: ys.2, nx + 1⟩ else none)
           else some ⟨.c (.gr t (es ++ ys.1)), [(t, some (.tok (n + ys.1.length) (if ys.1.isEmpty then s else sz)))], t :: ys.2, nx⟩)
        else none
      | _ => none
    | _ => none
  | .cpy x y => bindO (elems h 1 (y.ev f)) fun ys =>
    match x.ev f with
    | .ref id off len =>
      match h.get id with
      | some (.arr cells) =>
        if off + len ≤ cells.length ∧ (ys.1.all fun e => e.length == 1) = true then
          some ⟨sc (.int .i64 (min ys.1.length len : Nat)), [(id, some (.arr (cells.take off ++ (ys.1.flatten.take (min ys.1.length len)).map C.d ++ cells.drop (off + min ys.1.length len))))], id :: ys.2, nx⟩
        else none
      | _ => none
    | _ => none
  | .len x => bindO (lenOf h (x.ev f)) fun n => some ⟨sc (.int .i64 n.1), [], n.2, nx⟩
  | .slen x =>
    match x.ev f with
    | .c (.d (.sc (.string s))) => ok1 (sc (.int .i64 s.size)) nx
    | _ => none
  | .mx x y => bindO (asInt (x.ev f)) fun a => bindO (asInt (y.ev f)) fun b => if a.1 = b.1 then ok1 (sc (.int a.1 (if a.2 < b.2 then b.2 else a.2))) nx else none
  | .mn x y => bindO (asInt (x.ev f)) fun a => bindO (asInt (y.ev f)) fun b => if a.1 = b.1 then ok1 (sc (.int a.1 (if b.2 < a.2 then b.2 else a.2))) nx else none
  | .ext x i =>
    match x.ev f with
    | .tu xs => match xs[i]? with | some p => ok1 p.toAV nx | none => none
    | _ => none
  | .call g args => doCall K draw f h nx g args
  | .callv x args =>
    bindO (funcOf (x.ev f)) fun g => doCall K draw f h nx g args
  | .icall g args => doICall K h nx g (args.map (AO.ev f))
  | .bad => none

structure St where
  f : Fr
  h : Hp
  nx : Nat

def St.put (st : St) (dst : Option Nat) (r : Re) : St :=
  ⟨match dst with | some d => (d, r.v) :: st.f | none => st.f, st.h.upd r.w, r.nx⟩

/-- What a guard's slot says: nothing, where its own operation was not run. -/
def gdB : AV → Option (Option Bool)
  | .tu _ => some none
  | .c (.d (.sc (.bool b))) => some (some b)
  | _ => none
/-- One operation in its place. -/
def evStep (K : Or) (draw : Bool) (o : AOper) (st : St) : Option Re :=
  match o.g with
  | none => evOp K draw st.f st.h st.nx o.op
  | some (s, want) => bindO (gdB (st.f.get s)) fun b =>
    if b = some want then evOp K draw st.f st.h st.nx o.op else ok1 (.tu []) st.nx

def evOps (K : Or) : List AOper → St → Option St
  | [], st => some st
  | o :: os, st => bindO (evStep K false o st) fun r => evOps K os (st.put o.dst r)

def disj (a b : List Nat) : Bool := a.all fun x => !b.contains x
/-- What an operation of open order did: its place, the numbers that it gave out (from, to), what it read, changed. -/
structure Fp where
  i : Nat
  lo : Nat
  hi : Nat
  r : List Nat
  w : List Nat
/-- The numbers that an operation's answer names. -/
def Re.ids (q : Re) : List Nat := q.v.ids ++ q.w.flatMap fun e => e.1 :: match e.2 with | some l => l.ids | none => []
/-- May an operation (predecessors bf, read r, changed w, named m) come up in any order with the earlier ones that are no predecessors of it? -/
def beside (bf : Nat) (r w m : List Nat) : List Fp → Bool
  | [] => true
  | k :: t => ((disj w (k.r ++ k.w) && disj k.w (r ++ w) && m.all fun x => !(decide (k.lo ≤ x) && decide (x < k.hi))) || bf.testBit k.i) && beside bf r w m t
def addFp (i lo : Nat) (q : Re) (prev : List Fp) : List Fp :=
  match q.r, q.w with
  | [], [] => iteB (q.nx == lo) prev (⟨i, lo, q.nx, [], []⟩ :: prev)
  | r, w => ⟨i, lo, q.nx, r, w.map (·.1)⟩ :: prev

def evOpsD (K : Or) : Nat → List Fp → List AOper → St → Option St
  | _, _, [], st => some st
  | i, prev, o :: os, st => bindO (evStep K true o st) fun q =>
    iteB (beside o.bf q.r (q.w.map (·.1)) q.ids prev) (evOpsD K (i + 1) (addFp i st.nx q prev) os (st.put o.dst q)) none

inductive Ex where
  | norm
  | exit (id : Nat)
  | ret

/-- A cell at a loop's head. -/
def C.old (n : Nat) : C → C
  | .gr t es => if t < n then .gr t es else .d (.sl es)
  | x => x
/-- A value at a loop's head: what was made since number n is no longer named. -/
def AV.old (n : Nat) : AV → AV
  | .c (.gr t es) => if t < n then .c (.gr t es) else .c (.d (.sl es))
  | .ref id off len => if id < n then .ref id off len else .top
  | .ptr id off => if id < n then .ptr id off else .top
  | .ag cs => .ag (cs.map (C.old n))
  | v => v
def Loc.old (n : Nat) : Loc → Loc
  | .arr cells => .arr (cells.map (C.old n))
  | l => l
def maskF (f : Fr) (n : Nat) : List Nat → Fr
  | [] => []
  | s :: r => (s, (f.get s).old n) :: maskF f n r
def cutH (n : Nat) : Hp → Hp
  | [] => []
  | (i, l) :: r => if i < n then (i, l.old n) :: cutH n r else cutH n r
def St.head (keep : List Nat) (n : Nat) (st : St) : St := ⟨maskF st.f n keep, cutH n st.h, n⟩

def initF : Nat → List AV → Fr
  | _, [] => []
  | n, v :: r => (n, v) :: initF (n + 1) r

def resOne (f : Fr) (h : Hp) : ARes → Option PV
  | .t s esz => bindO (toPV h esz (f.get s)) fun a => some a.1
  | .one s => match f.get s with
    | .ptr id off => match h.get id with
      | some (.arr cells) => match cells[off]? with | some x => some (.one x.toD) | none => none
      | _ => none
    | _ => none
  | .agg s sz => match f.get s with
    | .ptr id off => match h.get id with
      | some (.arr cells) => if off + sz ≤ cells.length then some (.agg (((cells.drop off).take sz).map C.toD)) else none
      | _ => none
    | _ => none
def resAll (f : Fr) (h : Hp) : List ARes → Option (List PV)
  | [] => some []
  | r :: rs => bindO (resOne f h r) fun a => bindO (resAll f h rs) fun b => some (a :: b)

/-- An inlined call's results: none, or one slot as it stands, or data. -/
def resIn (f : Fr) (h : Hp) : List ARes → Option AV
  | [] => some (.tu [])
  | [.t s _] => some (f.get s)
  | rs => bindO (resAll f h rs) fun b => if b.all PV.flat = true then some (outAV b) else none

section
variable (A : Nat → Option AFunc) (X : Nat → Option (List PV → Option (List PV)))

def evC : Nat → ACode → St → Option (Ex × St)
  | 0, _, _ => none
  | n + 1, c, st =>
    match c with
    | .skip => some (.norm, st)
    | .reg draw ops =>
      let K : Or := {
        call := fun g args => match X g with
          | some e => e args
          | none => bindO (A g) fun fn => if args.length = fn.np then bindO (evC n fn.body ⟨initF 0 (args.map PV.toAV), [], 0⟩) fun q =>
              match q.1 with
              | .exit _ => none
              | _ => resAll q.2.f q.2.h fn.res
            else none
        icall := fun g args h nx => bindO (A g) fun fn => if args.length = fn.np then bindO (evC n fn.body ⟨initF 0 args, h, nx⟩) fun q =>
              match q.1 with
              | .exit _ => none
              | _ => bindO (resIn q.2.f q.2.h fn.res) fun v => some (v, q.2.h, q.2.nx)
            else none }
      bindO (iteB draw (evOpsD K 0 [] ops st) (evOps K ops st)) fun st' => some (.norm, st')
    | .seq a b => bindO (evC n a st) fun q => match q.1 with
      | .norm => evC n b q.2
      | e => some (e, q.2)
    | .cond x a b => bindO (asBool (x.ev st.f)) fun q => iteB q (evC n a st) (evC n b st)
    | .block id a => bindO (evC n a st) fun q => match q.1 with
      | .exit i => if i = id then some (.norm, q.2) else some (.exit i, q.2)
      | e => some (e, q.2)
    | .loop keep a => bindO (evC n a (st.head keep st.nx)) fun q => match q.1 with
      | .norm => evC n (.loop keep a) (q.2.head keep st.nx)
      | e => some (e, q.2)
    | .exit id => some (.exit id, st)
    | .ret => some (.ret, st)
    | .bad => none

end
end Go.Proofs.Ytpanbfainilmpaa.Ev
end
section
/- From the program's code to the evaluator's: types become sizes and offsets. -/
set_option linter.unusedVariables false
set_option linter.unusedSimpArgs false
namespace Go.Proofs.Ytpanbfainilmpaa.Ev

section
variable (P : Program)

def szOf (t : TypeId) : Nat := match P.info? t with | some i => i.size | none => 0
def byOf (t : TypeId) : Nat := match P.info? t with | some i => i.bytes | none => 0
def isAggT (t : TypeId) : Bool := match P.underlying t with | some (.struct _) => true | some (.array _ _) => true | _ => false
def elemT (t : TypeId) : Option TypeId := match P.underlying t with | some (.slice e) => some e | _ => none
def esz (t : TypeId) : Nat := match elemT P t with | some e => szOf P e | none => 1

/-- A scalar that may lie in one cell. -/
def plainV : Value → Bool
  | .bool _ | .int _ _ | .string _ => true
  | .func (.func _) fs cs => fs.isEmpty && cs.isEmpty
  | .nilFunc => true
  | _ => false
def cellC : Value → Option C
  | .slice none 0 0 => some .nil
  | .bool b => some (.d (.sc (.bool b)))
  | .int k n => some (.d (.sc (.int k n)))
  | .string s => some (.d (.sc (.string s)))
  | .nilFunc => some (.d (.sc .nilFunc))
  | _ => none
def cellsC : List Value → Option (List C)
  | [] => some []
  | v :: r => bindO (cellC v) fun x => bindO (cellsC r) fun xs => some (x :: xs)
def zeroC (t : TypeId) : Option (List C) := bindO (P.info? t) fun i => bindO i.zero fun z => cellsC z.cells.toList

def compA : Operand → Option AO
  | .tmp t => some (.t t)
  | .const v => bindO (cellC v) fun x => some (.k x)
  | .func f => some (.k (.d (.sc (.func (.func f) #[] #[]))))
  | .global _ => none
def compO (x : Option Operand) : Option (Option AO) :=
  match x with
  | none => some none
  | some y => bindO (compA y) fun a => some (some a)

def place1 (t : TypeId) (i : Nat) : Option (Nat × Nat) :=
  match P.underlying t with
  | some (.struct fs) => bindO (fs.toList.mapM fun f => (P.info? f.type).map fun i => (f.offset, i.size)) fun ps => ps[i]?
  | some (.array _ e) => bindO (P.info? e) fun ie => some (i * ie.size, ie.size)
  | _ => none
def placeOk (t : TypeId) : Bool :=
  match P.underlying t with
  | some (.struct fs) => (fs.toList.mapM fun f => (P.info? f.type).map fun i => (f.offset, i.size)).isSome
  | some (.array _ e) => (P.info? e).isSome
  | _ => false
def compParts (t : TypeId) : List (Nat × Operand) → Option (List (Nat × Nat × AO))
  | [] => some []
  | (i, x) :: r => bindO (place1 P t i) fun p => bindO (compA x) fun a => bindO (compParts t r) fun ps => some ((p.1, p.2, a) :: ps)
def compParts2 : List (Nat × Operand) → Option (List (Nat × AO))
  | [] => some []
  | (i, x) :: r => bindO (compA x) fun a => bindO (compParts2 r) fun ps => some ((i, a) :: ps)
def compArgs : List Operand → List TypeId → Option (List (Nat × AO))
  | [], _ => some []
  | x :: r, ts => bindO (compA x) fun a => bindO (compArgs r ts.tail) fun ps => some ((match ts with | t :: _ => esz P t | [] => 1, a) :: ps)
def compArgs1 : List Operand → Option (List AO)
  | [] => some []
  | x :: r => bindO (compA x) fun a => bindO (compArgs1 r) fun ps => some (a :: ps)

/-- Structs whose == is that of their cells, one by one: the kinds of the cells. -/
def kindsFs (F : TypeId → Option (List Nat)) (n : Nat) : Nat → List Field → Option (List Nat)
  | off, [] => if off = n then some [] else none
  | off, f :: r => if (f.name != "_") = true ∧ f.offset = off then bindO (F f.type) fun a => if a.length = szOf P f.type then bindO (kindsFs F n (off + szOf P f.type) r) fun b => some (a ++ b) else none else none
def kindsT : Nat → TypeId → Option (List Nat)
  | 0, _ => none
  | d + 1, t => match P.underlying t with
    | some .bool => if szOf P t = 1 then some [0] else none
    | some (.int _) => if szOf P t = 1 then some [1] else none
    | some .string => if szOf P t = 1 then some [2] else none
    | some (.struct fs) => if P.stoodInHeld t = false ∧ 0 < szOf P t then kindsFs P (kindsT d) (szOf P t) 0 fs.toList else none
    | _ => none

def compOp? (inl : Nat → Bool) (o : Oper) : Option AOp :=
  match o.op with
  | .move x => bindO (compA x) fun a => some (.mv a)
  | .assign x => bindO (compA x) fun a => some (.asg a)
  | .pick c a b => bindO (compA c) fun c => bindO (compA a) fun a => bindO (compA b) fun b => some (.pick c a b)
  | .alloc t => bindO (zeroC P t) fun z => some (.alloc z)
  | .box _ x => bindO (compA x) fun a => some (.box a)
  | .build t ps => if placeOk P t = true then bindO (zeroC P t) fun z => bindO (compParts P t ps.toList) fun ps => some (.build z ps) else none
  | .buildSlice t n ps => bindO (elemT P t) fun e => bindO (zeroC P e) fun z => bindO (compParts2 ps.toList) fun ps =>
      if z.length = szOf P e ∧ 0 < szOf P e ∧ n * szOf P e ≤ 2 ^ 24 then some (.bsl false (szOf P e) n z ps) else none
  | .load t a => bindO (compA a) fun a => if 0 < szOf P t ∧ (P.underlying t).isSome = true ∧ (isAggT P t = true ∨ szOf P t = 1) then some (.ld (isAggT P t) (szOf P t) a) else none
  | .store t a x => bindO (compA a) fun a => bindO (compA x) fun x => if 0 < szOf P t then some (.st (szOf P t) a x) else none
  | .fieldAddr t x i => bindO (compA x) fun a => match P.underlying t with
      | some (.struct fs) => bindO fs[i]? fun f => if 0 < szOf P f.type then some (.fad f.offset a) else none
      | _ => none
  | .indexAddr t x i => bindO (elemT P t) fun e => bindO (compA x) fun x => bindO (compA i) fun i => if 0 < szOf P e then some (.iad (szOf P e) x i) else none
  | .field t x i => bindO (compA x) fun a => match P.underlying t with
      | some (.struct fs) => bindO fs[i]? fun f => if (P.underlying f.type).isSome = true ∧ (P.info? f.type).isSome = true then some (.fld (isAggT P f.type) f.offset (szOf P f.type) a) else none
      | _ => none
  | .index t x i => match P.underlying t with
      | some (.array n e) => bindO (compA x) fun x => bindO (compA i) fun i => if 0 < szOf P e ∧ (P.underlying e).isSome = true then some (.idx (isAggT P e) n (szOf P e) x i) else none
      | some .string => bindO (compA x) fun x => bindO (compA i) fun i => some (.sidx x i)
      | _ => none
  | .binOp op t x y _ => bindO (compA x) fun x => bindO (compA y) fun y =>
      match P.underlying t with
        | some (.int _) => some (.bin op x y)
        | some .string => some (.bin op x y)
        | some .bool => some (.binb op x y)
        | some (.struct _) => if P.eqGuardType P.depth t = false then bindO (kindsT P 10 t) fun ks => (match op with
          | .eql => some (.eqa false ks x y)
          | .neq => some (.eqa true ks x y)
          | _ => none) else none
        | _ => none
  | .unOp op _ x => bindO (compA x) fun a => some (.un op a)
  | .convert s d x => bindO (compA x) fun a => match P.underlying s, P.underlying d with
      | some (.int _), some (.int k) => some (.cvi k a)
      | some (.int _), some .string => some (.cvs a)
      | _, _ => none
  | .slice t x lo hi none => bindO (elemT P t) fun e => bindO (compA x) fun x => bindO (compO lo) fun lo => bindO (compO hi) fun hi => if 0 < szOf P e then some (.slc (szOf P e) x lo hi) else none
  | .makeSlice t l c => bindO (elemT P t) fun e => bindO (zeroC P e) fun z => bindO (compA l) fun l => bindO (compA c) fun c => if 0 < szOf P e ∧ z.length = szOf P e ∧ 0 < byOf P e then some (.mks false (szOf P e) (byOf P e) z l c) else none
  | .extract x i => bindO (compA x) fun a => some (.ext a i)
  | .call c => match c.callee with
      | .builtin .append => match c.argTypes.toList, c.args.toList with
          | [t, u], [x, y] => bindO (elemT P t) fun e => bindO (zeroC P e) fun z => bindO (compA x) fun x => bindO (compA y) fun y =>
              if t = u ∧ 0 < szOf P e ∧ z.length = szOf P e ∧ 0 < byOf P e then some (.app false (szOf P e) (byOf P e) x y) else none
          | _, _ => none
      | .builtin .copy => match c.argTypes.toList, c.args.toList with
          | [t, u], [x, y] => bindO (elemT P t) fun e => bindO (elemT P u) fun _ => bindO (compA x) fun x => bindO (compA y) fun y => if szOf P e = 1 then some (.cpy x y) else none
          | _, _ => none
      | .builtin .len => match c.argTypes.toList, c.args.toList with
          | [t], [x] => bindO (compA x) fun x => match P.underlying t with
              | some (.slice _) => some (.len x)
              | some .string => some (.slen x)
              | _ => none
          | _, _ => none
      | .builtin .max => match c.args.toList with | [x, y] => bindO (compA x) fun x => bindO (compA y) fun y => some (.mx x y) | _ => none
      | .builtin .min => match c.args.toList with | [x, y] => bindO (compA x) fun x => bindO (compA y) fun y => some (.mn x y) | _ => none
      | .value (.func f) => if inl f then bindO (compArgs1 c.args.toList) fun as => some (.icall f as)
          else bindO (compArgs P c.args.toList c.argTypes.toList) fun as => some (.call f as)
      | .value x => bindO (compA x) fun x => bindO (compArgs P c.args.toList c.argTypes.toList) fun as => some (.callv x as)
      | _ => none
  | _ => none
def compOp (inl : Nat → Bool) (o : Oper) : AOp := match compOp? P inl o with | some a => a | none => .bad

/-- The predecessors of each operation, as bits. -/
def bitsOf (acc : List Nat) : List Edge → Nat
  | [] => 0
  | e :: r => if Region.binds .any e then 2 ^ e.on ||| acc.getD e.on 0 ||| bitsOf acc r else bitsOf acc r
def bitsAll : List Nat → List Oper → List Nat
  | acc, [] => acc
  | acc, o :: r => bitsAll (acc ++ [bitsOf acc o.after.toList]) r

def compOper (inl : Nat → Bool) (nt : Nat) (ops : Array Oper) (o : Oper) (bf : Nat) : AOper :=
  { dst := o.dst
    op := if (match o.dst with | some d => decide (d < nt) | none => true) = false then .bad else match o.guard with
      | none => compOp P inl o
      | some (j, _) => if ((ops[j]?).bind (·.dst)).isSome then compOp P inl o else .bad
    g := match o.guard with
      | none => none
      | some (j, want) => some (((ops[j]?).bind (·.dst)).getD 0, want)
    bf := bf }
def compOpers (inl : Nat → Bool) (nt : Nat) (ops : Array Oper) : List Oper → List Nat → List AOper
  | [], _ => []
  | o :: r, bs => compOper P inl nt ops o (bs.headD 0) :: compOpers inl nt ops r bs.tail

/-- Each slot's writers stand in an order with whoever else names it. -/
def slotFits (oi oj : AOper) (i j : Nat) : Bool :=
  i == j || oi.bf.testBit j || oj.bf.testBit i || match oj.dst with
    | none => true
    | some d => !(oi.us.contains d) && match oi.dst with | some e => !(e == d) | none => true
def slotsOk (ops : List AOper) : Bool :=
  ops.zipIdx.all fun (oi, i) => ops.zipIdx.all fun (oj, j) => slotFits oi oj i j
def edgesOk (ops : List Oper) : Bool :=
  ops.zipIdx.all fun (o, i) => o.after.toList.all fun e => !Region.binds .any e || decide (e.on < i)
def compReg (inl : Nat → Bool) (nt : Nat) (ops : Array Oper) (draw : Bool) : ACode :=
  if draw then
    (if edgesOk ops.toList && slotsOk (compOpers P inl nt ops ops.toList (bitsAll [] ops.toList)) then .reg true (compOpers P inl nt ops ops.toList (bitsAll [] ops.toList)) else .bad)
  else .reg false (compOpers P inl nt ops ops.toList [])

def comp (inl : Nat → Bool) (nt : Nat) : Code → ACode
  | .skip => .skip
  | .region _ ops draw => compReg P inl nt ops draw
  | .seq a b => .seq (comp inl nt a) (comp inl nt b)
  | .cond c a b => match compA c with | some x => .cond x (comp inl nt a) (comp inl nt b) | none => .bad
  | .block id a => .block id (comp inl nt a)
  | .loop a => .loop [] (comp inl nt a)
  | .exit id => .exit id
  | .ret => .ret
  | _ => .bad

def compRes : ResultVar → TypeId → ARes
  | .tmp t, ty => .t t (esz P ty)
  | .cell a ty, _ => if isAggT P ty then .agg a (szOf P ty) else .one a
def compRess : List ResultVar → List TypeId → List ARes
  | [], _ => []
  | r :: rs, ts => compRes P r (ts.headD 0) :: compRess rs ts.tail

def compF (inl : Nat → Bool) (fn : Func) : AFunc :=
  { np := fn.params.size
    body := match fn.body with | some c => comp P inl fn.ntmps c | none => .bad
    res := compRess P fn.results.toList fn.resultTypes.toList }
end

/-! What a text of a function may choose freely: which slots a loop keeps, which slices are own arrays. -/
def AOp.bare : AOp → AOp
  | .bsl _ sz n z ps => .bsl false sz n z ps
  | .mks _ sz b z l c => .mks false sz b z l c
  | .app _ sz b x y => .app false sz b x y
  | o => o
def AOper.bare (o : AOper) : AOper := { o with op := o.op.bare }
def bareOps : List AOper → List AOper
  | [] => []
  | o :: r => o.bare :: bareOps r
def ACode.bare : ACode → ACode
  | .reg d ops => .reg d (bareOps ops)
  | .seq a b => .seq a.bare b.bare
  | .cond c a b => .cond c a.bare b.bare
  | .block id a => .block id a.bare
  | .loop _ a => .loop [] a.bare
  | c => c
def AFunc.bare (f : AFunc) : AFunc := { f with body := f.body.bare }
end Go.Proofs.Ytpanbfainilmpaa.Ev
end
section
/- What an evaluator's value says of a value in memory; how memory may go on. -/
set_option linter.unusedVariables false
set_option linter.unusedSimpArgs false
namespace Go.Proofs.Ytpanbfainilmpaa.Ev

/-- Lists side by side. -/
def RelL {α β : Type} (R : α → β → Prop) (xs : List α) (vs : List β) : Prop := xs.length = vs.length ∧ ∀ (i : Nat) (x : α) (v : β), xs[i]? = some x → vs[i]? = some v → R x v

section RelL
variable {α β : Type} {R R' : α → β → Prop}
theorem RelL.nil : RelL R [] [] := ⟨rfl, fun i x v h => by simp at h⟩
theorem RelL.cons {x : α} {v : β} {xs : List α} {vs : List β} (h : R x v) (t : RelL R xs vs) : RelL R (x :: xs) (v :: vs) := by
  refine ⟨by simp [t.1], fun i y u hy hu => ?_⟩
  cases i with
  | zero => simp at hy hu; subst hy; subst hu; exact h
  | succ i => exact t.2 i y u (by simpa using hy) (by simpa using hu)
theorem RelL.head {x : α} {v : β} {xs : List α} {vs : List β} (h : RelL R (x :: xs) (v :: vs)) : R x v := h.2 0 x v rfl rfl
theorem RelL.tail {x : α} {v : β} {xs : List α} {vs : List β} (h : RelL R (x :: xs) (v :: vs)) : RelL R xs vs :=
  ⟨by have := h.1; simpa using this, fun i y u hy hu => h.2 (i + 1) y u (by simpa using hy) (by simpa using hu)⟩
theorem RelL.imp {xs : List α} {vs : List β} (h : RelL R xs vs) (hR : ∀ x ∈ xs, ∀ v, R x v → R' x v) : RelL R' xs vs :=
  ⟨h.1, fun i x v hx hv => hR x (List.mem_of_getElem? hx) v (h.2 i x v hx hv)⟩
theorem RelL.append {xs ys : List α} {vs us : List β} (h : RelL R xs vs) (k : RelL R ys us) : RelL R (xs ++ ys) (vs ++ us) := by
  refine ⟨by simp [h.1, k.1], fun i x v hx hv => ?_⟩
  rcases Nat.lt_or_ge i xs.length with hi | hi
  · rw [List.getElem?_append_left hi] at hx
    rw [List.getElem?_append_left (h.1 ▸ hi)] at hv
    exact h.2 i x v hx hv
  · rw [List.getElem?_append_right hi] at hx
    rw [List.getElem?_append_right (h.1 ▸ hi), ← h.1] at hv
    exact k.2 _ x v hx hv
theorem RelL.take {xs : List α} {vs : List β} (h : RelL R xs vs) (n : Nat) : RelL R (xs.take n) (vs.take n) := by
  refine ⟨by simp [h.1], fun i x v hx hv => ?_⟩
  rw [List.getElem?_take] at hx hv
  split at hx
  · rename_i hi; rw [if_pos hi] at hv; exact h.2 i x v hx hv
  · cases hx
theorem RelL.drop {xs : List α} {vs : List β} (h : RelL R xs vs) (n : Nat) : RelL R (xs.drop n) (vs.drop n) := by
  refine ⟨by simp [h.1], fun i x v hx hv => ?_⟩
  rw [List.getElem?_drop] at hx hv
  exact h.2 _ x v hx hv
theorem RelL.set {xs : List α} {vs : List β} (h : RelL R xs vs) {x : α} {v : β} (hxv : R x v) (n : Nat) : RelL R (xs.set n x) (vs.set n v) := by
  refine ⟨by simp [h.1], fun i y u hy hu => ?_⟩
  rw [List.getElem?_set] at hy hu
  by_cases hn : n = i
  · subst hn
    simp only [if_true] at hy hu
    have hl := h.1
    by_cases hlt : n < xs.length
    · rw [if_pos hlt] at hy; rw [if_pos (hl ▸ hlt)] at hu
      cases hy; cases hu; exact hxv
    · rw [if_neg hlt] at hy; cases hy
  · rw [if_neg hn] at hy hu
    exact h.2 i y u hy hu
theorem RelL.get {xs : List α} {vs : List β} (h : RelL R xs vs) {i : Nat} {x : α} (hx : xs[i]? = some x) : ∃ v, vs[i]? = some v ∧ R x v := by
  have hi : i < xs.length := (List.getElem?_eq_some_iff.1 hx).1
  have hv : vs[i]? = some (vs[i]'(h.1 ▸ hi)) := List.getElem?_eq_getElem _
  exact ⟨_, hv, h.2 i x _ hx hv⟩
theorem RelL.map {γ : Type} {f : γ → α} {xs : List γ} {vs : List β} (h : RelL (fun x v => R (f x) v) xs vs) : RelL R (xs.map f) vs := by
  refine ⟨by simp [h.1], fun i x v hx hv => ?_⟩
  rw [List.getElem?_map] at hx
  obtain ⟨y, hy, rfl⟩ := Option.map_eq_some_iff.1 hx
  exact h.2 i y v hy hv
end RelL

/-- A datum and a value. S: the cells that nobody writes any more. -/
inductive DR (w : World) (S : Nat → Nat → Prop) : D → Value → Prop
  | sc {v : Value} (h : v.oneCell' = true) : DR w S (.sc v) v
  | sl {es : List (List D)} {a : Option Addr} {n c sz b o : Nat} (vs : Nat → Nat → Value)
      (hn : n = es.length) (hc : n ≤ c)
      (hsz : ∀ (i : Nat) (e : List D), es[i]? = some e → e.length = sz)
      (ha : ∀ (i : Nat) (e : List D) (j : Nat) (x : D), es[i]? = some e → e[j]? = some x → a = some ⟨b, o, none⟩ ∧ w.cell? ⟨b, o + (i * sz + j), none⟩ = some (vs i j) ∧ S b (o + (i * sz + j)))
      (hr : ∀ (i : Nat) (e : List D) (j : Nat) (x : D), es[i]? = some e → e[j]? = some x → DR w S x (vs i j)) : DR w S (.sl es) (.slice a n c)

theorem DR.one {w : World} {S : Nat → Nat → Prop} {x : D} {v : Value} (h : DR w S x v) : v.oneCell' = true := by
  cases h with
  | sc h => exact h
  | sl => rfl

/-- A datum lives on where its cells do. -/
theorem DR.move {w w' : World} {S S' : Nat → Nat → Prop} (hS : ∀ b o u, S b o → w.cell? ⟨b, o, none⟩ = some u → S' b o ∧ w'.cell? ⟨b, o, none⟩ = some u) {x : D} {v : Value} (h : DR w S x v) : DR w' S' x v := by
  induction h with
  | sc h => exact .sc h
  | @sl es a n c sz b o vs hn hc hsz ha _ ih =>
    refine .sl (b := b) (o := o) vs hn hc hsz (fun i e j x he hx => ?_) ih
    obtain ⟨h1, h2, h3⟩ := ha i e j x he hx
    obtain ⟨h4, h5⟩ := hS _ _ _ h3 h2
    exact ⟨h1, h5, h4⟩

/-- A flat datum is what it is. -/
theorem DR.flat {w : World} {S : Nat → Nat → Prop} {x : D} {v : Value} (h : DR w S x v) (hf : x.flat = true) (w' : World) (S' : Nat → Nat → Prop) : DR w' S' x v := by
  cases h with
  | sc h => exact .sc h
  | @sl es a n c sz b o vs hn hc hsz ha hr =>
    cases es with
    | nil => exact .sl (sz := sz) (b := b) (o := o) vs hn hc hsz (fun _ _ _ _ h => by cases h) (fun _ _ _ _ h => by cases h)
    | cons => cases hf

def PR (w : World) (S : Nat → Nat → Prop) : PV → Value → Prop
  | .one x, v => DR w S x v
  | .agg xs, v => ∃ vs : List Value, v = .agg vs.toArray ∧ RelL (DR w S) xs vs
theorem PR.move {w w' : World} {S S' : Nat → Nat → Prop} (hS : ∀ b o u, S b o → w.cell? ⟨b, o, none⟩ = some u → S' b o ∧ w'.cell? ⟨b, o, none⟩ = some u) {x : PV} {v : Value} (h : PR w S x v) : PR w' S' x v := by
  cases x with
  | one x => exact DR.move hS h
  | agg xs =>
    obtain ⟨vs, rfl, hr⟩ := h
    exact ⟨vs, rfl, hr.imp fun _ _ _ h => DR.move hS h⟩
theorem PR.flat {w : World} {S : Nat → Nat → Prop} {x : PV} {v : Value} (h : PR w S x v) (hf : x.flat = true) (w' : World) (S' : Nat → Nat → Prop) : PR w' S' x v := by
  cases x with
  | one x => exact DR.flat h hf w' S'
  | agg xs =>
    obtain ⟨vs, rfl, hr⟩ := h
    refine ⟨vs, rfl, hr.imp fun x hx _ h => DR.flat h ?_ w' S'⟩
    simp only [PV.flat, List.all_eq_true] at hf
    exact hf x hx

/-- What only the proof knows: the settled cells, where each own array lies, each growing row's value. -/
structure Gh where
  S : Nat → Nat → Prop
  β : Nat → Nat
  ρ : Nat → Value

abbrev HF := Nat → Option Loc
def fup {α : Type} (f : Nat → α) (n : Nat) (x : α) : Nat → α := fun i => if i = n then x else f i
theorem fup_same {α : Type} (f : Nat → α) (n : Nat) (x : α) : fup f n x n = x := by simp [fup]
theorem fup_ne {α : Type} {f : Nat → α} {n i : Nat} {x : α} (h : i ≠ n) : fup f n x i = f i := by simp [fup, h]
def updF (H : HF) : List (Nat × Option Loc) → HF
  | [] => H
  | (n, x) :: r => updF (fup H n x) r
theorem updF_append (H : HF) (a b : List (Nat × Option Loc)) : updF H (a ++ b) = updF (updF H a) b := by
  induction a generalizing H with
  | nil => rfl
  | cons e r ih => exact ih _

theorem Hp.get_set (h : Hp) (n : Nat) (l : Loc) : (h.set n l).get = fup h.get n (some l) := by
  funext i
  induction h with
  | nil => simp only [Hp.set, Hp.get, fup]
  | cons e r ih =>
    obtain ⟨m, v⟩ := e
    simp only [Hp.set]
    split
    · rename_i hn
      subst hn
      simp only [Hp.get, fup]
      split <;> rfl
    · rename_i hn
      simp only [Hp.get, ih, fup]
      by_cases h1 : i = m
      · subst h1
        simp only [if_true]
        rw [if_neg (fun h => hn h.symm)]
      · simp only [if_neg h1]
theorem Hp.get_del (h : Hp) (n : Nat) : (h.del n).get = fup h.get n none := by
  funext i
  induction h with
  | nil => simp [Hp.del, Hp.get, fup]
  | cons e r ih =>
    obtain ⟨m, v⟩ := e
    simp only [Hp.del]
    split
    · rename_i hn
      subst hn
      rw [ih]
      simp only [Hp.get, fup]
      split <;> rfl
    · rename_i hn
      simp only [Hp.get, ih, fup]
      by_cases h1 : i = m
      · subst h1
        simp only [if_true]
        rw [if_neg (fun h => hn h.symm)]
      · simp only [if_neg h1]
theorem Hp.get_upd (h : Hp) (w : List (Nat × Option Loc)) : (h.upd w).get = updF h.get w := by
  induction w generalizing h with
  | nil => rfl
  | cons e r ih =>
    obtain ⟨n, x⟩ := e
    cases x with
    | none => simp only [Hp.upd, updF, ih, Hp.get_del]
    | some l => simp only [Hp.upd, updF, ih, Hp.get_set]

section
variable (w : World) (g : Gh) (H : HF)
def CR : C → Value → Prop
  | .d x, v => DR w g.S x v
  | .nil, v => v = .slice none 0 0
  | .gr t es, v => DR w g.S (.sl es) v ∧ ∀ n sz, H t = some (.tok n sz) → es.length ≤ n ∧ (es.length = n → v = g.ρ t ∧ ∀ e ∈ es, e.length = sz)
def AVR : AV → Value → Prop
  | .c x, v => CR w g H x v
  | .ag cs, v => ∃ vs : List Value, v = .agg vs.toArray ∧ RelL (CR w g H) cs vs
  | .tu xs, v => ∃ vs : List Value, v = .tuple vs.toArray ∧ RelL (PR w g.S) xs vs
  | .ref id off len, v => ∀ cells, H id = some (.arr cells) → ∃ p cap, v = .slice p len cap ∧ len ≤ cap ∧ (0 < len → p = some ⟨g.β id, off, none⟩)
  | .ptr id off, v => ∀ cells, H id = some (.arr cells) → v = .pointer (some ⟨g.β id, off, none⟩)
  | .fptr xs, v => ∃ b o, v = .pointer (some ⟨b, o, none⟩) ∧ ∀ (j : Nat) (x : D), xs[j]? = some x → ∃ u, w.cell? ⟨b, o + j, none⟩ = some u ∧ g.S b (o + j) ∧ DR w g.S x u
  | .top, _ => True
/-- The block of memory that a number owns. -/
def blk (id : Nat) : Option Nat :=
  match H id with
  | some (.arr _) => some (g.β id)
  | some (.tok _ _) => (g.ρ id).ownBlock
  | none => none
structure HI : Prop where
  arr : ∀ id cells, H id = some (.arr cells) → ∃ cur e, w.heap[g.β id]? = some (.cells cur e (0, 0)) ∧ cells.length ≤ cur.size ∧
    (∀ (i : Nat) (x : C), cells[i]? = some x → ∃ v, cur[i]? = some v ∧ CR w g H x v) ∧ ∀ o, ¬ g.S (g.β id) o
  tok : ∀ t n sz, H t = some (.tok n sz) → (g.ρ t = .slice none 0 0 ∧ n = 0 ∧ sz = 0) ∨
    ∃ b cap cur e, g.ρ t = .slice (some ⟨b, 0, none⟩) n cap ∧ w.heap[b]? = some (.cells cur e (0, 0)) ∧ n ≤ cap ∧ cap * sz ≤ cur.size ∧ 0 < sz ∧ ∀ o, g.S b o → o < n * sz
  apart : ∀ i j b, i ≠ j → blk g H i = some b → blk g H j ≠ some b
  lt : ∀ b o, g.S b o → b < w.heap.size
end

theorem CR.one {w : World} {g : Gh} {H : HF} {x : C} {v : Value} (h : CR w g H x v) : v.oneCell' = true := by
  cases x with
  | d x => exact DR.one h
  | nil => simp only [CR] at h; subst h; rfl
  | gr t es => exact DR.one h.1
/-- A cell's datum. -/
theorem CR.toD {w : World} {g : Gh} {H : HF} {x : C} {v : Value} (h : CR w g H x v) : DR w g.S x.toD v := by
  cases x with
  | d x => exact h
  | nil =>
    simp only [CR] at h; subst h
    exact .sl (sz := 0) (b := 0) (o := 0) (fun _ _ => undef) rfl (Nat.le_refl _) (fun i e h => by simp at h) (fun i e j x h => by simp at h) (fun i e j x h => by simp at h)
  | gr t es => exact h.1

theorem HI.blk_lt {w : World} {g : Gh} {H : HF} (h : HI w g H) {id b : Nat} (hb : blk g H id = some b) : b < w.heap.size := by
  unfold blk at hb
  split at hb
  · rename_i cells hc
    obtain ⟨cur, e, h1, _⟩ := h.arr id cells hc
    cases hb
    exact (Array.getElem?_eq_some_iff.1 h1).1
  · rename_i n sz hc
    rcases h.tok id n sz hc with ⟨h1, _⟩ | ⟨b', cap, cur, e, h1, h2, _⟩
    · rw [h1] at hb; cases hb
    · rw [h1] at hb
      simp only [Value.ownBlock, Option.some.injEq] at hb
      subst hb
      exact (Array.getElem?_eq_some_iff.1 h2).1
  · cases hb

/-- Memory goes on: Bn are the numbers that were given out on the way. -/
structure Stp (Bn : List Nat) (w : World) (g : Gh) (H : HF) (w' : World) (g' : Gh) (H' : HF) : Prop where
  os : w'.os = w.os
  tape : w'.tape = w.tape
  output : w'.output = w.output
  size : w.heap.size ≤ w'.heap.size
  S : ∀ b o, g.S b o → g'.S b o
  cell : ∀ b o, g.S b o → w'.cell? ⟨b, o, none⟩ = w.cell? ⟨b, o, none⟩
  arr : ∀ id cells', id ∉ Bn → H' id = some (.arr cells') → ∃ cells, H id = some (.arr cells) ∧ cells'.length = cells.length ∧ g'.β id = g.β id
  tok : ∀ t n' s', t ∉ Bn → H' t = some (.tok n' s') → ∃ n s, H t = some (.tok n s) ∧ n ≤ n' ∧ (n = n' → g'.ρ t = g.ρ t ∧ s' = s)
  fp : ∀ b, b < w.heap.size → (∀ id, blk g H id ≠ some b) → w'.heap[b]? = w.heap[b]?
  own : ∀ id b, blk g' H' id = some b → (∃ j, blk g H j = some b) ∨ w.heap.size ≤ b
  Snew : ∀ b o, g'.S b o → g.S b o ∨ (∃ j, blk g H j = some b) ∨ w.heap.size ≤ b

theorem Stp.refl (w : World) (g : Gh) (H : HF) : Stp [] w g H w g H where
  os := rfl
  tape := rfl
  output := rfl
  size := Nat.le_refl _
  S := fun _ _ h => h
  cell := fun _ _ _ => rfl
  arr := fun _ c _ h => ⟨c, h, rfl, rfl⟩
  tok := fun _ n s _ h => ⟨n, s, h, Nat.le_refl _, fun _ => ⟨rfl, rfl⟩⟩
  fp := fun _ _ _ => rfl
  own := fun id _ h => .inl ⟨id, h⟩
  Snew := fun _ _ h => .inl h

theorem Stp.trans {A B : List Nat} {w w1 w2 : World} {g g1 g2 : Gh} {H H1 H2 : HF} (a : Stp A w g H w1 g1 H1) (b : Stp B w1 g1 H1 w2 g2 H2) : Stp (A ++ B) w g H w2 g2 H2 where
  os := b.os.trans a.os
  tape := b.tape.trans a.tape
  output := b.output.trans a.output
  size := Nat.le_trans a.size b.size
  S := fun x o h => b.S x o (a.S x o h)
  cell := fun x o h => (b.cell x o (a.S x o h)).trans (a.cell x o h)
  arr := fun id c hn h => by
    rw [List.mem_append, not_or] at hn
    obtain ⟨c1, h1, h2, h3⟩ := b.arr id c hn.2 h
    obtain ⟨c2, h4, h5, h6⟩ := a.arr id c1 hn.1 h1
    exact ⟨c2, h4, h2.trans h5, h3.trans h6⟩
  tok := fun t n s hn h => by
    rw [List.mem_append, not_or] at hn
    obtain ⟨n1, s1, h1, h2, h3⟩ := b.tok t n s hn.2 h
    obtain ⟨n2, s2, h4, h5, h6⟩ := a.tok t n1 s1 hn.1 h1
    refine ⟨n2, s2, h4, Nat.le_trans h5 h2, fun he => ?_⟩
    have e1 : n1 = n := by omega
    have e2 : n2 = n1 := by omega
    exact ⟨(h3 e1).1.trans (h6 e2).1, (h3 e1).2.trans (h6 e2).2⟩
  fp := fun x hx hn => by
    rw [b.fp x (Nat.lt_of_lt_of_le hx a.size) (fun id he => ?_), a.fp x hx hn]
    rcases a.own id x he with ⟨j, hj⟩ | hle
    · exact hn j hj
    · omega
  own := fun id x h => by
    rcases b.own id x h with ⟨j, hj⟩ | hle
    · exact a.own j x hj
    · exact .inr (Nat.le_trans a.size hle)
  Snew := fun x o h => by
    rcases b.Snew x o h with h | ⟨j, hj⟩ | hle
    · exact a.Snew x o h
    · rcases a.own j x hj with h | h
      · exact .inr (.inl h)
      · exact .inr (.inr h)
    · exact .inr (.inr (Nat.le_trans a.size hle))

theorem Stp.weaken {A B : List Nat} {w w1 : World} {g g1 : Gh} {H H1 : HF} (a : Stp A w g H w1 g1 H1) (h : ∀ i ∈ A, i ∈ B) : Stp B w g H w1 g1 H1 :=
  { a with arr := fun id c hn => a.arr id c (fun hm => hn (h id hm)), tok := fun t n s hn => a.tok t n s (fun hm => hn (h t hm)) }

theorem Stp.dr {A : List Nat} {w w1 : World} {g g1 : Gh} {H H1 : HF} (a : Stp A w g H w1 g1 H1) : ∀ b o u, g.S b o → w.cell? ⟨b, o, none⟩ = some u → g1.S b o ∧ w1.cell? ⟨b, o, none⟩ = some u :=
  fun b o _ hS hu => ⟨a.S b o hS, (a.cell b o hS).trans hu⟩

theorem CR.step {A : List Nat} {w w1 : World} {g g1 : Gh} {H H1 : HF} (a : Stp A w g H w1 g1 H1) {x : C} {v : Value} (hx : ∀ i ∈ x.ids, i ∉ A) (h : CR w g H x v) : CR w1 g1 H1 x v := by
  cases x with
  | d x => exact DR.move a.dr h
  | nil => exact h
  | gr t es =>
    refine ⟨DR.move a.dr h.1, fun n sz ht => ?_⟩
    obtain ⟨n1, s1, h1, h2, h3⟩ := a.tok t n sz (hx t (by simp [C.ids])) ht
    obtain ⟨h4, h5⟩ := h.2 n1 s1 h1
    refine ⟨Nat.le_trans h4 h2, fun he => ?_⟩
    have e : n1 = n := by omega
    rw [(h3 e).1, (h3 e).2]
    exact h5 (by omega)
theorem AVR.step {A : List Nat} {w w1 : World} {g g1 : Gh} {H H1 : HF} (a : Stp A w g H w1 g1 H1) {x : AV} {v : Value} (hx : ∀ i ∈ x.ids, i ∉ A) (h : AVR w g H x v) : AVR w1 g1 H1 x v := by
  cases x with
  | c x => exact CR.step a hx h
  | ag cs =>
    obtain ⟨vs, rfl, hr⟩ := h
    refine ⟨vs, rfl, hr.imp fun x hm v h => CR.step a (fun i hi => hx i ?_) h⟩
    exact List.mem_flatMap.2 ⟨x, hm, hi⟩
  | tu xs =>
    obtain ⟨vs, rfl, hr⟩ := h
    exact ⟨vs, rfl, hr.imp fun x _ v h => PR.move a.dr h⟩
  | ref id off len =>
    intro cells hc
    obtain ⟨c1, h1, _, h3⟩ := a.arr id cells (hx id (by simp [AV.ids])) hc
    rw [h3]
    exact h c1 h1
  | ptr id off =>
    intro cells hc
    obtain ⟨c1, h1, _, h3⟩ := a.arr id cells (hx id (by simp [AV.ids])) hc
    rw [h3]
    exact h c1 h1
  | fptr xs =>
    obtain ⟨b, o, rfl, hr⟩ := h
    refine ⟨b, o, rfl, fun j x hj => ?_⟩
    obtain ⟨u, h1, h2, h3⟩ := hr j x hj
    exact ⟨u, (a.cell _ _ h2).trans h1, a.S _ _ h2, DR.move a.dr h3⟩
  | top => trivial

/-- No cell of the abstract heap names a number of B. -/
def Clean (H : HF) (B : List Nat) : Prop := ∀ id cells, H id = some (.arr cells) → ∀ x ∈ cells, ∀ i ∈ C.ids x, i ∉ B

/-- The frame's slots. -/
def FR (w : World) (g : Gh) (H : HF) (f : Fr) (a : Act) : Prop := ∀ s, AVR w g H (f.get s) (a.tmps.getD s undef)

end Go.Proofs.Ytpanbfainilmpaa.Ev
end
section
/- What the functions that are not walked here give: numbers as limbs. -/
set_option linter.unusedVariables false
set_option linter.unusedSimpArgs false
namespace Go.Proofs.Ytpanbfainilmpaa.Ev.N
open Go Go.Proofs.Ytpanbfainilmpaa.Ev
def B64 : Nat := 18446744073709551616
/-- What limbs are worth: the lowest first. -/
def val : List Nat → Nat
  | [] => 0
  | x :: l => x + B64 * val l
/-- The lowest k limbs of a number. -/
def digs (k n : Nat) : List Nat := (List.range k).map fun j => n / B64 ^ j % B64
/-- How many limbs it has. -/
def nlen (n : Nat) : Nat := if n = 0 then 0 else n.log2 / 64 + 1
/-- A number's limbs, without a nought on top. -/
def dig (n : Nat) : List Nat := digs (nlen n) n
abbrev n64 (x : Nat) : List D := [.sc (.int .u64 (x : Int))]
abbrev nl (l : List Nat) : PV := .one (.sl (l.map n64))
def un64 : List (List D) → Option (List Nat)
  | [] => some []
  | [.sc (.int .u64 x)] :: r => if 0 ≤ x ∧ x < 18446744073709551616 then (un64 r).map fun l => x.toNat :: l else none
  | _ => none
def two64 (f : List Nat → List Nat → Option (List PV)) : List PV → Option (List PV)
  | [.one (.sl a), .one (.sl b)] => (un64 a).bind fun a => (un64 b).bind fun b => if a.length ≤ 1000000 ∧ b.length ≤ 1000000 then f a b else none
  | _ => none
def cmpI (a b : Nat) : Int := if a < b then -1 else if b < a then 1 else 0
def subV (a b : Nat) : List PV := if b ≤ a then [nl (dig (a - b)), .one (.sc (.bool true))] else [nl [], .one (.sc (.bool false))]
/-- nat.Compare, nat.Add, nat.Sub (each ranges over a function) -/
def x67 : List PV → Option (List PV) := two64 fun a b => some [.one (.sc (.int .i64 (cmpI (val a) (val b))))]
def x66 : List PV → Option (List PV) := two64 fun a b => some [nl (dig (val a + val b))]
def x63 : List PV → Option (List PV) := two64 fun a b => some (subV (val a) (val b))
/-- bits.Add64, bits.Sub64 (without a text) -/
def three64 (f : Nat → Nat → Nat → Nat × Nat) : List PV → Option (List PV)
  | [.one (.sc (.int .u64 x)), .one (.sc (.int .u64 y)), .one (.sc (.int .u64 c))] => if 0 ≤ x ∧ 0 ≤ y ∧ 0 ≤ c ∧ c ≤ 1 then some [.one (.sc (.int .u64 ((f x.toNat y.toNat c.toNat).1 : Nat))), .one (.sc (.int .u64 ((f x.toNat y.toNat c.toNat).2 : Nat)))] else none
  | _ => none
def x100 : List PV → Option (List PV) := three64 fun x y c => ((x + y + c) % B64, (x + y + c) / B64)
def x103 : List PV → Option (List PV) := three64 fun x y c => ((x + B64 - y - c) % B64, if x < y + c then 1 else 0)
def XX : Nat → Option (List PV → Option (List PV))
  | 63 => some x63
  | 66 => some x66
  | 67 => some x67
  | 100 => some x100
  | 103 => some x103
  | _ => none
end Go.Proofs.Ytpanbfainilmpaa.Ev.N
end
section
/- The functions of the numbers' chapters in the evaluator's code, made by program. -/
set_option linter.unusedVariables false
set_option linter.unusedSimpArgs false
set_option maxRecDepth 100000
namespace Go.Proofs.Ytpanbfainilmpaa.Ev.N
open Go.Proofs.Ytpanbfainilmpaa.Ev
/-- function 10 -/
def a10 : AFunc :=
  { np := 2, body := .seq (.reg false [⟨some 4, .asg (.k (.d (.sc (.bool false)))), none, 0⟩]) (.seq (.seq (.reg false [⟨some 11, .mv (.t 0), none, 0⟩, ⟨some 12, .bsl false 1 1 [.nil] [(0, .t 11)], none, 0⟩, ⟨some 13, .call 52 [(1, .k (.d (.sc (.int .i64 (4))))), (1, .t 12)], none, 0⟩, ⟨some 14, .un .not (.t 13), none, 0⟩]) (.cond (.t 14) (.seq (.reg false [⟨some 15, .call 53 [], none, 0⟩, ⟨some 4, .asg (.t 15), none, 0⟩]) .ret) .skip)) (.seq (.reg false [⟨some 16, .build [.d (.sc (.int .u64 (0))), .d (.sc (.int .u64 (0))), .d (.sc (.int .u64 (0))), .d (.sc (.int .u64 (0))), .d (.sc (.int .u64 (0))), .d (.sc (.int .u64 (0)))] [(0, 1, .k (.d (.sc (.int .u64 (2))))), (1, 1, .k (.d (.sc (.int .u64 (3))))), (2, 1, .k (.d (.sc (.int .u64 (23))))), (3, 1, .k (.d (.sc (.int .u64 (2039))))), (4, 1, .k (.d (.sc (.int .u64 (65537))))), (5, 1, .k (.d (.sc (.int .u64 (2305843009213693951)))))], none, 0⟩, ⟨some 17, .mv (.t 1), none, 0⟩, ⟨some 18, .bin .rem (.t 17) (.k (.d (.sc (.int .u8 (6))))), none, 0⟩, ⟨some 19, .idx false 6 1 (.t 16) (.t 18), none, 0⟩, ⟨some 5, .asg (.t 19), none, 0⟩]) (.seq (.reg false [⟨some 21, .mv (.t 0), none, 0⟩, ⟨some 22, .mv (.t 5), none, 0⟩, ⟨some 23, .bin .sub (.t 22) (.k (.d (.sc (.int .u64 (1))))), none, 0⟩, ⟨some 24, .bsl false 1 1 [.d (.sc (.int .u64 (0)))] [(0, .t 23)], none, 0⟩, ⟨some 25, .mv (.t 5), none, 0⟩, ⟨some 26, .bsl false 1 1 [.d (.sc (.int .u64 (0)))] [(0, .t 25)], none, 0⟩, ⟨some 27, .call 54 [(1, .t 21), (1, .t 24), (1, .t 26)], none, 0⟩, ⟨some 20, .mv (.t 27), none, 0⟩, ⟨some 28, .ext (.t 20) 0, none, 0⟩, ⟨some 29, .ext (.t 20) 1, none, 0⟩, ⟨some 6, .asg (.t 28), none, 0⟩, ⟨some 7, .asg (.t 29), none, 0⟩]) (.seq (.reg false [⟨some 31, .mv (.t 0), none, 0⟩, ⟨some 32, .mv (.t 5), none, 0⟩, ⟨some 33, .bsl false 1 1 [.d (.sc (.int .u64 (0)))] [(0, .t 32)], none, 0⟩, ⟨some 34, .call 55 [(1, .t 31), (1, .t 33)], none, 0⟩, ⟨some 30, .mv (.t 34), none, 0⟩, ⟨some 35, .ext (.t 30) 0, none, 0⟩, ⟨some 36, .ext (.t 30) 1, none, 0⟩, ⟨some 8, .asg (.t 35), none, 0⟩, ⟨some 9, .asg (.t 36), none, 0⟩]) (.seq (.reg false [⟨some 37, .mv (.t 8), none, 0⟩, ⟨some 38, .call 56 [(1, .t 37)], none, 0⟩, ⟨some 39, .bin .eql (.t 38) (.k (.d (.sc (.int .i64 (0))))), none, 0⟩, ⟨some 10, .asg (.t 39), none, 0⟩]) (.seq (.reg false [⟨some 40, .call 53 [], none, 0⟩, ⟨some 41, .mv (.t 40), none, 0⟩, ⟨some 42, .mv (.t 7), some (41, true), 0⟩, ⟨some 43, .pick (.t 41) (.t 42) (.k (.d (.sc (.bool false)))), none, 0⟩, ⟨some 44, .mv (.t 43), none, 0⟩, ⟨some 45, .mv (.t 10), some (44, true), 0⟩, ⟨some 46, .mv (.t 45), some (44, true), 0⟩, ⟨some 47, .mv (.t 6), some (46, true), 0⟩, ⟨some 48, .call 56 [(1, .t 47)], some (46, true), 0⟩, ⟨some 49, .bin .eql (.t 48) (.k (.d (.sc (.int .i64 (0))))), some (46, true), 0⟩, ⟨some 50, .pick (.t 46) (.t 49) (.k (.d (.sc (.bool false)))), some (44, true), 0⟩, ⟨some 51, .mv (.t 50), some (44, true), 0⟩, ⟨some 52, .mv (.t 10), some (51, false), 0⟩, ⟨some 53, .un .not (.t 52), some (51, false), 0⟩, ⟨some 54, .mv (.t 53), some (51, false), 0⟩, ⟨some 55, .mv (.t 6), some (54, true), 0⟩, ⟨some 56, .bsl false 1 1 [.d (.sc (.int .u64 (0)))] [(0, .k (.d (.sc (.int .u64 (1)))))], some (54, true), 0⟩, ⟨some 57, .call 57 [(1, .t 55), (1, .t 56)], some (54, true), 0⟩, ⟨some 58, .pick (.t 54) (.t 57) (.k (.d (.sc (.bool false)))), some (51, false), 0⟩, ⟨some 59, .pick (.t 51) (.k (.d (.sc (.bool true)))) (.t 58), some (44, true), 0⟩, ⟨some 60, .pick (.t 44) (.t 59) (.k (.d (.sc (.bool false)))), none, 0⟩, ⟨some 4, .asg (.t 60), none, 0⟩]) .ret)))))), res := [.t 4 1] }
/-- function 13 -/
def a13 : AFunc :=
  { np := 3, body := .seq (.reg false [⟨some 6, .asg (.k (.d (.sc (.bool false)))), none, 0⟩]) (.seq (.seq (.reg false [⟨some 19, .mv (.t 0), none, 0⟩, ⟨some 20, .mv (.t 1), none, 0⟩, ⟨some 21, .mv (.t 2), none, 0⟩, ⟨some 22, .bsl false 1 3 [.nil] [(0, .t 19), (1, .t 20), (2, .t 21)], none, 0⟩, ⟨some 23, .call 52 [(1, .k (.d (.sc (.int .i64 (6))))), (1, .t 22)], none, 0⟩, ⟨some 24, .un .not (.t 23), none, 0⟩, ⟨some 25, .mv (.t 24), none, 0⟩, ⟨some 26, .mv (.t 2), some (25, false), 0⟩, ⟨some 27, .call 56 [(1, .t 26)], some (25, false), 0⟩, ⟨some 28, .bin .eql (.t 27) (.k (.d (.sc (.int .i64 (0))))), some (25, false), 0⟩, ⟨some 29, .pick (.t 25) (.k (.d (.sc (.bool true)))) (.t 28), none, 0⟩]) (.cond (.t 29) (.seq (.reg false [⟨some 30, .call 53 [], none, 0⟩, ⟨some 6, .asg (.t 30), none, 0⟩]) .ret) .skip)) (.seq (.reg false [⟨some 32, .mv (.t 0), none, 0⟩, ⟨some 33, .mv (.t 2), none, 0⟩, ⟨some 34, .call 55 [(1, .t 32), (1, .t 33)], none, 0⟩, ⟨some 31, .mv (.t 34), none, 0⟩, ⟨some 35, .ext (.t 31) 0, none, 0⟩, ⟨some 36, .ext (.t 31) 1, none, 0⟩, ⟨some 7, .asg (.t 35), none, 0⟩, ⟨some 8, .asg (.t 36), none, 0⟩]) (.seq (.reg false [⟨some 38, .mv (.t 1), none, 0⟩, ⟨some 39, .mv (.t 2), none, 0⟩, ⟨some 40, .call 55 [(1, .t 38), (1, .t 39)], none, 0⟩, ⟨some 37, .mv (.t 40), none, 0⟩, ⟨some 41, .ext (.t 37) 0, none, 0⟩, ⟨some 42, .ext (.t 37) 1, none, 0⟩, ⟨some 9, .asg (.t 41), none, 0⟩, ⟨some 10, .asg (.t 42), none, 0⟩]) (.seq (.reg false [⟨some 44, .mv (.t 0), none, 0⟩, ⟨some 45, .mv (.t 1), none, 0⟩, ⟨some 46, .mv (.t 2), none, 0⟩, ⟨some 47, .call 58 [(1, .t 44), (1, .t 45), (1, .t 46)], none, 0⟩, ⟨some 43, .mv (.t 47), none, 0⟩, ⟨some 48, .ext (.t 43) 0, none, 0⟩, ⟨some 49, .ext (.t 43) 1, none, 0⟩, ⟨some 11, .asg (.t 48), none, 0⟩, ⟨some 12, .asg (.t 49), none, 0⟩]) (.seq (.reg false [⟨some 51, .mv (.t 7), none, 0⟩, ⟨some 52, .mv (.t 9), none, 0⟩, ⟨some 53, .mv (.t 2), none, 0⟩, ⟨some 54, .call 58 [(1, .t 51), (1, .t 52), (1, .t 53)], none, 0⟩, ⟨some 50, .mv (.t 54), none, 0⟩, ⟨some 55, .ext (.t 50) 0, none, 0⟩, ⟨some 56, .ext (.t 50) 1, none, 0⟩, ⟨some 13, .asg (.t 55), none, 0⟩, ⟨some 14, .asg (.t 56), none, 0⟩]) (.seq (.reg false [⟨some 58, .mv (.t 0), none, 0⟩, ⟨some 59, .mv (.t 1), none, 0⟩, ⟨some 60, .call 59 [(1, .t 58), (1, .t 59)], none, 0⟩, ⟨some 61, .mv (.t 2), none, 0⟩, ⟨some 62, .call 55 [(1, .t 60), (1, .t 61)], none, 0⟩, ⟨some 57, .mv (.t 62), none, 0⟩, ⟨some 63, .ext (.t 57) 0, none, 0⟩, ⟨some 64, .ext (.t 57) 1, none, 0⟩, ⟨some 15, .asg (.t 63), none, 0⟩, ⟨some 16, .asg (.t 64), none, 0⟩]) (.seq (.reg false [⟨some 66, .mv (.t 7), none, 0⟩, ⟨some 67, .mv (.t 9), none, 0⟩, ⟨some 68, .call 59 [(1, .t 66), (1, .t 67)], none, 0⟩, ⟨some 69, .mv (.t 2), none, 0⟩, ⟨some 70, .call 55 [(1, .t 68), (1, .t 69)], none, 0⟩, ⟨some 65, .mv (.t 70), none, 0⟩, ⟨some 71, .ext (.t 65) 0, none, 0⟩, ⟨some 72, .ext (.t 65) 1, none, 0⟩, ⟨some 17, .asg (.t 71), none, 0⟩, ⟨some 18, .asg (.t 72), none, 0⟩]) (.seq (.reg false [⟨some 73, .call 53 [], none, 0⟩, ⟨some 74, .mv (.t 73), none, 0⟩, ⟨some 75, .mv (.t 8), some (74, true), 0⟩, ⟨some 76, .pick (.t 74) (.t 75) (.k (.d (.sc (.bool false)))), none, 0⟩, ⟨some 77, .mv (.t 76), none, 0⟩, ⟨some 78, .mv (.t 10), some (77, true), 0⟩, ⟨some 79, .pick (.t 77) (.t 78) (.k (.d (.sc (.bool false)))), none, 0⟩, ⟨some 80, .mv (.t 79), none, 0⟩, ⟨some 81, .mv (.t 12), some (80, true), 0⟩, ⟨some 82, .pick (.t 80) (.t 81) (.k (.d (.sc (.bool false)))), none, 0⟩, ⟨some 83, .mv (.t 82), none, 0⟩, ⟨some 84, .mv (.t 14), some (83, true), 0⟩, ⟨some 85, .pick (.t 83) (.t 84) (.k (.d (.sc (.bool false)))), none, 0⟩, ⟨some 86, .mv (.t 85), none, 0⟩, ⟨some 87, .mv (.t 11), some (86, true), 0⟩, ⟨some 88, .mv (.t 13), some (86, true), 0⟩, ⟨some 89, .call 57 [(1, .t 87), (1, .t 88)], some (86, true), 0⟩, ⟨some 90, .pick (.t 86) (.t 89) (.k (.d (.sc (.bool false)))), none, 0⟩, ⟨some 91, .mv (.t 90), none, 0⟩, ⟨some 92, .mv (.t 15), some (91, true), 0⟩, ⟨some 93, .mv (.t 17), some (91, true), 0⟩, ⟨some 94, .call 57 [(1, .t 92), (1, .t 93)], some (91, true), 0⟩, ⟨some 95, .pick (.t 91) (.t 94) (.k (.d (.sc (.bool false)))), none, 0⟩, ⟨some 96, .mv (.t 95), none, 0⟩, ⟨some 97, .mv (.t 7), some (96, true), 0⟩, ⟨some 98, .mv (.t 2), some (96, true), 0⟩, ⟨some 99, .call 60 [(1, .t 97), (1, .t 98)], some (96, true), 0⟩, ⟨some 100, .bin .lss (.t 99) (.k (.d (.sc (.int .i64 (0))))), some (96, true), 0⟩, ⟨some 101, .pick (.t 96) (.t 100) (.k (.d (.sc (.bool false)))), none, 0⟩, ⟨some 6, .asg (.t 101), none, 0⟩]) .ret)))))))), res := [.t 6 1] }
/-- function 15 -/
def a15 : AFunc :=
  { np := 2, body := .seq (.reg false [⟨some 4, .asg (.k (.d (.sc (.bool false)))), none, 0⟩]) (.seq (.seq (.reg false [⟨some 9, .mv (.t 0), none, 0⟩, ⟨some 10, .mv (.t 1), none, 0⟩, ⟨some 11, .call 61 [(1, .t 9), (1, .t 10)], none, 0⟩, ⟨some 12, .un .not (.t 11), none, 0⟩]) (.cond (.t 12) (.seq (.reg false [⟨some 13, .call 62 [], none, 0⟩, ⟨some 4, .asg (.t 13), none, 0⟩]) .ret) .skip)) (.seq (.reg false [⟨some 15, .mv (.t 0), none, 0⟩, ⟨some 16, .mv (.t 1), none, 0⟩, ⟨some 17, .call 63 [(1, .t 15), (1, .t 16)], none, 0⟩, ⟨some 14, .mv (.t 17), none, 0⟩, ⟨some 18, .ext (.t 14) 0, none, 0⟩, ⟨some 19, .ext (.t 14) 1, none, 0⟩, ⟨some 5, .asg (.t 18), none, 0⟩, ⟨some 6, .asg (.t 19), none, 0⟩]) (.seq (.reg false [⟨some 21, .mv (.t 0), none, 0⟩, ⟨some 22, .mv (.t 1), none, 0⟩, ⟨some 23, .call 64 [(1, .t 21), (1, .t 22)], none, 0⟩, ⟨some 20, .mv (.t 23), none, 0⟩, ⟨some 24, .ext (.t 20) 0, none, 0⟩, ⟨some 25, .ext (.t 20) 1, none, 0⟩, ⟨some 7, .asg (.t 24), none, 0⟩, ⟨some 8, .asg (.t 25), none, 0⟩]) (.seq (.reg false [⟨some 26, .call 62 [], none, 0⟩, ⟨some 27, .mv (.t 26), none, 0⟩, ⟨some 28, .mv (.t 0), some (27, true), 0⟩, ⟨some 29, .mv (.t 1), some (27, true), 0⟩, ⟨some 30, .call 66 [(1, .t 28), (1, .t 29)], some (27, true), 0⟩, ⟨some 31, .mv (.t 0), some (27, true), 0⟩, ⟨some 32, .mv (.t 1), some (27, true), 0⟩, ⟨some 33, .call 59 [(1, .t 31), (1, .t 32)], some (27, true), 0⟩, ⟨some 34, .call 65 [(1, .t 30), (1, .t 33)], some (27, true), 0⟩, ⟨some 35, .pick (.t 27) (.t 34) (.k (.d (.sc (.bool false)))), none, 0⟩, ⟨some 36, .mv (.t 35), none, 0⟩, ⟨some 37, .mv (.t 5), some (36, true), 0⟩, ⟨some 38, .mv (.t 7), some (36, true), 0⟩, ⟨some 39, .call 65 [(1, .t 37), (1, .t 38)], some (36, true), 0⟩, ⟨some 40, .pick (.t 36) (.t 39) (.k (.d (.sc (.bool false)))), none, 0⟩, ⟨some 41, .mv (.t 40), none, 0⟩, ⟨some 42, .mv (.t 6), some (41, true), 0⟩, ⟨some 43, .mv (.t 8), some (41, true), 0⟩, ⟨some 44, .binb .eql (.t 42) (.t 43), some (41, true), 0⟩, ⟨some 45, .pick (.t 41) (.t 44) (.k (.d (.sc (.bool false)))), none, 0⟩, ⟨some 46, .mv (.t 45), none, 0⟩, ⟨some 47, .mv (.t 0), some (46, true), 0⟩, ⟨some 48, .mv (.t 1), some (46, true), 0⟩, ⟨some 49, .call 67 [(1, .t 47), (1, .t 48)], some (46, true), 0⟩, ⟨some 50, .mv (.t 0), some (46, true), 0⟩, ⟨some 51, .mv (.t 1), some (46, true), 0⟩, ⟨some 52, .call 60 [(1, .t 50), (1, .t 51)], some (46, true), 0⟩, ⟨some 53, .bin .eql (.t 49) (.t 52), some (46, true), 0⟩, ⟨some 54, .pick (.t 46) (.t 53) (.k (.d (.sc (.bool false)))), none, 0⟩, ⟨some 55, .mv (.t 54), none, 0⟩, ⟨some 56, .mv (.t 0), some (55, true), 0⟩, ⟨some 57, .call 68 [(1, .t 56)], some (55, true), 0⟩, ⟨some 58, .mv (.t 0), some (55, true), 0⟩, ⟨some 59, .call 69 [(1, .t 58)], some (55, true), 0⟩, ⟨some 60, .call 65 [(1, .t 57), (1, .t 59)], some (55, true), 0⟩, ⟨some 61, .pick (.t 55) (.t 60) (.k (.d (.sc (.bool false)))), none, 0⟩, ⟨some 4, .asg (.t 61), none, 0⟩]) .ret)))), res := [.t 4 1] }
/-- function 16 -/
def a16 : AFunc :=
  { np := 2, body := .seq (.reg false [⟨some 4, .asg (.k (.d (.sc (.bool false)))), none, 0⟩]) (.seq (.seq (.reg false [⟨some 5, .mv (.t 0), none, 0⟩, ⟨some 6, .call 61 [(1, .t 5), (1, .k .nil)], none, 0⟩, ⟨some 7, .un .not (.t 6), none, 0⟩]) (.cond (.t 7) (.seq (.reg false [⟨some 8, .call 62 [], none, 0⟩, ⟨some 4, .asg (.t 8), none, 0⟩]) .ret) .skip)) (.seq (.reg false [⟨some 9, .call 62 [], none, 0⟩, ⟨some 10, .mv (.t 9), none, 0⟩, ⟨some 11, .mv (.t 0), some (10, true), 0⟩, ⟨some 12, .call 70 [(1, .t 11)], some (10, true), 0⟩, ⟨some 13, .mv (.t 0), some (10, true), 0⟩, ⟨some 14, .call 56 [(1, .t 13)], some (10, true), 0⟩, ⟨some 15, .bin .eql (.t 12) (.t 14), some (10, true), 0⟩, ⟨some 16, .pick (.t 10) (.t 15) (.k (.d (.sc (.bool false)))), none, 0⟩, ⟨some 17, .mv (.t 16), none, 0⟩, ⟨some 18, .mv (.t 0), some (17, true), 0⟩, ⟨some 19, .mv (.t 1), some (17, true), 0⟩, ⟨some 20, .call 71 [(1, .t 18), (1, .t 19)], some (17, true), 0⟩, ⟨some 21, .mv (.t 0), some (17, true), 0⟩, ⟨some 22, .mv (.t 1), some (17, true), 0⟩, ⟨some 23, .call 72 [(1, .t 21), (1, .t 22)], some (17, true), 0⟩, ⟨some 24, .bin .eql (.t 20) (.t 23), some (17, true), 0⟩, ⟨some 25, .pick (.t 17) (.t 24) (.k (.d (.sc (.bool false)))), none, 0⟩, ⟨some 26, .mv (.t 25), none, 0⟩, ⟨some 27, .mv (.t 0), some (26, true), 0⟩, ⟨some 28, .mv (.t 1), some (26, true), 0⟩, ⟨some 29, .call 73 [(1, .t 27), (1, .t 28)], some (26, true), 0⟩, ⟨some 30, .mv (.t 0), some (26, true), 0⟩, ⟨some 31, .mv (.t 1), some (26, true), 0⟩, ⟨some 32, .call 74 [(1, .t 30), (1, .t 31)], some (26, true), 0⟩, ⟨some 33, .call 65 [(1, .t 29), (1, .t 32)], some (26, true), 0⟩, ⟨some 34, .pick (.t 26) (.t 33) (.k (.d (.sc (.bool false)))), none, 0⟩, ⟨some 4, .asg (.t 34), none, 0⟩]) .ret)), res := [.t 4 1] }
/-- function 17 -/
def a17 : AFunc :=
  { np := 3, body := .seq (.reg false [⟨some 6, .asg (.k (.d (.sc (.bool false)))), none, 0⟩]) (.seq (.seq (.reg false [⟨some 12, .mv (.t 0), none, 0⟩, ⟨some 13, .mv (.t 1), none, 0⟩, ⟨some 14, .call 61 [(1, .t 12), (1, .t 13)], none, 0⟩, ⟨some 15, .un .not (.t 14), none, 0⟩, ⟨some 16, .mv (.t 15), none, 0⟩, ⟨some 17, .mv (.t 2), some (16, false), 0⟩, ⟨some 18, .len (.t 17), some (16, false), 0⟩, ⟨some 19, .bin .gtr (.t 18) (.k (.d (.sc (.int .i64 (50))))), some (16, false), 0⟩, ⟨some 20, .pick (.t 16) (.k (.d (.sc (.bool true)))) (.t 19), none, 0⟩]) (.cond (.t 20) (.seq (.reg false [⟨some 21, .call 62 [], none, 0⟩, ⟨some 6, .asg (.t 21), none, 0⟩]) .ret) .skip)) (.seq (.reg false [⟨some 22, .mv (.t 0), none, 0⟩, ⟨some 23, .mv (.t 1), none, 0⟩, ⟨some 24, .call 66 [(1, .t 22), (1, .t 23)], none, 0⟩, ⟨some 7, .asg (.t 24), none, 0⟩]) (.seq (.reg false [⟨some 26, .mv (.t 7), none, 0⟩, ⟨some 27, .mv (.t 1), none, 0⟩, ⟨some 28, .call 63 [(1, .t 26), (1, .t 27)], none, 0⟩, ⟨some 25, .mv (.t 28), none, 0⟩, ⟨some 29, .ext (.t 25) 0, none, 0⟩, ⟨some 30, .ext (.t 25) 1, none, 0⟩, ⟨some 8, .asg (.t 29), none, 0⟩, ⟨some 9, .asg (.t 30), none, 0⟩]) (.seq (.reg false [⟨some 32, .mv (.t 0), none, 0⟩, ⟨some 33, .mv (.t 1), none, 0⟩, ⟨some 34, .call 63 [(1, .t 32), (1, .t 33)], none, 0⟩, ⟨some 31, .mv (.t 34), none, 0⟩, ⟨some 35, .ext (.t 31) 0, none, 0⟩, ⟨some 36, .ext (.t 31) 1, none, 0⟩, ⟨some 10, .asg (.t 35), none, 0⟩, ⟨some 11, .asg (.t 36), none, 0⟩]) (.seq (.reg false [⟨some 37, .call 62 [], none, 0⟩, ⟨some 38, .mv (.t 37), none, 0⟩, ⟨some 39, .mv (.t 7), some (38, true), 0⟩, ⟨some 40, .mv (.t 1), some (38, true), 0⟩, ⟨some 41, .mv (.t 0), some (38, true), 0⟩, ⟨some 42, .call 66 [(1, .t 40), (1, .t 41)], some (38, true), 0⟩, ⟨some 43, .call 65 [(1, .t 39), (1, .t 42)], some (38, true), 0⟩, ⟨some 44, .pick (.t 38) (.t 43) (.k (.d (.sc (.bool false)))), none, 0⟩, ⟨some 45, .mv (.t 44), none, 0⟩, ⟨some 46, .mv (.t 7), some (45, true), 0⟩, ⟨some 47, .mv (.t 2), some (45, true), 0⟩, ⟨some 48, .call 66 [(1, .t 46), (1, .t 47)], some (45, true), 0⟩, ⟨some 49, .mv (.t 0), some (45, true), 0⟩, ⟨some 50, .mv (.t 1), some (45, true), 0⟩, ⟨some 51, .mv (.t 2), some (45, true), 0⟩, ⟨some 52, .call 66 [(1, .t 50), (1, .t 51)], some (45, true), 0⟩, ⟨some 53, .call 66 [(1, .t 49), (1, .t 52)], some (45, true), 0⟩, ⟨some 54, .call 65 [(1, .t 48), (1, .t 53)], some (45, true), 0⟩, ⟨some 55, .pick (.t 45) (.t 54) (.k (.d (.sc (.bool false)))), none, 0⟩, ⟨some 56, .mv (.t 55), none, 0⟩, ⟨some 57, .mv (.t 9), some (56, true), 0⟩, ⟨some 58, .pick (.t 56) (.t 57) (.k (.d (.sc (.bool false)))), none, 0⟩, ⟨some 59, .mv (.t 58), none, 0⟩, ⟨some 60, .mv (.t 8), some (59, true), 0⟩, ⟨some 61, .mv (.t 0), some (59, true), 0⟩, ⟨some 62, .call 68 [(1, .t 61)], some (59, true), 0⟩, ⟨some 63, .call 65 [(1, .t 60), (1, .t 62)], some (59, true), 0⟩, ⟨some 64, .pick (.t 59) (.t 63) (.k (.d (.sc (.bool false)))), none, 0⟩, ⟨some 65, .mv (.t 64), none, 0⟩, ⟨some 66, .mv (.t 11), some (65, true), 0⟩, ⟨some 67, .mv (.t 0), some (65, true), 0⟩, ⟨some 68, .mv (.t 1), some (65, true), 0⟩, ⟨some 69, .call 67 [(1, .t 67), (1, .t 68)], some (65, true), 0⟩, ⟨some 70, .bin .geq (.t 69) (.k (.d (.sc (.int .i64 (0))))), some (65, true), 0⟩, ⟨some 71, .binb .eql (.t 66) (.t 70), some (65, true), 0⟩, ⟨some 72, .pick (.t 65) (.t 71) (.k (.d (.sc (.bool false)))), none, 0⟩, ⟨some 73, .mv (.t 72), none, 0⟩, ⟨some 74, .mv (.t 11), some (73, true), 0⟩, ⟨some 75, .un .not (.t 74), some (73, true), 0⟩, ⟨some 76, .mv (.t 75), some (73, true), 0⟩, ⟨some 77, .mv (.t 10), some (76, false), 0⟩, ⟨some 78, .mv (.t 1), some (76, false), 0⟩, ⟨some 79, .call 66 [(1, .t 77), (1, .t 78)], some (76, false), 0⟩, ⟨some 80, .mv (.t 0), some (76, false), 0⟩, ⟨some 81, .call 68 [(1, .t 80)], some (76, false), 0⟩, ⟨some 82, .call 65 [(1, .t 79), (1, .t 81)], some (76, false), 0⟩, ⟨some 83, .pick (.t 76) (.k (.d (.sc (.bool true)))) (.t 82), some (73, true), 0⟩, ⟨some 84, .pick (.t 73) (.t 83) (.k (.d (.sc (.bool false)))), none, 0⟩, ⟨some 6, .asg (.t 84), none, 0⟩]) .ret))))), res := [.t 6 1] }
def b18_0 : ACode := .seq (.seq (.reg false [⟨some 19, .mv (.t 6), none, 0⟩, ⟨some 20, .bin .geq (.t 19) (.k (.d (.sc (.int .i64 (0))))), none, 0⟩, ⟨some 21, .mv (.t 20), none, 0⟩, ⟨some 22, .mv (.t 5), some (21, true), 0⟩, ⟨some 23, .bin .eql (.t 22) (.k (.d (.sc (.int .i64 (0))))), some (21, true), 0⟩, ⟨some 24, .pick (.t 21) (.t 23) (.k (.d (.sc (.bool false)))), none, 0⟩]) (.cond (.t 24) .skip (.exit 0))) (.seq (.block 1 (.reg false [⟨some 27, .mv (.t 0), none, 0⟩, ⟨some 28, .mv (.t 6), none, 0⟩, ⟨some 29, .call 71 [(1, .t 27), (1, .t 28)], none, 0⟩, ⟨some 30, .mv (.t 1), none, 0⟩, ⟨some 31, .mv (.t 6), none, 0⟩, ⟨some 32, .call 71 [(1, .t 30), (1, .t 31)], none, 0⟩, ⟨some 33, .bin .sub (.t 29) (.t 32), none, 0⟩, ⟨some 5, .asg (.t 33), none, 0⟩])) (.reg false [⟨some 25, .mv (.t 6), none, 0⟩, ⟨some 26, .bin .sub (.t 25) (.k (.d (.sc (.int .i64 (1))))), none, 0⟩, ⟨some 6, .asg (.t 26), none, 0⟩]))
/-- function 18 -/
def a18 : AFunc :=
  { np := 2, body := .seq (.reg false [⟨some 4, .asg (.k (.d (.sc (.bool false)))), none, 0⟩]) (.seq (.seq (.reg false [⟨some 7, .mv (.t 0), none, 0⟩, ⟨some 8, .mv (.t 1), none, 0⟩, ⟨some 9, .call 61 [(1, .t 7), (1, .t 8)], none, 0⟩, ⟨some 10, .un .not (.t 9), none, 0⟩]) (.cond (.t 10) (.seq (.reg false [⟨some 11, .call 62 [], none, 0⟩, ⟨some 4, .asg (.t 11), none, 0⟩]) .ret) .skip)) (.seq (.reg false [⟨some 5, .asg (.k (.d (.sc (.int .i64 (0))))), none, 0⟩]) (.seq (.seq (.reg false [⟨some 12, .mv (.t 0), none, 0⟩, ⟨some 13, .len (.t 12), none, 0⟩, ⟨some 14, .mv (.t 1), none, 0⟩, ⟨some 15, .len (.t 14), none, 0⟩, ⟨some 16, .mx (.t 13) (.t 15), none, 0⟩, ⟨some 17, .bin .mul (.k (.d (.sc (.int .i64 (64))))) (.t 16), none, 0⟩, ⟨some 18, .bin .sub (.t 17) (.k (.d (.sc (.int .i64 (1))))), none, 0⟩, ⟨some 6, .asg (.t 18), none, 0⟩]) (.block 0 (.loop [0, 1, 5, 6] b18_0))) (.seq (.reg false [⟨some 34, .call 62 [], none, 0⟩, ⟨some 35, .mv (.t 34), none, 0⟩, ⟨some 36, .mv (.t 0), some (35, true), 0⟩, ⟨some 37, .mv (.t 1), some (35, true), 0⟩, ⟨some 38, .call 67 [(1, .t 36), (1, .t 37)], some (35, true), 0⟩, ⟨some 39, .mv (.t 5), some (35, true), 0⟩, ⟨some 40, .bin .eql (.t 38) (.t 39), some (35, true), 0⟩, ⟨some 41, .pick (.t 35) (.t 40) (.k (.d (.sc (.bool false)))), none, 0⟩, ⟨some 42, .mv (.t 41), none, 0⟩, ⟨some 43, .mv (.t 1), some (42, true), 0⟩, ⟨some 44, .mv (.t 0), some (42, true), 0⟩, ⟨some 45, .call 67 [(1, .t 43), (1, .t 44)], some (42, true), 0⟩, ⟨some 46, .mv (.t 5), some (42, true), 0⟩, ⟨some 47, .un .neg (.t 46), some (42, true), 0⟩, ⟨some 48, .bin .eql (.t 45) (.t 47), some (42, true), 0⟩, ⟨some 49, .pick (.t 42) (.t 48) (.k (.d (.sc (.bool false)))), none, 0⟩, ⟨some 50, .mv (.t 49), none, 0⟩, ⟨some 51, .bsl false 1 0 [.d (.sc (.int .u64 (0)))] [], some (50, true), 0⟩, ⟨some 52, .mv (.t 0), some (50, true), 0⟩, ⟨some 53, .app false 1 8 (.t 51) (.t 52), some (50, true), 0⟩, ⟨some 54, .bsl false 1 1 [.d (.sc (.int .u64 (0)))] [(0, .k (.d (.sc (.int .u64 (0)))))], some (50, true), 0⟩, ⟨some 55, .app false 1 8 (.t 53) (.t 54), some (50, true), 0⟩, ⟨some 56, .mv (.t 0), some (50, true), 0⟩, ⟨some 57, .call 67 [(1, .t 55), (1, .t 56)], some (50, true), 0⟩, ⟨some 58, .bin .eql (.t 57) (.k (.d (.sc (.int .i64 (0))))), some (50, true), 0⟩, ⟨some 59, .pick (.t 50) (.t 58) (.k (.d (.sc (.bool false)))), none, 0⟩, ⟨some 4, .asg (.t 59), none, 0⟩]) .ret)))), res := [.t 4 1] }
/-- function 19 -/
def a19 : AFunc :=
  { np := 1, body := .seq (.reg false [⟨some 2, .asg (.k (.d (.sc (.bool false)))), none, 0⟩]) (.seq (.seq (.reg false [⟨some 6, .mv (.t 0), none, 0⟩, ⟨some 7, .call 61 [(1, .t 6), (1, .k .nil)], none, 0⟩, ⟨some 8, .un .not (.t 7), none, 0⟩]) (.cond (.t 8) (.seq (.reg false [⟨some 9, .call 62 [], none, 0⟩, ⟨some 2, .asg (.t 9), none, 0⟩]) .ret) .skip)) (.seq (.reg false [⟨some 10, .mv (.t 0), none, 0⟩, ⟨some 11, .call 73 [(1, .t 10), (1, .k (.d (.sc (.int .i64 (0)))))], none, 0⟩, ⟨some 12, .mv (.t 0), none, 0⟩, ⟨some 13, .call 73 [(1, .t 12), (1, .k (.d (.sc (.int .i64 (1)))))], none, 0⟩, ⟨some 3, .asg (.t 11), none, 0⟩, ⟨some 4, .asg (.t 13), none, 0⟩]) (.seq (.reg false [⟨some 14, .mv (.t 0), none, 0⟩, ⟨some 15, .call 70 [(1, .t 14)], none, 0⟩, ⟨some 5, .asg (.t 15), none, 0⟩]) (.seq (.seq (.reg false [⟨some 16, .mv (.t 5), none, 0⟩, ⟨some 17, .bin .gtr (.t 16) (.k (.d (.sc (.int .i64 (0))))), none, 0⟩]) (.cond (.t 17) (.reg false [⟨some 18, .mv (.t 5), none, 0⟩, ⟨some 19, .bin .add (.t 18) (.k (.d (.sc (.int .i64 (1))))), none, 0⟩, ⟨some 5, .asg (.t 19), none, 0⟩]) .skip)) (.seq (.reg false [⟨some 20, .call 62 [], none, 0⟩, ⟨some 21, .mv (.t 20), none, 0⟩, ⟨some 22, .mv (.t 3), some (21, true), 0⟩, ⟨some 23, .mv (.t 0), some (21, true), 0⟩, ⟨some 24, .mv (.t 0), some (21, true), 0⟩, ⟨some 25, .call 66 [(1, .t 23), (1, .t 24)], some (21, true), 0⟩, ⟨some 26, .call 65 [(1, .t 22), (1, .t 25)], some (21, true), 0⟩, ⟨some 27, .pick (.t 21) (.t 26) (.k (.d (.sc (.bool false)))), none, 0⟩, ⟨some 28, .mv (.t 27), none, 0⟩, ⟨some 29, .mv (.t 4), some (28, true), 0⟩, ⟨some 30, .mv (.t 3), some (28, true), 0⟩, ⟨some 31, .bsl false 1 1 [.d (.sc (.int .u64 (0)))] [(0, .k (.d (.sc (.int .u64 (1)))))], some (28, true), 0⟩, ⟨some 32, .call 66 [(1, .t 30), (1, .t 31)], some (28, true), 0⟩, ⟨some 33, .call 65 [(1, .t 29), (1, .t 32)], some (28, true), 0⟩, ⟨some 34, .pick (.t 28) (.t 33) (.k (.d (.sc (.bool false)))), none, 0⟩, ⟨some 35, .mv (.t 34), none, 0⟩, ⟨some 36, .mv (.t 3), some (35, true), 0⟩, ⟨some 37, .call 70 [(1, .t 36)], some (35, true), 0⟩, ⟨some 38, .mv (.t 5), some (35, true), 0⟩, ⟨some 39, .bin .eql (.t 37) (.t 38), some (35, true), 0⟩, ⟨some 40, .pick (.t 35) (.t 39) (.k (.d (.sc (.bool false)))), none, 0⟩, ⟨some 41, .mv (.t 40), none, 0⟩, ⟨some 42, .mv (.t 4), some (41, true), 0⟩, ⟨some 43, .call 71 [(1, .t 42), (1, .k (.d (.sc (.int .i64 (0)))))], some (41, true), 0⟩, ⟨some 44, .bin .eql (.t 43) (.k (.d (.sc (.int .i64 (1))))), some (41, true), 0⟩, ⟨some 45, .pick (.t 41) (.t 44) (.k (.d (.sc (.bool false)))), none, 0⟩, ⟨some 2, .asg (.t 45), none, 0⟩]) .ret))))), res := [.t 2 1] }
/-- function 22 -/
def a22 : AFunc :=
  { np := 2, body := .seq (.reg false [⟨some 4, .asg (.k (.d (.sc (.bool false)))), none, 0⟩]) (.seq (.seq (.reg false [⟨some 11, .mv (.t 0), none, 0⟩, ⟨some 12, .len (.t 11), none, 0⟩, ⟨some 13, .bin .gtr (.t 12) (.k (.d (.sc (.int .i64 (12))))), none, 0⟩, ⟨some 14, .mv (.t 13), none, 0⟩, ⟨some 15, .mv (.t 1), some (14, false), 0⟩, ⟨some 16, .len (.t 15), some (14, false), 0⟩, ⟨some 17, .bin .gtr (.t 16) (.k (.d (.sc (.int .i64 (12))))), some (14, false), 0⟩, ⟨some 18, .pick (.t 14) (.k (.d (.sc (.bool true)))) (.t 17), none, 0⟩]) (.cond (.t 18) (.seq (.reg false [⟨some 19, .call 82 [], none, 0⟩, ⟨some 4, .asg (.t 19), none, 0⟩]) .ret) .skip)) (.seq (.reg false [⟨some 21, .mv (.t 0), none, 0⟩, ⟨some 22, .mv (.t 1), none, 0⟩, ⟨some 23, .call 83 [(1, .t 21), (1, .t 22)], none, 0⟩, ⟨some 20, .mv (.t 23), none, 0⟩, ⟨some 24, .ext (.t 20) 0, none, 0⟩, ⟨some 25, .ext (.t 20) 1, none, 0⟩, ⟨some 26, .ext (.t 20) 2, none, 0⟩, ⟨some 5, .asg (.t 24), none, 0⟩, ⟨some 6, .asg (.t 25), none, 0⟩, ⟨some 7, .asg (.t 26), none, 0⟩]) (.seq (.reg false [⟨some 28, .mv (.t 0), none, 0⟩, ⟨some 29, .mv (.t 1), none, 0⟩, ⟨some 30, .call 84 [(1, .t 28), (1, .t 29)], none, 0⟩, ⟨some 27, .mv (.t 30), none, 0⟩, ⟨some 31, .ext (.t 27) 0, none, 0⟩, ⟨some 32, .ext (.t 27) 1, none, 0⟩, ⟨some 33, .ext (.t 27) 2, none, 0⟩, ⟨some 8, .asg (.t 31), none, 0⟩, ⟨some 9, .asg (.t 32), none, 0⟩, ⟨some 10, .asg (.t 33), none, 0⟩]) (.seq (.reg false [⟨some 34, .call 82 [], none, 0⟩, ⟨some 35, .mv (.t 34), none, 0⟩, ⟨some 36, .mv (.t 0), some (35, true), 0⟩, ⟨some 37, .mv (.t 1), some (35, true), 0⟩, ⟨some 38, .call 86 [(1, .t 36), (1, .t 37)], some (35, true), 0⟩, ⟨some 39, .mv (.t 0), some (35, true), 0⟩, ⟨some 40, .mv (.t 1), some (35, true), 0⟩, ⟨some 41, .call 87 [(1, .t 39), (1, .t 40)], some (35, true), 0⟩, ⟨some 42, .call 85 [(1, .t 38), (1, .t 41)], some (35, true), 0⟩, ⟨some 43, .pick (.t 35) (.t 42) (.k (.d (.sc (.bool false)))), none, 0⟩, ⟨some 44, .mv (.t 43), none, 0⟩, ⟨some 45, .mv (.t 7), some (44, true), 0⟩, ⟨some 46, .mv (.t 10), some (44, true), 0⟩, ⟨some 47, .binb .eql (.t 45) (.t 46), some (44, true), 0⟩, ⟨some 48, .pick (.t 44) (.t 47) (.k (.d (.sc (.bool false)))), none, 0⟩, ⟨some 49, .mv (.t 48), none, 0⟩, ⟨some 50, .mv (.t 5), some (49, true), 0⟩, ⟨some 51, .mv (.t 8), some (49, true), 0⟩, ⟨some 52, .call 85 [(1, .t 50), (1, .t 51)], some (49, true), 0⟩, ⟨some 53, .pick (.t 49) (.t 52) (.k (.d (.sc (.bool false)))), none, 0⟩, ⟨some 54, .mv (.t 53), none, 0⟩, ⟨some 55, .mv (.t 6), some (54, true), 0⟩, ⟨some 56, .mv (.t 9), some (54, true), 0⟩, ⟨some 57, .call 85 [(1, .t 55), (1, .t 56)], some (54, true), 0⟩, ⟨some 58, .pick (.t 54) (.t 57) (.k (.d (.sc (.bool false)))), none, 0⟩, ⟨some 4, .asg (.t 58), none, 0⟩]) .ret)))), res := [.t 4 1] }
/-- function 23 -/
def a23 : AFunc :=
  { np := 2, body := .seq (.reg false [⟨some 4, .asg (.k (.d (.sc (.bool false)))), none, 0⟩]) (.seq (.seq (.reg false [⟨some 8, .mv (.t 0), none, 0⟩, ⟨some 9, .len (.t 8), none, 0⟩, ⟨some 10, .bin .gtr (.t 9) (.k (.d (.sc (.int .i64 (60))))), none, 0⟩, ⟨some 11, .mv (.t 10), none, 0⟩, ⟨some 12, .mv (.t 1), some (11, false), 0⟩, ⟨some 13, .len (.t 12), some (11, false), 0⟩, ⟨some 14, .bin .gtr (.t 13) (.k (.d (.sc (.int .i64 (60))))), some (11, false), 0⟩, ⟨some 15, .pick (.t 11) (.k (.d (.sc (.bool true)))) (.t 14), none, 0⟩]) (.cond (.t 15) (.seq (.reg false [⟨some 16, .call 82 [], none, 0⟩, ⟨some 4, .asg (.t 16), none, 0⟩]) .ret) .skip)) (.seq (.reg false [⟨some 18, .mv (.t 0), none, 0⟩, ⟨some 19, .mv (.t 1), none, 0⟩, ⟨some 20, .call 83 [(1, .t 18), (1, .t 19)], none, 0⟩, ⟨some 17, .mv (.t 20), none, 0⟩, ⟨some 21, .ext (.t 17) 0, none, 0⟩, ⟨some 22, .ext (.t 17) 1, none, 0⟩, ⟨some 23, .ext (.t 17) 2, none, 0⟩, ⟨some 5, .asg (.t 21), none, 0⟩, ⟨some 6, .asg (.t 22), none, 0⟩, ⟨some 7, .asg (.t 23), none, 0⟩]) (.seq (.seq (.reg false [⟨some 24, .mv (.t 7), none, 0⟩, ⟨some 25, .un .not (.t 24), none, 0⟩]) (.cond (.t 25) (.seq (.reg false [⟨some 26, .call 82 [], none, 0⟩, ⟨some 27, .mv (.t 26), none, 0⟩, ⟨some 28, .mv (.t 1), some (27, true), 0⟩, ⟨some 29, .call 56 [(1, .t 28)], some (27, true), 0⟩, ⟨some 30, .bin .eql (.t 29) (.k (.d (.sc (.int .i64 (0))))), some (27, true), 0⟩, ⟨some 31, .pick (.t 27) (.t 30) (.k (.d (.sc (.bool false)))), none, 0⟩, ⟨some 32, .mv (.t 31), none, 0⟩, ⟨some 33, .mv (.t 5), some (32, true), 0⟩, ⟨some 34, .len (.t 33), some (32, true), 0⟩, ⟨some 35, .bin .eql (.t 34) (.k (.d (.sc (.int .i64 (0))))), some (32, true), 0⟩, ⟨some 36, .pick (.t 32) (.t 35) (.k (.d (.sc (.bool false)))), none, 0⟩, ⟨some 37, .mv (.t 36), none, 0⟩, ⟨some 38, .mv (.t 6), some (37, true), 0⟩, ⟨some 39, .len (.t 38), some (37, true), 0⟩, ⟨some 40, .bin .eql (.t 39) (.k (.d (.sc (.int .i64 (0))))), some (37, true), 0⟩, ⟨some 41, .pick (.t 37) (.t 40) (.k (.d (.sc (.bool false)))), none, 0⟩, ⟨some 4, .asg (.t 41), none, 0⟩]) .ret) .skip)) (.seq (.reg false [⟨some 42, .call 82 [], none, 0⟩, ⟨some 43, .mv (.t 42), none, 0⟩, ⟨some 44, .mv (.t 6), some (43, true), 0⟩, ⟨some 45, .mv (.t 1), some (43, true), 0⟩, ⟨some 46, .call 60 [(1, .t 44), (1, .t 45)], some (43, true), 0⟩, ⟨some 47, .bin .lss (.t 46) (.k (.d (.sc (.int .i64 (0))))), some (43, true), 0⟩, ⟨some 48, .pick (.t 43) (.t 47) (.k (.d (.sc (.bool false)))), none, 0⟩, ⟨some 49, .mv (.t 48), none, 0⟩, ⟨some 50, .mv (.t 5), some (49, true), 0⟩, ⟨some 51, .mv (.t 1), some (49, true), 0⟩, ⟨some 52, .call 86 [(1, .t 50), (1, .t 51)], some (49, true), 0⟩, ⟨some 53, .mv (.t 6), some (49, true), 0⟩, ⟨some 54, .call 59 [(1, .t 52), (1, .t 53)], some (49, true), 0⟩, ⟨some 55, .mv (.t 0), some (49, true), 0⟩, ⟨some 56, .call 57 [(1, .t 54), (1, .t 55)], some (49, true), 0⟩, ⟨some 57, .pick (.t 49) (.t 56) (.k (.d (.sc (.bool false)))), none, 0⟩, ⟨some 4, .asg (.t 57), none, 0⟩]) .ret)))), res := [.t 4 1] }
/-- function 24 -/
def a24 : AFunc :=
  { np := 3, body := .seq (.reg false [⟨some 6, .asg (.k (.d (.sc (.bool false)))), none, 0⟩]) (.seq (.seq (.reg false [⟨some 10, .mv (.t 0), none, 0⟩, ⟨some 11, .len (.t 10), none, 0⟩, ⟨some 12, .bin .gtr (.t 11) (.k (.d (.sc (.int .i64 (30))))), none, 0⟩, ⟨some 13, .mv (.t 12), none, 0⟩, ⟨some 14, .mv (.t 1), some (13, false), 0⟩, ⟨some 15, .len (.t 14), some (13, false), 0⟩, ⟨some 16, .bin .gtr (.t 15) (.k (.d (.sc (.int .i64 (30))))), some (13, false), 0⟩, ⟨some 17, .pick (.t 13) (.k (.d (.sc (.bool true)))) (.t 16), none, 0⟩, ⟨some 18, .mv (.t 17), none, 0⟩, ⟨some 19, .mv (.t 2), some (18, false), 0⟩, ⟨some 20, .len (.t 19), some (18, false), 0⟩, ⟨some 21, .bin .gtr (.t 20) (.k (.d (.sc (.int .i64 (30))))), some (18, false), 0⟩, ⟨some 22, .pick (.t 18) (.k (.d (.sc (.bool true)))) (.t 21), none, 0⟩, ⟨some 23, .mv (.t 22), none, 0⟩, ⟨some 24, .mv (.t 2), some (23, false), 0⟩, ⟨some 25, .mv (.t 1), some (23, false), 0⟩, ⟨some 26, .call 60 [(1, .t 24), (1, .t 25)], some (23, false), 0⟩, ⟨some 27, .bin .geq (.t 26) (.k (.d (.sc (.int .i64 (0))))), some (23, false), 0⟩, ⟨some 28, .pick (.t 23) (.k (.d (.sc (.bool true)))) (.t 27), none, 0⟩]) (.cond (.t 28) (.seq (.reg false [⟨some 29, .call 82 [], none, 0⟩, ⟨some 6, .asg (.t 29), none, 0⟩]) .ret) .skip)) (.seq (.reg false [⟨some 31, .mv (.t 0), none, 0⟩, ⟨some 32, .mv (.t 1), none, 0⟩, ⟨some 33, .call 86 [(1, .t 31), (1, .t 32)], none, 0⟩, ⟨some 34, .mv (.t 2), none, 0⟩, ⟨some 35, .call 59 [(1, .t 33), (1, .t 34)], none, 0⟩, ⟨some 36, .mv (.t 1), none, 0⟩, ⟨some 37, .call 83 [(1, .t 35), (1, .t 36)], none, 0⟩, ⟨some 30, .mv (.t 37), none, 0⟩, ⟨some 38, .ext (.t 30) 0, none, 0⟩, ⟨some 39, .ext (.t 30) 1, none, 0⟩, ⟨some 40, .ext (.t 30) 2, none, 0⟩, ⟨some 7, .asg (.t 38), none, 0⟩, ⟨some 8, .asg (.t 39), none, 0⟩, ⟨some 9, .asg (.t 40), none, 0⟩]) (.seq (.reg false [⟨some 41, .call 82 [], none, 0⟩, ⟨some 42, .mv (.t 41), none, 0⟩, ⟨some 43, .mv (.t 9), some (42, true), 0⟩, ⟨some 44, .pick (.t 42) (.t 43) (.k (.d (.sc (.bool false)))), none, 0⟩, ⟨some 45, .mv (.t 44), none, 0⟩, ⟨some 46, .mv (.t 7), some (45, true), 0⟩, ⟨some 47, .mv (.t 0), some (45, true), 0⟩, ⟨some 48, .call 57 [(1, .t 46), (1, .t 47)], some (45, true), 0⟩, ⟨some 49, .pick (.t 45) (.t 48) (.k (.d (.sc (.bool false)))), none, 0⟩, ⟨some 50, .mv (.t 49), none, 0⟩, ⟨some 51, .mv (.t 8), some (50, true), 0⟩, ⟨some 52, .mv (.t 2), some (50, true), 0⟩, ⟨some 53, .call 57 [(1, .t 51), (1, .t 52)], some (50, true), 0⟩, ⟨some 54, .pick (.t 50) (.t 53) (.k (.d (.sc (.bool false)))), none, 0⟩, ⟨some 6, .asg (.t 54), none, 0⟩]) .ret))), res := [.t 6 1] }
/-- function 25 -/
def a25 : AFunc :=
  { np := 3, body := .seq (.reg false [⟨some 6, .asg (.k (.d (.sc (.bool false)))), none, 0⟩]) (.seq (.seq (.reg false [⟨some 8, .mv (.t 0), none, 0⟩, ⟨some 9, .len (.t 8), none, 0⟩, ⟨some 10, .bin .gtr (.t 9) (.k (.d (.sc (.int .i64 (30))))), none, 0⟩, ⟨some 11, .mv (.t 10), none, 0⟩, ⟨some 12, .mv (.t 1), some (11, false), 0⟩, ⟨some 13, .len (.t 12), some (11, false), 0⟩, ⟨some 14, .bin .gtr (.t 13) (.k (.d (.sc (.int .i64 (30))))), some (11, false), 0⟩, ⟨some 15, .pick (.t 11) (.k (.d (.sc (.bool true)))) (.t 14), none, 0⟩, ⟨some 16, .mv (.t 15), none, 0⟩, ⟨some 17, .mv (.t 2), some (16, false), 0⟩, ⟨some 18, .len (.t 17), some (16, false), 0⟩, ⟨some 19, .bin .gtr (.t 18) (.k (.d (.sc (.int .i64 (30))))), some (16, false), 0⟩, ⟨some 20, .pick (.t 16) (.k (.d (.sc (.bool true)))) (.t 19), none, 0⟩]) (.cond (.t 20) (.seq (.reg false [⟨some 21, .call 82 [], none, 0⟩, ⟨some 6, .asg (.t 21), none, 0⟩]) .ret) .skip)) (.seq (.reg false [⟨some 22, .mv (.t 0), none, 0⟩, ⟨some 23, .mv (.t 1), none, 0⟩, ⟨some 24, .call 86 [(1, .t 22), (1, .t 23)], none, 0⟩, ⟨some 7, .asg (.t 24), none, 0⟩]) (.seq (.reg false [⟨some 25, .call 82 [], none, 0⟩, ⟨some 26, .mv (.t 25), none, 0⟩, ⟨some 27, .mv (.t 7), some (26, true), 0⟩, ⟨some 28, .mv (.t 1), some (26, true), 0⟩, ⟨some 29, .mv (.t 0), some (26, true), 0⟩, ⟨some 30, .call 86 [(1, .t 28), (1, .t 29)], some (26, true), 0⟩, ⟨some 31, .call 85 [(1, .t 27), (1, .t 30)], some (26, true), 0⟩, ⟨some 32, .pick (.t 26) (.t 31) (.k (.d (.sc (.bool false)))), none, 0⟩, ⟨some 33, .mv (.t 32), none, 0⟩, ⟨some 34, .mv (.t 7), some (33, true), 0⟩, ⟨some 35, .mv (.t 2), some (33, true), 0⟩, ⟨some 36, .call 86 [(1, .t 34), (1, .t 35)], some (33, true), 0⟩, ⟨some 37, .mv (.t 0), some (33, true), 0⟩, ⟨some 38, .mv (.t 1), some (33, true), 0⟩, ⟨some 39, .mv (.t 2), some (33, true), 0⟩, ⟨some 40, .call 86 [(1, .t 38), (1, .t 39)], some (33, true), 0⟩, ⟨some 41, .call 86 [(1, .t 37), (1, .t 40)], some (33, true), 0⟩, ⟨some 42, .call 85 [(1, .t 36), (1, .t 41)], some (33, true), 0⟩, ⟨some 43, .pick (.t 33) (.t 42) (.k (.d (.sc (.bool false)))), none, 0⟩, ⟨some 44, .mv (.t 43), none, 0⟩, ⟨some 45, .mv (.t 2), some (44, true), 0⟩, ⟨some 46, .mv (.t 0), some (44, true), 0⟩, ⟨some 47, .mv (.t 1), some (44, true), 0⟩, ⟨some 48, .call 59 [(1, .t 46), (1, .t 47)], some (44, true), 0⟩, ⟨some 49, .call 86 [(1, .t 45), (1, .t 48)], some (44, true), 0⟩, ⟨some 50, .mv (.t 2), some (44, true), 0⟩, ⟨some 51, .mv (.t 0), some (44, true), 0⟩, ⟨some 52, .call 86 [(1, .t 50), (1, .t 51)], some (44, true), 0⟩, ⟨some 53, .mv (.t 2), some (44, true), 0⟩, ⟨some 54, .mv (.t 1), some (44, true), 0⟩, ⟨some 55, .call 86 [(1, .t 53), (1, .t 54)], some (44, true), 0⟩, ⟨some 56, .call 59 [(1, .t 52), (1, .t 55)], some (44, true), 0⟩, ⟨some 57, .call 85 [(1, .t 49), (1, .t 56)], some (44, true), 0⟩, ⟨some 58, .pick (.t 44) (.t 57) (.k (.d (.sc (.bool false)))), none, 0⟩, ⟨some 59, .mv (.t 58), none, 0⟩, ⟨some 60, .mv (.t 0), some (59, true), 0⟩, ⟨some 61, .bsl false 1 1 [.d (.sc (.int .u64 (0)))] [(0, .k (.d (.sc (.int .u64 (1)))))], some (59, true), 0⟩, ⟨some 62, .call 86 [(1, .t 60), (1, .t 61)], some (59, true), 0⟩, ⟨some 63, .mv (.t 0), some (59, true), 0⟩, ⟨some 64, .call 69 [(1, .t 63)], some (59, true), 0⟩, ⟨some 65, .call 85 [(1, .t 62), (1, .t 64)], some (59, true), 0⟩, ⟨some 66, .pick (.t 59) (.t 65) (.k (.d (.sc (.bool false)))), none, 0⟩, ⟨some 67, .mv (.t 66), none, 0⟩, ⟨some 68, .mv (.t 0), some (67, true), 0⟩, ⟨some 69, .call 86 [(1, .t 68), (1, .k .nil)], some (67, true), 0⟩, ⟨some 70, .len (.t 69), some (67, true), 0⟩, ⟨some 71, .bin .eql (.t 70) (.k (.d (.sc (.int .i64 (0))))), some (67, true), 0⟩, ⟨some 72, .pick (.t 67) (.t 71) (.k (.d (.sc (.bool false)))), none, 0⟩, ⟨some 6, .asg (.t 72), none, 0⟩]) .ret))), res := [.t 6 1] }
/-- function 26 -/
def a26 : AFunc :=
  { np := 1, body := .seq (.reg false [⟨some 2, .asg (.k (.d (.sc (.bool false)))), none, 0⟩]) (.seq (.seq (.reg false [⟨some 9, .mv (.t 0), none, 0⟩, ⟨some 10, .len (.t 9), none, 0⟩, ⟨some 11, .bin .gtr (.t 10) (.k (.d (.sc (.int .i64 (60))))), none, 0⟩]) (.cond (.t 11) (.seq (.reg false [⟨some 12, .call 82 [], none, 0⟩, ⟨some 2, .asg (.t 12), none, 0⟩]) .ret) .skip)) (.seq (.reg false [⟨some 13, .bsl false 1 2 [.d (.sc (.int .u64 (0)))] [(0, .k (.d (.sc (.int .u64 (0))))), (1, .k (.d (.sc (.int .u64 (1)))))], none, 0⟩, ⟨some 3, .asg (.t 13), none, 0⟩]) (.seq (.reg false [⟨some 14, .mv (.t 0), none, 0⟩, ⟨some 15, .call 69 [(1, .t 14)], none, 0⟩, ⟨some 4, .asg (.t 15), none, 0⟩]) (.seq (.reg false [⟨some 16, .mv (.t 0), none, 0⟩, ⟨some 17, .mv (.t 3), none, 0⟩, ⟨some 18, .call 86 [(1, .t 16), (1, .t 17)], none, 0⟩, ⟨some 5, .asg (.t 18), none, 0⟩]) (.seq (.reg false [⟨some 20, .mv (.t 0), none, 0⟩, ⟨some 21, .mv (.t 3), none, 0⟩, ⟨some 22, .call 83 [(1, .t 20), (1, .t 21)], none, 0⟩, ⟨some 19, .mv (.t 22), none, 0⟩, ⟨some 23, .ext (.t 19) 0, none, 0⟩, ⟨some 24, .ext (.t 19) 1, none, 0⟩, ⟨some 25, .ext (.t 19) 2, none, 0⟩, ⟨some 6, .asg (.t 23), none, 0⟩, ⟨some 7, .asg (.t 24), none, 0⟩, ⟨some 8, .asg (.t 25), none, 0⟩]) (.seq (.seq (.reg false [⟨some 26, .mv (.t 4), none, 0⟩, ⟨some 27, .len (.t 26), none, 0⟩, ⟨some 28, .bin .eql (.t 27) (.k (.d (.sc (.int .i64 (0))))), none, 0⟩]) (.cond (.t 28) (.seq (.reg false [⟨some 29, .call 82 [], none, 0⟩, ⟨some 30, .mv (.t 29), none, 0⟩, ⟨some 31, .mv (.t 5), some (30, true), 0⟩, ⟨some 32, .len (.t 31), some (30, true), 0⟩, ⟨some 33, .bin .eql (.t 32) (.k (.d (.sc (.int .i64 (0))))), some (30, true), 0⟩, ⟨some 34, .pick (.t 30) (.t 33) (.k (.d (.sc (.bool false)))), none, 0⟩, ⟨some 35, .mv (.t 34), none, 0⟩, ⟨some 36, .mv (.t 8), some (35, true), 0⟩, ⟨some 37, .pick (.t 35) (.t 36) (.k (.d (.sc (.bool false)))), none, 0⟩, ⟨some 38, .mv (.t 37), none, 0⟩, ⟨some 39, .mv (.t 6), some (38, true), 0⟩, ⟨some 40, .len (.t 39), some (38, true), 0⟩, ⟨some 41, .bin .eql (.t 40) (.k (.d (.sc (.int .i64 (0))))), some (38, true), 0⟩, ⟨some 42, .pick (.t 38) (.t 41) (.k (.d (.sc (.bool false)))), none, 0⟩, ⟨some 43, .mv (.t 42), none, 0⟩, ⟨some 44, .mv (.t 7), some (43, true), 0⟩, ⟨some 45, .len (.t 44), some (43, true), 0⟩, ⟨some 46, .bin .eql (.t 45) (.k (.d (.sc (.int .i64 (0))))), some (43, true), 0⟩, ⟨some 47, .pick (.t 43) (.t 46) (.k (.d (.sc (.bool false)))), none, 0⟩, ⟨some 2, .asg (.t 47), none, 0⟩]) .ret) .skip)) (.seq (.reg false [⟨some 48, .call 82 [], none, 0⟩, ⟨some 49, .mv (.t 48), none, 0⟩, ⟨some 50, .mv (.t 5), some (49, true), 0⟩, ⟨some 51, .bsl false 1 1 [.d (.sc (.int .u64 (0)))] [(0, .k (.d (.sc (.int .u64 (0)))))], some (49, true), 0⟩, ⟨some 52, .mv (.t 4), some (49, true), 0⟩, ⟨some 53, .app false 1 8 (.t 51) (.t 52), some (49, true), 0⟩, ⟨some 54, .call 85 [(1, .t 50), (1, .t 53)], some (49, true), 0⟩, ⟨some 55, .pick (.t 49) (.t 54) (.k (.d (.sc (.bool false)))), none, 0⟩, ⟨some 56, .mv (.t 55), none, 0⟩, ⟨some 57, .mv (.t 8), some (56, true), 0⟩, ⟨some 58, .pick (.t 56) (.t 57) (.k (.d (.sc (.bool false)))), none, 0⟩, ⟨some 59, .mv (.t 58), none, 0⟩, ⟨some 60, .mv (.t 6), some (59, true), 0⟩, ⟨some 61, .mv (.t 4), some (59, true), 0⟩, ⟨some 62, .slc 1 (.t 61) (some (.k (.d (.sc (.int .i64 (1)))))) none, some (59, true), 0⟩, ⟨some 63, .call 69 [(1, .t 62)], some (59, true), 0⟩, ⟨some 64, .call 85 [(1, .t 60), (1, .t 63)], some (59, true), 0⟩, ⟨some 65, .pick (.t 59) (.t 64) (.k (.d (.sc (.bool false)))), none, 0⟩, ⟨some 66, .mv (.t 65), none, 0⟩, ⟨some 67, .mv (.t 7), some (66, true), 0⟩, ⟨some 68, .mv (.t 4), some (66, true), 0⟩, ⟨some 69, .slc 1 (.t 68) none (some (.k (.d (.sc (.int .i64 (1)))))), some (66, true), 0⟩, ⟨some 70, .call 69 [(1, .t 69)], some (66, true), 0⟩, ⟨some 71, .call 85 [(1, .t 67), (1, .t 70)], some (66, true), 0⟩, ⟨some 72, .pick (.t 66) (.t 71) (.k (.d (.sc (.bool false)))), none, 0⟩, ⟨some 2, .asg (.t 72), none, 0⟩]) .ret))))))), res := [.t 2 1] }
/-- function 27 -/
def a27 : AFunc :=
  { np := 3, body := .seq (.reg false [⟨some 6, .asg (.k (.d (.sc (.bool false)))), none, 0⟩]) (.seq (.seq (.reg false [⟨some 19, .mv (.t 0), none, 0⟩, ⟨some 20, .mv (.t 1), none, 0⟩, ⟨some 21, .mv (.t 2), none, 0⟩, ⟨some 22, .bsl false 1 3 [.nil] [(0, .t 19), (1, .t 20), (2, .t 21)], none, 0⟩, ⟨some 23, .call 52 [(1, .k (.d (.sc (.int .i64 (3))))), (1, .t 22)], none, 0⟩, ⟨some 24, .un .not (.t 23), none, 0⟩]) (.cond (.t 24) (.seq (.reg false [⟨some 25, .call 53 [], none, 0⟩, ⟨some 6, .asg (.t 25), none, 0⟩]) .ret) .skip)) (.seq (.reg false [⟨some 27, .mv (.t 0), none, 0⟩, ⟨some 28, .mv (.t 1), none, 0⟩, ⟨some 29, .mv (.t 2), none, 0⟩, ⟨some 30, .call 54 [(1, .t 27), (1, .t 28), (1, .t 29)], none, 0⟩, ⟨some 26, .mv (.t 30), none, 0⟩, ⟨some 31, .ext (.t 26) 0, none, 0⟩, ⟨some 32, .ext (.t 26) 1, none, 0⟩, ⟨some 7, .asg (.t 31), none, 0⟩, ⟨some 8, .asg (.t 32), none, 0⟩]) (.seq (.reg false [⟨some 34, .mv (.t 0), none, 0⟩, ⟨some 35, .mv (.t 1), none, 0⟩, ⟨some 36, .mv (.t 2), none, 0⟩, ⟨some 37, .call 88 [(1, .t 34), (1, .t 35), (1, .t 36)], none, 0⟩, ⟨some 33, .mv (.t 37), none, 0⟩, ⟨some 38, .ext (.t 33) 0, none, 0⟩, ⟨some 39, .ext (.t 33) 1, none, 0⟩, ⟨some 9, .asg (.t 38), none, 0⟩, ⟨some 10, .asg (.t 39), none, 0⟩]) (.seq (.reg false [⟨some 41, .mv (.t 0), none, 0⟩, ⟨some 42, .mv (.t 1), none, 0⟩, ⟨some 43, .mv (.t 2), none, 0⟩, ⟨some 44, .call 58 [(1, .t 41), (1, .t 42), (1, .t 43)], none, 0⟩, ⟨some 40, .mv (.t 44), none, 0⟩, ⟨some 45, .ext (.t 40) 0, none, 0⟩, ⟨some 46, .ext (.t 40) 1, none, 0⟩, ⟨some 11, .asg (.t 45), none, 0⟩, ⟨some 12, .asg (.t 46), none, 0⟩]) (.seq (.reg false [⟨some 48, .mv (.t 0), none, 0⟩, ⟨some 49, .mv (.t 1), none, 0⟩, ⟨some 50, .mv (.t 2), none, 0⟩, ⟨some 51, .call 89 [(1, .t 48), (1, .t 49), (1, .t 50)], none, 0⟩, ⟨some 47, .mv (.t 51), none, 0⟩, ⟨some 52, .ext (.t 47) 0, none, 0⟩, ⟨some 53, .ext (.t 47) 1, none, 0⟩, ⟨some 13, .asg (.t 52), none, 0⟩, ⟨some 14, .asg (.t 53), none, 0⟩]) (.seq (.reg false [⟨some 55, .mv (.t 0), none, 0⟩, ⟨some 56, .mv (.t 2), none, 0⟩, ⟨some 57, .call 55 [(1, .t 55), (1, .t 56)], none, 0⟩, ⟨some 54, .mv (.t 57), none, 0⟩, ⟨some 58, .ext (.t 54) 0, none, 0⟩, ⟨some 59, .ext (.t 54) 1, none, 0⟩, ⟨some 15, .asg (.t 58), none, 0⟩, ⟨some 16, .asg (.t 59), none, 0⟩]) (.seq (.reg false [⟨some 61, .mv (.t 0), none, 0⟩, ⟨some 62, .mv (.t 2), none, 0⟩, ⟨some 63, .call 90 [(1, .t 61), (1, .t 62)], none, 0⟩, ⟨some 60, .mv (.t 63), none, 0⟩, ⟨some 64, .ext (.t 60) 0, none, 0⟩, ⟨some 65, .ext (.t 60) 1, none, 0⟩, ⟨some 17, .asg (.t 64), none, 0⟩, ⟨some 18, .asg (.t 65), none, 0⟩]) (.seq (.reg false [⟨some 66, .call 53 [], none, 0⟩, ⟨some 67, .mv (.t 66), none, 0⟩, ⟨some 68, .mv (.t 8), some (67, true), 0⟩, ⟨some 69, .mv (.t 10), some (67, true), 0⟩, ⟨some 70, .binb .eql (.t 68) (.t 69), some (67, true), 0⟩, ⟨some 71, .pick (.t 67) (.t 70) (.k (.d (.sc (.bool false)))), none, 0⟩, ⟨some 72, .mv (.t 71), none, 0⟩, ⟨some 73, .mv (.t 7), some (72, true), 0⟩, ⟨some 74, .mv (.t 9), some (72, true), 0⟩, ⟨some 75, .call 57 [(1, .t 73), (1, .t 74)], some (72, true), 0⟩, ⟨some 76, .pick (.t 72) (.t 75) (.k (.d (.sc (.bool false)))), none, 0⟩, ⟨some 77, .mv (.t 76), none, 0⟩, ⟨some 78, .mv (.t 12), some (77, true), 0⟩, ⟨some 79, .mv (.t 14), some (77, true), 0⟩, ⟨some 80, .binb .eql (.t 78) (.t 79), some (77, true), 0⟩, ⟨some 81, .pick (.t 77) (.t 80) (.k (.d (.sc (.bool false)))), none, 0⟩, ⟨some 82, .mv (.t 81), none, 0⟩, ⟨some 83, .mv (.t 11), some (82, true), 0⟩, ⟨some 84, .mv (.t 13), some (82, true), 0⟩, ⟨some 85, .call 57 [(1, .t 83), (1, .t 84)], some (82, true), 0⟩, ⟨some 86, .pick (.t 82) (.t 85) (.k (.d (.sc (.bool false)))), none, 0⟩, ⟨some 87, .mv (.t 86), none, 0⟩, ⟨some 88, .mv (.t 16), some (87, true), 0⟩, ⟨some 89, .mv (.t 18), some (87, true), 0⟩, ⟨some 90, .binb .eql (.t 88) (.t 89), some (87, true), 0⟩, ⟨some 91, .pick (.t 87) (.t 90) (.k (.d (.sc (.bool false)))), none, 0⟩, ⟨some 92, .mv (.t 91), none, 0⟩, ⟨some 93, .mv (.t 15), some (92, true), 0⟩, ⟨some 94, .mv (.t 17), some (92, true), 0⟩, ⟨some 95, .call 57 [(1, .t 93), (1, .t 94)], some (92, true), 0⟩, ⟨some 96, .pick (.t 92) (.t 95) (.k (.d (.sc (.bool false)))), none, 0⟩, ⟨some 6, .asg (.t 96), none, 0⟩]) .ret)))))))), res := [.t 6 1] }
/-- function 28 -/
def a28 : AFunc :=
  { np := 3, body := .seq (.reg false [⟨some 6, .asg (.k (.d (.sc (.bool false)))), none, 0⟩]) (.seq (.seq (.reg false [⟨some 29, .mv (.t 0), none, 0⟩, ⟨some 30, .mv (.t 1), none, 0⟩, ⟨some 31, .mv (.t 2), none, 0⟩, ⟨some 32, .bsl false 1 3 [.nil] [(0, .t 29), (1, .t 30), (2, .t 31)], none, 0⟩, ⟨some 33, .call 52 [(1, .k (.d (.sc (.int .i64 (4))))), (1, .t 32)], none, 0⟩, ⟨some 34, .un .not (.t 33), none, 0⟩, ⟨some 35, .mv (.t 34), none, 0⟩, ⟨some 36, .mv (.t 2), some (35, false), 0⟩, ⟨some 37, .call 56 [(1, .t 36)], some (35, false), 0⟩, ⟨some 38, .bin .eql (.t 37) (.k (.d (.sc (.int .i64 (0))))), some (35, false), 0⟩, ⟨some 39, .pick (.t 35) (.k (.d (.sc (.bool true)))) (.t 38), none, 0⟩]) (.cond (.t 39) (.seq (.reg false [⟨some 40, .call 53 [], none, 0⟩, ⟨some 6, .asg (.t 40), none, 0⟩]) .ret) .skip)) (.seq (.reg false [⟨some 41, .bsl false 1 1 [.d (.sc (.int .u64 (0)))] [(0, .k (.d (.sc (.int .u64 (29)))))], none, 0⟩, ⟨some 42, .bsl false 1 1 [.d (.sc (.int .u64 (0)))] [(0, .k (.d (.sc (.int .u64 (1000003)))))], none, 0⟩, ⟨some 7, .asg (.t 41), none, 0⟩, ⟨some 8, .asg (.t 42), none, 0⟩]) (.seq (.reg false [⟨some 44, .mv (.t 0), none, 0⟩, ⟨some 45, .mv (.t 7), none, 0⟩, ⟨some 46, .mv (.t 2), none, 0⟩, ⟨some 47, .call 54 [(1, .t 44), (1, .t 45), (1, .t 46)], none, 0⟩, ⟨some 43, .mv (.t 47), none, 0⟩, ⟨some 48, .ext (.t 43) 0, none, 0⟩, ⟨some 49, .ext (.t 43) 1, none, 0⟩, ⟨some 9, .asg (.t 48), none, 0⟩, ⟨some 10, .asg (.t 49), none, 0⟩]) (.seq (.reg false [⟨some 51, .mv (.t 0), none, 0⟩, ⟨some 52, .mv (.t 8), none, 0⟩, ⟨some 53, .mv (.t 2), none, 0⟩, ⟨some 54, .call 54 [(1, .t 51), (1, .t 52), (1, .t 53)], none, 0⟩, ⟨some 50, .mv (.t 54), none, 0⟩, ⟨some 55, .ext (.t 50) 0, none, 0⟩, ⟨some 56, .ext (.t 50) 1, none, 0⟩, ⟨some 11, .asg (.t 55), none, 0⟩, ⟨some 12, .asg (.t 56), none, 0⟩]) (.seq (.reg false [⟨some 58, .mv (.t 9), none, 0⟩, ⟨some 59, .mv (.t 11), none, 0⟩, ⟨some 60, .mv (.t 2), none, 0⟩, ⟨some 61, .call 58 [(1, .t 58), (1, .t 59), (1, .t 60)], none, 0⟩, ⟨some 57, .mv (.t 61), none, 0⟩, ⟨some 62, .ext (.t 57) 0, none, 0⟩, ⟨some 63, .ext (.t 57) 1, none, 0⟩, ⟨some 13, .asg (.t 62), none, 0⟩, ⟨some 14, .asg (.t 63), none, 0⟩]) (.seq (.reg false [⟨some 65, .mv (.t 0), none, 0⟩, ⟨some 66, .mv (.t 7), none, 0⟩, ⟨some 67, .mv (.t 8), none, 0⟩, ⟨some 68, .call 59 [(1, .t 66), (1, .t 67)], none, 0⟩, ⟨some 69, .mv (.t 2), none, 0⟩, ⟨some 70, .call 54 [(1, .t 65), (1, .t 68), (1, .t 69)], none, 0⟩, ⟨some 64, .mv (.t 70), none, 0⟩, ⟨some 71, .ext (.t 64) 0, none, 0⟩, ⟨some 72, .ext (.t 64) 1, none, 0⟩, ⟨some 15, .asg (.t 71), none, 0⟩, ⟨some 16, .asg (.t 72), none, 0⟩]) (.seq (.reg false [⟨some 74, .mv (.t 9), none, 0⟩, ⟨some 75, .mv (.t 8), none, 0⟩, ⟨some 76, .mv (.t 2), none, 0⟩, ⟨some 77, .call 54 [(1, .t 74), (1, .t 75), (1, .t 76)], none, 0⟩, ⟨some 73, .mv (.t 77), none, 0⟩, ⟨some 78, .ext (.t 73) 0, none, 0⟩, ⟨some 79, .ext (.t 73) 1, none, 0⟩, ⟨some 17, .asg (.t 78), none, 0⟩, ⟨some 18, .asg (.t 79), none, 0⟩]) (.seq (.reg false [⟨some 81, .mv (.t 11), none, 0⟩, ⟨some 82, .mv (.t 7), none, 0⟩, ⟨some 83, .mv (.t 2), none, 0⟩, ⟨some 84, .call 54 [(1, .t 81), (1, .t 82), (1, .t 83)], none, 0⟩, ⟨some 80, .mv (.t 84), none, 0⟩, ⟨some 85, .ext (.t 80) 0, none, 0⟩, ⟨some 86, .ext (.t 80) 1, none, 0⟩, ⟨some 19, .asg (.t 85), none, 0⟩, ⟨some 20, .asg (.t 86), none, 0⟩]) (.seq (.reg false [⟨some 88, .mv (.t 0), none, 0⟩, ⟨some 89, .mv (.t 1), none, 0⟩, ⟨some 90, .mv (.t 2), none, 0⟩, ⟨some 91, .call 58 [(1, .t 88), (1, .t 89), (1, .t 90)], none, 0⟩, ⟨some 87, .mv (.t 91), none, 0⟩, ⟨some 92, .ext (.t 87) 0, none, 0⟩, ⟨some 93, .ext (.t 87) 1, none, 0⟩, ⟨some 21, .asg (.t 92), none, 0⟩, ⟨some 22, .asg (.t 93), none, 0⟩]) (.seq (.reg false [⟨some 95, .mv (.t 21), none, 0⟩, ⟨some 96, .mv (.t 7), none, 0⟩, ⟨some 97, .mv (.t 2), none, 0⟩, ⟨some 98, .call 54 [(1, .t 95), (1, .t 96), (1, .t 97)], none, 0⟩, ⟨some 94, .mv (.t 98), none, 0⟩, ⟨some 99, .ext (.t 94) 0, none, 0⟩, ⟨some 100, .ext (.t 94) 1, none, 0⟩, ⟨some 23, .asg (.t 99), none, 0⟩, ⟨some 24, .asg (.t 100), none, 0⟩]) (.seq (.reg false [⟨some 102, .mv (.t 1), none, 0⟩, ⟨some 103, .mv (.t 7), none, 0⟩, ⟨some 104, .mv (.t 2), none, 0⟩, ⟨some 105, .call 54 [(1, .t 102), (1, .t 103), (1, .t 104)], none, 0⟩, ⟨some 101, .mv (.t 105), none, 0⟩, ⟨some 106, .ext (.t 101) 0, none, 0⟩, ⟨some 107, .ext (.t 101) 1, none, 0⟩, ⟨some 25, .asg (.t 106), none, 0⟩, ⟨some 26, .asg (.t 107), none, 0⟩]) (.seq (.reg false [⟨some 109, .mv (.t 9), none, 0⟩, ⟨some 110, .mv (.t 25), none, 0⟩, ⟨some 111, .mv (.t 2), none, 0⟩, ⟨some 112, .call 58 [(1, .t 109), (1, .t 110), (1, .t 111)], none, 0⟩, ⟨some 108, .mv (.t 112), none, 0⟩, ⟨some 113, .ext (.t 108) 0, none, 0⟩, ⟨some 114, .ext (.t 108) 1, none, 0⟩, ⟨some 27, .asg (.t 113), none, 0⟩, ⟨some 28, .asg (.t 114), none, 0⟩]) (.seq (.reg false [⟨some 115, .call 53 [], none, 0⟩, ⟨some 116, .mv (.t 115), none, 0⟩, ⟨some 117, .mv (.t 10), some (116, true), 0⟩, ⟨some 118, .pick (.t 116) (.t 117) (.k (.d (.sc (.bool false)))), none, 0⟩, ⟨some 119, .mv (.t 118), none, 0⟩, ⟨some 120, .mv (.t 12), some (119, true), 0⟩, ⟨some 121, .pick (.t 119) (.t 120) (.k (.d (.sc (.bool false)))), none, 0⟩, ⟨some 122, .mv (.t 121), none, 0⟩, ⟨some 123, .mv (.t 14), some (122, true), 0⟩, ⟨some 124, .pick (.t 122) (.t 123) (.k (.d (.sc (.bool false)))), none, 0⟩, ⟨some 125, .mv (.t 124), none, 0⟩, ⟨some 126, .mv (.t 16), some (125, true), 0⟩, ⟨some 127, .pick (.t 125) (.t 126) (.k (.d (.sc (.bool false)))), none, 0⟩, ⟨some 128, .mv (.t 127), none, 0⟩, ⟨some 129, .mv (.t 18), some (128, true), 0⟩, ⟨some 130, .pick (.t 128) (.t 129) (.k (.d (.sc (.bool false)))), none, 0⟩, ⟨some 131, .mv (.t 130), none, 0⟩, ⟨some 132, .mv (.t 20), some (131, true), 0⟩, ⟨some 133, .pick (.t 131) (.t 132) (.k (.d (.sc (.bool false)))), none, 0⟩, ⟨some 134, .mv (.t 133), none, 0⟩, ⟨some 135, .mv (.t 13), some (134, true), 0⟩, ⟨some 136, .mv (.t 15), some (134, true), 0⟩, ⟨some 137, .call 57 [(1, .t 135), (1, .t 136)], some (134, true), 0⟩, ⟨some 138, .pick (.t 134) (.t 137) (.k (.d (.sc (.bool false)))), none, 0⟩, ⟨some 139, .mv (.t 138), none, 0⟩, ⟨some 140, .mv (.t 17), some (139, true), 0⟩, ⟨some 141, .mv (.t 19), some (139, true), 0⟩, ⟨some 142, .call 57 [(1, .t 140), (1, .t 141)], some (139, true), 0⟩, ⟨some 143, .pick (.t 139) (.t 142) (.k (.d (.sc (.bool false)))), none, 0⟩, ⟨some 144, .mv (.t 143), none, 0⟩, ⟨some 145, .mv (.t 23), some (144, true), 0⟩, ⟨some 146, .mv (.t 27), some (144, true), 0⟩, ⟨some 147, .call 57 [(1, .t 145), (1, .t 146)], some (144, true), 0⟩, ⟨some 148, .pick (.t 144) (.t 147) (.k (.d (.sc (.bool false)))), none, 0⟩, ⟨some 149, .mv (.t 148), none, 0⟩, ⟨some 150, .mv (.t 9), some (149, true), 0⟩, ⟨some 151, .mv (.t 2), some (149, true), 0⟩, ⟨some 152, .call 60 [(1, .t 150), (1, .t 151)], some (149, true), 0⟩, ⟨some 153, .bin .lss (.t 152) (.k (.d (.sc (.int .i64 (0))))), some (149, true), 0⟩, ⟨some 154, .pick (.t 149) (.t 153) (.k (.d (.sc (.bool false)))), none, 0⟩, ⟨some 155, .mv (.t 154), none, 0⟩, ⟨some 156, .mv (.t 13), some (155, true), 0⟩, ⟨some 157, .mv (.t 2), some (155, true), 0⟩, ⟨some 158, .call 60 [(1, .t 156), (1, .t 157)], some (155, true), 0⟩, ⟨some 159, .bin .lss (.t 158) (.k (.d (.sc (.int .i64 (0))))), some (155, true), 0⟩, ⟨some 160, .pick (.t 155) (.t 159) (.k (.d (.sc (.bool false)))), none, 0⟩, ⟨some 6, .asg (.t 160), none, 0⟩]) .ret))))))))))))), res := [.t 6 1] }
/-- function 29 -/
def a29 : AFunc :=
  { np := 3, body := .seq (.reg false [⟨some 6, .asg (.k (.d (.sc (.bool false)))), none, 0⟩]) (.seq (.seq (.reg false [⟨some 19, .mv (.t 0), none, 0⟩, ⟨some 20, .mv (.t 1), none, 0⟩, ⟨some 21, .mv (.t 2), none, 0⟩, ⟨some 22, .bsl false 1 3 [.nil] [(0, .t 19), (1, .t 20), (2, .t 21)], none, 0⟩, ⟨some 23, .call 52 [(1, .k (.d (.sc (.int .i64 (4))))), (1, .t 22)], none, 0⟩, ⟨some 24, .un .not (.t 23), none, 0⟩, ⟨some 25, .mv (.t 24), none, 0⟩, ⟨some 26, .mv (.t 2), some (25, false), 0⟩, ⟨some 27, .call 56 [(1, .t 26)], some (25, false), 0⟩, ⟨some 28, .bin .eql (.t 27) (.k (.d (.sc (.int .i64 (0))))), some (25, false), 0⟩, ⟨some 29, .pick (.t 25) (.k (.d (.sc (.bool true)))) (.t 28), none, 0⟩]) (.cond (.t 29) (.seq (.reg false [⟨some 30, .call 53 [], none, 0⟩, ⟨some 6, .asg (.t 30), none, 0⟩]) .ret) .skip)) (.seq (.reg false [⟨some 32, .mv (.t 0), none, 0⟩, ⟨some 33, .mv (.t 1), none, 0⟩, ⟨some 34, .mv (.t 2), none, 0⟩, ⟨some 35, .call 54 [(1, .t 32), (1, .t 33), (1, .t 34)], none, 0⟩, ⟨some 31, .mv (.t 35), none, 0⟩, ⟨some 36, .ext (.t 31) 0, none, 0⟩, ⟨some 37, .ext (.t 31) 1, none, 0⟩, ⟨some 7, .asg (.t 36), none, 0⟩, ⟨some 8, .asg (.t 37), none, 0⟩]) (.seq (.reg false [⟨some 39, .mv (.t 0), none, 0⟩, ⟨some 40, .mv (.t 1), none, 0⟩, ⟨some 41, .bsl false 1 1 [.d (.sc (.int .u64 (0)))] [(0, .k (.d (.sc (.int .u64 (1)))))], none, 0⟩, ⟨some 42, .call 59 [(1, .t 40), (1, .t 41)], none, 0⟩, ⟨some 43, .mv (.t 2), none, 0⟩, ⟨some 44, .call 54 [(1, .t 39), (1, .t 42), (1, .t 43)], none, 0⟩, ⟨some 38, .mv (.t 44), none, 0⟩, ⟨some 45, .ext (.t 38) 0, none, 0⟩, ⟨some 46, .ext (.t 38) 1, none, 0⟩, ⟨some 9, .asg (.t 45), none, 0⟩, ⟨some 10, .asg (.t 46), none, 0⟩]) (.seq (.reg false [⟨some 48, .mv (.t 7), none, 0⟩, ⟨some 49, .mv (.t 0), none, 0⟩, ⟨some 50, .mv (.t 2), none, 0⟩, ⟨some 51, .call 58 [(1, .t 48), (1, .t 49), (1, .t 50)], none, 0⟩, ⟨some 47, .mv (.t 51), none, 0⟩, ⟨some 52, .ext (.t 47) 0, none, 0⟩, ⟨some 53, .ext (.t 47) 1, none, 0⟩, ⟨some 11, .asg (.t 52), none, 0⟩, ⟨some 12, .asg (.t 53), none, 0⟩]) (.seq (.reg false [⟨some 55, .mv (.t 0), none, 0⟩, ⟨some 56, .mv (.t 2), none, 0⟩, ⟨some 57, .call 54 [(1, .t 55), (1, .k .nil), (1, .t 56)], none, 0⟩, ⟨some 54, .mv (.t 57), none, 0⟩, ⟨some 58, .ext (.t 54) 0, none, 0⟩, ⟨some 59, .ext (.t 54) 1, none, 0⟩, ⟨some 13, .asg (.t 58), none, 0⟩, ⟨some 14, .asg (.t 59), none, 0⟩]) (.seq (.reg false [⟨some 61, .bsl false 1 1 [.d (.sc (.int .u64 (0)))] [(0, .k (.d (.sc (.int .u64 (1)))))], none, 0⟩, ⟨some 62, .mv (.t 2), none, 0⟩, ⟨some 63, .call 55 [(1, .t 61), (1, .t 62)], none, 0⟩, ⟨some 60, .mv (.t 63), none, 0⟩, ⟨some 64, .ext (.t 60) 0, none, 0⟩, ⟨some 65, .ext (.t 60) 1, none, 0⟩, ⟨some 15, .asg (.t 64), none, 0⟩, ⟨some 16, .asg (.t 65), none, 0⟩]) (.seq (.reg false [⟨some 67, .mv (.t 0), none, 0⟩, ⟨some 68, .mv (.t 2), none, 0⟩, ⟨some 69, .call 59 [(1, .t 67), (1, .t 68)], none, 0⟩, ⟨some 70, .mv (.t 1), none, 0⟩, ⟨some 71, .mv (.t 2), none, 0⟩, ⟨some 72, .call 54 [(1, .t 69), (1, .t 70), (1, .t 71)], none, 0⟩, ⟨some 66, .mv (.t 72), none, 0⟩, ⟨some 73, .ext (.t 66) 0, none, 0⟩, ⟨some 74, .ext (.t 66) 1, none, 0⟩, ⟨some 17, .asg (.t 73), none, 0⟩, ⟨some 18, .asg (.t 74), none, 0⟩]) (.seq (.reg false [⟨some 75, .call 53 [], none, 0⟩, ⟨some 76, .mv (.t 75), none, 0⟩, ⟨some 77, .mv (.t 8), some (76, true), 0⟩, ⟨some 78, .pick (.t 76) (.t 77) (.k (.d (.sc (.bool false)))), none, 0⟩, ⟨some 79, .mv (.t 78), none, 0⟩, ⟨some 80, .mv (.t 10), some (79, true), 0⟩, ⟨some 81, .pick (.t 79) (.t 80) (.k (.d (.sc (.bool false)))), none, 0⟩, ⟨some 82, .mv (.t 81), none, 0⟩, ⟨some 83, .mv (.t 12), some (82, true), 0⟩, ⟨some 84, .pick (.t 82) (.t 83) (.k (.d (.sc (.bool false)))), none, 0⟩, ⟨some 85, .mv (.t 84), none, 0⟩, ⟨some 86, .mv (.t 14), some (85, true), 0⟩, ⟨some 87, .pick (.t 85) (.t 86) (.k (.d (.sc (.bool false)))), none, 0⟩, ⟨some 88, .mv (.t 87), none, 0⟩, ⟨some 89, .mv (.t 9), some (88, true), 0⟩, ⟨some 90, .mv (.t 11), some (88, true), 0⟩, ⟨some 91, .call 57 [(1, .t 89), (1, .t 90)], some (88, true), 0⟩, ⟨some 92, .pick (.t 88) (.t 91) (.k (.d (.sc (.bool false)))), none, 0⟩, ⟨some 93, .mv (.t 92), none, 0⟩, ⟨some 94, .mv (.t 13), some (93, true), 0⟩, ⟨some 95, .mv (.t 15), some (93, true), 0⟩, ⟨some 96, .call 57 [(1, .t 94), (1, .t 95)], some (93, true), 0⟩, ⟨some 97, .pick (.t 93) (.t 96) (.k (.d (.sc (.bool false)))), none, 0⟩, ⟨some 98, .mv (.t 97), none, 0⟩, ⟨some 99, .mv (.t 17), some (98, true), 0⟩, ⟨some 100, .mv (.t 7), some (98, true), 0⟩, ⟨some 101, .call 57 [(1, .t 99), (1, .t 100)], some (98, true), 0⟩, ⟨some 102, .pick (.t 98) (.t 101) (.k (.d (.sc (.bool false)))), none, 0⟩, ⟨some 6, .asg (.t 102), none, 0⟩]) .ret)))))))), res := [.t 6 1] }
def b52_0 : ACode := .seq (.seq (.reg false [⟨some 6, .mv (.t 5), none, 0⟩, ⟨some 7, .mv (.t 1), none, 0⟩, ⟨some 8, .len (.t 7), none, 0⟩, ⟨some 9, .bin .lss (.t 6) (.t 8), none, 0⟩]) (.cond (.t 9) .skip (.exit 0))) (.seq (.block 1 (.seq (.reg false [⟨some 12, .mv (.t 1), none, 0⟩, ⟨some 13, .mv (.t 5), none, 0⟩, ⟨some 14, .iad 1 (.t 12) (.t 13), none, 0⟩, ⟨some 15, .ld false 1 (.t 14), none, 0⟩, ⟨some 16, .len (.t 15), none, 0⟩, ⟨some 17, .mv (.t 0), none, 0⟩, ⟨some 18, .bin .gtr (.t 16) (.t 17), none, 0⟩]) (.cond (.t 18) (.seq (.reg false [⟨some 4, .asg (.k (.d (.sc (.bool false)))), none, 0⟩]) .ret) .skip))) (.reg false [⟨some 10, .mv (.t 5), none, 0⟩, ⟨some 11, .bin .add (.t 10) (.k (.d (.sc (.int .i64 (1))))), none, 0⟩, ⟨some 5, .asg (.t 11), none, 0⟩]))
/-- function 52 -/
def a52 : AFunc :=
  { np := 2, body := .seq (.reg false [⟨some 4, .asg (.k (.d (.sc (.bool false)))), none, 0⟩]) (.seq (.seq (.reg false [⟨some 5, .asg (.k (.d (.sc (.int .i64 (0))))), none, 0⟩]) (.block 0 (.loop [0, 1, 5] b52_0))) (.seq (.reg false [⟨some 4, .asg (.k (.d (.sc (.bool true)))), none, 0⟩]) .ret)), res := [.t 4 1] }
/-- function 53 -/
def a53 : AFunc :=
  { np := 0, body := .seq (.reg false [⟨some 0, .asg (.k (.d (.sc (.bool false)))), none, 0⟩]) (.seq (.reg false [⟨some 12, .bsl false 1 1 [.d (.sc (.int .u64 (0)))] [(0, .k (.d (.sc (.int .u64 (2)))))], none, 0⟩, ⟨some 13, .bsl false 1 1 [.d (.sc (.int .u64 (0)))] [(0, .k (.d (.sc (.int .u64 (11)))))], none, 0⟩, ⟨some 14, .bsl false 1 1 [.d (.sc (.int .u64 (0)))] [(0, .k (.d (.sc (.int .u64 (23)))))], none, 0⟩, ⟨some 15, .call 54 [(1, .t 12), (1, .t 13), (1, .t 14)], none, 0⟩, ⟨some 11, .mv (.t 15), none, 0⟩, ⟨some 16, .ext (.t 11) 0, none, 0⟩, ⟨some 17, .ext (.t 11) 1, none, 0⟩, ⟨some 1, .asg (.t 16), none, 0⟩, ⟨some 2, .asg (.t 17), none, 0⟩]) (.seq (.reg false [⟨some 19, .bsl false 1 1 [.d (.sc (.int .u64 (0)))] [(0, .k (.d (.sc (.int .u64 (2)))))], none, 0⟩, ⟨some 20, .bsl false 1 1 [.d (.sc (.int .u64 (0)))] [(0, .k (.d (.sc (.int .u64 (11)))))], none, 0⟩, ⟨some 21, .call 54 [(1, .t 19), (1, .t 20), (1, .k .nil)], none, 0⟩, ⟨some 18, .mv (.t 21), none, 0⟩, ⟨some 22, .ext (.t 18) 0, none, 0⟩, ⟨some 23, .ext (.t 18) 1, none, 0⟩, ⟨some 3, .asg (.t 22), none, 0⟩, ⟨some 4, .asg (.t 23), none, 0⟩]) (.seq (.reg false [⟨some 25, .bsl false 1 1 [.d (.sc (.int .u64 (0)))] [(0, .k (.d (.sc (.int .u64 (3)))))], none, 0⟩, ⟨some 26, .bsl false 1 2 [.d (.sc (.int .u64 (0)))] [(0, .k (.d (.sc (.int .u64 (0))))), (1, .k (.d (.sc (.int .u64 (1)))))], none, 0⟩, ⟨some 27, .bsl false 1 2 [.d (.sc (.int .u64 (0)))] [(0, .k (.d (.sc (.int .u64 (0))))), (1, .k (.d (.sc (.int .u64 (1)))))], none, 0⟩, ⟨some 28, .call 54 [(1, .t 25), (1, .t 26), (1, .t 27)], none, 0⟩, ⟨some 24, .mv (.t 28), none, 0⟩, ⟨some 29, .ext (.t 24) 0, none, 0⟩, ⟨some 30, .ext (.t 24) 1, none, 0⟩, ⟨some 5, .asg (.t 29), none, 0⟩, ⟨some 6, .asg (.t 30), none, 0⟩]) (.seq (.reg false [⟨some 32, .bsl false 1 1 [.d (.sc (.int .u64 (0)))] [(0, .k (.d (.sc (.int .u64 (5)))))], none, 0⟩, ⟨some 33, .bsl false 1 1 [.d (.sc (.int .u64 (0)))] [(0, .k (.d (.sc (.int .u64 (6)))))], none, 0⟩, ⟨some 34, .bsl false 1 1 [.d (.sc (.int .u64 (0)))] [(0, .k (.d (.sc (.int .u64 (7)))))], none, 0⟩, ⟨some 35, .call 58 [(1, .t 32), (1, .t 33), (1, .t 34)], none, 0⟩, ⟨some 31, .mv (.t 35), none, 0⟩, ⟨some 36, .ext (.t 31) 0, none, 0⟩, ⟨some 37, .ext (.t 31) 1, none, 0⟩, ⟨some 7, .asg (.t 36), none, 0⟩, ⟨some 8, .asg (.t 37), none, 0⟩]) (.seq (.reg false [⟨some 39, .bsl false 1 2 [.d (.sc (.int .u64 (0)))] [(0, .k (.d (.sc (.int .u64 (0))))), (1, .k (.d (.sc (.int .u64 (1)))))], none, 0⟩, ⟨some 40, .bsl false 1 1 [.d (.sc (.int .u64 (0)))] [(0, .k (.d (.sc (.int .u64 (10)))))], none, 0⟩, ⟨some 41, .call 55 [(1, .t 39), (1, .t 40)], none, 0⟩, ⟨some 38, .mv (.t 41), none, 0⟩, ⟨some 42, .ext (.t 38) 0, none, 0⟩, ⟨some 43, .ext (.t 38) 1, none, 0⟩, ⟨some 9, .asg (.t 42), none, 0⟩, ⟨some 10, .asg (.t 43), none, 0⟩]) (.seq (.reg false [⟨some 44, .mv (.t 2), none, 0⟩, ⟨some 45, .mv (.t 44), none, 0⟩, ⟨some 46, .mv (.t 1), some (45, true), 0⟩, ⟨some 47, .len (.t 46), some (45, true), 0⟩, ⟨some 48, .bin .eql (.t 47) (.k (.d (.sc (.int .i64 (1))))), some (45, true), 0⟩, ⟨some 49, .pick (.t 45) (.t 48) (.k (.d (.sc (.bool false)))), none, 0⟩, ⟨some 50, .mv (.t 49), none, 0⟩, ⟨some 51, .mv (.t 1), some (50, true), 0⟩, ⟨some 52, .iad 1 (.t 51) (.k (.d (.sc (.int .i64 (0))))), some (50, true), 0⟩, ⟨some 53, .ld false 1 (.t 52), some (50, true), 0⟩, ⟨some 54, .bin .eql (.t 53) (.k (.d (.sc (.int .u64 (1))))), some (50, true), 0⟩, ⟨some 55, .pick (.t 50) (.t 54) (.k (.d (.sc (.bool false)))), none, 0⟩, ⟨some 56, .mv (.t 55), none, 0⟩, ⟨some 57, .mv (.t 4), some (56, true), 0⟩, ⟨some 58, .un .not (.t 57), some (56, true), 0⟩, ⟨some 59, .pick (.t 56) (.t 58) (.k (.d (.sc (.bool false)))), none, 0⟩, ⟨some 60, .mv (.t 59), none, 0⟩, ⟨some 61, .mv (.t 5), some (60, true), 0⟩, ⟨some 62, .len (.t 61), some (60, true), 0⟩, ⟨some 63, .bin .eql (.t 62) (.k (.d (.sc (.int .i64 (1))))), some (60, true), 0⟩, ⟨some 64, .pick (.t 60) (.t 63) (.k (.d (.sc (.bool false)))), none, 0⟩, ⟨some 65, .mv (.t 64), none, 0⟩, ⟨some 66, .mv (.t 5), some (65, true), 0⟩, ⟨some 67, .iad 1 (.t 66) (.k (.d (.sc (.int .i64 (0))))), some (65, true), 0⟩, ⟨some 68, .ld false 1 (.t 67), some (65, true), 0⟩, ⟨some 69, .bin .eql (.t 68) (.k (.d (.sc (.int .u64 (1))))), some (65, true), 0⟩, ⟨some 70, .pick (.t 65) (.t 69) (.k (.d (.sc (.bool false)))), none, 0⟩, ⟨some 71, .mv (.t 70), none, 0⟩, ⟨some 72, .mv (.t 8), some (71, true), 0⟩, ⟨some 73, .pick (.t 71) (.t 72) (.k (.d (.sc (.bool false)))), none, 0⟩, ⟨some 74, .mv (.t 73), none, 0⟩, ⟨some 75, .mv (.t 7), some (74, true), 0⟩, ⟨some 76, .iad 1 (.t 75) (.k (.d (.sc (.int .i64 (0))))), some (74, true), 0⟩, ⟨some 77, .ld false 1 (.t 76), some (74, true), 0⟩, ⟨some 78, .bin .eql (.t 77) (.k (.d (.sc (.int .u64 (2))))), some (74, true), 0⟩, ⟨some 79, .pick (.t 74) (.t 78) (.k (.d (.sc (.bool false)))), none, 0⟩, ⟨some 80, .mv (.t 79), none, 0⟩, ⟨some 81, .mv (.t 10), some (80, true), 0⟩, ⟨some 82, .pick (.t 80) (.t 81) (.k (.d (.sc (.bool false)))), none, 0⟩, ⟨some 83, .mv (.t 82), none, 0⟩, ⟨some 84, .mv (.t 9), some (83, true), 0⟩, ⟨some 85, .iad 1 (.t 84) (.k (.d (.sc (.int .i64 (0))))), some (83, true), 0⟩, ⟨some 86, .ld false 1 (.t 85), some (83, true), 0⟩, ⟨some 87, .bin .eql (.t 86) (.k (.d (.sc (.int .u64 (6))))), some (83, true), 0⟩, ⟨some 88, .pick (.t 83) (.t 87) (.k (.d (.sc (.bool false)))), none, 0⟩, ⟨some 0, .asg (.t 88), none, 0⟩]) .ret)))))), res := [.t 0 1] }
def b54_0 : ACode := .seq (.seq (.reg false [⟨some 38, .mv (.t 11), none, 0⟩, ⟨some 39, .bin .geq (.t 38) (.k (.d (.sc (.int .i64 (0))))), none, 0⟩]) (.cond (.t 39) .skip (.exit 0))) (.seq (.block 1 (.seq (.reg false [⟨some 43, .mv (.t 9), none, 0⟩, ⟨some 44, .mv (.t 9), none, 0⟩, ⟨some 45, .mv (.t 2), none, 0⟩, ⟨some 46, .call 58 [(1, .t 43), (1, .t 44), (1, .t 45)], none, 0⟩, ⟨some 42, .mv (.t 46), none, 0⟩, ⟨some 47, .ext (.t 42) 0, none, 0⟩, ⟨some 48, .ext (.t 42) 1, none, 0⟩, ⟨some 9, .asg (.t 47), none, 0⟩]) (.seq (.reg false [⟨some 49, .mv (.t 1), none, 0⟩, ⟨some 50, .mv (.t 11), none, 0⟩, ⟨some 51, .call 71 [(1, .t 49), (1, .t 50)], none, 0⟩, ⟨some 52, .bin .eql (.t 51) (.k (.d (.sc (.int .i64 (1))))), none, 0⟩]) (.cond (.t 52) (.reg false [⟨some 54, .mv (.t 9), none, 0⟩, ⟨some 55, .mv (.t 0), none, 0⟩, ⟨some 56, .mv (.t 2), none, 0⟩, ⟨some 57, .call 58 [(1, .t 54), (1, .t 55), (1, .t 56)], none, 0⟩, ⟨some 53, .mv (.t 57), none, 0⟩, ⟨some 58, .ext (.t 53) 0, none, 0⟩, ⟨some 59, .ext (.t 53) 1, none, 0⟩, ⟨some 9, .asg (.t 58), none, 0⟩]) .skip)))) (.reg false [⟨some 40, .mv (.t 11), none, 0⟩, ⟨some 41, .bin .sub (.t 40) (.k (.d (.sc (.int .i64 (1))))), none, 0⟩, ⟨some 11, .asg (.t 41), none, 0⟩]))
/-- function 54 -/
def a54 : AFunc :=
  { np := 3, body := .seq (.reg false [⟨some 6, .asg (.k .nil), none, 0⟩, ⟨some 7, .asg (.k (.d (.sc (.bool false)))), none, 0⟩]) (.seq (.reg false [⟨some 14, .mv (.t 2), none, 0⟩, ⟨some 15, .call 68 [(1, .t 14)], none, 0⟩, ⟨some 2, .asg (.t 15), none, 0⟩]) (.seq (.reg false [⟨some 17, .mv (.t 0), none, 0⟩, ⟨some 18, .mv (.t 2), none, 0⟩, ⟨some 19, .call 55 [(1, .t 17), (1, .t 18)], none, 0⟩, ⟨some 16, .mv (.t 19), none, 0⟩, ⟨some 20, .ext (.t 16) 0, none, 0⟩, ⟨some 21, .ext (.t 16) 1, none, 0⟩, ⟨some 0, .asg (.t 20), none, 0⟩, ⟨some 8, .asg (.t 21), none, 0⟩]) (.seq (.seq (.reg false [⟨some 22, .mv (.t 8), none, 0⟩, ⟨some 23, .un .not (.t 22), none, 0⟩]) (.cond (.t 23) (.seq (.reg false [⟨some 6, .asg (.k .nil), none, 0⟩, ⟨some 7, .asg (.k (.d (.sc (.bool false)))), none, 0⟩]) .ret) .skip)) (.seq (.seq (.reg false [⟨some 24, .mv (.t 2), none, 0⟩, ⟨some 25, .iad 1 (.t 24) (.k (.d (.sc (.int .i64 (0))))), none, 0⟩, ⟨some 26, .ld false 1 (.t 25), none, 0⟩, ⟨some 27, .bin .and (.t 26) (.k (.d (.sc (.int .u64 (1))))), none, 0⟩, ⟨some 28, .bin .eql (.t 27) (.k (.d (.sc (.int .u64 (0))))), none, 0⟩]) (.cond (.t 28) (.seq (.reg false [⟨some 30, .bsl false 1 1 [.d (.sc (.int .u64 (0)))] [(0, .k (.d (.sc (.int .u64 (1)))))], none, 0⟩, ⟨some 31, .mv (.t 2), none, 0⟩, ⟨some 32, .call 55 [(1, .t 30), (1, .t 31)], none, 0⟩, ⟨some 29, .mv (.t 32), none, 0⟩, ⟨some 33, .ext (.t 29) 0, none, 0⟩, ⟨some 34, .ext (.t 29) 1, none, 0⟩, ⟨some 9, .asg (.t 33), none, 0⟩, ⟨some 10, .asg (.t 34), none, 0⟩]) (.seq (.seq (.reg false [⟨some 35, .mv (.t 1), none, 0⟩, ⟨some 36, .call 70 [(1, .t 35)], none, 0⟩, ⟨some 37, .bin .sub (.t 36) (.k (.d (.sc (.int .i64 (1))))), none, 0⟩, ⟨some 11, .asg (.t 37), none, 0⟩]) (.block 0 (.loop [0, 1, 2, 9, 11] b54_0))) (.seq (.reg false [⟨some 60, .mv (.t 9), none, 0⟩, ⟨some 6, .asg (.t 60), none, 0⟩, ⟨some 7, .asg (.k (.d (.sc (.bool true)))), none, 0⟩]) .ret))) .skip)) (.seq (.reg false [⟨some 61, .mv (.t 2), none, 0⟩, ⟨some 62, .call 94 [(1, .t 61)], none, 0⟩, ⟨some 12, .alloc [.nil, .d (.sc (.int .u64 (0)))], none, 0⟩, ⟨none, .st 2 (.t 12) (.t 62), none, 0⟩]) (.seq (.reg true [⟨some 63, .ld true 2 (.t 12), none, 0⟩, ⟨some 64, .ld true 2 (.t 12), none, 0⟩, ⟨some 65, .mv (.t 0), none, 0⟩, ⟨some 66, .call 96 [(1, .t 64), (1, .t 65)], none, 6⟩, ⟨some 67, .mv (.t 1), none, 0⟩, ⟨some 68, .call 95 [(1, .t 63), (1, .t 66), (1, .t 67)], none, 31⟩, ⟨some 13, .asg (.t 68), none, 63⟩]) (.seq (.reg true [⟨some 69, .ld true 2 (.t 12), none, 0⟩, ⟨some 70, .mv (.t 13), none, 0⟩, ⟨some 71, .ld true 2 (.t 12), none, 0⟩, ⟨some 72, .bsl false 1 1 [.d (.sc (.int .u64 (0)))] [(0, .k (.d (.sc (.int .u64 (1)))))], none, 0⟩, ⟨some 73, .call 98 [(1, .t 71), (1, .t 72)], none, 12⟩, ⟨some 74, .call 97 [(1, .t 69), (1, .t 70), (1, .t 73)], none, 31⟩, ⟨some 75, .call 68 [(1, .t 74)], none, 63⟩, ⟨some 6, .asg (.t 75), none, 127⟩, ⟨some 7, .asg (.k (.d (.sc (.bool true)))), none, 255⟩]) .ret))))))), res := [.t 6 1, .t 7 1] }
/-- function 55 -/
def a55 : AFunc :=
  { np := 2, body := .seq (.reg false [⟨some 4, .asg (.k .nil), none, 0⟩, ⟨some 5, .asg (.k (.d (.sc (.bool false)))), none, 0⟩]) (.seq (.reg false [⟨some 10, .mv (.t 0), none, 0⟩, ⟨some 11, .mv (.t 1), none, 0⟩, ⟨some 12, .call 83 [(1, .t 10), (1, .t 11)], none, 0⟩, ⟨some 9, .mv (.t 12), none, 0⟩, ⟨some 13, .ext (.t 9) 0, none, 0⟩, ⟨some 14, .ext (.t 9) 1, none, 0⟩, ⟨some 15, .ext (.t 9) 2, none, 0⟩, ⟨some 6, .asg (.t 13), none, 0⟩, ⟨some 7, .asg (.t 14), none, 0⟩, ⟨some 8, .asg (.t 15), none, 0⟩]) (.seq (.reg false [⟨some 16, .mv (.t 7), none, 0⟩, ⟨some 17, .mv (.t 8), none, 0⟩, ⟨some 4, .asg (.t 16), none, 0⟩, ⟨some 5, .asg (.t 17), none, 0⟩]) .ret)), res := [.t 4 1, .t 5 1] }
/-- function 56 -/
def a56 : AFunc :=
  { np := 1, body := .seq (.reg false [⟨some 2, .asg (.k (.d (.sc (.int .i64 (0))))), none, 0⟩]) (.seq (.reg false [⟨some 4, .mv (.t 0), none, 0⟩, ⟨some 5, .call 69 [(1, .t 4)], none, 0⟩, ⟨some 3, .asg (.t 5), none, 0⟩]) (.seq (.seq (.reg false [⟨some 6, .mv (.t 3), none, 0⟩, ⟨some 7, .len (.t 6), none, 0⟩, ⟨some 8, .bin .eql (.t 7) (.k (.d (.sc (.int .i64 (0))))), none, 0⟩]) (.cond (.t 8) (.seq (.reg false [⟨some 2, .asg (.k (.d (.sc (.int .i64 (0))))), none, 0⟩]) .ret) .skip)) (.seq (.reg false [⟨some 9, .mv (.t 3), none, 0⟩, ⟨some 10, .len (.t 9), none, 0⟩, ⟨some 11, .bin .sub (.t 10) (.k (.d (.sc (.int .i64 (1))))), none, 0⟩, ⟨some 12, .bin .mul (.k (.d (.sc (.int .i64 (64))))) (.t 11), none, 0⟩, ⟨some 13, .mv (.t 3), none, 0⟩, ⟨some 14, .mv (.t 3), none, 0⟩, ⟨some 15, .len (.t 14), none, 0⟩, ⟨some 16, .bin .sub (.t 15) (.k (.d (.sc (.int .i64 (1))))), none, 0⟩, ⟨some 17, .iad 1 (.t 13) (.t 16), none, 0⟩, ⟨some 18, .ld false 1 (.t 17), none, 0⟩, ⟨some 19, .call 99 [(1, .t 18)], none, 0⟩, ⟨some 20, .bin .add (.t 12) (.t 19), none, 0⟩, ⟨some 2, .asg (.t 20), none, 0⟩]) .ret))), res := [.t 2 1] }
/-- function 57 -/
def a57 : AFunc :=
  { np := 2, body := .seq (.reg false [⟨some 4, .asg (.k (.d (.sc (.bool false)))), none, 0⟩]) (.seq (.reg false [⟨some 5, .mv (.t 0), none, 0⟩, ⟨some 6, .mv (.t 1), none, 0⟩, ⟨some 7, .call 60 [(1, .t 5), (1, .t 6)], none, 0⟩, ⟨some 8, .bin .eql (.t 7) (.k (.d (.sc (.int .i64 (0))))), none, 0⟩, ⟨some 4, .asg (.t 8), none, 0⟩]) .ret), res := [.t 4 1] }
/-- function 58 -/
def a58 : AFunc :=
  { np := 3, body := .seq (.reg false [⟨some 6, .asg (.k .nil), none, 0⟩, ⟨some 7, .asg (.k (.d (.sc (.bool false)))), none, 0⟩]) (.seq (.reg false [⟨some 8, .mv (.t 0), none, 0⟩, ⟨some 9, .mv (.t 1), none, 0⟩, ⟨some 10, .call 86 [(1, .t 8), (1, .t 9)], none, 0⟩, ⟨some 11, .mv (.t 2), none, 0⟩, ⟨some 12, .call 55 [(1, .t 10), (1, .t 11)], none, 0⟩, ⟨some 13, .ext (.t 12) 0, none, 0⟩, ⟨some 14, .ext (.t 12) 1, none, 0⟩, ⟨some 6, .asg (.t 13), none, 0⟩, ⟨some 7, .asg (.t 14), none, 0⟩]) .ret), res := [.t 6 1, .t 7 1] }
def b59_0 : ACode := .seq (.seq (.reg false [⟨some 10, .mv (.t 7), none, 0⟩, ⟨some 11, .mv (.t 0), none, 0⟩, ⟨some 12, .len (.t 11), none, 0⟩, ⟨some 13, .mv (.t 1), none, 0⟩, ⟨some 14, .len (.t 13), none, 0⟩, ⟨some 15, .mx (.t 12) (.t 14), none, 0⟩, ⟨some 16, .bin .lss (.t 10) (.t 15), none, 0⟩]) (.cond (.t 16) .skip (.exit 0))) (.seq (.block 1 (.seq (.reg false [⟨some 20, .mv (.t 0), none, 0⟩, ⟨some 21, .mv (.t 7), none, 0⟩, ⟨some 22, .call 101 [(1, .t 20), (1, .t 21)], none, 0⟩, ⟨some 23, .mv (.t 1), none, 0⟩, ⟨some 24, .mv (.t 7), none, 0⟩, ⟨some 25, .call 101 [(1, .t 23), (1, .t 24)], none, 0⟩, ⟨some 26, .mv (.t 6), none, 0⟩, ⟨some 27, .call 100 [(1, .t 22), (1, .t 25), (1, .t 26)], none, 0⟩, ⟨some 19, .mv (.t 27), none, 0⟩, ⟨some 28, .ext (.t 19) 0, none, 0⟩, ⟨some 29, .ext (.t 19) 1, none, 0⟩, ⟨some 8, .asg (.t 28), none, 0⟩, ⟨some 9, .asg (.t 29), none, 0⟩]) (.reg false [⟨some 30, .mv (.t 5), none, 0⟩, ⟨some 31, .mv (.t 8), none, 0⟩, ⟨some 32, .bsl false 1 1 [.d (.sc (.int .u64 (0)))] [(0, .t 31)], none, 0⟩, ⟨some 33, .app false 1 8 (.t 30) (.t 32), none, 0⟩, ⟨some 34, .mv (.t 9), none, 0⟩, ⟨some 5, .asg (.t 33), none, 0⟩, ⟨some 6, .asg (.t 34), none, 0⟩]))) (.reg false [⟨some 17, .mv (.t 7), none, 0⟩, ⟨some 18, .bin .add (.t 17) (.k (.d (.sc (.int .i64 (1))))), none, 0⟩, ⟨some 7, .asg (.t 18), none, 0⟩]))
/-- function 59 -/
def a59 : AFunc :=
  { np := 2, body := .seq (.reg false [⟨some 4, .asg (.k .nil), none, 0⟩]) (.seq (.reg false [⟨some 5, .asg (.k .nil), none, 0⟩]) (.seq (.reg false [⟨some 6, .asg (.k (.d (.sc (.int .u64 (0))))), none, 0⟩]) (.seq (.seq (.reg false [⟨some 7, .asg (.k (.d (.sc (.int .i64 (0))))), none, 0⟩]) (.block 0 (.loop [0, 1, 5, 6, 7] b59_0))) (.seq (.reg false [⟨some 35, .mv (.t 5), none, 0⟩, ⟨some 36, .mv (.t 6), none, 0⟩, ⟨some 37, .bsl false 1 1 [.d (.sc (.int .u64 (0)))] [(0, .t 36)], none, 0⟩, ⟨some 38, .app false 1 8 (.t 35) (.t 37), none, 0⟩, ⟨some 39, .call 69 [(1, .t 38)], none, 0⟩, ⟨some 4, .asg (.t 39), none, 0⟩]) .ret)))), res := [.t 4 1] }
def b60_0 : ACode := .seq (.seq (.reg false [⟨some 12, .mv (.t 5), none, 0⟩, ⟨some 13, .bin .geq (.t 12) (.k (.d (.sc (.int .i64 (0))))), none, 0⟩]) (.cond (.t 13) .skip (.exit 0))) (.seq (.block 1 (.seq (.reg false [⟨some 16, .mv (.t 0), none, 0⟩, ⟨some 17, .mv (.t 5), none, 0⟩, ⟨some 18, .call 101 [(1, .t 16), (1, .t 17)], none, 0⟩, ⟨some 19, .mv (.t 1), none, 0⟩, ⟨some 20, .mv (.t 5), none, 0⟩, ⟨some 21, .call 101 [(1, .t 19), (1, .t 20)], none, 0⟩, ⟨some 22, .bin .neq (.t 18) (.t 21), none, 0⟩]) (.cond (.t 22) (.seq (.seq (.reg false [⟨some 23, .mv (.t 0), none, 0⟩, ⟨some 24, .mv (.t 5), none, 0⟩, ⟨some 25, .call 101 [(1, .t 23), (1, .t 24)], none, 0⟩, ⟨some 26, .mv (.t 1), none, 0⟩, ⟨some 27, .mv (.t 5), none, 0⟩, ⟨some 28, .call 101 [(1, .t 26), (1, .t 27)], none, 0⟩, ⟨some 29, .bin .lss (.t 25) (.t 28), none, 0⟩]) (.cond (.t 29) (.seq (.reg false [⟨some 4, .asg (.k (.d (.sc (.int .i64 ((-1)))))), none, 0⟩]) .ret) .skip)) (.seq (.reg false [⟨some 4, .asg (.k (.d (.sc (.int .i64 (1))))), none, 0⟩]) .ret)) .skip))) (.reg false [⟨some 14, .mv (.t 5), none, 0⟩, ⟨some 15, .bin .sub (.t 14) (.k (.d (.sc (.int .i64 (1))))), none, 0⟩, ⟨some 5, .asg (.t 15), none, 0⟩]))
/-- function 60 -/
def a60 : AFunc :=
  { np := 2, body := .seq (.reg false [⟨some 4, .asg (.k (.d (.sc (.int .i64 (0))))), none, 0⟩]) (.seq (.seq (.reg false [⟨some 6, .mv (.t 0), none, 0⟩, ⟨some 7, .len (.t 6), none, 0⟩, ⟨some 8, .mv (.t 1), none, 0⟩, ⟨some 9, .len (.t 8), none, 0⟩, ⟨some 10, .mx (.t 7) (.t 9), none, 0⟩, ⟨some 11, .bin .sub (.t 10) (.k (.d (.sc (.int .i64 (1))))), none, 0⟩, ⟨some 5, .asg (.t 11), none, 0⟩]) (.block 0 (.loop [0, 1, 5] b60_0))) (.seq (.reg false [⟨some 4, .asg (.k (.d (.sc (.int .i64 (0))))), none, 0⟩]) .ret)), res := [.t 4 1] }
/-- function 61 -/
def a61 : AFunc :=
  { np := 2, body := .seq (.reg false [⟨some 4, .asg (.k (.d (.sc (.bool false)))), none, 0⟩]) (.seq (.reg false [⟨some 5, .mv (.t 0), none, 0⟩, ⟨some 6, .len (.t 5), none, 0⟩, ⟨some 7, .bin .leq (.t 6) (.k (.d (.sc (.int .i64 (50))))), none, 0⟩, ⟨some 8, .mv (.t 7), none, 0⟩, ⟨some 9, .mv (.t 1), some (8, true), 0⟩, ⟨some 10, .len (.t 9), some (8, true), 0⟩, ⟨some 11, .bin .leq (.t 10) (.k (.d (.sc (.int .i64 (50))))), some (8, true), 0⟩, ⟨some 12, .pick (.t 8) (.t 11) (.k (.d (.sc (.bool false)))), none, 0⟩, ⟨some 4, .asg (.t 12), none, 0⟩]) .ret), res := [.t 4 1] }
/-- function 62 -/
def a62 : AFunc :=
  { np := 0, body := .seq (.reg false [⟨some 0, .asg (.k (.d (.sc (.bool false)))), none, 0⟩]) (.seq (.reg false [⟨some 1, .asg (.k (.d (.sc (.int .u64 (18446744073709551615))))), none, 0⟩]) (.seq (.reg false [⟨some 7, .mv (.t 1), none, 0⟩, ⟨some 8, .mv (.t 1), none, 0⟩, ⟨some 9, .bsl false 1 2 [.d (.sc (.int .u64 (0)))] [(0, .t 7), (1, .t 8)], none, 0⟩, ⟨some 10, .bsl false 1 1 [.d (.sc (.int .u64 (0)))] [(0, .k (.d (.sc (.int .u64 (1)))))], none, 0⟩, ⟨some 11, .call 66 [(1, .t 9), (1, .t 10)], none, 0⟩, ⟨some 2, .asg (.t 11), none, 0⟩]) (.seq (.reg false [⟨some 13, .mv (.t 2), none, 0⟩, ⟨some 14, .bsl false 1 1 [.d (.sc (.int .u64 (0)))] [(0, .k (.d (.sc (.int .u64 (1)))))], none, 0⟩, ⟨some 15, .call 63 [(1, .t 13), (1, .t 14)], none, 0⟩, ⟨some 12, .mv (.t 15), none, 0⟩, ⟨some 16, .ext (.t 12) 0, none, 0⟩, ⟨some 17, .ext (.t 12) 1, none, 0⟩, ⟨some 3, .asg (.t 16), none, 0⟩, ⟨some 4, .asg (.t 17), none, 0⟩]) (.seq (.reg false [⟨some 19, .bsl false 1 1 [.d (.sc (.int .u64 (0)))] [(0, .k (.d (.sc (.int .u64 (1)))))], none, 0⟩, ⟨some 20, .bsl false 1 1 [.d (.sc (.int .u64 (0)))] [(0, .k (.d (.sc (.int .u64 (2)))))], none, 0⟩, ⟨some 21, .call 63 [(1, .t 19), (1, .t 20)], none, 0⟩, ⟨some 18, .mv (.t 21), none, 0⟩, ⟨some 22, .ext (.t 18) 0, none, 0⟩, ⟨some 23, .ext (.t 18) 1, none, 0⟩, ⟨some 5, .asg (.t 22), none, 0⟩, ⟨some 6, .asg (.t 23), none, 0⟩]) (.seq (.reg false [⟨some 24, .mv (.t 2), none, 0⟩, ⟨some 25, .len (.t 24), none, 0⟩, ⟨some 26, .bin .eql (.t 25) (.k (.d (.sc (.int .i64 (3))))), none, 0⟩, ⟨some 27, .mv (.t 26), none, 0⟩, ⟨some 28, .mv (.t 2), some (27, true), 0⟩, ⟨some 29, .iad 1 (.t 28) (.k (.d (.sc (.int .i64 (2))))), some (27, true), 0⟩, ⟨some 30, .ld false 1 (.t 29), some (27, true), 0⟩, ⟨some 31, .bin .eql (.t 30) (.k (.d (.sc (.int .u64 (1))))), some (27, true), 0⟩, ⟨some 32, .pick (.t 27) (.t 31) (.k (.d (.sc (.bool false)))), none, 0⟩, ⟨some 33, .mv (.t 32), none, 0⟩, ⟨some 34, .mv (.t 2), some (33, true), 0⟩, ⟨some 35, .iad 1 (.t 34) (.k (.d (.sc (.int .i64 (0))))), some (33, true), 0⟩, ⟨some 36, .ld false 1 (.t 35), some (33, true), 0⟩, ⟨some 37, .bin .eql (.t 36) (.k (.d (.sc (.int .u64 (0))))), some (33, true), 0⟩, ⟨some 38, .pick (.t 33) (.t 37) (.k (.d (.sc (.bool false)))), none, 0⟩, ⟨some 39, .mv (.t 38), none, 0⟩, ⟨some 40, .mv (.t 4), some (39, true), 0⟩, ⟨some 41, .pick (.t 39) (.t 40) (.k (.d (.sc (.bool false)))), none, 0⟩, ⟨some 42, .mv (.t 41), none, 0⟩, ⟨some 43, .mv (.t 3), some (42, true), 0⟩, ⟨some 44, .len (.t 43), some (42, true), 0⟩, ⟨some 45, .bin .eql (.t 44) (.k (.d (.sc (.int .i64 (2))))), some (42, true), 0⟩, ⟨some 46, .pick (.t 42) (.t 45) (.k (.d (.sc (.bool false)))), none, 0⟩, ⟨some 47, .mv (.t 46), none, 0⟩, ⟨some 48, .mv (.t 3), some (47, true), 0⟩, ⟨some 49, .iad 1 (.t 48) (.k (.d (.sc (.int .i64 (1))))), some (47, true), 0⟩, ⟨some 50, .ld false 1 (.t 49), some (47, true), 0⟩, ⟨some 51, .mv (.t 1), some (47, true), 0⟩, ⟨some 52, .bin .eql (.t 50) (.t 51), some (47, true), 0⟩, ⟨some 53, .pick (.t 47) (.t 52) (.k (.d (.sc (.bool false)))), none, 0⟩, ⟨some 54, .mv (.t 53), none, 0⟩, ⟨some 55, .mv (.t 6), some (54, true), 0⟩, ⟨some 56, .un .not (.t 55), some (54, true), 0⟩, ⟨some 57, .pick (.t 54) (.t 56) (.k (.d (.sc (.bool false)))), none, 0⟩, ⟨some 58, .mv (.t 57), none, 0⟩, ⟨some 59, .bsl false 1 2 [.d (.sc (.int .u64 (0)))] [(0, .k (.d (.sc (.int .u64 (1))))), (1, .k (.d (.sc (.int .u64 (0)))))], some (58, true), 0⟩, ⟨some 60, .bsl false 1 1 [.d (.sc (.int .u64 (0)))] [(0, .k (.d (.sc (.int .u64 (1)))))], some (58, true), 0⟩, ⟨some 61, .call 67 [(1, .t 59), (1, .t 60)], some (58, true), 0⟩, ⟨some 62, .bin .eql (.t 61) (.k (.d (.sc (.int .i64 (0))))), some (58, true), 0⟩, ⟨some 63, .pick (.t 58) (.t 62) (.k (.d (.sc (.bool false)))), none, 0⟩, ⟨some 64, .mv (.t 63), none, 0⟩, ⟨some 65, .bsl false 1 2 [.d (.sc (.int .u64 (0)))] [(0, .k (.d (.sc (.int .u64 (0))))), (1, .k (.d (.sc (.int .u64 (1)))))], some (64, true), 0⟩, ⟨some 66, .bsl false 1 1 [.d (.sc (.int .u64 (0)))] [(0, .k (.d (.sc (.int .u64 (9)))))], some (64, true), 0⟩, ⟨some 67, .call 67 [(1, .t 65), (1, .t 66)], some (64, true), 0⟩, ⟨some 68, .bin .eql (.t 67) (.k (.d (.sc (.int .i64 (1))))), some (64, true), 0⟩, ⟨some 69, .pick (.t 64) (.t 68) (.k (.d (.sc (.bool false)))), none, 0⟩, ⟨some 70, .mv (.t 69), none, 0⟩, ⟨some 71, .bsl false 1 2 [.d (.sc (.int .u64 (0)))] [(0, .k (.d (.sc (.int .u64 (0))))), (1, .k (.d (.sc (.int .u64 (1)))))], some (70, true), 0⟩, ⟨some 72, .call 70 [(1, .t 71)], some (70, true), 0⟩, ⟨some 73, .bin .eql (.t 72) (.k (.d (.sc (.int .i64 (65))))), some (70, true), 0⟩, ⟨some 74, .pick (.t 70) (.t 73) (.k (.d (.sc (.bool false)))), none, 0⟩, ⟨some 75, .mv (.t 74), none, 0⟩, ⟨some 76, .bsl false 1 2 [.d (.sc (.int .u64 (0)))] [(0, .k (.d (.sc (.int .u64 (0))))), (1, .k (.d (.sc (.int .u64 (1)))))], some (75, true), 0⟩, ⟨some 77, .call 71 [(1, .t 76), (1, .k (.d (.sc (.int .i64 (64)))))], some (75, true), 0⟩, ⟨some 78, .bin .eql (.t 77) (.k (.d (.sc (.int .i64 (1))))), some (75, true), 0⟩, ⟨some 79, .pick (.t 75) (.t 78) (.k (.d (.sc (.bool false)))), none, 0⟩, ⟨some 80, .mv (.t 79), none, 0⟩, ⟨some 81, .bsl false 1 2 [.d (.sc (.int .u64 (0)))] [(0, .k (.d (.sc (.int .u64 (0))))), (1, .k (.d (.sc (.int .u64 (0)))))], some (80, true), 0⟩, ⟨some 82, .call 68 [(1, .t 81)], some (80, true), 0⟩, ⟨some 83, .len (.t 82), some (80, true), 0⟩, ⟨some 84, .bin .eql (.t 83) (.k (.d (.sc (.int .i64 (0))))), some (80, true), 0⟩, ⟨some 85, .pick (.t 80) (.t 84) (.k (.d (.sc (.bool false)))), none, 0⟩, ⟨some 86, .mv (.t 85), none, 0⟩, ⟨some 87, .mv (.t 1), some (86, true), 0⟩, ⟨some 88, .bsl false 1 1 [.d (.sc (.int .u64 (0)))] [(0, .t 87)], some (86, true), 0⟩, ⟨some 89, .call 73 [(1, .t 88), (1, .k (.d (.sc (.int .i64 (1)))))], some (86, true), 0⟩, ⟨some 90, .iad 1 (.t 89) (.k (.d (.sc (.int .i64 (0))))), some (86, true), 0⟩, ⟨some 91, .ld false 1 (.t 90), some (86, true), 0⟩, ⟨some 92, .mv (.t 1), some (86, true), 0⟩, ⟨some 93, .bin .eql (.t 91) (.t 92), some (86, true), 0⟩, ⟨some 94, .pick (.t 86) (.t 93) (.k (.d (.sc (.bool false)))), none, 0⟩, ⟨some 0, .asg (.t 94), none, 0⟩]) .ret))))), res := [.t 0 1] }
def b64_0 : ACode := .seq (.seq (.reg false [⟨some 15, .mv (.t 8), none, 0⟩, ⟨some 16, .mv (.t 0), none, 0⟩, ⟨some 17, .len (.t 16), none, 0⟩, ⟨some 18, .mv (.t 1), none, 0⟩, ⟨some 19, .len (.t 18), none, 0⟩, ⟨some 20, .mx (.t 17) (.t 19), none, 0⟩, ⟨some 21, .bin .lss (.t 15) (.t 20), none, 0⟩]) (.cond (.t 21) .skip (.exit 0))) (.seq (.block 1 (.seq (.reg false [⟨some 25, .mv (.t 0), none, 0⟩, ⟨some 26, .mv (.t 8), none, 0⟩, ⟨some 27, .call 101 [(1, .t 25), (1, .t 26)], none, 0⟩, ⟨some 28, .mv (.t 1), none, 0⟩, ⟨some 29, .mv (.t 8), none, 0⟩, ⟨some 30, .call 101 [(1, .t 28), (1, .t 29)], none, 0⟩, ⟨some 31, .mv (.t 7), none, 0⟩, ⟨some 32, .call 103 [(1, .t 27), (1, .t 30), (1, .t 31)], none, 0⟩, ⟨some 24, .mv (.t 32), none, 0⟩, ⟨some 33, .ext (.t 24) 0, none, 0⟩, ⟨some 34, .ext (.t 24) 1, none, 0⟩, ⟨some 9, .asg (.t 33), none, 0⟩, ⟨some 10, .asg (.t 34), none, 0⟩]) (.reg false [⟨some 35, .mv (.t 6), none, 0⟩, ⟨some 36, .mv (.t 9), none, 0⟩, ⟨some 37, .bsl false 1 1 [.d (.sc (.int .u64 (0)))] [(0, .t 36)], none, 0⟩, ⟨some 38, .app false 1 8 (.t 35) (.t 37), none, 0⟩, ⟨some 39, .mv (.t 10), none, 0⟩, ⟨some 6, .asg (.t 38), none, 0⟩, ⟨some 7, .asg (.t 39), none, 0⟩]))) (.reg false [⟨some 22, .mv (.t 8), none, 0⟩, ⟨some 23, .bin .add (.t 22) (.k (.d (.sc (.int .i64 (1))))), none, 0⟩, ⟨some 8, .asg (.t 23), none, 0⟩]))
/-- function 64 -/
def a64 : AFunc :=
  { np := 2, body := .seq (.reg false [⟨some 4, .asg (.k .nil), none, 0⟩, ⟨some 5, .asg (.k (.d (.sc (.bool false)))), none, 0⟩]) (.seq (.seq (.reg false [⟨some 11, .mv (.t 0), none, 0⟩, ⟨some 12, .mv (.t 1), none, 0⟩, ⟨some 13, .call 60 [(1, .t 11), (1, .t 12)], none, 0⟩, ⟨some 14, .bin .lss (.t 13) (.k (.d (.sc (.int .i64 (0))))), none, 0⟩]) (.cond (.t 14) (.seq (.reg false [⟨some 4, .asg (.k .nil), none, 0⟩, ⟨some 5, .asg (.k (.d (.sc (.bool false)))), none, 0⟩]) .ret) .skip)) (.seq (.reg false [⟨some 6, .asg (.k .nil), none, 0⟩]) (.seq (.reg false [⟨some 7, .asg (.k (.d (.sc (.int .u64 (0))))), none, 0⟩]) (.seq (.seq (.reg false [⟨some 8, .asg (.k (.d (.sc (.int .i64 (0))))), none, 0⟩]) (.block 0 (.loop [0, 1, 6, 7, 8] b64_0))) (.seq (.reg false [⟨some 40, .mv (.t 6), none, 0⟩, ⟨some 41, .call 69 [(1, .t 40)], none, 0⟩, ⟨some 4, .asg (.t 41), none, 0⟩, ⟨some 5, .asg (.k (.d (.sc (.bool true)))), none, 0⟩]) .ret))))), res := [.t 4 1, .t 5 1] }
def b65_0 : ACode := .seq (.seq (.reg false [⟨some 11, .mv (.t 5), none, 0⟩, ⟨some 12, .mv (.t 0), none, 0⟩, ⟨some 13, .len (.t 12), none, 0⟩, ⟨some 14, .bin .lss (.t 11) (.t 13), none, 0⟩]) (.cond (.t 14) .skip (.exit 0))) (.seq (.block 1 (.seq (.reg true [⟨some 17, .mv (.t 0), none, 0⟩, ⟨some 18, .mv (.t 5), none, 0⟩, ⟨some 19, .iad 1 (.t 17) (.t 18), none, 3⟩, ⟨some 20, .ld false 1 (.t 19), none, 7⟩, ⟨some 21, .mv (.t 1), none, 0⟩, ⟨some 22, .mv (.t 5), none, 0⟩, ⟨some 23, .iad 1 (.t 21) (.t 22), none, 48⟩, ⟨some 24, .ld false 1 (.t 23), none, 112⟩, ⟨some 25, .bin .neq (.t 20) (.t 24), none, 255⟩]) (.cond (.t 25) (.seq (.reg false [⟨some 4, .asg (.k (.d (.sc (.bool false)))), none, 0⟩]) .ret) .skip))) (.reg false [⟨some 15, .mv (.t 5), none, 0⟩, ⟨some 16, .bin .add (.t 15) (.k (.d (.sc (.int .i64 (1))))), none, 0⟩, ⟨some 5, .asg (.t 16), none, 0⟩]))
/-- function 65 -/
def a65 : AFunc :=
  { np := 2, body := .seq (.reg false [⟨some 4, .asg (.k (.d (.sc (.bool false)))), none, 0⟩]) (.seq (.seq (.reg false [⟨some 6, .mv (.t 0), none, 0⟩, ⟨some 7, .len (.t 6), none, 0⟩, ⟨some 8, .mv (.t 1), none, 0⟩, ⟨some 9, .len (.t 8), none, 0⟩, ⟨some 10, .bin .neq (.t 7) (.t 9), none, 0⟩]) (.cond (.t 10) (.seq (.reg false [⟨some 4, .asg (.k (.d (.sc (.bool false)))), none, 0⟩]) .ret) .skip)) (.seq (.seq (.reg false [⟨some 5, .asg (.k (.d (.sc (.int .i64 (0))))), none, 0⟩]) (.block 0 (.loop [0, 1, 5] b65_0))) (.seq (.reg false [⟨some 4, .asg (.k (.d (.sc (.bool true)))), none, 0⟩]) .ret))), res := [.t 4 1] }
def b68_0 : ACode := .seq (.seq (.reg false [⟨some 6, .mv (.t 3), none, 0⟩, ⟨some 7, .bin .gtr (.t 6) (.k (.d (.sc (.int .i64 (0))))), none, 0⟩, ⟨some 8, .mv (.t 7), none, 0⟩, ⟨some 9, .mv (.t 0), some (8, true), 0⟩, ⟨some 10, .mv (.t 3), some (8, true), 0⟩, ⟨some 11, .bin .sub (.t 10) (.k (.d (.sc (.int .i64 (1))))), some (8, true), 0⟩, ⟨some 12, .iad 1 (.t 9) (.t 11), some (8, true), 0⟩, ⟨some 13, .ld false 1 (.t 12), some (8, true), 0⟩, ⟨some 14, .bin .eql (.t 13) (.k (.d (.sc (.int .u64 (0))))), some (8, true), 0⟩, ⟨some 15, .pick (.t 8) (.t 14) (.k (.d (.sc (.bool false)))), none, 0⟩]) (.cond (.t 15) .skip (.exit 0))) (.block 1 (.reg false [⟨some 16, .mv (.t 3), none, 0⟩, ⟨some 17, .bin .sub (.t 16) (.k (.d (.sc (.int .i64 (1))))), none, 0⟩, ⟨some 3, .asg (.t 17), none, 0⟩]))
/-- function 68 -/
def a68 : AFunc :=
  { np := 1, body := .seq (.reg false [⟨some 2, .asg (.k .nil), none, 0⟩]) (.seq (.reg false [⟨some 4, .mv (.t 0), none, 0⟩, ⟨some 5, .len (.t 4), none, 0⟩, ⟨some 3, .asg (.t 5), none, 0⟩]) (.seq (.block 0 (.loop [0, 3] b68_0)) (.seq (.reg false [⟨some 18, .bsl false 1 0 [.d (.sc (.int .u64 (0)))] [], none, 0⟩, ⟨some 19, .mv (.t 0), none, 0⟩, ⟨some 20, .mv (.t 3), none, 0⟩, ⟨some 21, .slc 1 (.t 19) none (some (.t 20)), none, 0⟩, ⟨some 22, .app false 1 8 (.t 18) (.t 21), none, 0⟩, ⟨some 2, .asg (.t 22), none, 0⟩]) .ret))), res := [.t 2 1] }
def b69_0 : ACode := .seq (.seq (.reg false [⟨some 6, .mv (.t 3), none, 0⟩, ⟨some 7, .bin .gtr (.t 6) (.k (.d (.sc (.int .i64 (0))))), none, 0⟩, ⟨some 8, .mv (.t 7), none, 0⟩, ⟨some 9, .mv (.t 0), some (8, true), 0⟩, ⟨some 10, .mv (.t 3), some (8, true), 0⟩, ⟨some 11, .bin .sub (.t 10) (.k (.d (.sc (.int .i64 (1))))), some (8, true), 0⟩, ⟨some 12, .iad 1 (.t 9) (.t 11), some (8, true), 0⟩, ⟨some 13, .ld false 1 (.t 12), some (8, true), 0⟩, ⟨some 14, .bin .eql (.t 13) (.k (.d (.sc (.int .u64 (0))))), some (8, true), 0⟩, ⟨some 15, .pick (.t 8) (.t 14) (.k (.d (.sc (.bool false)))), none, 0⟩]) (.cond (.t 15) .skip (.exit 0))) (.block 1 (.reg false [⟨some 16, .mv (.t 3), none, 0⟩, ⟨some 17, .bin .sub (.t 16) (.k (.d (.sc (.int .i64 (1))))), none, 0⟩, ⟨some 3, .asg (.t 17), none, 0⟩]))
/-- function 69 -/
def a69 : AFunc :=
  { np := 1, body := .seq (.reg false [⟨some 2, .asg (.k .nil), none, 0⟩]) (.seq (.reg false [⟨some 4, .mv (.t 0), none, 0⟩, ⟨some 5, .len (.t 4), none, 0⟩, ⟨some 3, .asg (.t 5), none, 0⟩]) (.seq (.block 0 (.loop [0, 3] b69_0)) (.seq (.reg false [⟨some 18, .bsl false 1 0 [.d (.sc (.int .u64 (0)))] [], none, 0⟩, ⟨some 19, .mv (.t 0), none, 0⟩, ⟨some 20, .mv (.t 3), none, 0⟩, ⟨some 21, .slc 1 (.t 19) none (some (.t 20)), none, 0⟩, ⟨some 22, .app false 1 8 (.t 18) (.t 21), none, 0⟩, ⟨some 2, .asg (.t 22), none, 0⟩]) .ret))), res := [.t 2 1] }
def b70_0 : ACode := .seq (.seq (.reg false [⟨some 7, .mv (.t 3), none, 0⟩, ⟨some 8, .bin .geq (.t 7) (.k (.d (.sc (.int .i64 (0))))), none, 0⟩]) (.cond (.t 8) .skip (.exit 0))) (.seq (.block 1 (.seq (.reg false [⟨some 11, .mv (.t 0), none, 0⟩, ⟨some 12, .mv (.t 3), none, 0⟩, ⟨some 13, .iad 1 (.t 11) (.t 12), none, 0⟩, ⟨some 14, .ld false 1 (.t 13), none, 0⟩, ⟨some 15, .bin .neq (.t 14) (.k (.d (.sc (.int .u64 (0))))), none, 0⟩]) (.cond (.t 15) (.seq (.reg false [⟨some 16, .mv (.t 3), none, 0⟩, ⟨some 17, .bin .mul (.k (.d (.sc (.int .i64 (64))))) (.t 16), none, 0⟩, ⟨some 18, .mv (.t 0), none, 0⟩, ⟨some 19, .mv (.t 3), none, 0⟩, ⟨some 20, .iad 1 (.t 18) (.t 19), none, 0⟩, ⟨some 21, .ld false 1 (.t 20), none, 0⟩, ⟨some 22, .call 99 [(1, .t 21)], none, 0⟩, ⟨some 23, .bin .add (.t 17) (.t 22), none, 0⟩, ⟨some 2, .asg (.t 23), none, 0⟩]) .ret) .skip))) (.reg false [⟨some 9, .mv (.t 3), none, 0⟩, ⟨some 10, .bin .sub (.t 9) (.k (.d (.sc (.int .i64 (1))))), none, 0⟩, ⟨some 3, .asg (.t 10), none, 0⟩]))
/-- function 70 -/
def a70 : AFunc :=
  { np := 1, body := .seq (.reg false [⟨some 2, .asg (.k (.d (.sc (.int .i64 (0))))), none, 0⟩]) (.seq (.seq (.reg false [⟨some 4, .mv (.t 0), none, 0⟩, ⟨some 5, .len (.t 4), none, 0⟩, ⟨some 6, .bin .sub (.t 5) (.k (.d (.sc (.int .i64 (1))))), none, 0⟩, ⟨some 3, .asg (.t 6), none, 0⟩]) (.block 0 (.loop [0, 3] b70_0))) (.seq (.reg false [⟨some 2, .asg (.k (.d (.sc (.int .i64 (0))))), none, 0⟩]) .ret)), res := [.t 2 1] }
/-- function 71 -/
def a71 : AFunc :=
  { np := 2, body := .seq (.reg false [⟨some 4, .asg (.k (.d (.sc (.int .i64 (0))))), none, 0⟩]) (.seq (.seq (.reg false [⟨some 5, .mv (.t 1), none, 0⟩, ⟨some 6, .bin .lss (.t 5) (.k (.d (.sc (.int .i64 (0))))), none, 0⟩, ⟨some 7, .mv (.t 6), none, 0⟩, ⟨some 8, .mv (.t 1), some (7, false), 0⟩, ⟨some 9, .bin .quo (.t 8) (.k (.d (.sc (.int .i64 (64))))), some (7, false), 0⟩, ⟨some 10, .mv (.t 0), some (7, false), 0⟩, ⟨some 11, .len (.t 10), some (7, false), 0⟩, ⟨some 12, .bin .geq (.t 9) (.t 11), some (7, false), 0⟩, ⟨some 13, .pick (.t 7) (.k (.d (.sc (.bool true)))) (.t 12), none, 0⟩]) (.cond (.t 13) (.seq (.reg false [⟨some 4, .asg (.k (.d (.sc (.int .i64 (0))))), none, 0⟩]) .ret) .skip)) (.seq (.reg false [⟨some 14, .mv (.t 0), none, 0⟩, ⟨some 15, .mv (.t 1), none, 0⟩, ⟨some 16, .bin .quo (.t 15) (.k (.d (.sc (.int .i64 (64))))), none, 0⟩, ⟨some 17, .iad 1 (.t 14) (.t 16), none, 0⟩, ⟨some 18, .ld false 1 (.t 17), none, 0⟩, ⟨some 19, .mv (.t 1), none, 0⟩, ⟨some 20, .bin .rem (.t 19) (.k (.d (.sc (.int .i64 (64))))), none, 0⟩, ⟨some 21, .bin .shr (.t 18) (.t 20), none, 0⟩, ⟨some 22, .bin .and (.t 21) (.k (.d (.sc (.int .u64 (1))))), none, 0⟩, ⟨some 23, .cvi .i64 (.t 22), none, 0⟩, ⟨some 4, .asg (.t 23), none, 0⟩]) .ret)), res := [.t 4 1] }
/-- function 72 -/
def a72 : AFunc :=
  { np := 2, body := .seq (.reg false [⟨some 4, .asg (.k (.d (.sc (.int .i64 (0))))), none, 0⟩]) (.seq (.seq (.reg false [⟨some 5, .mv (.t 1), none, 0⟩, ⟨some 6, .bin .lss (.t 5) (.k (.d (.sc (.int .i64 (0))))), none, 0⟩]) (.cond (.t 6) (.seq (.reg false [⟨some 4, .asg (.k (.d (.sc (.int .i64 (0))))), none, 0⟩]) .ret) .skip)) (.seq (.reg false [⟨some 7, .mv (.t 0), none, 0⟩, ⟨some 8, .mv (.t 1), none, 0⟩, ⟨some 9, .bin .quo (.t 8) (.k (.d (.sc (.int .i64 (64))))), none, 0⟩, ⟨some 10, .call 101 [(1, .t 7), (1, .t 9)], none, 0⟩, ⟨some 11, .mv (.t 1), none, 0⟩, ⟨some 12, .bin .rem (.t 11) (.k (.d (.sc (.int .i64 (64))))), none, 0⟩, ⟨some 13, .cvi .u64 (.t 12), none, 0⟩, ⟨some 14, .bin .shr (.t 10) (.t 13), none, 0⟩, ⟨some 15, .bin .and (.t 14) (.k (.d (.sc (.int .u64 (1))))), none, 0⟩, ⟨some 16, .cvi .i64 (.t 15), none, 0⟩, ⟨some 4, .asg (.t 16), none, 0⟩]) .ret)), res := [.t 4 1] }
def b73_0 : ACode := .seq (.reg false [⟨some 19, .bin .lss (.t 18) (.t 17), none, 0⟩]) (.seq (.cond (.t 19) .skip (.exit 0)) (.seq (.block 1 (.seq (.reg false [⟨some 20, .iad 1 (.t 16) (.t 18), none, 0⟩, ⟨some 21, .ld false 1 (.t 20), none, 0⟩, ⟨some 8, .asg (.t 21), none, 0⟩]) (.seq (.reg false [⟨some 22, .mv (.t 5), none, 0⟩, ⟨some 23, .mv (.t 8), none, 0⟩, ⟨some 24, .bin .shl (.t 23) (.k (.d (.sc (.int .u64 (1))))), none, 0⟩, ⟨some 25, .mv (.t 6), none, 0⟩, ⟨some 26, .bin .or (.t 24) (.t 25), none, 0⟩, ⟨some 27, .bsl false 1 1 [.d (.sc (.int .u64 (0)))] [(0, .t 26)], none, 0⟩, ⟨some 28, .app false 1 8 (.t 22) (.t 27), none, 0⟩, ⟨some 5, .asg (.t 28), none, 0⟩]) (.reg false [⟨some 29, .mv (.t 8), none, 0⟩, ⟨some 30, .bin .shr (.t 29) (.k (.d (.sc (.int .u64 (63))))), none, 0⟩, ⟨some 6, .asg (.t 30), none, 0⟩])))) (.reg false [⟨some 31, .bin .add (.t 18) (.k (.d (.sc (.int .i64 (1))))), none, 0⟩, ⟨some 18, .mv (.t 31), none, 0⟩])))
/-- function 73 -/
def a73 : AFunc :=
  { np := 2, body := .seq (.reg false [⟨some 4, .asg (.k .nil), none, 0⟩]) (.seq (.reg false [⟨some 9, .mv (.t 0), none, 0⟩, ⟨some 10, .len (.t 9), none, 0⟩, ⟨some 11, .bin .add (.t 10) (.k (.d (.sc (.int .i64 (1))))), none, 0⟩, ⟨some 12, .mks false 1 8 [.d (.sc (.int .u64 (0)))] (.k (.d (.sc (.int .i64 (0))))) (.t 11), none, 0⟩, ⟨some 5, .asg (.t 12), none, 0⟩]) (.seq (.reg false [⟨some 13, .mv (.t 1), none, 0⟩, ⟨some 14, .bin .and (.t 13) (.k (.d (.sc (.int .i64 (1))))), none, 0⟩, ⟨some 15, .cvi .u64 (.t 14), none, 0⟩, ⟨some 6, .asg (.t 15), none, 0⟩]) (.seq (.seq (.reg false [⟨some 16, .mv (.t 0), none, 0⟩, ⟨some 17, .len (.t 16), none, 0⟩, ⟨some 18, .mv (.k (.d (.sc (.int .i64 (0))))), none, 0⟩]) (.block 0 (.loop [5, 6, 16, 17, 18] b73_0))) (.seq (.reg false [⟨some 32, .mv (.t 5), none, 0⟩, ⟨some 33, .mv (.t 6), none, 0⟩, ⟨some 34, .bsl false 1 1 [.d (.sc (.int .u64 (0)))] [(0, .t 33)], none, 0⟩, ⟨some 35, .app false 1 8 (.t 32) (.t 34), none, 0⟩, ⟨some 36, .call 68 [(1, .t 35)], none, 0⟩, ⟨some 4, .asg (.t 36), none, 0⟩]) .ret)))), res := [.t 4 1] }
def b74_0 : ACode := .seq (.seq (.reg false [⟨some 11, .mv (.t 7), none, 0⟩, ⟨some 12, .mv (.t 0), none, 0⟩, ⟨some 13, .len (.t 12), none, 0⟩, ⟨some 14, .bin .lss (.t 11) (.t 13), none, 0⟩]) (.cond (.t 14) .skip (.exit 0))) (.seq (.block 1 (.seq (.reg false [⟨some 17, .mv (.t 5), none, 0⟩, ⟨some 18, .mv (.t 0), none, 0⟩, ⟨some 19, .mv (.t 7), none, 0⟩, ⟨some 20, .iad 1 (.t 18) (.t 19), none, 0⟩, ⟨some 21, .ld false 1 (.t 20), none, 0⟩, ⟨some 22, .bin .shl (.t 21) (.k (.d (.sc (.int .u64 (1))))), none, 0⟩, ⟨some 23, .mv (.t 6), none, 0⟩, ⟨some 24, .bin .or (.t 22) (.t 23), none, 0⟩, ⟨some 25, .bsl false 1 1 [.d (.sc (.int .u64 (0)))] [(0, .t 24)], none, 0⟩, ⟨some 26, .app false 1 8 (.t 17) (.t 25), none, 0⟩, ⟨some 5, .asg (.t 26), none, 0⟩]) (.reg false [⟨some 27, .mv (.t 0), none, 0⟩, ⟨some 28, .mv (.t 7), none, 0⟩, ⟨some 29, .iad 1 (.t 27) (.t 28), none, 0⟩, ⟨some 30, .ld false 1 (.t 29), none, 0⟩, ⟨some 31, .bin .shr (.t 30) (.k (.d (.sc (.int .u64 (63))))), none, 0⟩, ⟨some 6, .asg (.t 31), none, 0⟩]))) (.reg false [⟨some 15, .mv (.t 7), none, 0⟩, ⟨some 16, .bin .add (.t 15) (.k (.d (.sc (.int .i64 (1))))), none, 0⟩, ⟨some 7, .asg (.t 16), none, 0⟩]))
/-- function 74 -/
def a74 : AFunc :=
  { np := 2, body := .seq (.reg false [⟨some 4, .asg (.k .nil), none, 0⟩]) (.seq (.reg false [⟨some 5, .asg (.k .nil), none, 0⟩]) (.seq (.reg false [⟨some 8, .mv (.t 1), none, 0⟩, ⟨some 9, .bin .and (.t 8) (.k (.d (.sc (.int .i64 (1))))), none, 0⟩, ⟨some 10, .cvi .u64 (.t 9), none, 0⟩, ⟨some 6, .asg (.t 10), none, 0⟩]) (.seq (.seq (.reg false [⟨some 7, .asg (.k (.d (.sc (.int .i64 (0))))), none, 0⟩]) (.block 0 (.loop [0, 5, 6, 7] b74_0))) (.seq (.reg false [⟨some 32, .mv (.t 5), none, 0⟩, ⟨some 33, .mv (.t 6), none, 0⟩, ⟨some 34, .bsl false 1 1 [.d (.sc (.int .u64 (0)))] [(0, .t 33)], none, 0⟩, ⟨some 35, .app false 1 8 (.t 32) (.t 34), none, 0⟩, ⟨some 36, .call 69 [(1, .t 35)], none, 0⟩, ⟨some 4, .asg (.t 36), none, 0⟩]) .ret)))), res := [.t 4 1] }
/-- function 82 -/
def a82 : AFunc :=
  { np := 0, body := .seq (.reg false [⟨some 0, .asg (.k (.d (.sc (.bool false)))), none, 0⟩]) (.seq (.reg false [⟨some 1, .asg (.k (.d (.sc (.int .u64 (18446744073709551615))))), none, 0⟩]) (.seq (.reg false [⟨some 12, .mv (.t 1), none, 0⟩, ⟨some 13, .mv (.t 1), none, 0⟩, ⟨some 14, .bsl false 1 2 [.d (.sc (.int .u64 (0)))] [(0, .t 12), (1, .t 13)], none, 0⟩, ⟨some 15, .mv (.t 1), none, 0⟩, ⟨some 16, .mv (.t 1), none, 0⟩, ⟨some 17, .bsl false 1 2 [.d (.sc (.int .u64 (0)))] [(0, .t 15), (1, .t 16)], none, 0⟩, ⟨some 18, .call 86 [(1, .t 14), (1, .t 17)], none, 0⟩, ⟨some 2, .asg (.t 18), none, 0⟩]) (.seq (.reg false [⟨some 20, .mv (.t 2), none, 0⟩, ⟨some 21, .mv (.t 1), none, 0⟩, ⟨some 22, .mv (.t 1), none, 0⟩, ⟨some 23, .bsl false 1 2 [.d (.sc (.int .u64 (0)))] [(0, .t 21), (1, .t 22)], none, 0⟩, ⟨some 24, .call 83 [(1, .t 20), (1, .t 23)], none, 0⟩, ⟨some 19, .mv (.t 24), none, 0⟩, ⟨some 25, .ext (.t 19) 0, none, 0⟩, ⟨some 26, .ext (.t 19) 1, none, 0⟩, ⟨some 27, .ext (.t 19) 2, none, 0⟩, ⟨some 3, .asg (.t 25), none, 0⟩, ⟨some 4, .asg (.t 26), none, 0⟩, ⟨some 5, .asg (.t 27), none, 0⟩]) (.seq (.reg false [⟨some 29, .mv (.t 2), none, 0⟩, ⟨some 30, .bsl false 1 1 [.d (.sc (.int .u64 (0)))] [(0, .k (.d (.sc (.int .u64 (0)))))], none, 0⟩, ⟨some 31, .call 83 [(1, .t 29), (1, .t 30)], none, 0⟩, ⟨some 28, .mv (.t 31), none, 0⟩, ⟨some 32, .ext (.t 28) 0, none, 0⟩, ⟨some 33, .ext (.t 28) 1, none, 0⟩, ⟨some 34, .ext (.t 28) 2, none, 0⟩, ⟨some 6, .asg (.t 32), none, 0⟩, ⟨some 7, .asg (.t 33), none, 0⟩, ⟨some 8, .asg (.t 34), none, 0⟩]) (.seq (.reg false [⟨some 36, .bsl false 1 1 [.d (.sc (.int .u64 (0)))] [(0, .k (.d (.sc (.int .u64 (7)))))], none, 0⟩, ⟨some 37, .bsl false 1 1 [.d (.sc (.int .u64 (0)))] [(0, .k (.d (.sc (.int .u64 (2)))))], none, 0⟩, ⟨some 38, .call 83 [(1, .t 36), (1, .t 37)], none, 0⟩, ⟨some 35, .mv (.t 38), none, 0⟩, ⟨some 39, .ext (.t 35) 0, none, 0⟩, ⟨some 40, .ext (.t 35) 1, none, 0⟩, ⟨some 41, .ext (.t 35) 2, none, 0⟩, ⟨some 9, .asg (.t 39), none, 0⟩, ⟨some 10, .asg (.t 40), none, 0⟩, ⟨some 11, .asg (.t 41), none, 0⟩]) (.seq (.reg false [⟨some 42, .mv (.t 2), none, 0⟩, ⟨some 43, .len (.t 42), none, 0⟩, ⟨some 44, .bin .eql (.t 43) (.k (.d (.sc (.int .i64 (4))))), none, 0⟩, ⟨some 45, .mv (.t 44), none, 0⟩, ⟨some 46, .mv (.t 2), some (45, true), 0⟩, ⟨some 47, .iad 1 (.t 46) (.k (.d (.sc (.int .i64 (0))))), some (45, true), 0⟩, ⟨some 48, .ld false 1 (.t 47), some (45, true), 0⟩, ⟨some 49, .bin .eql (.t 48) (.k (.d (.sc (.int .u64 (1))))), some (45, true), 0⟩, ⟨some 50, .pick (.t 45) (.t 49) (.k (.d (.sc (.bool false)))), none, 0⟩, ⟨some 51, .mv (.t 50), none, 0⟩, ⟨some 52, .mv (.t 2), some (51, true), 0⟩, ⟨some 53, .iad 1 (.t 52) (.k (.d (.sc (.int .i64 (2))))), some (51, true), 0⟩, ⟨some 54, .ld false 1 (.t 53), some (51, true), 0⟩, ⟨some 55, .mv (.t 1), some (51, true), 0⟩, ⟨some 56, .bin .sub (.t 55) (.k (.d (.sc (.int .u64 (1))))), some (51, true), 0⟩, ⟨some 57, .bin .eql (.t 54) (.t 56), some (51, true), 0⟩, ⟨some 58, .pick (.t 51) (.t 57) (.k (.d (.sc (.bool false)))), none, 0⟩, ⟨some 59, .mv (.t 58), none, 0⟩, ⟨some 60, .mv (.t 5), some (59, true), 0⟩, ⟨some 61, .pick (.t 59) (.t 60) (.k (.d (.sc (.bool false)))), none, 0⟩, ⟨some 62, .mv (.t 61), none, 0⟩, ⟨some 63, .mv (.t 3), some (62, true), 0⟩, ⟨some 64, .len (.t 63), some (62, true), 0⟩, ⟨some 65, .bin .eql (.t 64) (.k (.d (.sc (.int .i64 (2))))), some (62, true), 0⟩, ⟨some 66, .pick (.t 62) (.t 65) (.k (.d (.sc (.bool false)))), none, 0⟩, ⟨some 67, .mv (.t 66), none, 0⟩, ⟨some 68, .mv (.t 3), some (67, true), 0⟩, ⟨some 69, .iad 1 (.t 68) (.k (.d (.sc (.int .i64 (1))))), some (67, true), 0⟩, ⟨some 70, .ld false 1 (.t 69), some (67, true), 0⟩, ⟨some 71, .mv (.t 1), some (67, true), 0⟩, ⟨some 72, .bin .eql (.t 70) (.t 71), some (67, true), 0⟩, ⟨some 73, .pick (.t 67) (.t 72) (.k (.d (.sc (.bool false)))), none, 0⟩, ⟨some 74, .mv (.t 73), none, 0⟩, ⟨some 75, .mv (.t 4), some (74, true), 0⟩, ⟨some 76, .len (.t 75), some (74, true), 0⟩, ⟨some 77, .bin .eql (.t 76) (.k (.d (.sc (.int .i64 (0))))), some (74, true), 0⟩, ⟨some 78, .pick (.t 74) (.t 77) (.k (.d (.sc (.bool false)))), none, 0⟩, ⟨some 79, .mv (.t 78), none, 0⟩, ⟨some 80, .mv (.t 8), some (79, true), 0⟩, ⟨some 81, .un .not (.t 80), some (79, true), 0⟩, ⟨some 82, .pick (.t 79) (.t 81) (.k (.d (.sc (.bool false)))), none, 0⟩, ⟨some 83, .mv (.t 82), none, 0⟩, ⟨some 84, .mv (.t 9), some (83, true), 0⟩, ⟨some 85, .len (.t 84), some (83, true), 0⟩, ⟨some 86, .bin .eql (.t 85) (.k (.d (.sc (.int .i64 (1))))), some (83, true), 0⟩, ⟨some 87, .pick (.t 83) (.t 86) (.k (.d (.sc (.bool false)))), none, 0⟩, ⟨some 88, .mv (.t 87), none, 0⟩, ⟨some 89, .mv (.t 9), some (88, true), 0⟩, ⟨some 90, .iad 1 (.t 89) (.k (.d (.sc (.int .i64 (0))))), some (88, true), 0⟩, ⟨some 91, .ld false 1 (.t 90), some (88, true), 0⟩, ⟨some 92, .bin .eql (.t 91) (.k (.d (.sc (.int .u64 (3))))), some (88, true), 0⟩, ⟨some 93, .pick (.t 88) (.t 92) (.k (.d (.sc (.bool false)))), none, 0⟩, ⟨some 94, .mv (.t 93), none, 0⟩, ⟨some 95, .mv (.t 10), some (94, true), 0⟩, ⟨some 96, .iad 1 (.t 95) (.k (.d (.sc (.int .i64 (0))))), some (94, true), 0⟩, ⟨some 97, .ld false 1 (.t 96), some (94, true), 0⟩, ⟨some 98, .bin .eql (.t 97) (.k (.d (.sc (.int .u64 (1))))), some (94, true), 0⟩, ⟨some 99, .pick (.t 94) (.t 98) (.k (.d (.sc (.bool false)))), none, 0⟩, ⟨some 0, .asg (.t 99), none, 0⟩]) .ret)))))), res := [.t 0 1] }
def b83_1 : ACode := .seq (.seq (.reg false [⟨some 86, .mv (.t 15), none, 0⟩, ⟨some 87, .bin .geq (.t 86) (.k (.d (.sc (.int .i64 (0))))), none, 0⟩]) (.cond (.t 87) .skip (.exit 3))) (.seq (.block 4 (.reg false [⟨some 90, .mv (.t 14), none, 0⟩, ⟨some 91, .mv (.t 15), none, 0⟩, ⟨some 92, .mv (.t 12), none, 0⟩, ⟨some 93, .mv (.t 15), none, 0⟩, ⟨some 94, .mv (.t 15), none, 0⟩, ⟨some 95, .mv (.t 7), none, 0⟩, ⟨some 96, .bin .add (.t 94) (.t 95), none, 0⟩, ⟨some 97, .bin .add (.t 96) (.k (.d (.sc (.int .i64 (1))))), none, 0⟩, ⟨some 98, .slc 1 (.t 92) (some (.t 93)) (some (.t 97)), none, 0⟩, ⟨some 99, .mv (.t 13), none, 0⟩, ⟨some 100, .icall 118 [.t 98, .t 99], none, 0⟩, ⟨some 101, .iad 1 (.t 90) (.t 91), none, 0⟩, ⟨none, .st 1 (.t 101) (.t 100), none, 0⟩])) (.reg false [⟨some 88, .mv (.t 15), none, 0⟩, ⟨some 89, .bin .sub (.t 88) (.k (.d (.sc (.int .i64 (1))))), none, 0⟩, ⟨some 15, .asg (.t 89), none, 0⟩]))
def b83_0 : ACode := .seq (.seq (.reg false [⟨some 40, .mv (.t 10), none, 0⟩, ⟨some 41, .bin .geq (.t 40) (.k (.d (.sc (.int .i64 (0))))), none, 0⟩]) (.cond (.t 41) .skip (.exit 1))) (.seq (.block 2 (.reg true [⟨some 45, .mv (.t 8), none, 0⟩, ⟨some 46, .mv (.t 10), none, 0⟩, ⟨some 47, .mv (.t 9), none, 0⟩, ⟨some 48, .mv (.t 0), none, 0⟩, ⟨some 49, .mv (.t 10), none, 0⟩, ⟨some 50, .iad 1 (.t 48) (.t 49), none, 24⟩, ⟨some 51, .ld false 1 (.t 50), none, 56⟩, ⟨some 52, .mv (.t 1), none, 0⟩, ⟨some 53, .iad 1 (.t 52) (.k (.d (.sc (.int .i64 (0))))), none, 128⟩, ⟨some 54, .ld false 1 (.t 53), none, 384⟩, ⟨some 55, .call 115 [(1, .t 47), (1, .t 51), (1, .t 54)], none, 1020⟩, ⟨some 44, .mv (.t 55), none, 2044⟩, ⟨some 56, .ext (.t 44) 0, none, 4092⟩, ⟨some 57, .ext (.t 44) 1, none, 4092⟩, ⟨some 58, .iad 1 (.t 45) (.t 46), none, 8191⟩, ⟨none, .st 1 (.t 58) (.t 56), none, 24575⟩, ⟨some 9, .asg (.t 57), none, 65535⟩])) (.reg false [⟨some 42, .mv (.t 10), none, 0⟩, ⟨some 43, .bin .sub (.t 42) (.k (.d (.sc (.int .i64 (1))))), none, 0⟩, ⟨some 10, .asg (.t 43), none, 0⟩]))
/-- function 83 -/
def a83 : AFunc :=
  { np := 2, body := .seq (.reg false [⟨some 4, .asg (.k .nil), none, 0⟩, ⟨some 5, .asg (.k .nil), none, 0⟩, ⟨some 6, .asg (.k (.d (.sc (.bool false)))), none, 0⟩]) (.seq (.reg false [⟨some 16, .mv (.t 0), none, 0⟩, ⟨some 17, .call 68 [(1, .t 16)], none, 0⟩, ⟨some 18, .mv (.t 1), none, 0⟩, ⟨some 19, .call 68 [(1, .t 18)], none, 0⟩, ⟨some 0, .asg (.t 17), none, 0⟩, ⟨some 1, .asg (.t 19), none, 0⟩]) (.seq (.reg false [⟨some 20, .mv (.t 1), none, 0⟩, ⟨some 21, .len (.t 20), none, 0⟩, ⟨some 7, .asg (.t 21), none, 0⟩]) (.seq (.block 0 (.seq (.reg false [⟨some 23, .mv (.t 7), none, 0⟩, ⟨some 24, .bin .eql (.t 23) (.k (.d (.sc (.int .i64 (0))))), none, 0⟩, ⟨some 22, .asg (.t 24), none, 0⟩]) (.cond (.t 22) (.seq (.reg false [⟨some 4, .asg (.k .nil), none, 0⟩, ⟨some 5, .asg (.k .nil), none, 0⟩, ⟨some 6, .asg (.k (.d (.sc (.bool false)))), none, 0⟩]) .ret) (.seq (.reg false [⟨some 26, .mv (.t 0), none, 0⟩, ⟨some 27, .mv (.t 1), none, 0⟩, ⟨some 28, .call 67 [(1, .t 26), (1, .t 27)], none, 0⟩, ⟨some 29, .bin .lss (.t 28) (.k (.d (.sc (.int .i64 (0))))), none, 0⟩, ⟨some 25, .asg (.t 29), none, 0⟩]) (.cond (.t 25) (.seq (.reg false [⟨some 30, .mv (.t 0), none, 0⟩, ⟨some 4, .asg (.k .nil), none, 0⟩, ⟨some 5, .asg (.t 30), none, 0⟩, ⟨some 6, .asg (.k (.d (.sc (.bool true)))), none, 0⟩]) .ret) (.seq (.reg false [⟨some 32, .mv (.t 7), none, 0⟩, ⟨some 33, .bin .eql (.t 32) (.k (.d (.sc (.int .i64 (1))))), none, 0⟩, ⟨some 31, .asg (.t 33), none, 0⟩]) (.cond (.t 31) (.seq (.reg false [⟨some 34, .mv (.t 0), none, 0⟩, ⟨some 35, .len (.t 34), none, 0⟩, ⟨some 36, .mks true 1 8 [.d (.sc (.int .u64 (0)))] (.t 35) (.t 35), none, 0⟩, ⟨some 8, .asg (.t 36), none, 0⟩]) (.seq (.reg false [⟨some 9, .asg (.k (.d (.sc (.int .u64 (0))))), none, 0⟩]) (.seq (.seq (.reg false [⟨some 37, .mv (.t 0), none, 0⟩, ⟨some 38, .len (.t 37), none, 0⟩, ⟨some 39, .bin .sub (.t 38) (.k (.d (.sc (.int .i64 (1))))), none, 0⟩, ⟨some 10, .asg (.t 39), none, 0⟩]) (.block 1 (.loop [0, 1, 8, 9, 10] b83_0))) (.seq (.reg false [⟨some 59, .mv (.t 8), none, 0⟩, ⟨some 60, .call 68 [(1, .t 59)], none, 0⟩, ⟨some 61, .mv (.t 9), none, 0⟩, ⟨some 62, .bsl false 1 1 [.d (.sc (.int .u64 (0)))] [(0, .t 61)], none, 0⟩, ⟨some 63, .call 68 [(1, .t 62)], none, 0⟩, ⟨some 4, .asg (.t 60), none, 0⟩, ⟨some 5, .asg (.t 63), none, 0⟩, ⟨some 6, .asg (.k (.d (.sc (.bool true)))), none, 0⟩]) .ret)))) .skip))))))) (.seq (.reg false [⟨some 64, .mv (.t 1), none, 0⟩, ⟨some 65, .mv (.t 7), none, 0⟩, ⟨some 66, .bin .sub (.t 65) (.k (.d (.sc (.int .i64 (1))))), none, 0⟩, ⟨some 67, .iad 1 (.t 64) (.t 66), none, 0⟩, ⟨some 68, .ld false 1 (.t 67), none, 0⟩, ⟨some 69, .call 116 [(1, .t 68)], none, 0⟩, ⟨some 11, .asg (.t 69), none, 0⟩]) (.seq (.reg true [⟨some 70, .mv (.t 0), none, 0⟩, ⟨some 71, .mv (.t 11), none, 0⟩, ⟨some 72, .icall 117 [.t 70, .t 71], none, 3⟩, ⟨some 73, .mv (.t 1), none, 0⟩, ⟨some 74, .mv (.t 11), none, 0⟩, ⟨some 75, .icall 117 [.t 73, .t 74], none, 31⟩, ⟨some 76, .mv (.t 7), none, 0⟩, ⟨some 77, .slc 1 (.t 75) none (some (.t 76)), none, 127⟩, ⟨some 12, .asg (.t 72), none, 63⟩, ⟨some 13, .asg (.t 77), none, 511⟩]) (.seq (.reg false [⟨some 78, .mv (.t 12), none, 0⟩, ⟨some 79, .len (.t 78), none, 0⟩, ⟨some 80, .mv (.t 7), none, 0⟩, ⟨some 81, .bin .sub (.t 79) (.t 80), none, 0⟩, ⟨some 82, .mks true 1 8 [.d (.sc (.int .u64 (0)))] (.t 81) (.t 81), none, 0⟩, ⟨some 14, .asg (.t 82), none, 0⟩]) (.seq (.seq (.reg false [⟨some 83, .mv (.t 14), none, 0⟩, ⟨some 84, .len (.t 83), none, 0⟩, ⟨some 85, .bin .sub (.t 84) (.k (.d (.sc (.int .i64 (1))))), none, 0⟩, ⟨some 15, .asg (.t 85), none, 0⟩]) (.block 3 (.loop [7, 11, 12, 13, 14, 15] b83_1))) (.seq (.reg true [⟨some 102, .mv (.t 14), none, 0⟩, ⟨some 103, .call 68 [(1, .t 102)], none, 1⟩, ⟨some 104, .mv (.t 12), none, 0⟩, ⟨some 105, .mv (.t 7), none, 0⟩, ⟨some 106, .slc 1 (.t 104) none (some (.t 105)), none, 12⟩, ⟨some 107, .mv (.t 11), none, 0⟩, ⟨some 108, .call 119 [(1, .t 106), (1, .t 107)], none, 63⟩, ⟨some 4, .asg (.t 103), none, 127⟩, ⟨some 5, .asg (.t 108), none, 255⟩, ⟨some 6, .asg (.k (.d (.sc (.bool true)))), none, 511⟩]) .ret)))))))), res := [.t 4 1, .t 5 1, .t 6 1] }
def b84_0 : ACode := .seq (.seq (.reg false [⟨some 21, .mv (.t 9), none, 0⟩, ⟨some 22, .bin .geq (.t 21) (.k (.d (.sc (.int .i64 (0))))), none, 0⟩]) (.cond (.t 22) .skip (.exit 0))) (.seq (.block 1 (.seq (.reg false [⟨some 25, .mv (.t 8), none, 0⟩, ⟨some 26, .mv (.t 0), none, 0⟩, ⟨some 27, .mv (.t 9), none, 0⟩, ⟨some 28, .call 72 [(1, .t 26), (1, .t 27)], none, 0⟩, ⟨some 29, .call 74 [(1, .t 25), (1, .t 28)], none, 0⟩, ⟨some 8, .asg (.t 29), none, 0⟩]) (.seq (.reg false [⟨some 31, .mv (.t 8), none, 0⟩, ⟨some 32, .mv (.t 1), none, 0⟩, ⟨some 33, .call 64 [(1, .t 31), (1, .t 32)], none, 0⟩, ⟨some 30, .mv (.t 33), none, 0⟩, ⟨some 34, .ext (.t 30) 0, none, 0⟩, ⟨some 35, .ext (.t 30) 1, none, 0⟩, ⟨some 10, .asg (.t 34), none, 0⟩, ⟨some 11, .asg (.t 35), none, 0⟩]) (.seq (.reg false [⟨some 36, .mv (.t 11), none, 0⟩]) (.cond (.t 36) (.seq (.reg false [⟨some 37, .mv (.t 10), none, 0⟩, ⟨some 8, .asg (.t 37), none, 0⟩]) (.reg false [⟨some 38, .mv (.t 7), none, 0⟩, ⟨some 39, .mv (.t 9), none, 0⟩, ⟨some 40, .bin .quo (.t 39) (.k (.d (.sc (.int .i64 (64))))), none, 0⟩, ⟨some 41, .mv (.t 7), none, 0⟩, ⟨some 42, .mv (.t 9), none, 0⟩, ⟨some 43, .bin .quo (.t 42) (.k (.d (.sc (.int .i64 (64))))), none, 0⟩, ⟨some 44, .iad 1 (.t 41) (.t 43), none, 0⟩, ⟨some 45, .ld false 1 (.t 44), none, 0⟩, ⟨some 46, .mv (.t 9), none, 0⟩, ⟨some 47, .bin .rem (.t 46) (.k (.d (.sc (.int .i64 (64))))), none, 0⟩, ⟨some 48, .cvi .u64 (.t 47), none, 0⟩, ⟨some 49, .bin .shl (.k (.d (.sc (.int .u64 (1))))) (.t 48), none, 0⟩, ⟨some 50, .bin .or (.t 45) (.t 49), none, 0⟩, ⟨some 51, .iad 1 (.t 38) (.t 40), none, 0⟩, ⟨none, .st 1 (.t 51) (.t 50), none, 0⟩])) .skip))))) (.reg false [⟨some 23, .mv (.t 9), none, 0⟩, ⟨some 24, .bin .sub (.t 23) (.k (.d (.sc (.int .i64 (1))))), none, 0⟩, ⟨some 9, .asg (.t 24), none, 0⟩]))
/-- function 84 -/
def a84 : AFunc :=
  { np := 2, body := .seq (.reg false [⟨some 4, .asg (.k .nil), none, 0⟩, ⟨some 5, .asg (.k .nil), none, 0⟩, ⟨some 6, .asg (.k (.d (.sc (.bool false)))), none, 0⟩]) (.seq (.seq (.reg false [⟨some 12, .mv (.t 1), none, 0⟩, ⟨some 13, .call 56 [(1, .t 12)], none, 0⟩, ⟨some 14, .bin .eql (.t 13) (.k (.d (.sc (.int .i64 (0))))), none, 0⟩]) (.cond (.t 14) (.seq (.reg false [⟨some 4, .asg (.k .nil), none, 0⟩, ⟨some 5, .asg (.k .nil), none, 0⟩, ⟨some 6, .asg (.k (.d (.sc (.bool false)))), none, 0⟩]) .ret) .skip)) (.seq (.reg false [⟨some 15, .mv (.t 0), none, 0⟩, ⟨some 16, .len (.t 15), none, 0⟩, ⟨some 17, .mks true 1 8 [.d (.sc (.int .u64 (0)))] (.t 16) (.t 16), none, 0⟩, ⟨some 7, .asg (.t 17), none, 0⟩]) (.seq (.reg false [⟨some 8, .asg (.k .nil), none, 0⟩]) (.seq (.seq (.reg false [⟨some 18, .mv (.t 0), none, 0⟩, ⟨some 19, .call 56 [(1, .t 18)], none, 0⟩, ⟨some 20, .bin .sub (.t 19) (.k (.d (.sc (.int .i64 (1))))), none, 0⟩, ⟨some 9, .asg (.t 20), none, 0⟩]) (.block 0 (.loop [0, 1, 7, 8, 9] b84_0))) (.seq (.reg false [⟨some 52, .mv (.t 7), none, 0⟩, ⟨some 53, .call 69 [(1, .t 52)], none, 0⟩, ⟨some 54, .mv (.t 8), none, 0⟩, ⟨some 55, .call 69 [(1, .t 54)], none, 0⟩, ⟨some 4, .asg (.t 53), none, 0⟩, ⟨some 5, .asg (.t 55), none, 0⟩, ⟨some 6, .asg (.k (.d (.sc (.bool true)))), none, 0⟩]) .ret))))), res := [.t 4 1, .t 5 1, .t 6 1] }
def b85_0 : ACode := .seq (.seq (.reg false [⟨some 11, .mv (.t 5), none, 0⟩, ⟨some 12, .mv (.t 0), none, 0⟩, ⟨some 13, .len (.t 12), none, 0⟩, ⟨some 14, .bin .lss (.t 11) (.t 13), none, 0⟩]) (.cond (.t 14) .skip (.exit 0))) (.seq (.block 1 (.seq (.reg true [⟨some 17, .mv (.t 0), none, 0⟩, ⟨some 18, .mv (.t 5), none, 0⟩, ⟨some 19, .iad 1 (.t 17) (.t 18), none, 3⟩, ⟨some 20, .ld false 1 (.t 19), none, 7⟩, ⟨some 21, .mv (.t 1), none, 0⟩, ⟨some 22, .mv (.t 5), none, 0⟩, ⟨some 23, .iad 1 (.t 21) (.t 22), none, 48⟩, ⟨some 24, .ld false 1 (.t 23), none, 112⟩, ⟨some 25, .bin .neq (.t 20) (.t 24), none, 255⟩]) (.cond (.t 25) (.seq (.reg false [⟨some 4, .asg (.k (.d (.sc (.bool false)))), none, 0⟩]) .ret) .skip))) (.reg false [⟨some 15, .mv (.t 5), none, 0⟩, ⟨some 16, .bin .add (.t 15) (.k (.d (.sc (.int .i64 (1))))), none, 0⟩, ⟨some 5, .asg (.t 16), none, 0⟩]))
/-- function 85 -/
def a85 : AFunc :=
  { np := 2, body := .seq (.reg false [⟨some 4, .asg (.k (.d (.sc (.bool false)))), none, 0⟩]) (.seq (.seq (.reg false [⟨some 6, .mv (.t 0), none, 0⟩, ⟨some 7, .len (.t 6), none, 0⟩, ⟨some 8, .mv (.t 1), none, 0⟩, ⟨some 9, .len (.t 8), none, 0⟩, ⟨some 10, .bin .neq (.t 7) (.t 9), none, 0⟩]) (.cond (.t 10) (.seq (.reg false [⟨some 4, .asg (.k (.d (.sc (.bool false)))), none, 0⟩]) .ret) .skip)) (.seq (.seq (.reg false [⟨some 5, .asg (.k (.d (.sc (.int .i64 (0))))), none, 0⟩]) (.block 0 (.loop [0, 1, 5] b85_0))) (.seq (.reg false [⟨some 4, .asg (.k (.d (.sc (.bool true)))), none, 0⟩]) .ret))), res := [.t 4 1] }
def b86_1 : ACode := .seq (.reg false [⟨some 30, .bin .lss (.t 29) (.t 28), none, 0⟩]) (.seq (.cond (.t 30) .skip (.exit 2)) (.seq (.block 3 (.seq (.reg false [⟨some 31, .mv (.t 29), none, 0⟩, ⟨some 32, .iad 1 (.t 27) (.t 29), none, 0⟩, ⟨some 33, .ld false 1 (.t 32), none, 0⟩, ⟨some 9, .asg (.t 31), none, 0⟩, ⟨some 10, .asg (.t 33), none, 0⟩]) (.seq (.reg false [⟨some 35, .mv (.t 7), none, 0⟩, ⟨some 36, .mv (.t 10), none, 0⟩, ⟨some 37, .call 120 [(1, .t 35), (1, .t 36)], none, 0⟩, ⟨some 34, .mv (.t 37), none, 0⟩, ⟨some 38, .ext (.t 34) 0, none, 0⟩, ⟨some 39, .ext (.t 34) 1, none, 0⟩, ⟨some 11, .asg (.t 38), none, 0⟩, ⟨some 12, .asg (.t 39), none, 0⟩]) (.seq (.reg false [⟨some 41, .mv (.t 12), none, 0⟩, ⟨some 42, .mv (.t 5), none, 0⟩, ⟨some 43, .mv (.t 6), none, 0⟩, ⟨some 44, .mv (.t 9), none, 0⟩, ⟨some 45, .bin .add (.t 43) (.t 44), none, 0⟩, ⟨some 46, .iad 1 (.t 42) (.t 45), none, 0⟩, ⟨some 47, .ld false 1 (.t 46), none, 0⟩, ⟨some 48, .call 100 [(1, .t 41), (1, .t 47), (1, .k (.d (.sc (.int .u64 (0)))))], none, 0⟩, ⟨some 40, .mv (.t 48), none, 0⟩, ⟨some 49, .ext (.t 40) 0, none, 0⟩, ⟨some 50, .ext (.t 40) 1, none, 0⟩, ⟨some 12, .asg (.t 49), none, 0⟩, ⟨some 13, .asg (.t 50), none, 0⟩]) (.seq (.reg false [⟨some 51, .mv (.t 11), none, 0⟩, ⟨some 52, .mv (.t 13), none, 0⟩, ⟨some 53, .bin .add (.t 51) (.t 52), none, 0⟩, ⟨some 11, .asg (.t 53), none, 0⟩]) (.seq (.reg false [⟨some 55, .mv (.t 5), none, 0⟩, ⟨some 56, .mv (.t 6), none, 0⟩, ⟨some 57, .mv (.t 9), none, 0⟩, ⟨some 58, .bin .add (.t 56) (.t 57), none, 0⟩, ⟨some 59, .mv (.t 12), none, 0⟩, ⟨some 60, .mv (.t 8), none, 0⟩, ⟨some 61, .call 100 [(1, .t 59), (1, .t 60), (1, .k (.d (.sc (.int .u64 (0)))))], none, 0⟩, ⟨some 54, .mv (.t 61), none, 0⟩, ⟨some 62, .ext (.t 54) 0, none, 0⟩, ⟨some 63, .ext (.t 54) 1, none, 0⟩, ⟨some 64, .iad 1 (.t 55) (.t 58), none, 0⟩, ⟨none, .st 1 (.t 64) (.t 62), none, 0⟩, ⟨some 13, .asg (.t 63), none, 0⟩]) (.reg false [⟨some 65, .mv (.t 11), none, 0⟩, ⟨some 66, .mv (.t 13), none, 0⟩, ⟨some 67, .bin .add (.t 65) (.t 66), none, 0⟩, ⟨some 8, .asg (.t 67), none, 0⟩]))))))) (.reg false [⟨some 68, .bin .add (.t 29) (.k (.d (.sc (.int .i64 (1))))), none, 0⟩, ⟨some 29, .mv (.t 68), none, 0⟩])))
def b86_0 : ACode := .seq (.reg false [⟨some 23, .bin .lss (.t 22) (.t 21), none, 0⟩]) (.seq (.cond (.t 23) .skip (.exit 0)) (.seq (.block 1 (.seq (.reg false [⟨some 24, .mv (.t 22), none, 0⟩, ⟨some 25, .iad 1 (.t 20) (.t 22), none, 0⟩, ⟨some 26, .ld false 1 (.t 25), none, 0⟩, ⟨some 6, .asg (.t 24), none, 0⟩, ⟨some 7, .asg (.t 26), none, 0⟩]) (.seq (.reg false [⟨some 8, .asg (.k (.d (.sc (.int .u64 (0))))), none, 0⟩]) (.seq (.seq (.reg false [⟨some 27, .mv (.t 1), none, 0⟩, ⟨some 28, .len (.t 27), none, 0⟩, ⟨some 29, .mv (.k (.d (.sc (.int .i64 (0))))), none, 0⟩]) (.block 2 (.loop [1, 5, 6, 7, 8, 20, 21, 22, 27, 28, 29] b86_1))) (.reg false [⟨some 69, .mv (.t 5), none, 0⟩, ⟨some 70, .mv (.t 6), none, 0⟩, ⟨some 71, .mv (.t 1), none, 0⟩, ⟨some 72, .len (.t 71), none, 0⟩, ⟨some 73, .bin .add (.t 70) (.t 72), none, 0⟩, ⟨some 74, .mv (.t 8), none, 0⟩, ⟨some 75, .iad 1 (.t 69) (.t 73), none, 0⟩, ⟨none, .st 1 (.t 75) (.t 74), none, 0⟩]))))) (.reg false [⟨some 76, .bin .add (.t 22) (.k (.d (.sc (.int .i64 (1))))), none, 0⟩, ⟨some 22, .mv (.t 76), none, 0⟩])))
/-- function 86 -/
def a86 : AFunc :=
  { np := 2, body := .seq (.reg false [⟨some 4, .asg (.k .nil), none, 0⟩]) (.seq (.reg false [⟨some 14, .mv (.t 0), none, 0⟩, ⟨some 15, .len (.t 14), none, 0⟩, ⟨some 16, .mv (.t 1), none, 0⟩, ⟨some 17, .len (.t 16), none, 0⟩, ⟨some 18, .bin .add (.t 15) (.t 17), none, 0⟩, ⟨some 19, .mks true 1 8 [.d (.sc (.int .u64 (0)))] (.t 18) (.t 18), none, 0⟩, ⟨some 5, .asg (.t 19), none, 0⟩]) (.seq (.seq (.reg false [⟨some 20, .mv (.t 0), none, 0⟩, ⟨some 21, .len (.t 20), none, 0⟩, ⟨some 22, .mv (.k (.d (.sc (.int .i64 (0))))), none, 0⟩]) (.block 0 (.loop [1, 5, 20, 21, 22] b86_0))) (.seq (.reg false [⟨some 77, .mv (.t 5), none, 0⟩, ⟨some 78, .call 68 [(1, .t 77)], none, 0⟩, ⟨some 4, .asg (.t 78), none, 0⟩]) .ret))), res := [.t 4 1] }
def b87_2 : ACode := .seq (.seq (.reg false [⟨some 80, .mv (.t 7), none, 0⟩, ⟨some 81, .bin .gtr (.t 80) (.k (.d (.sc (.int .u64 (0))))), none, 0⟩]) (.cond (.t 81) .skip (.exit 4))) (.seq (.block 5 (.seq (.reg false [⟨some 85, .mv (.t 5), none, 0⟩, ⟨some 86, .mv (.t 14), none, 0⟩, ⟨some 87, .iad 1 (.t 85) (.t 86), none, 0⟩, ⟨some 88, .ld false 1 (.t 87), none, 0⟩, ⟨some 89, .mv (.t 7), none, 0⟩, ⟨some 90, .call 100 [(1, .t 88), (1, .t 89), (1, .k (.d (.sc (.int .u64 (0)))))], none, 0⟩, ⟨some 84, .mv (.t 90), none, 0⟩, ⟨some 91, .ext (.t 84) 0, none, 0⟩, ⟨some 92, .ext (.t 84) 1, none, 0⟩, ⟨some 15, .asg (.t 91), none, 0⟩, ⟨some 16, .asg (.t 92), none, 0⟩]) (.reg false [⟨some 93, .mv (.t 5), none, 0⟩, ⟨some 94, .mv (.t 14), none, 0⟩, ⟨some 95, .mv (.t 15), none, 0⟩, ⟨some 96, .mv (.t 16), none, 0⟩, ⟨some 97, .iad 1 (.t 93) (.t 94), none, 0⟩, ⟨none, .st 1 (.t 97) (.t 95), none, 0⟩, ⟨some 7, .asg (.t 96), none, 0⟩]))) (.reg false [⟨some 82, .mv (.t 14), none, 0⟩, ⟨some 83, .bin .add (.t 82) (.k (.d (.sc (.int .i64 (1))))), none, 0⟩, ⟨some 14, .asg (.t 83), none, 0⟩]))
def b87_1 : ACode := .seq (.seq (.reg false [⟨some 30, .mv (.t 8), none, 0⟩, ⟨some 31, .mv (.t 1), none, 0⟩, ⟨some 32, .len (.t 31), none, 0⟩, ⟨some 33, .bin .lss (.t 30) (.t 32), none, 0⟩]) (.cond (.t 33) .skip (.exit 2))) (.seq (.block 3 (.seq (.reg true [⟨some 37, .mv (.t 0), none, 0⟩, ⟨some 38, .mv (.t 6), none, 0⟩, ⟨some 39, .iad 1 (.t 37) (.t 38), none, 3⟩, ⟨some 40, .ld false 1 (.t 39), none, 7⟩, ⟨some 41, .mv (.t 1), none, 0⟩, ⟨some 42, .mv (.t 8), none, 0⟩, ⟨some 43, .iad 1 (.t 41) (.t 42), none, 48⟩, ⟨some 44, .ld false 1 (.t 43), none, 112⟩, ⟨some 45, .call 120 [(1, .t 40), (1, .t 44)], none, 255⟩, ⟨some 36, .mv (.t 45), none, 511⟩, ⟨some 46, .ext (.t 36) 0, none, 1023⟩, ⟨some 47, .ext (.t 36) 1, none, 1023⟩, ⟨some 9, .asg (.t 46), none, 2047⟩, ⟨some 10, .asg (.t 47), none, 8191⟩]) (.seq (.reg false [⟨some 49, .mv (.t 5), none, 0⟩, ⟨some 50, .mv (.t 6), none, 0⟩, ⟨some 51, .mv (.t 8), none, 0⟩, ⟨some 52, .bin .add (.t 50) (.t 51), none, 0⟩, ⟨some 53, .iad 1 (.t 49) (.t 52), none, 0⟩, ⟨some 54, .ld false 1 (.t 53), none, 0⟩, ⟨some 55, .mv (.t 10), none, 0⟩, ⟨some 56, .call 100 [(1, .t 54), (1, .t 55), (1, .k (.d (.sc (.int .u64 (0)))))], none, 0⟩, ⟨some 48, .mv (.t 56), none, 0⟩, ⟨some 57, .ext (.t 48) 0, none, 0⟩, ⟨some 58, .ext (.t 48) 1, none, 0⟩, ⟨some 11, .asg (.t 57), none, 0⟩, ⟨some 12, .asg (.t 58), none, 0⟩]) (.seq (.reg false [⟨some 60, .mv (.t 11), none, 0⟩, ⟨some 61, .mv (.t 7), none, 0⟩, ⟨some 62, .call 100 [(1, .t 60), (1, .t 61), (1, .k (.d (.sc (.int .u64 (0)))))], none, 0⟩, ⟨some 59, .mv (.t 62), none, 0⟩, ⟨some 63, .ext (.t 59) 0, none, 0⟩, ⟨some 64, .ext (.t 59) 1, none, 0⟩, ⟨some 11, .asg (.t 63), none, 0⟩, ⟨some 13, .asg (.t 64), none, 0⟩]) (.seq (.reg false [⟨some 65, .mv (.t 5), none, 0⟩, ⟨some 66, .mv (.t 6), none, 0⟩, ⟨some 67, .mv (.t 8), none, 0⟩, ⟨some 68, .bin .add (.t 66) (.t 67), none, 0⟩, ⟨some 69, .mv (.t 11), none, 0⟩, ⟨some 70, .iad 1 (.t 65) (.t 68), none, 0⟩, ⟨none, .st 1 (.t 70) (.t 69), none, 0⟩]) (.reg false [⟨some 71, .mv (.t 9), none, 0⟩, ⟨some 72, .mv (.t 12), none, 0⟩, ⟨some 73, .bin .add (.t 71) (.t 72), none, 0⟩, ⟨some 74, .mv (.t 13), none, 0⟩, ⟨some 75, .bin .add (.t 73) (.t 74), none, 0⟩, ⟨some 7, .asg (.t 75), none, 0⟩])))))) (.reg false [⟨some 34, .mv (.t 8), none, 0⟩, ⟨some 35, .bin .add (.t 34) (.k (.d (.sc (.int .i64 (1))))), none, 0⟩, ⟨some 8, .asg (.t 35), none, 0⟩]))
def b87_0 : ACode := .seq (.seq (.reg false [⟨some 24, .mv (.t 6), none, 0⟩, ⟨some 25, .mv (.t 0), none, 0⟩, ⟨some 26, .len (.t 25), none, 0⟩, ⟨some 27, .bin .lss (.t 24) (.t 26), none, 0⟩]) (.cond (.t 27) .skip (.exit 0))) (.seq (.block 1 (.seq (.reg false [⟨some 7, .asg (.k (.d (.sc (.int .u64 (0))))), none, 0⟩]) (.seq (.seq (.reg false [⟨some 8, .asg (.k (.d (.sc (.int .i64 (0))))), none, 0⟩]) (.block 2 (.loop [0, 1, 5, 6, 7, 8] b87_1))) (.seq (.reg false [⟨some 76, .mv (.t 6), none, 0⟩, ⟨some 77, .mv (.t 1), none, 0⟩, ⟨some 78, .len (.t 77), none, 0⟩, ⟨some 79, .bin .add (.t 76) (.t 78), none, 0⟩, ⟨some 14, .asg (.t 79), none, 0⟩]) (.block 4 (.loop [0, 1, 5, 6, 7, 14] b87_2)))))) (.reg false [⟨some 28, .mv (.t 6), none, 0⟩, ⟨some 29, .bin .add (.t 28) (.k (.d (.sc (.int .i64 (1))))), none, 0⟩, ⟨some 6, .asg (.t 29), none, 0⟩]))
/-- function 87 -/
def a87 : AFunc :=
  { np := 2, body := .seq (.reg false [⟨some 4, .asg (.k .nil), none, 0⟩]) (.seq (.reg false [⟨some 17, .mv (.t 0), none, 0⟩, ⟨some 18, .len (.t 17), none, 0⟩, ⟨some 19, .mv (.t 1), none, 0⟩, ⟨some 20, .len (.t 19), none, 0⟩, ⟨some 21, .bin .add (.t 18) (.t 20), none, 0⟩, ⟨some 22, .bin .add (.t 21) (.k (.d (.sc (.int .i64 (1))))), none, 0⟩, ⟨some 23, .mks true 1 8 [.d (.sc (.int .u64 (0)))] (.t 22) (.t 22), none, 0⟩, ⟨some 5, .asg (.t 23), none, 0⟩]) (.seq (.seq (.reg false [⟨some 6, .asg (.k (.d (.sc (.int .i64 (0))))), none, 0⟩]) (.block 0 (.loop [0, 1, 5, 6] b87_0))) (.seq (.reg false [⟨some 98, .mv (.t 5), none, 0⟩, ⟨some 99, .call 69 [(1, .t 98)], none, 0⟩, ⟨some 4, .asg (.t 99), none, 0⟩]) .ret))), res := [.t 4 1] }
def b88_0 : ACode := .seq (.seq (.reg false [⟨some 22, .mv (.t 10), none, 0⟩, ⟨some 23, .bin .geq (.t 22) (.k (.d (.sc (.int .i64 (0))))), none, 0⟩]) (.cond (.t 23) .skip (.exit 0))) (.seq (.block 1 (.seq (.reg false [⟨some 27, .mv (.t 8), none, 0⟩, ⟨some 28, .mv (.t 8), none, 0⟩, ⟨some 29, .mv (.t 2), none, 0⟩, ⟨some 30, .call 89 [(1, .t 27), (1, .t 28), (1, .t 29)], none, 0⟩, ⟨some 26, .mv (.t 30), none, 0⟩, ⟨some 31, .ext (.t 26) 0, none, 0⟩, ⟨some 32, .ext (.t 26) 1, none, 0⟩, ⟨some 8, .asg (.t 31), none, 0⟩]) (.seq (.reg false [⟨some 33, .mv (.t 1), none, 0⟩, ⟨some 34, .mv (.t 10), none, 0⟩, ⟨some 35, .call 72 [(1, .t 33), (1, .t 34)], none, 0⟩, ⟨some 36, .bin .eql (.t 35) (.k (.d (.sc (.int .i64 (1))))), none, 0⟩]) (.cond (.t 36) (.reg false [⟨some 38, .mv (.t 8), none, 0⟩, ⟨some 39, .mv (.t 0), none, 0⟩, ⟨some 40, .mv (.t 2), none, 0⟩, ⟨some 41, .call 89 [(1, .t 38), (1, .t 39), (1, .t 40)], none, 0⟩, ⟨some 37, .mv (.t 41), none, 0⟩, ⟨some 42, .ext (.t 37) 0, none, 0⟩, ⟨some 43, .ext (.t 37) 1, none, 0⟩, ⟨some 8, .asg (.t 42), none, 0⟩]) .skip)))) (.reg false [⟨some 24, .mv (.t 10), none, 0⟩, ⟨some 25, .bin .sub (.t 24) (.k (.d (.sc (.int .i64 (1))))), none, 0⟩, ⟨some 10, .asg (.t 25), none, 0⟩]))
/-- function 88 -/
def a88 : AFunc :=
  { np := 3, body := .seq (.reg false [⟨some 6, .asg (.k .nil), none, 0⟩, ⟨some 7, .asg (.k (.d (.sc (.bool false)))), none, 0⟩]) (.seq (.reg false [⟨some 12, .bsl false 1 1 [.d (.sc (.int .u64 (0)))] [(0, .k (.d (.sc (.int .u64 (1)))))], none, 0⟩, ⟨some 13, .mv (.t 2), none, 0⟩, ⟨some 14, .call 90 [(1, .t 12), (1, .t 13)], none, 0⟩, ⟨some 11, .mv (.t 14), none, 0⟩, ⟨some 15, .ext (.t 11) 0, none, 0⟩, ⟨some 16, .ext (.t 11) 1, none, 0⟩, ⟨some 8, .asg (.t 15), none, 0⟩, ⟨some 9, .asg (.t 16), none, 0⟩]) (.seq (.seq (.reg false [⟨some 17, .mv (.t 9), none, 0⟩, ⟨some 18, .un .not (.t 17), none, 0⟩]) (.cond (.t 18) (.seq (.reg false [⟨some 6, .asg (.k .nil), none, 0⟩, ⟨some 7, .asg (.k (.d (.sc (.bool false)))), none, 0⟩]) .ret) .skip)) (.seq (.seq (.reg false [⟨some 19, .mv (.t 1), none, 0⟩, ⟨some 20, .call 56 [(1, .t 19)], none, 0⟩, ⟨some 21, .bin .sub (.t 20) (.k (.d (.sc (.int .i64 (1))))), none, 0⟩, ⟨some 10, .asg (.t 21), none, 0⟩]) (.block 0 (.loop [0, 1, 2, 8, 10] b88_0))) (.seq (.reg false [⟨some 44, .mv (.t 8), none, 0⟩, ⟨some 6, .asg (.t 44), none, 0⟩, ⟨some 7, .asg (.k (.d (.sc (.bool true)))), none, 0⟩]) .ret)))), res := [.t 6 1, .t 7 1] }
/-- function 89 -/
def a89 : AFunc :=
  { np := 3, body := .seq (.reg false [⟨some 6, .asg (.k .nil), none, 0⟩, ⟨some 7, .asg (.k (.d (.sc (.bool false)))), none, 0⟩]) (.seq (.reg false [⟨some 8, .mv (.t 0), none, 0⟩, ⟨some 9, .mv (.t 1), none, 0⟩, ⟨some 10, .call 87 [(1, .t 8), (1, .t 9)], none, 0⟩, ⟨some 11, .mv (.t 2), none, 0⟩, ⟨some 12, .call 90 [(1, .t 10), (1, .t 11)], none, 0⟩, ⟨some 13, .ext (.t 12) 0, none, 0⟩, ⟨some 14, .ext (.t 12) 1, none, 0⟩, ⟨some 6, .asg (.t 13), none, 0⟩, ⟨some 7, .asg (.t 14), none, 0⟩]) .ret), res := [.t 6 1, .t 7 1] }
/-- function 90 -/
def a90 : AFunc :=
  { np := 2, body := .seq (.reg false [⟨some 4, .asg (.k .nil), none, 0⟩, ⟨some 5, .asg (.k (.d (.sc (.bool false)))), none, 0⟩]) (.seq (.reg false [⟨some 10, .mv (.t 0), none, 0⟩, ⟨some 11, .mv (.t 1), none, 0⟩, ⟨some 12, .call 84 [(1, .t 10), (1, .t 11)], none, 0⟩, ⟨some 9, .mv (.t 12), none, 0⟩, ⟨some 13, .ext (.t 9) 0, none, 0⟩, ⟨some 14, .ext (.t 9) 1, none, 0⟩, ⟨some 15, .ext (.t 9) 2, none, 0⟩, ⟨some 6, .asg (.t 13), none, 0⟩, ⟨some 7, .asg (.t 14), none, 0⟩, ⟨some 8, .asg (.t 15), none, 0⟩]) (.seq (.reg false [⟨some 16, .mv (.t 7), none, 0⟩, ⟨some 17, .mv (.t 8), none, 0⟩, ⟨some 4, .asg (.t 16), none, 0⟩, ⟨some 5, .asg (.t 17), none, 0⟩]) .ret)), res := [.t 4 1, .t 5 1] }
def b94_0 : ACode := .seq (.reg false [⟨some 5, .bin .lss (.t 4) (.k (.d (.sc (.int .i64 (6))))), none, 0⟩]) (.seq (.cond (.t 5) .skip (.exit 0)) (.seq (.block 1 (.reg false [⟨some 6, .mv (.t 3), none, 0⟩, ⟨some 7, .mv (.t 0), none, 0⟩, ⟨some 8, .iad 1 (.t 7) (.k (.d (.sc (.int .i64 (0))))), none, 0⟩, ⟨some 9, .ld false 1 (.t 8), none, 0⟩, ⟨some 10, .mv (.t 3), none, 0⟩, ⟨some 11, .bin .mul (.t 9) (.t 10), none, 0⟩, ⟨some 12, .bin .sub (.k (.d (.sc (.int .u64 (2))))) (.t 11), none, 0⟩, ⟨some 13, .bin .mul (.t 6) (.t 12), none, 0⟩, ⟨some 3, .asg (.t 13), none, 0⟩])) (.reg false [⟨some 14, .bin .add (.t 4) (.k (.d (.sc (.int .i64 (1))))), none, 0⟩, ⟨some 4, .mv (.t 14), none, 0⟩])))
/-- function 94 -/
def a94 : AFunc :=
  { np := 1, body := .seq (.reg false [⟨some 2, .alloc [.nil, .d (.sc (.int .u64 (0)))], none, 0⟩]) (.seq (.reg false [⟨some 3, .asg (.k (.d (.sc (.int .u64 (1))))), none, 0⟩]) (.seq (.seq (.reg false [⟨some 4, .mv (.k (.d (.sc (.int .i64 (0))))), none, 0⟩]) (.block 0 (.loop [0, 2, 3, 4] b94_0))) (.seq (.reg false [⟨some 15, .mv (.t 0), none, 0⟩, ⟨some 16, .mv (.t 3), none, 0⟩, ⟨some 17, .un .neg (.t 16), none, 0⟩, ⟨some 18, .build [.nil, .d (.sc (.int .u64 (0)))] [(0, 1, .t 15), (1, 1, .t 17)], none, 0⟩, ⟨none, .st 2 (.t 2) (.t 18), none, 0⟩]) .ret))), res := [.agg 2 2] }
def b95_0 : ACode := .seq (.seq (.reg false [⟨some 15, .mv (.t 8), none, 0⟩, ⟨some 16, .bin .geq (.t 15) (.k (.d (.sc (.int .i64 (0))))), none, 0⟩]) (.cond (.t 16) .skip (.exit 0))) (.seq (.block 1 (.seq (.reg false [⟨some 19, .ld true 2 (.t 3), none, 0⟩, ⟨some 20, .mv (.t 7), none, 0⟩, ⟨some 21, .mv (.t 7), none, 0⟩, ⟨some 22, .call 97 [(1, .t 19), (1, .t 20), (1, .t 21)], none, 0⟩, ⟨some 7, .asg (.t 22), none, 0⟩]) (.seq (.reg false [⟨some 23, .mv (.t 2), none, 0⟩, ⟨some 24, .mv (.t 8), none, 0⟩, ⟨some 25, .call 71 [(1, .t 23), (1, .t 24)], none, 0⟩, ⟨some 26, .bin .eql (.t 25) (.k (.d (.sc (.int .i64 (1))))), none, 0⟩]) (.cond (.t 26) (.reg false [⟨some 27, .ld true 2 (.t 3), none, 0⟩, ⟨some 28, .mv (.t 7), none, 0⟩, ⟨some 29, .mv (.t 1), none, 0⟩, ⟨some 30, .call 97 [(1, .t 27), (1, .t 28), (1, .t 29)], none, 0⟩, ⟨some 7, .asg (.t 30), none, 0⟩]) .skip)))) (.reg false [⟨some 17, .mv (.t 8), none, 0⟩, ⟨some 18, .bin .sub (.t 17) (.k (.d (.sc (.int .i64 (1))))), none, 0⟩, ⟨some 8, .asg (.t 18), none, 0⟩]))
/-- function 95 -/
def a95 : AFunc :=
  { np := 3, body := .seq (.reg false [⟨some 3, .box (.t 0), none, 0⟩, ⟨some 6, .asg (.k .nil), none, 0⟩]) (.seq (.reg false [⟨some 9, .ld true 2 (.t 3), none, 0⟩, ⟨some 10, .bsl false 1 1 [.d (.sc (.int .u64 (0)))] [(0, .k (.d (.sc (.int .u64 (1)))))], none, 0⟩, ⟨some 11, .call 96 [(1, .t 9), (1, .t 10)], none, 0⟩, ⟨some 7, .asg (.t 11), none, 0⟩]) (.seq (.seq (.reg false [⟨some 12, .mv (.t 2), none, 0⟩, ⟨some 13, .call 70 [(1, .t 12)], none, 0⟩, ⟨some 14, .bin .sub (.t 13) (.k (.d (.sc (.int .i64 (1))))), none, 0⟩, ⟨some 8, .asg (.t 14), none, 0⟩]) (.block 0 (.loop [1, 2, 3, 7, 8] b95_0))) (.seq (.reg false [⟨some 31, .mv (.t 7), none, 0⟩, ⟨some 6, .asg (.t 31), none, 0⟩]) .ret))), res := [.t 6 1] }
/-- function 96 -/
def a96 : AFunc :=
  { np := 2, body := .seq (.reg false [⟨some 2, .box (.t 0), none, 0⟩, ⟨some 4, .asg (.k .nil), none, 0⟩]) (.seq (.reg false [⟨some 8, .fad 0 (.t 2), none, 0⟩, ⟨some 9, .ld false 1 (.t 8), none, 0⟩, ⟨some 10, .len (.t 9), none, 0⟩, ⟨some 11, .mks false 1 8 [.d (.sc (.int .u64 (0)))] (.t 10) (.t 10), none, 0⟩, ⟨some 12, .mv (.t 1), none, 0⟩, ⟨some 13, .app false 1 8 (.t 11) (.t 12), none, 0⟩, ⟨some 5, .asg (.t 13), none, 0⟩]) (.seq (.reg false [⟨some 15, .mv (.t 5), none, 0⟩, ⟨some 16, .fad 0 (.t 2), none, 0⟩, ⟨some 17, .ld false 1 (.t 16), none, 0⟩, ⟨some 18, .call 55 [(1, .t 15), (1, .t 17)], none, 0⟩, ⟨some 14, .mv (.t 18), none, 0⟩, ⟨some 19, .ext (.t 14) 0, none, 0⟩, ⟨some 20, .ext (.t 14) 1, none, 0⟩, ⟨some 6, .asg (.t 19), none, 0⟩, ⟨some 7, .asg (.t 20), none, 0⟩]) (.seq (.reg false [⟨some 21, .ld true 2 (.t 2), none, 0⟩, ⟨some 22, .mv (.t 6), none, 0⟩, ⟨some 23, .call 98 [(1, .t 21), (1, .t 22)], none, 0⟩, ⟨some 4, .asg (.t 23), none, 0⟩]) .ret))), res := [.t 4 1] }
def b97_0 : ACode := .seq (.reg false [⟨some 22, .bin .lss (.t 21) (.t 20), none, 0⟩]) (.seq (.cond (.t 22) .skip (.exit 0)) (.seq (.block 1 (.seq (.reg false [⟨some 23, .iad 1 (.t 19) (.t 21), none, 0⟩, ⟨some 24, .ld false 1 (.t 23), none, 0⟩, ⟨some 10, .asg (.t 24), none, 0⟩]) (.seq (.reg false [⟨some 25, .mv (.t 8), none, 0⟩, ⟨some 26, .mv (.t 2), none, 0⟩, ⟨some 27, .mv (.t 10), none, 0⟩, ⟨some 28, .icall 121 [.t 25, .t 26, .t 27], none, 0⟩]) (.seq (.reg true [⟨some 29, .mv (.t 8), none, 0⟩, ⟨some 30, .fad 0 (.t 3), none, 0⟩, ⟨some 31, .ld false 1 (.t 30), none, 2⟩, ⟨some 32, .mv (.t 8), none, 0⟩, ⟨some 33, .iad 1 (.t 32) (.k (.d (.sc (.int .i64 (0))))), none, 8⟩, ⟨some 34, .ld false 1 (.t 33), none, 24⟩, ⟨some 35, .fad 1 (.t 3), none, 0⟩, ⟨some 36, .ld false 1 (.t 35), none, 64⟩, ⟨some 37, .bin .mul (.t 34) (.t 36), none, 248⟩, ⟨some 38, .icall 121 [.t 29, .t 31, .t 37], none, 511⟩]) (.seq (.reg false [⟨some 39, .mv (.t 8), none, 0⟩, ⟨some 40, .mv (.t 8), none, 0⟩, ⟨some 41, .slc 1 (.t 40) (some (.k (.d (.sc (.int .i64 (1)))))) none, none, 0⟩, ⟨some 42, .cpy (.t 39) (.t 41), none, 0⟩]) (.reg false [⟨some 43, .mv (.t 8), none, 0⟩, ⟨some 44, .mv (.t 7), none, 0⟩, ⟨some 45, .bin .add (.t 44) (.k (.d (.sc (.int .i64 (1))))), none, 0⟩, ⟨some 46, .iad 1 (.t 43) (.t 45), none, 0⟩, ⟨none, .st 1 (.t 46) (.k (.d (.sc (.int .u64 (0))))), none, 0⟩])))))) (.reg false [⟨some 47, .bin .add (.t 21) (.k (.d (.sc (.int .i64 (1))))), none, 0⟩, ⟨some 21, .mv (.t 47), none, 0⟩])))
/-- function 97 -/
def a97 : AFunc :=
  { np := 3, body := .seq (.reg false [⟨some 3, .box (.t 0), none, 0⟩, ⟨some 6, .asg (.k .nil), none, 0⟩]) (.seq (.reg false [⟨some 13, .fad 0 (.t 3), none, 0⟩, ⟨some 14, .ld false 1 (.t 13), none, 0⟩, ⟨some 15, .len (.t 14), none, 0⟩, ⟨some 7, .asg (.t 15), none, 0⟩]) (.seq (.reg false [⟨some 16, .mv (.t 7), none, 0⟩, ⟨some 17, .bin .add (.t 16) (.k (.d (.sc (.int .i64 (2))))), none, 0⟩, ⟨some 18, .mks true 1 8 [.d (.sc (.int .u64 (0)))] (.t 17) (.t 17), none, 0⟩, ⟨some 8, .asg (.t 18), none, 0⟩]) (.seq (.seq (.reg false [⟨some 19, .mv (.t 1), none, 0⟩, ⟨some 20, .len (.t 19), none, 0⟩, ⟨some 21, .mv (.k (.d (.sc (.int .i64 (0))))), none, 0⟩]) (.block 0 (.loop [2, 3, 7, 8, 19, 20, 21] b97_0))) (.seq (.seq (.reg false [⟨some 49, .mv (.t 8), none, 0⟩, ⟨some 50, .fad 0 (.t 3), none, 0⟩, ⟨some 51, .ld false 1 (.t 50), none, 0⟩, ⟨some 52, .call 63 [(1, .t 49), (1, .t 51)], none, 0⟩, ⟨some 48, .mv (.t 52), none, 0⟩, ⟨some 53, .ext (.t 48) 0, none, 0⟩, ⟨some 54, .ext (.t 48) 1, none, 0⟩, ⟨some 11, .asg (.t 53), none, 0⟩, ⟨some 12, .asg (.t 54), none, 0⟩]) (.seq (.reg false [⟨some 55, .mv (.t 12), none, 0⟩]) (.cond (.t 55) (.seq (.reg false [⟨some 56, .ld true 2 (.t 3), none, 0⟩, ⟨some 57, .mv (.t 11), none, 0⟩, ⟨some 58, .call 98 [(1, .t 56), (1, .t 57)], none, 0⟩, ⟨some 6, .asg (.t 58), none, 0⟩]) .ret) .skip))) (.seq (.reg false [⟨some 59, .mv (.t 8), none, 0⟩, ⟨some 60, .mv (.t 7), none, 0⟩, ⟨some 61, .slc 1 (.t 59) none (some (.t 60)), none, 0⟩, ⟨some 6, .asg (.t 61), none, 0⟩]) .ret))))), res := [.t 6 1] }
/-- function 98 -/
def a98 : AFunc :=
  { np := 2, body := .seq (.reg false [⟨some 2, .box (.t 0), none, 0⟩, ⟨some 4, .asg (.k .nil), none, 0⟩]) (.seq (.reg false [⟨some 6, .fad 0 (.t 2), none, 0⟩, ⟨some 7, .ld false 1 (.t 6), none, 0⟩, ⟨some 8, .len (.t 7), none, 0⟩, ⟨some 9, .mks true 1 8 [.d (.sc (.int .u64 (0)))] (.t 8) (.t 8), none, 0⟩, ⟨some 5, .asg (.t 9), none, 0⟩]) (.seq (.reg false [⟨some 10, .mv (.t 5), none, 0⟩, ⟨some 11, .mv (.t 1), none, 0⟩, ⟨some 12, .cpy (.t 10) (.t 11), none, 0⟩]) (.seq (.reg false [⟨some 13, .mv (.t 5), none, 0⟩, ⟨some 4, .asg (.t 13), none, 0⟩]) .ret))), res := [.t 4 1] }
/-- function 99 -/
def a99 : AFunc :=
  { np := 1, body := .seq (.reg false [⟨some 2, .asg (.k (.d (.sc (.int .i64 (0))))), none, 0⟩]) (.seq (.seq (.reg false [⟨some 3, .mv (.t 0), none, 0⟩, ⟨some 4, .bin .geq (.t 3) (.k (.d (.sc (.int .u64 (4294967296))))), none, 0⟩]) (.cond (.t 4) (.seq (.reg false [⟨some 5, .mv (.t 0), none, 0⟩, ⟨some 6, .bin .shr (.t 5) (.k (.d (.sc (.int .u64 (32))))), none, 0⟩, ⟨some 0, .asg (.t 6), none, 0⟩]) (.reg false [⟨some 2, .asg (.k (.d (.sc (.int .i64 (32))))), none, 0⟩])) .skip)) (.seq (.seq (.reg false [⟨some 7, .mv (.t 0), none, 0⟩, ⟨some 8, .bin .geq (.t 7) (.k (.d (.sc (.int .u64 (65536))))), none, 0⟩]) (.cond (.t 8) (.seq (.reg false [⟨some 9, .mv (.t 0), none, 0⟩, ⟨some 10, .bin .shr (.t 9) (.k (.d (.sc (.int .u64 (16))))), none, 0⟩, ⟨some 0, .asg (.t 10), none, 0⟩]) (.reg false [⟨some 11, .mv (.t 2), none, 0⟩, ⟨some 12, .bin .add (.t 11) (.k (.d (.sc (.int .i64 (16))))), none, 0⟩, ⟨some 2, .asg (.t 12), none, 0⟩])) .skip)) (.seq (.seq (.reg false [⟨some 13, .mv (.t 0), none, 0⟩, ⟨some 14, .bin .geq (.t 13) (.k (.d (.sc (.int .u64 (256))))), none, 0⟩]) (.cond (.t 14) (.seq (.reg false [⟨some 15, .mv (.t 0), none, 0⟩, ⟨some 16, .bin .shr (.t 15) (.k (.d (.sc (.int .u64 (8))))), none, 0⟩, ⟨some 0, .asg (.t 16), none, 0⟩]) (.reg false [⟨some 17, .mv (.t 2), none, 0⟩, ⟨some 18, .bin .add (.t 17) (.k (.d (.sc (.int .i64 (8))))), none, 0⟩, ⟨some 2, .asg (.t 18), none, 0⟩])) .skip)) (.seq (.reg false [⟨some 19, .mv (.t 2), none, 0⟩, ⟨some 20, .mv (.t 0), none, 0⟩, ⟨some 21, .cvi .u8 (.t 20), none, 0⟩, ⟨some 22, .sidx (.k (.d (.sc (.string ⟨#[0, 1, 2, 2, 3, 3, 3, 3, 4, 4, 4, 4, 4, 4, 4, 4, 5, 5, 5, 5, 5, 5, 5, 5, 5, 5, 5, 5, 5, 5, 5, 5, 6, 6, 6, 6, 6, 6, 6, 6, 6, 6, 6, 6, 6, 6, 6, 6, 6, 6, 6, 6, 6, 6, 6, 6, 6, 6, 6, 6, 6, 6, 6, 6, 7, 7, 7, 7, 7, 7, 7, 7, 7, 7, 7, 7, 7, 7, 7, 7, 7, 7, 7, 7, 7, 7, 7, 7, 7, 7, 7, 7, 7, 7, 7, 7, 7, 7, 7, 7, 7, 7, 7, 7, 7, 7, 7, 7, 7, 7, 7, 7, 7, 7, 7, 7, 7, 7, 7, 7, 7, 7, 7, 7, 7, 7, 7, 7, 8, 8, 8, 8, 8, 8, 8, 8, 8, 8, 8, 8, 8, 8, 8, 8, 8, 8, 8, 8, 8, 8, 8, 8, 8, 8, 8, 8, 8, 8, 8, 8, 8, 8, 8, 8, 8, 8, 8, 8, 8, 8, 8, 8, 8, 8, 8, 8, 8, 8, 8, 8, 8, 8, 8, 8, 8, 8, 8, 8, 8, 8, 8, 8, 8, 8, 8, 8, 8, 8, 8, 8, 8, 8, 8, 8, 8, 8, 8, 8, 8, 8, 8, 8, 8, 8, 8, 8, 8, 8, 8, 8, 8, 8, 8, 8, 8, 8, 8, 8, 8, 8, 8, 8, 8, 8, 8, 8, 8, 8, 8, 8, 8, 8, 8, 8, 8, 8, 8, 8, 8, 8, 8, 8, 8, 8, 8, 8]⟩)))) (.t 21), none, 0⟩, ⟨some 23, .cvi .i64 (.t 22), none, 0⟩, ⟨some 24, .bin .add (.t 19) (.t 23), none, 0⟩, ⟨some 2, .asg (.t 24), none, 0⟩]) .ret)))), res := [.t 2 1] }
/-- function 101 -/
def a101 : AFunc :=
  { np := 2, body := .seq (.reg false [⟨some 4, .asg (.k (.d (.sc (.int .u64 (0))))), none, 0⟩]) (.seq (.seq (.reg false [⟨some 5, .mv (.t 1), none, 0⟩, ⟨some 6, .bin .lss (.t 5) (.k (.d (.sc (.int .i64 (0))))), none, 0⟩, ⟨some 7, .mv (.t 6), none, 0⟩, ⟨some 8, .mv (.t 1), some (7, false), 0⟩, ⟨some 9, .mv (.t 0), some (7, false), 0⟩, ⟨some 10, .len (.t 9), some (7, false), 0⟩, ⟨some 11, .bin .geq (.t 8) (.t 10), some (7, false), 0⟩, ⟨some 12, .pick (.t 7) (.k (.d (.sc (.bool true)))) (.t 11), none, 0⟩]) (.cond (.t 12) (.seq (.reg false [⟨some 4, .asg (.k (.d (.sc (.int .u64 (0))))), none, 0⟩]) .ret) .skip)) (.seq (.reg false [⟨some 13, .mv (.t 0), none, 0⟩, ⟨some 14, .mv (.t 1), none, 0⟩, ⟨some 15, .iad 1 (.t 13) (.t 14), none, 0⟩, ⟨some 16, .ld false 1 (.t 15), none, 0⟩, ⟨some 4, .asg (.t 16), none, 0⟩]) .ret)), res := [.t 4 1] }
/-- function 104 -/
def a104 : AFunc :=
  { np := 2, body := .seq (.reg false [⟨some 4, .asg (.k (.d (.sc (.int .i64 (0))))), none, 0⟩]) (.seq (.reg false [⟨some 7, .mv (.t 0), none, 0⟩, ⟨some 8, .call 123 [(1, .t 7)], none, 0⟩, ⟨some 5, .asg (.t 8), none, 0⟩]) (.seq (.reg false [⟨some 9, .mv (.t 1), none, 0⟩, ⟨some 10, .call 123 [(1, .t 9)], none, 0⟩, ⟨some 6, .asg (.t 10), none, 0⟩]) (.seq (.seq (.reg false [⟨some 11, .mv (.t 5), none, 0⟩]) (.cond (.t 11) (.seq (.seq (.reg false [⟨some 12, .mv (.t 6), none, 0⟩]) (.cond (.t 12) (.seq (.reg false [⟨some 4, .asg (.k (.d (.sc (.int .i64 (0))))), none, 0⟩]) .ret) .skip)) (.seq (.reg false [⟨some 4, .asg (.k (.d (.sc (.int .i64 ((-1)))))), none, 0⟩]) .ret)) .skip)) (.seq (.seq (.reg false [⟨some 13, .mv (.t 6), none, 0⟩]) (.cond (.t 13) (.seq (.reg false [⟨some 4, .asg (.k (.d (.sc (.int .i64 (1))))), none, 0⟩]) .ret) .skip)) (.seq (.seq (.reg false [⟨some 14, .mv (.t 0), none, 0⟩, ⟨some 15, .mv (.t 1), none, 0⟩, ⟨some 16, .bin .lss (.t 14) (.t 15), none, 0⟩]) (.cond (.t 16) (.seq (.reg false [⟨some 4, .asg (.k (.d (.sc (.int .i64 ((-1)))))), none, 0⟩]) .ret) .skip)) (.seq (.seq (.reg false [⟨some 17, .mv (.t 0), none, 0⟩, ⟨some 18, .mv (.t 1), none, 0⟩, ⟨some 19, .bin .gtr (.t 17) (.t 18), none, 0⟩]) (.cond (.t 19) (.seq (.reg false [⟨some 4, .asg (.k (.d (.sc (.int .i64 (1))))), none, 0⟩]) .ret) .skip)) (.seq (.reg false [⟨some 4, .asg (.k (.d (.sc (.int .i64 (0))))), none, 0⟩]) .ret))))))), res := [.t 4 1] }
def b115_1 : ACode := .seq (.seq (.reg false [⟨some 102, .mv (.t 18), none, 0⟩, ⟨some 103, .bin .geq (.t 102) (.k (.d (.sc (.int .u64 (4294967296))))), none, 0⟩, ⟨some 104, .mv (.t 103), none, 0⟩, ⟨some 105, .mv (.t 18), some (104, false), 0⟩, ⟨some 106, .mv (.t 10), some (104, false), 0⟩, ⟨some 107, .bin .mul (.t 105) (.t 106), some (104, false), 0⟩, ⟨some 108, .mv (.t 16), some (104, false), 0⟩, ⟨some 109, .bin .mul (.k (.d (.sc (.int .u64 (4294967296))))) (.t 108), some (104, false), 0⟩, ⟨some 110, .mv (.t 14), some (104, false), 0⟩, ⟨some 111, .bin .add (.t 109) (.t 110), some (104, false), 0⟩, ⟨some 112, .bin .gtr (.t 107) (.t 111), some (104, false), 0⟩, ⟨some 113, .pick (.t 104) (.k (.d (.sc (.bool true)))) (.t 112), none, 0⟩]) (.cond (.t 113) .skip (.exit 2))) (.block 3 (.seq (.reg false [⟨some 114, .mv (.t 18), none, 0⟩, ⟨some 115, .bin .sub (.t 114) (.k (.d (.sc (.int .u64 (1))))), none, 0⟩, ⟨some 18, .asg (.t 115), none, 0⟩]) (.seq (.reg false [⟨some 116, .mv (.t 16), none, 0⟩, ⟨some 117, .mv (.t 9), none, 0⟩, ⟨some 118, .bin .add (.t 116) (.t 117), none, 0⟩, ⟨some 16, .asg (.t 118), none, 0⟩]) (.seq (.reg false [⟨some 119, .mv (.t 16), none, 0⟩, ⟨some 120, .bin .geq (.t 119) (.k (.d (.sc (.int .u64 (4294967296))))), none, 0⟩]) (.cond (.t 120) (.exit 2) .skip)))))
def b115_0 : ACode := .seq (.seq (.reg false [⟨some 67, .mv (.t 15), none, 0⟩, ⟨some 68, .bin .geq (.t 67) (.k (.d (.sc (.int .u64 (4294967296))))), none, 0⟩, ⟨some 69, .mv (.t 68), none, 0⟩, ⟨some 70, .mv (.t 15), some (69, false), 0⟩, ⟨some 71, .mv (.t 10), some (69, false), 0⟩, ⟨some 72, .bin .mul (.t 70) (.t 71), some (69, false), 0⟩, ⟨some 73, .mv (.t 16), some (69, false), 0⟩, ⟨some 74, .bin .mul (.k (.d (.sc (.int .u64 (4294967296))))) (.t 73), some (69, false), 0⟩, ⟨some 75, .mv (.t 13), some (69, false), 0⟩, ⟨some 76, .bin .add (.t 74) (.t 75), some (69, false), 0⟩, ⟨some 77, .bin .gtr (.t 72) (.t 76), some (69, false), 0⟩, ⟨some 78, .pick (.t 69) (.k (.d (.sc (.bool true)))) (.t 77), none, 0⟩]) (.cond (.t 78) .skip (.exit 0))) (.block 1 (.seq (.reg false [⟨some 79, .mv (.t 15), none, 0⟩, ⟨some 80, .bin .sub (.t 79) (.k (.d (.sc (.int .u64 (1))))), none, 0⟩, ⟨some 15, .asg (.t 80), none, 0⟩]) (.seq (.reg false [⟨some 81, .mv (.t 16), none, 0⟩, ⟨some 82, .mv (.t 9), none, 0⟩, ⟨some 83, .bin .add (.t 81) (.t 82), none, 0⟩, ⟨some 16, .asg (.t 83), none, 0⟩]) (.seq (.reg false [⟨some 84, .mv (.t 16), none, 0⟩, ⟨some 85, .bin .geq (.t 84) (.k (.d (.sc (.int .u64 (4294967296))))), none, 0⟩]) (.cond (.t 85) (.exit 0) .skip)))))
/-- function 115 -/
def a115 : AFunc :=
  { np := 3, body := .seq (.reg false [⟨some 6, .asg (.k (.d (.sc (.int .u64 (0))))), none, 0⟩, ⟨some 7, .asg (.k (.d (.sc (.int .u64 (0))))), none, 0⟩]) (.seq (.seq (.reg false [⟨some 19, .mv (.t 2), none, 0⟩, ⟨some 20, .bin .eql (.t 19) (.k (.d (.sc (.int .u64 (0))))), none, 0⟩]) (.cond (.t 20) (.reg false [⟨some 21, .bad, none, 0⟩, ⟨none, .bad, none, 0⟩]) .skip)) (.seq (.seq (.reg false [⟨some 22, .mv (.t 2), none, 0⟩, ⟨some 23, .mv (.t 0), none, 0⟩, ⟨some 24, .bin .leq (.t 22) (.t 23), none, 0⟩]) (.cond (.t 24) (.reg false [⟨some 25, .bad, none, 0⟩, ⟨none, .bad, none, 0⟩]) .skip)) (.seq (.seq (.reg false [⟨some 26, .mv (.t 0), none, 0⟩, ⟨some 27, .bin .eql (.t 26) (.k (.d (.sc (.int .u64 (0))))), none, 0⟩]) (.cond (.t 27) (.seq (.reg true [⟨some 28, .mv (.t 1), none, 0⟩, ⟨some 29, .mv (.t 2), none, 0⟩, ⟨some 30, .bin .quo (.t 28) (.t 29), none, 3⟩, ⟨some 31, .mv (.t 1), none, 0⟩, ⟨some 32, .mv (.t 2), none, 0⟩, ⟨some 33, .bin .rem (.t 31) (.t 32), none, 24⟩, ⟨some 6, .asg (.t 30), none, 7⟩, ⟨some 7, .asg (.t 33), none, 127⟩]) .ret) .skip)) (.seq (.reg false [⟨some 34, .mv (.t 2), none, 0⟩, ⟨some 35, .call 116 [(1, .t 34)], none, 0⟩, ⟨some 36, .cvi .u64 (.t 35), none, 0⟩, ⟨some 8, .asg (.t 36), none, 0⟩]) (.seq (.reg false [⟨some 37, .mv (.t 2), none, 0⟩, ⟨some 38, .mv (.t 8), none, 0⟩, ⟨some 39, .bin .shl (.t 37) (.t 38), none, 0⟩, ⟨some 2, .asg (.t 39), none, 0⟩]) (.seq (.reg false [⟨some 40, .mv (.t 2), none, 0⟩, ⟨some 41, .bin .shr (.t 40) (.k (.d (.sc (.int .u64 (32))))), none, 0⟩, ⟨some 9, .asg (.t 41), none, 0⟩]) (.seq (.reg false [⟨some 42, .mv (.t 2), none, 0⟩, ⟨some 43, .bin .and (.t 42) (.k (.d (.sc (.int .u64 (4294967295))))), none, 0⟩, ⟨some 10, .asg (.t 43), none, 0⟩]) (.seq (.reg false [⟨some 44, .mv (.t 0), none, 0⟩, ⟨some 45, .mv (.t 8), none, 0⟩, ⟨some 46, .bin .shl (.t 44) (.t 45), none, 0⟩, ⟨some 47, .mv (.t 1), none, 0⟩, ⟨some 48, .mv (.t 8), none, 0⟩, ⟨some 49, .bin .sub (.k (.d (.sc (.int .u64 (64))))) (.t 48), none, 0⟩, ⟨some 50, .bin .shr (.t 47) (.t 49), none, 0⟩, ⟨some 51, .bin .or (.t 46) (.t 50), none, 0⟩, ⟨some 11, .asg (.t 51), none, 0⟩]) (.seq (.reg false [⟨some 52, .mv (.t 1), none, 0⟩, ⟨some 53, .mv (.t 8), none, 0⟩, ⟨some 54, .bin .shl (.t 52) (.t 53), none, 0⟩, ⟨some 12, .asg (.t 54), none, 0⟩]) (.seq (.reg false [⟨some 55, .mv (.t 12), none, 0⟩, ⟨some 56, .bin .shr (.t 55) (.k (.d (.sc (.int .u64 (32))))), none, 0⟩, ⟨some 13, .asg (.t 56), none, 0⟩]) (.seq (.reg false [⟨some 57, .mv (.t 12), none, 0⟩, ⟨some 58, .bin .and (.t 57) (.k (.d (.sc (.int .u64 (4294967295))))), none, 0⟩, ⟨some 14, .asg (.t 58), none, 0⟩]) (.seq (.reg false [⟨some 59, .mv (.t 11), none, 0⟩, ⟨some 60, .mv (.t 9), none, 0⟩, ⟨some 61, .bin .quo (.t 59) (.t 60), none, 0⟩, ⟨some 15, .asg (.t 61), none, 0⟩]) (.seq (.reg false [⟨some 62, .mv (.t 11), none, 0⟩, ⟨some 63, .mv (.t 15), none, 0⟩, ⟨some 64, .mv (.t 9), none, 0⟩, ⟨some 65, .bin .mul (.t 63) (.t 64), none, 0⟩, ⟨some 66, .bin .sub (.t 62) (.t 65), none, 0⟩, ⟨some 16, .asg (.t 66), none, 0⟩]) (.seq (.block 0 (.loop [2, 8, 9, 10, 11, 13, 14, 15, 16] b115_0)) (.seq (.reg false [⟨some 86, .mv (.t 11), none, 0⟩, ⟨some 87, .bin .mul (.t 86) (.k (.d (.sc (.int .u64 (4294967296))))), none, 0⟩, ⟨some 88, .mv (.t 13), none, 0⟩, ⟨some 89, .bin .add (.t 87) (.t 88), none, 0⟩, ⟨some 90, .mv (.t 15), none, 0⟩, ⟨some 91, .mv (.t 2), none, 0⟩, ⟨some 92, .bin .mul (.t 90) (.t 91), none, 0⟩, ⟨some 93, .bin .sub (.t 89) (.t 92), none, 0⟩, ⟨some 17, .asg (.t 93), none, 0⟩]) (.seq (.reg false [⟨some 94, .mv (.t 17), none, 0⟩, ⟨some 95, .mv (.t 9), none, 0⟩, ⟨some 96, .bin .quo (.t 94) (.t 95), none, 0⟩, ⟨some 18, .asg (.t 96), none, 0⟩]) (.seq (.reg false [⟨some 97, .mv (.t 17), none, 0⟩, ⟨some 98, .mv (.t 18), none, 0⟩, ⟨some 99, .mv (.t 9), none, 0⟩, ⟨some 100, .bin .mul (.t 98) (.t 99), none, 0⟩, ⟨some 101, .bin .sub (.t 97) (.t 100), none, 0⟩, ⟨some 16, .asg (.t 101), none, 0⟩]) (.seq (.block 2 (.loop [2, 8, 9, 10, 14, 15, 16, 17, 18] b115_1)) (.seq (.reg false [⟨some 121, .mv (.t 15), none, 0⟩, ⟨some 122, .bin .mul (.t 121) (.k (.d (.sc (.int .u64 (4294967296))))), none, 0⟩, ⟨some 123, .mv (.t 18), none, 0⟩, ⟨some 124, .bin .add (.t 122) (.t 123), none, 0⟩, ⟨some 125, .mv (.t 17), none, 0⟩, ⟨some 126, .bin .mul (.t 125) (.k (.d (.sc (.int .u64 (4294967296))))), none, 0⟩, ⟨some 127, .mv (.t 14), none, 0⟩, ⟨some 128, .bin .add (.t 126) (.t 127), none, 0⟩, ⟨some 129, .mv (.t 18), none, 0⟩, ⟨some 130, .mv (.t 2), none, 0⟩, ⟨some 131, .bin .mul (.t 129) (.t 130), none, 0⟩, ⟨some 132, .bin .sub (.t 128) (.t 131), none, 0⟩, ⟨some 133, .mv (.t 8), none, 0⟩, ⟨some 134, .bin .shr (.t 132) (.t 133), none, 0⟩, ⟨some 6, .asg (.t 124), none, 0⟩, ⟨some 7, .asg (.t 134), none, 0⟩]) .ret))))))))))))))))))), res := [.t 6 1, .t 7 1] }
/-- function 116 -/
def a116 : AFunc :=
  { np := 1, body := .seq (.reg false [⟨some 2, .asg (.k (.d (.sc (.int .i64 (0))))), none, 0⟩]) (.seq (.reg false [⟨some 3, .mv (.t 0), none, 0⟩, ⟨some 4, .call 99 [(1, .t 3)], none, 0⟩, ⟨some 5, .bin .sub (.k (.d (.sc (.int .i64 (64))))) (.t 4), none, 0⟩, ⟨some 2, .asg (.t 5), none, 0⟩]) .ret), res := [.t 2 1] }
def b117_0 : ACode := .seq (.reg false [⟨some 15, .bin .lss (.t 14) (.t 13), none, 0⟩]) (.seq (.cond (.t 15) .skip (.exit 0)) (.seq (.block 1 (.seq (.reg false [⟨some 16, .mv (.t 14), none, 0⟩, ⟨some 17, .iad 1 (.t 12) (.t 14), none, 0⟩, ⟨some 18, .ld false 1 (.t 17), none, 0⟩, ⟨some 6, .asg (.t 16), none, 0⟩, ⟨some 7, .asg (.t 18), none, 0⟩]) (.seq (.reg true [⟨some 19, .mv (.t 5), none, 0⟩, ⟨some 20, .mv (.t 6), none, 0⟩, ⟨some 21, .iad 1 (.t 19) (.t 20), none, 3⟩, ⟨some 22, .ld false 1 (.t 21), none, 7⟩, ⟨some 23, .mv (.t 7), none, 0⟩, ⟨some 24, .mv (.t 1), none, 0⟩, ⟨some 25, .bin .shl (.t 23) (.t 24), none, 48⟩, ⟨some 26, .bin .or (.t 22) (.t 25), none, 127⟩, ⟨some 27, .iad 1 (.t 19) (.t 20), none, 255⟩, ⟨none, .st 1 (.t 27) (.t 26), none, 511⟩]) (.reg false [⟨some 28, .mv (.t 5), none, 0⟩, ⟨some 29, .mv (.t 6), none, 0⟩, ⟨some 30, .bin .add (.t 29) (.k (.d (.sc (.int .i64 (1))))), none, 0⟩, ⟨some 31, .mv (.t 7), none, 0⟩, ⟨some 32, .bin .shr (.t 31) (.k (.d (.sc (.int .u64 (1))))), none, 0⟩, ⟨some 33, .mv (.t 1), none, 0⟩, ⟨some 34, .bin .sub (.k (.d (.sc (.int .i64 (63))))) (.t 33), none, 0⟩, ⟨some 35, .bin .shr (.t 32) (.t 34), none, 0⟩, ⟨some 36, .iad 1 (.t 28) (.t 30), none, 0⟩, ⟨none, .st 1 (.t 36) (.t 35), none, 0⟩])))) (.reg false [⟨some 37, .bin .add (.t 14) (.k (.d (.sc (.int .i64 (1))))), none, 0⟩, ⟨some 14, .mv (.t 37), none, 0⟩])))
/-- function 117 -/
def a117 : AFunc :=
  { np := 2, body := .seq (.reg false [⟨some 4, .asg (.k .nil), none, 0⟩]) (.seq (.reg false [⟨some 8, .mv (.t 0), none, 0⟩, ⟨some 9, .len (.t 8), none, 0⟩, ⟨some 10, .bin .add (.t 9) (.k (.d (.sc (.int .i64 (1))))), none, 0⟩, ⟨some 11, .mks true 1 8 [.d (.sc (.int .u64 (0)))] (.t 10) (.t 10), none, 0⟩, ⟨some 5, .asg (.t 11), none, 0⟩]) (.seq (.seq (.reg false [⟨some 12, .mv (.t 0), none, 0⟩, ⟨some 13, .len (.t 12), none, 0⟩, ⟨some 14, .mv (.k (.d (.sc (.int .i64 (0))))), none, 0⟩]) (.block 0 (.loop [1, 5, 12, 13, 14] b117_0))) (.seq (.reg false [⟨some 38, .mv (.t 5), none, 0⟩, ⟨some 4, .asg (.t 38), none, 0⟩]) .ret))), res := [.t 4 1] }
def b118_1 : ACode := .seq (.seq (.reg false [⟨some 86, .mv (.t 11), none, 0⟩, ⟨some 87, .un .not (.t 86), none, 0⟩]) (.cond (.t 87) .skip (.exit 2))) (.block 3 (.seq (.reg false [⟨some 88, .mv (.t 6), none, 0⟩, ⟨some 89, .bin .sub (.t 88) (.k (.d (.sc (.int .u64 (1))))), none, 0⟩, ⟨some 6, .asg (.t 89), none, 0⟩]) (.reg false [⟨some 90, .mv (.t 0), none, 0⟩, ⟨some 91, .mv (.t 1), none, 0⟩, ⟨some 92, .icall 127 [.t 90, .t 91], none, 0⟩, ⟨some 11, .asg (.t 92), none, 0⟩])))
def b118_0 : ACode := .block 1 (.seq (.reg false [⟨some 43, .mv (.t 6), none, 0⟩, ⟨some 44, .mv (.t 1), none, 0⟩, ⟨some 45, .mv (.t 5), none, 0⟩, ⟨some 46, .bin .sub (.t 45) (.k (.d (.sc (.int .i64 (2))))), none, 0⟩, ⟨some 47, .iad 1 (.t 44) (.t 46), none, 0⟩, ⟨some 48, .ld false 1 (.t 47), none, 0⟩, ⟨some 49, .call 120 [(1, .t 43), (1, .t 48)], none, 0⟩, ⟨some 42, .mv (.t 49), none, 0⟩, ⟨some 50, .ext (.t 42) 0, none, 0⟩, ⟨some 51, .ext (.t 42) 1, none, 0⟩, ⟨some 8, .asg (.t 50), none, 0⟩, ⟨some 9, .asg (.t 51), none, 0⟩]) (.seq (.seq (.reg false [⟨some 52, .mv (.t 8), none, 0⟩, ⟨some 53, .mv (.t 7), none, 0⟩, ⟨some 54, .bin .lss (.t 52) (.t 53), none, 0⟩, ⟨some 55, .mv (.t 54), none, 0⟩, ⟨some 56, .mv (.t 8), some (55, false), 0⟩, ⟨some 57, .mv (.t 7), some (55, false), 0⟩, ⟨some 58, .bin .eql (.t 56) (.t 57), some (55, false), 0⟩, ⟨some 59, .mv (.t 58), some (55, false), 0⟩, ⟨some 60, .mv (.t 9), some (59, true), 0⟩, ⟨some 61, .mv (.t 0), some (59, true), 0⟩, ⟨some 62, .mv (.t 5), some (59, true), 0⟩, ⟨some 63, .bin .sub (.t 62) (.k (.d (.sc (.int .i64 (2))))), some (59, true), 0⟩, ⟨some 64, .iad 1 (.t 61) (.t 63), some (59, true), 0⟩, ⟨some 65, .ld false 1 (.t 64), some (59, true), 0⟩, ⟨some 66, .bin .leq (.t 60) (.t 65), some (59, true), 0⟩, ⟨some 67, .pick (.t 59) (.t 66) (.k (.d (.sc (.bool false)))), some (55, false), 0⟩, ⟨some 68, .pick (.t 55) (.k (.d (.sc (.bool true)))) (.t 67), none, 0⟩]) (.cond (.t 68) (.exit 0) .skip)) (.seq (.reg false [⟨some 69, .mv (.t 6), none, 0⟩, ⟨some 70, .bin .sub (.t 69) (.k (.d (.sc (.int .u64 (1))))), none, 0⟩, ⟨some 6, .asg (.t 70), none, 0⟩]) (.seq (.reg false [⟨some 71, .mv (.t 7), none, 0⟩, ⟨some 72, .mv (.t 1), none, 0⟩, ⟨some 73, .mv (.t 5), none, 0⟩, ⟨some 74, .bin .sub (.t 73) (.k (.d (.sc (.int .i64 (1))))), none, 0⟩, ⟨some 75, .iad 1 (.t 72) (.t 74), none, 0⟩, ⟨some 76, .ld false 1 (.t 75), none, 0⟩, ⟨some 77, .bin .add (.t 71) (.t 76), none, 0⟩, ⟨some 10, .asg (.t 77), none, 0⟩]) (.seq (.seq (.reg false [⟨some 78, .mv (.t 10), none, 0⟩, ⟨some 79, .mv (.t 7), none, 0⟩, ⟨some 80, .bin .lss (.t 78) (.t 79), none, 0⟩]) (.cond (.t 80) (.exit 0) .skip)) (.reg false [⟨some 81, .mv (.t 10), none, 0⟩, ⟨some 7, .asg (.t 81), none, 0⟩]))))))
/-- function 118 -/
def a118 : AFunc :=
  { np := 2, body := .seq (.reg false [⟨some 4, .asg (.k (.d (.sc (.int .u64 (0))))), none, 0⟩]) (.seq (.reg false [⟨some 12, .mv (.t 1), none, 0⟩, ⟨some 13, .len (.t 12), none, 0⟩, ⟨some 5, .asg (.t 13), none, 0⟩]) (.seq (.reg false [⟨some 6, .asg (.k (.d (.sc (.int .u64 (18446744073709551615))))), none, 0⟩]) (.seq (.seq (.reg true [⟨some 14, .mv (.t 0), none, 0⟩, ⟨some 15, .mv (.t 5), none, 0⟩, ⟨some 16, .iad 1 (.t 14) (.t 15), none, 3⟩, ⟨some 17, .ld false 1 (.t 16), none, 7⟩, ⟨some 18, .mv (.t 1), none, 0⟩, ⟨some 19, .mv (.t 5), none, 0⟩, ⟨some 20, .bin .sub (.t 19) (.k (.d (.sc (.int .i64 (1))))), none, 32⟩, ⟨some 21, .iad 1 (.t 18) (.t 20), none, 112⟩, ⟨some 22, .ld false 1 (.t 21), none, 240⟩, ⟨some 23, .bin .lss (.t 17) (.t 22), none, 511⟩]) (.cond (.t 23) (.seq (.reg false [⟨some 7, .asg (.k (.d (.sc (.int .u64 (0))))), none, 0⟩]) (.seq (.reg true [⟨some 25, .mv (.t 0), none, 0⟩, ⟨some 26, .mv (.t 5), none, 0⟩, ⟨some 27, .iad 1 (.t 25) (.t 26), none, 3⟩, ⟨some 28, .ld false 1 (.t 27), none, 7⟩, ⟨some 29, .mv (.t 0), none, 0⟩, ⟨some 30, .mv (.t 5), none, 0⟩, ⟨some 31, .bin .sub (.t 30) (.k (.d (.sc (.int .i64 (1))))), none, 32⟩, ⟨some 32, .iad 1 (.t 29) (.t 31), none, 112⟩, ⟨some 33, .ld false 1 (.t 32), none, 240⟩, ⟨some 34, .mv (.t 1), none, 0⟩, ⟨some 35, .mv (.t 5), none, 0⟩, ⟨some 36, .bin .sub (.t 35) (.k (.d (.sc (.int .i64 (1))))), none, 1024⟩, ⟨some 37, .iad 1 (.t 34) (.t 36), none, 3584⟩, ⟨some 38, .ld false 1 (.t 37), none, 7680⟩, ⟨some 39, .call 115 [(1, .t 28), (1, .t 33), (1, .t 38)], none, 16383⟩, ⟨some 24, .mv (.t 39), none, 32767⟩, ⟨some 40, .ext (.t 24) 0, none, 65535⟩, ⟨some 41, .ext (.t 24) 1, none, 65535⟩, ⟨some 6, .asg (.t 40), none, 131071⟩, ⟨some 7, .asg (.t 41), none, 524287⟩]) (.block 0 (.loop [0, 1, 5, 6, 7] b118_0)))) .skip)) (.seq (.seq (.reg false [⟨some 82, .mv (.t 0), none, 0⟩, ⟨some 83, .mv (.t 1), none, 0⟩, ⟨some 84, .mv (.t 6), none, 0⟩, ⟨some 85, .icall 126 [.t 82, .t 83, .t 84], none, 0⟩]) (.cond (.t 85) (.seq (.reg false [⟨some 11, .asg (.k (.d (.sc (.bool false)))), none, 0⟩]) (.block 2 (.loop [0, 1, 6, 11] b118_1))) .skip)) (.seq (.reg false [⟨some 93, .mv (.t 6), none, 0⟩, ⟨some 4, .asg (.t 93), none, 0⟩]) .ret))))), res := [.t 4 1] }
def b119_0 : ACode := .seq (.reg false [⟨some 13, .bin .lss (.t 12) (.t 11), none, 0⟩]) (.seq (.cond (.t 13) .skip (.exit 0)) (.seq (.block 1 (.seq (.reg false [⟨some 14, .mv (.t 12), none, 0⟩, ⟨some 6, .asg (.t 14), none, 0⟩]) (.seq (.reg false [⟨some 15, .mv (.t 5), none, 0⟩, ⟨some 16, .mv (.t 6), none, 0⟩, ⟨some 17, .mv (.t 0), none, 0⟩, ⟨some 18, .mv (.t 6), none, 0⟩, ⟨some 19, .iad 1 (.t 17) (.t 18), none, 0⟩, ⟨some 20, .ld false 1 (.t 19), none, 0⟩, ⟨some 21, .mv (.t 1), none, 0⟩, ⟨some 22, .bin .shr (.t 20) (.t 21), none, 0⟩, ⟨some 23, .iad 1 (.t 15) (.t 16), none, 0⟩, ⟨none, .st 1 (.t 23) (.t 22), none, 0⟩]) (.seq (.reg false [⟨some 24, .mv (.t 6), none, 0⟩, ⟨some 25, .bin .add (.t 24) (.k (.d (.sc (.int .i64 (1))))), none, 0⟩, ⟨some 26, .mv (.t 0), none, 0⟩, ⟨some 27, .len (.t 26), none, 0⟩, ⟨some 28, .bin .lss (.t 25) (.t 27), none, 0⟩]) (.cond (.t 28) (.reg true [⟨some 29, .mv (.t 5), none, 0⟩, ⟨some 30, .mv (.t 6), none, 0⟩, ⟨some 31, .iad 1 (.t 29) (.t 30), none, 3⟩, ⟨some 32, .ld false 1 (.t 31), none, 7⟩, ⟨some 33, .mv (.t 0), none, 0⟩, ⟨some 34, .mv (.t 6), none, 0⟩, ⟨some 35, .bin .add (.t 34) (.k (.d (.sc (.int .i64 (1))))), none, 32⟩, ⟨some 36, .iad 1 (.t 33) (.t 35), none, 112⟩, ⟨some 37, .ld false 1 (.t 36), none, 240⟩, ⟨some 38, .bin .shl (.t 37) (.k (.d (.sc (.int .u64 (1))))), none, 496⟩, ⟨some 39, .mv (.t 1), none, 0⟩, ⟨some 40, .bin .sub (.k (.d (.sc (.int .i64 (63))))) (.t 39), none, 1024⟩, ⟨some 41, .bin .shl (.t 38) (.t 40), none, 4080⟩, ⟨some 42, .bin .or (.t 32) (.t 41), none, 8191⟩, ⟨some 43, .iad 1 (.t 29) (.t 30), none, 16383⟩, ⟨none, .st 1 (.t 43) (.t 42), none, 32767⟩]) .skip))))) (.reg false [⟨some 44, .bin .add (.t 12) (.k (.d (.sc (.int .i64 (1))))), none, 0⟩, ⟨some 12, .mv (.t 44), none, 0⟩])))
/-- function 119 -/
def a119 : AFunc :=
  { np := 2, body := .seq (.reg false [⟨some 4, .asg (.k .nil), none, 0⟩]) (.seq (.reg false [⟨some 7, .mv (.t 0), none, 0⟩, ⟨some 8, .len (.t 7), none, 0⟩, ⟨some 9, .mks true 1 8 [.d (.sc (.int .u64 (0)))] (.t 8) (.t 8), none, 0⟩, ⟨some 5, .asg (.t 9), none, 0⟩]) (.seq (.seq (.reg false [⟨some 10, .mv (.t 0), none, 0⟩, ⟨some 11, .len (.t 10), none, 0⟩, ⟨some 12, .mv (.k (.d (.sc (.int .i64 (0))))), none, 0⟩]) (.block 0 (.loop [0, 1, 5, 11, 12] b119_0))) (.seq (.reg false [⟨some 45, .mv (.t 5), none, 0⟩, ⟨some 46, .call 68 [(1, .t 45)], none, 0⟩, ⟨some 4, .asg (.t 46), none, 0⟩]) .ret))), res := [.t 4 1] }
/-- function 120 -/
def a120 : AFunc :=
  { np := 2, body := .seq (.reg false [⟨some 4, .asg (.k (.d (.sc (.int .u64 (0))))), none, 0⟩, ⟨some 5, .asg (.k (.d (.sc (.int .u64 (0))))), none, 0⟩]) (.seq (.reg false [⟨some 14, .mv (.t 0), none, 0⟩, ⟨some 15, .bin .and (.t 14) (.k (.d (.sc (.int .u64 (4294967295))))), none, 0⟩, ⟨some 6, .asg (.t 15), none, 0⟩]) (.seq (.reg false [⟨some 16, .mv (.t 0), none, 0⟩, ⟨some 17, .bin .shr (.t 16) (.k (.d (.sc (.int .u64 (32))))), none, 0⟩, ⟨some 7, .asg (.t 17), none, 0⟩]) (.seq (.reg false [⟨some 18, .mv (.t 1), none, 0⟩, ⟨some 19, .bin .and (.t 18) (.k (.d (.sc (.int .u64 (4294967295))))), none, 0⟩, ⟨some 8, .asg (.t 19), none, 0⟩]) (.seq (.reg false [⟨some 20, .mv (.t 1), none, 0⟩, ⟨some 21, .bin .shr (.t 20) (.k (.d (.sc (.int .u64 (32))))), none, 0⟩, ⟨some 9, .asg (.t 21), none, 0⟩]) (.seq (.reg false [⟨some 22, .mv (.t 6), none, 0⟩, ⟨some 23, .mv (.t 8), none, 0⟩, ⟨some 24, .bin .mul (.t 22) (.t 23), none, 0⟩, ⟨some 10, .asg (.t 24), none, 0⟩]) (.seq (.reg false [⟨some 25, .mv (.t 7), none, 0⟩, ⟨some 26, .mv (.t 8), none, 0⟩, ⟨some 27, .bin .mul (.t 25) (.t 26), none, 0⟩, ⟨some 28, .mv (.t 10), none, 0⟩, ⟨some 29, .bin .shr (.t 28) (.k (.d (.sc (.int .u64 (32))))), none, 0⟩, ⟨some 30, .bin .add (.t 27) (.t 29), none, 0⟩, ⟨some 11, .asg (.t 30), none, 0⟩]) (.seq (.reg false [⟨some 31, .mv (.t 11), none, 0⟩, ⟨some 32, .bin .and (.t 31) (.k (.d (.sc (.int .u64 (4294967295))))), none, 0⟩, ⟨some 12, .asg (.t 32), none, 0⟩]) (.seq (.reg false [⟨some 33, .mv (.t 11), none, 0⟩, ⟨some 34, .bin .shr (.t 33) (.k (.d (.sc (.int .u64 (32))))), none, 0⟩, ⟨some 13, .asg (.t 34), none, 0⟩]) (.seq (.reg false [⟨some 35, .mv (.t 12), none, 0⟩, ⟨some 36, .mv (.t 6), none, 0⟩, ⟨some 37, .mv (.t 9), none, 0⟩, ⟨some 38, .bin .mul (.t 36) (.t 37), none, 0⟩, ⟨some 39, .bin .add (.t 35) (.t 38), none, 0⟩, ⟨some 12, .asg (.t 39), none, 0⟩]) (.seq (.reg false [⟨some 40, .mv (.t 7), none, 0⟩, ⟨some 41, .mv (.t 9), none, 0⟩, ⟨some 42, .bin .mul (.t 40) (.t 41), none, 0⟩, ⟨some 43, .mv (.t 13), none, 0⟩, ⟨some 44, .bin .add (.t 42) (.t 43), none, 0⟩, ⟨some 45, .mv (.t 12), none, 0⟩, ⟨some 46, .bin .shr (.t 45) (.k (.d (.sc (.int .u64 (32))))), none, 0⟩, ⟨some 47, .bin .add (.t 44) (.t 46), none, 0⟩, ⟨some 4, .asg (.t 47), none, 0⟩]) (.seq (.reg false [⟨some 48, .mv (.t 0), none, 0⟩, ⟨some 49, .mv (.t 1), none, 0⟩, ⟨some 50, .bin .mul (.t 48) (.t 49), none, 0⟩, ⟨some 5, .asg (.t 50), none, 0⟩]) .ret))))))))))), res := [.t 4 1, .t 5 1] }
def b121_0 : ACode := .seq (.reg false [⟨some 18, .bin .lss (.t 17) (.t 16), none, 0⟩]) (.seq (.cond (.t 18) .skip (.exit 0)) (.seq (.block 1 (.seq (.reg false [⟨some 19, .mv (.t 17), none, 0⟩, ⟨some 20, .iad 1 (.t 15) (.t 17), none, 0⟩, ⟨some 21, .ld false 1 (.t 20), none, 0⟩, ⟨some 8, .asg (.t 19), none, 0⟩, ⟨some 9, .asg (.t 21), none, 0⟩]) (.seq (.reg false [⟨some 23, .mv (.t 2), none, 0⟩, ⟨some 24, .mv (.t 9), none, 0⟩, ⟨some 25, .call 120 [(1, .t 23), (1, .t 24)], none, 0⟩, ⟨some 22, .mv (.t 25), none, 0⟩, ⟨some 26, .ext (.t 22) 0, none, 0⟩, ⟨some 27, .ext (.t 22) 1, none, 0⟩, ⟨some 10, .asg (.t 26), none, 0⟩, ⟨some 11, .asg (.t 27), none, 0⟩]) (.seq (.reg false [⟨some 29, .mv (.t 11), none, 0⟩, ⟨some 30, .mv (.t 0), none, 0⟩, ⟨some 31, .mv (.t 8), none, 0⟩, ⟨some 32, .iad 1 (.t 30) (.t 31), none, 0⟩, ⟨some 33, .ld false 1 (.t 32), none, 0⟩, ⟨some 34, .call 100 [(1, .t 29), (1, .t 33), (1, .k (.d (.sc (.int .u64 (0)))))], none, 0⟩, ⟨some 28, .mv (.t 34), none, 0⟩, ⟨some 35, .ext (.t 28) 0, none, 0⟩, ⟨some 36, .ext (.t 28) 1, none, 0⟩, ⟨some 11, .asg (.t 35), none, 0⟩, ⟨some 12, .asg (.t 36), none, 0⟩]) (.seq (.reg false [⟨some 37, .mv (.t 10), none, 0⟩, ⟨some 38, .mv (.t 12), none, 0⟩, ⟨some 39, .bin .add (.t 37) (.t 38), none, 0⟩, ⟨some 10, .asg (.t 39), none, 0⟩]) (.seq (.reg false [⟨some 41, .mv (.t 0), none, 0⟩, ⟨some 42, .mv (.t 8), none, 0⟩, ⟨some 43, .mv (.t 11), none, 0⟩, ⟨some 44, .mv (.t 7), none, 0⟩, ⟨some 45, .call 100 [(1, .t 43), (1, .t 44), (1, .k (.d (.sc (.int .u64 (0)))))], none, 0⟩, ⟨some 40, .mv (.t 45), none, 0⟩, ⟨some 46, .ext (.t 40) 0, none, 0⟩, ⟨some 47, .ext (.t 40) 1, none, 0⟩, ⟨some 48, .iad 1 (.t 41) (.t 42), none, 0⟩, ⟨none, .st 1 (.t 48) (.t 46), none, 0⟩, ⟨some 12, .asg (.t 47), none, 0⟩]) (.reg false [⟨some 49, .mv (.t 10), none, 0⟩, ⟨some 50, .mv (.t 12), none, 0⟩, ⟨some 51, .bin .add (.t 49) (.t 50), none, 0⟩, ⟨some 7, .asg (.t 51), none, 0⟩]))))))) (.reg false [⟨some 52, .bin .add (.t 17) (.k (.d (.sc (.int .i64 (1))))), none, 0⟩, ⟨some 17, .mv (.t 52), none, 0⟩])))
/-- function 121 -/
def a121 : AFunc :=
  { np := 3, body := .seq (.reg false [⟨some 13, .mv (.t 1), none, 0⟩, ⟨some 14, .len (.t 13), none, 0⟩, ⟨some 6, .asg (.t 14), none, 0⟩]) (.seq (.reg false [⟨some 7, .asg (.k (.d (.sc (.int .u64 (0))))), none, 0⟩]) (.seq (.seq (.reg false [⟨some 15, .mv (.t 1), none, 0⟩, ⟨some 16, .len (.t 15), none, 0⟩, ⟨some 17, .mv (.k (.d (.sc (.int .i64 (0))))), none, 0⟩]) (.block 0 (.loop [0, 2, 6, 7, 15, 16, 17] b121_0))) (.seq (.reg false [⟨some 54, .mv (.t 0), none, 0⟩, ⟨some 55, .mv (.t 6), none, 0⟩, ⟨some 56, .mv (.t 0), none, 0⟩, ⟨some 57, .mv (.t 6), none, 0⟩, ⟨some 58, .iad 1 (.t 56) (.t 57), none, 0⟩, ⟨some 59, .ld false 1 (.t 58), none, 0⟩, ⟨some 60, .mv (.t 7), none, 0⟩, ⟨some 61, .call 100 [(1, .t 59), (1, .t 60), (1, .k (.d (.sc (.int .u64 (0)))))], none, 0⟩, ⟨some 53, .mv (.t 61), none, 0⟩, ⟨some 62, .ext (.t 53) 0, none, 0⟩, ⟨some 63, .ext (.t 53) 1, none, 0⟩, ⟨some 64, .iad 1 (.t 54) (.t 55), none, 0⟩, ⟨none, .st 1 (.t 64) (.t 62), none, 0⟩, ⟨some 7, .asg (.t 63), none, 0⟩]) (.reg false [⟨some 65, .mv (.t 0), none, 0⟩, ⟨some 66, .mv (.t 6), none, 0⟩, ⟨some 67, .bin .add (.t 66) (.k (.d (.sc (.int .i64 (1))))), none, 0⟩, ⟨some 68, .iad 1 (.t 65) (.t 67), none, 0⟩, ⟨some 69, .ld false 1 (.t 68), none, 0⟩, ⟨some 70, .mv (.t 7), none, 0⟩, ⟨some 71, .bin .add (.t 69) (.t 70), none, 0⟩, ⟨some 72, .iad 1 (.t 65) (.t 67), none, 0⟩, ⟨none, .st 1 (.t 72) (.t 71), none, 0⟩])))), res := [] }
/-- function 123 -/
def a123 : AFunc :=
  { np := 1, body := .seq (.reg false [⟨some 2, .asg (.k (.d (.sc (.bool false)))), none, 0⟩]) (.seq (.reg false [⟨some 3, .mv (.t 0), none, 0⟩, ⟨some 4, .mv (.t 0), none, 0⟩, ⟨some 5, .bin .neq (.t 3) (.t 4), none, 0⟩, ⟨some 2, .asg (.t 5), none, 0⟩]) .ret), res := [.t 2 1] }
def b126_0 : ACode := .seq (.reg false [⟨some 17, .bin .lss (.t 16) (.t 15), none, 0⟩]) (.seq (.cond (.t 17) .skip (.exit 0)) (.seq (.block 1 (.seq (.reg false [⟨some 18, .mv (.t 16), none, 0⟩, ⟨some 19, .iad 1 (.t 14) (.t 16), none, 0⟩, ⟨some 20, .ld false 1 (.t 19), none, 0⟩, ⟨some 9, .asg (.t 18), none, 0⟩, ⟨some 10, .asg (.t 20), none, 0⟩]) (.seq (.reg false [⟨some 22, .mv (.t 2), none, 0⟩, ⟨some 23, .mv (.t 10), none, 0⟩, ⟨some 24, .call 120 [(1, .t 22), (1, .t 23)], none, 0⟩, ⟨some 21, .mv (.t 24), none, 0⟩, ⟨some 25, .ext (.t 21) 0, none, 0⟩, ⟨some 26, .ext (.t 21) 1, none, 0⟩, ⟨some 11, .asg (.t 25), none, 0⟩, ⟨some 12, .asg (.t 26), none, 0⟩]) (.seq (.reg false [⟨some 28, .mv (.t 12), none, 0⟩, ⟨some 29, .mv (.t 7), none, 0⟩, ⟨some 30, .call 100 [(1, .t 28), (1, .t 29), (1, .k (.d (.sc (.int .u64 (0)))))], none, 0⟩, ⟨some 27, .mv (.t 30), none, 0⟩, ⟨some 31, .ext (.t 27) 0, none, 0⟩, ⟨some 32, .ext (.t 27) 1, none, 0⟩, ⟨some 12, .asg (.t 31), none, 0⟩, ⟨some 13, .asg (.t 32), none, 0⟩]) (.seq (.reg false [⟨some 33, .mv (.t 11), none, 0⟩, ⟨some 34, .mv (.t 13), none, 0⟩, ⟨some 35, .bin .add (.t 33) (.t 34), none, 0⟩, ⟨some 7, .asg (.t 35), none, 0⟩]) (.reg false [⟨some 37, .mv (.t 0), none, 0⟩, ⟨some 38, .mv (.t 9), none, 0⟩, ⟨some 39, .mv (.t 0), none, 0⟩, ⟨some 40, .mv (.t 9), none, 0⟩, ⟨some 41, .iad 1 (.t 39) (.t 40), none, 0⟩, ⟨some 42, .ld false 1 (.t 41), none, 0⟩, ⟨some 43, .mv (.t 12), none, 0⟩, ⟨some 44, .mv (.t 8), none, 0⟩, ⟨some 45, .call 103 [(1, .t 42), (1, .t 43), (1, .t 44)], none, 0⟩, ⟨some 36, .mv (.t 45), none, 0⟩, ⟨some 46, .ext (.t 36) 0, none, 0⟩, ⟨some 47, .ext (.t 36) 1, none, 0⟩, ⟨some 48, .iad 1 (.t 37) (.t 38), none, 0⟩, ⟨none, .st 1 (.t 48) (.t 46), none, 0⟩, ⟨some 8, .asg (.t 47), none, 0⟩])))))) (.reg false [⟨some 49, .bin .add (.t 16) (.k (.d (.sc (.int .i64 (1))))), none, 0⟩, ⟨some 16, .mv (.t 49), none, 0⟩])))
/-- function 126 -/
def a126 : AFunc :=
  { np := 3, body := .seq (.reg false [⟨some 6, .asg (.k (.d (.sc (.bool false)))), none, 0⟩]) (.seq (.reg false [⟨some 7, .asg (.k (.d (.sc (.int .u64 (0))))), none, 0⟩, ⟨some 8, .asg (.k (.d (.sc (.int .u64 (0))))), none, 0⟩]) (.seq (.seq (.reg false [⟨some 14, .mv (.t 1), none, 0⟩, ⟨some 15, .len (.t 14), none, 0⟩, ⟨some 16, .mv (.k (.d (.sc (.int .i64 (0))))), none, 0⟩]) (.block 0 (.loop [0, 1, 2, 7, 8, 14, 15, 16] b126_0))) (.seq (.reg false [⟨some 51, .mv (.t 0), none, 0⟩, ⟨some 52, .mv (.t 1), none, 0⟩, ⟨some 53, .len (.t 52), none, 0⟩, ⟨some 54, .mv (.t 0), none, 0⟩, ⟨some 55, .mv (.t 1), none, 0⟩, ⟨some 56, .len (.t 55), none, 0⟩, ⟨some 57, .iad 1 (.t 54) (.t 56), none, 0⟩, ⟨some 58, .ld false 1 (.t 57), none, 0⟩, ⟨some 59, .mv (.t 7), none, 0⟩, ⟨some 60, .mv (.t 8), none, 0⟩, ⟨some 61, .call 103 [(1, .t 58), (1, .t 59), (1, .t 60)], none, 0⟩, ⟨some 50, .mv (.t 61), none, 0⟩, ⟨some 62, .ext (.t 50) 0, none, 0⟩, ⟨some 63, .ext (.t 50) 1, none, 0⟩, ⟨some 64, .iad 1 (.t 51) (.t 53), none, 0⟩, ⟨none, .st 1 (.t 64) (.t 62), none, 0⟩, ⟨some 8, .asg (.t 63), none, 0⟩]) (.seq (.reg false [⟨some 65, .mv (.t 8), none, 0⟩, ⟨some 66, .bin .neq (.t 65) (.k (.d (.sc (.int .u64 (0))))), none, 0⟩, ⟨some 6, .asg (.t 66), none, 0⟩]) .ret)))), res := [.t 6 1] }
def b127_0 : ACode := .seq (.reg false [⟨some 11, .bin .lss (.t 10) (.t 9), none, 0⟩]) (.seq (.cond (.t 11) .skip (.exit 0)) (.seq (.block 1 (.seq (.reg false [⟨some 12, .mv (.t 10), none, 0⟩, ⟨some 13, .iad 1 (.t 8) (.t 10), none, 0⟩, ⟨some 14, .ld false 1 (.t 13), none, 0⟩, ⟨some 6, .asg (.t 12), none, 0⟩, ⟨some 7, .asg (.t 14), none, 0⟩]) (.reg false [⟨some 16, .mv (.t 0), none, 0⟩, ⟨some 17, .mv (.t 6), none, 0⟩, ⟨some 18, .mv (.t 0), none, 0⟩, ⟨some 19, .mv (.t 6), none, 0⟩, ⟨some 20, .iad 1 (.t 18) (.t 19), none, 0⟩, ⟨some 21, .ld false 1 (.t 20), none, 0⟩, ⟨some 22, .mv (.t 7), none, 0⟩, ⟨some 23, .mv (.t 5), none, 0⟩, ⟨some 24, .call 100 [(1, .t 21), (1, .t 22), (1, .t 23)], none, 0⟩, ⟨some 15, .mv (.t 24), none, 0⟩, ⟨some 25, .ext (.t 15) 0, none, 0⟩, ⟨some 26, .ext (.t 15) 1, none, 0⟩, ⟨some 27, .iad 1 (.t 16) (.t 17), none, 0⟩, ⟨none, .st 1 (.t 27) (.t 25), none, 0⟩, ⟨some 5, .asg (.t 26), none, 0⟩]))) (.reg false [⟨some 28, .bin .add (.t 10) (.k (.d (.sc (.int .i64 (1))))), none, 0⟩, ⟨some 10, .mv (.t 28), none, 0⟩])))
/-- function 127 -/
def a127 : AFunc :=
  { np := 2, body := .seq (.reg false [⟨some 4, .asg (.k (.d (.sc (.bool false)))), none, 0⟩]) (.seq (.reg false [⟨some 5, .asg (.k (.d (.sc (.int .u64 (0))))), none, 0⟩]) (.seq (.seq (.reg false [⟨some 8, .mv (.t 1), none, 0⟩, ⟨some 9, .len (.t 8), none, 0⟩, ⟨some 10, .mv (.k (.d (.sc (.int .i64 (0))))), none, 0⟩]) (.block 0 (.loop [0, 1, 5, 8, 9, 10] b127_0))) (.seq (.reg false [⟨some 30, .mv (.t 0), none, 0⟩, ⟨some 31, .mv (.t 1), none, 0⟩, ⟨some 32, .len (.t 31), none, 0⟩, ⟨some 33, .mv (.t 0), none, 0⟩, ⟨some 34, .mv (.t 1), none, 0⟩, ⟨some 35, .len (.t 34), none, 0⟩, ⟨some 36, .iad 1 (.t 33) (.t 35), none, 0⟩, ⟨some 37, .ld false 1 (.t 36), none, 0⟩, ⟨some 38, .mv (.t 5), none, 0⟩, ⟨some 39, .call 100 [(1, .t 37), (1, .t 38), (1, .k (.d (.sc (.int .u64 (0)))))], none, 0⟩, ⟨some 29, .mv (.t 39), none, 0⟩, ⟨some 40, .ext (.t 29) 0, none, 0⟩, ⟨some 41, .ext (.t 29) 1, none, 0⟩, ⟨some 42, .iad 1 (.t 30) (.t 32), none, 0⟩, ⟨none, .st 1 (.t 42) (.t 40), none, 0⟩, ⟨some 5, .asg (.t 41), none, 0⟩]) (.seq (.reg false [⟨some 43, .mv (.t 5), none, 0⟩, ⟨some 44, .bin .neq (.t 43) (.k (.d (.sc (.int .u64 (0))))), none, 0⟩, ⟨some 4, .asg (.t 44), none, 0⟩]) .ret)))), res := [.t 4 1] }
def AA : Nat → Option AFunc
  | 10 => some a10
  | 13 => some a13
  | 15 => some a15
  | 16 => some a16
  | 17 => some a17
  | 18 => some a18
  | 19 => some a19
  | 22 => some a22
  | 23 => some a23
  | 24 => some a24
  | 25 => some a25
  | 26 => some a26
  | 27 => some a27
  | 28 => some a28
  | 29 => some a29
  | 52 => some a52
  | 53 => some a53
  | 54 => some a54
  | 55 => some a55
  | 56 => some a56
  | 57 => some a57
  | 58 => some a58
  | 59 => some a59
  | 60 => some a60
  | 61 => some a61
  | 62 => some a62
  | 64 => some a64
  | 65 => some a65
  | 68 => some a68
  | 69 => some a69
  | 70 => some a70
  | 71 => some a71
  | 72 => some a72
  | 73 => some a73
  | 74 => some a74
  | 82 => some a82
  | 83 => some a83
  | 84 => some a84
  | 85 => some a85
  | 86 => some a86
  | 87 => some a87
  | 88 => some a88
  | 89 => some a89
  | 90 => some a90
  | 94 => some a94
  | 95 => some a95
  | 96 => some a96
  | 97 => some a97
  | 98 => some a98
  | 99 => some a99
  | 101 => some a101
  | 104 => some a104
  | 115 => some a115
  | 116 => some a116
  | 117 => some a117
  | 118 => some a118
  | 119 => some a119
  | 120 => some a120
  | 121 => some a121
  | 123 => some a123
  | 126 => some a126
  | 127 => some a127
  | _ => none

end Go.Proofs.Ytpanbfainilmpaa.Ev.N
end
section
/- Numbers as limbs, plainly. -/
set_option linter.unusedVariables false
set_option linter.unusedSimpArgs false
namespace Go.Proofs.Ytpanbfainilmpaa.Ev.N
open Go Go.Proofs.Ytpanbfainilmpaa.Ev

theorem B_eq : B64 = 2 ^ 64 := rfl
theorem B_pos : 0 < B64 := by decide
theorem Bp_pos (k : Nat) : 0 < B64 ^ k := Nat.pow_pos B_pos
theorem Bp_eq (k : Nat) : B64 ^ k = 2 ^ (64 * k) := by rw [B_eq, Nat.pow_mul]
def Limbs (l : List Nat) : Prop := ∀ x ∈ l, x < B64
theorem Limbs.nil : Limbs [] := fun _ h => by cases h
theorem Limbs.cons {x : Nat} {l : List Nat} (hx : x < B64) (h : Limbs l) : Limbs (x :: l) := fun y hy => by
  rcases List.mem_cons.1 hy with rfl | hy
  · exact hx
  · exact h y hy
theorem Limbs.append {a b : List Nat} (h : Limbs a) (k : Limbs b) : Limbs (a ++ b) := fun y hy => by
  rcases List.mem_append.1 hy with hy | hy
  · exact h y hy
  · exact k y hy
theorem Limbs.take {a : List Nat} (h : Limbs a) (n : Nat) : Limbs (a.take n) := fun y hy => h y (List.mem_of_mem_take hy)
theorem Limbs.drop {a : List Nat} (h : Limbs a) (n : Nat) : Limbs (a.drop n) := fun y hy => h y (List.mem_of_mem_drop hy)
theorem Limbs.set {a : List Nat} (h : Limbs a) {x : Nat} (hx : x < B64) (n : Nat) : Limbs (a.set n x) := fun y hy => by
  rcases List.mem_or_eq_of_mem_set hy with hy | rfl
  · exact h y hy
  · exact hx
theorem Limbs.get {a : List Nat} (h : Limbs a) {i : Nat} (hi : i < a.length) : a[i] < B64 := h _ (List.getElem_mem hi)
theorem Limbs.rep (n : Nat) : Limbs (List.replicate n 0) := fun y hy => by rw [(List.mem_replicate.1 hy).2]; exact B_pos

theorem val_append (a b : List Nat) : val (a ++ b) = val a + B64 ^ a.length * val b := by
  induction a with
  | nil => simp [val]
  | cons x a ih =>
    simp only [List.cons_append, val, ih, List.length_cons, Nat.pow_succ, Nat.mul_add]
    rw [Nat.mul_comm (B64 ^ a.length) B64, Nat.mul_assoc]; omega
theorem val_lt {l : List Nat} (h : Limbs l) : val l < B64 ^ l.length := by
  induction l with
  | nil => simp [val]
  | cons x l ih =>
    have h1 := ih fun y hy => h y (by simp [hy])
    have h2 := h x (by simp)
    simp only [val, List.length_cons, Nat.pow_succ]
    have : B64 * (val l + 1) ≤ B64 ^ l.length * B64 := by rw [Nat.mul_comm (B64 ^ l.length)]; exact Nat.mul_le_mul_left _ h1
    rw [Nat.mul_add] at this
    omega
theorem val_rep (n : Nat) : val (List.replicate n 0) = 0 := by
  induction n with
  | zero => rfl
  | succ n ih => simp [List.replicate_succ, val, ih]
theorem val_zeros {l : List Nat} (h : ∀ x ∈ l, x = 0) : val l = 0 := by
  induction l with
  | nil => rfl
  | cons x l ih => rw [val, ih fun y hy => h y (by simp [hy]), h x (by simp), Nat.mul_zero]
theorem val_set {l : List Nat} {i : Nat} (h : i < l.length) (n : Nat) : val (l.set i n) + B64 ^ i * l[i] = val l + B64 ^ i * n := by
  have e1 : l = l.take i ++ l[i] :: l.drop (i + 1) := by
    rw [← List.drop_eq_getElem_cons h, List.take_append_drop]
  have e2 : l.set i n = l.take i ++ n :: l.drop (i + 1) := by
    rw [List.set_eq_take_append_cons_drop, if_pos h]
  have hl : (l.take i).length = i := by rw [List.length_take]; omega
  rw [e2]
  conv => rhs; rw [e1]
  simp only [val_append, val, hl, Nat.mul_add]
  omega
theorem val_take_drop (l : List Nat) {i : Nat} (h : i ≤ l.length) : val l = val (l.take i) + B64 ^ i * val (l.drop i) := by
  conv => lhs; rw [← List.take_append_drop i l, val_append]
  rw [List.length_take, Nat.min_eq_left h]
theorem val_take {l : List Nat} (hl : Limbs l) {i : Nat} (h : i ≤ l.length) : val (l.take i) = val l % B64 ^ i := by
  have h1 := val_lt (hl.take i)
  rw [List.length_take, Nat.min_eq_left h] at h1
  rw [val_take_drop l h, Nat.add_mul_mod_self_left, Nat.mod_eq_of_lt h1]
theorem val_drop {l : List Nat} (hl : Limbs l) {i : Nat} (h : i ≤ l.length) : val (l.drop i) = val l / B64 ^ i := by
  have h1 := val_lt (hl.take i)
  rw [List.length_take, Nat.min_eq_left h] at h1
  rw [val_take_drop l h, Nat.add_mul_div_left _ _ (Bp_pos i), Nat.div_eq_of_lt h1, Nat.zero_add]
/-- The i-th limb, nought beyond. -/
def limb (l : List Nat) (i : Nat) : Nat := (l[i]?).getD 0
theorem limb_lt {l : List Nat} (h : Limbs l) (i : Nat) : limb l i < B64 := by
  unfold limb
  by_cases hi : i < l.length
  · rw [List.getElem?_eq_getElem hi]; exact h.get hi
  · rw [List.getElem?_eq_none (by omega)]; exact B_pos
theorem limb_get {l : List Nat} {i : Nat} (hi : i < l.length) : limb l i = l[i] := by
  unfold limb
  rw [List.getElem?_eq_getElem hi]; rfl
theorem limb_none {l : List Nat} {i : Nat} (hi : l.length ≤ i) : limb l i = 0 := by
  unfold limb
  rw [List.getElem?_eq_none hi]; rfl
theorem limb_eq {l : List Nat} (h : Limbs l) (i : Nat) : limb l i = val l / B64 ^ i % B64 := by
  by_cases hi : i < l.length
  · rw [limb_get hi, ← val_drop h (Nat.le_of_lt hi), List.drop_eq_getElem_cons hi, val, Nat.add_mul_mod_self_left, Nat.mod_eq_of_lt (h.get hi)]
  · rw [limb_none (by omega)]
    have h1 := val_lt h
    have h2 : B64 ^ l.length ≤ B64 ^ i := Nat.pow_le_pow_right B_pos (by omega)
    rw [Nat.div_eq_of_lt (by omega)]; rfl

/-! ### digits -/
theorem digs_len (k n : Nat) : (digs k n).length = k := by simp [digs]
theorem digs_get (k n : Nat) {i : Nat} (h : i < (digs k n).length) : (digs k n)[i] = n / B64 ^ i % B64 := by simp [digs]
theorem digs_get? (k n : Nat) {i : Nat} (h : i < k) : (digs k n)[i]? = some (n / B64 ^ i % B64) := by simp [digs, h]
theorem digs_limbs (k n : Nat) : Limbs (digs k n) := by
  intro x hx
  simp only [digs, List.mem_map] at hx
  obtain ⟨j, _, rfl⟩ := hx
  exact Nat.mod_lt _ B_pos
theorem digs_succ (k n : Nat) : digs (k + 1) n = digs k n ++ [n / B64 ^ k % B64] := by
  unfold digs
  rw [List.range_succ, List.map_append]; rfl
theorem val_digs (k n : Nat) : val (digs k n) = n % B64 ^ k := by
  induction k with
  | zero => simp [digs, val, Nat.mod_one]
  | succ k ih =>
    rw [digs_succ, val_append, ih, digs_len, Nat.mod_pow_succ]
    simp [val]
theorem digs_val {l : List Nat} (h : Limbs l) : digs l.length (val l) = l := by
  apply List.ext_getElem
  · rw [digs_len]
  · intro i h1 h2
    rw [digs_get, ← limb_eq h, limb_get h2]
theorem digs_congr {k n m : Nat} (h : n % B64 ^ k = m % B64 ^ k) : digs k n = digs k m := by
  have h1 := digs_val (digs_limbs k n)
  have h2 := digs_val (digs_limbs k m)
  rw [digs_len, val_digs] at h1 h2
  rw [← h1, ← h2, h]
theorem nlen_pos {n : Nat} (h : n ≠ 0) : nlen n = n.log2 / 64 + 1 := if_neg h
theorem nlen_le {n k : Nat} : nlen n ≤ k ↔ n < B64 ^ k := by
  by_cases h0 : n = 0
  · subst h0
    simp only [nlen, if_pos, Nat.zero_le, true_iff]
    exact Bp_pos k
  · rw [nlen_pos h0, Bp_eq, ← Nat.log2_lt h0]
    omega
theorem lt_nlen (n : Nat) : n < B64 ^ nlen n := nlen_le.1 (Nat.le_refl _)
theorem le_nlen {n : Nat} (h : n ≠ 0) : B64 ^ (nlen n - 1) ≤ n := by
  rcases Nat.lt_or_ge n (B64 ^ (nlen n - 1)) with hlt | hge
  · have := nlen_le.2 hlt
    have hp := nlen_pos h
    omega
  · exact hge
theorem val_dig (n : Nat) : val (dig n) = n := by
  unfold dig
  rw [val_digs, Nat.mod_eq_of_lt (lt_nlen n)]
theorem dig_limbs (n : Nat) : Limbs (dig n) := digs_limbs _ _
theorem dig_len (n : Nat) : (dig n).length = nlen n := digs_len _ _
theorem dig_zero : dig 0 = [] := rfl
theorem dig_nil {n : Nat} : dig n = [] ↔ n = 0 := by
  constructor
  · intro h
    rw [← val_dig n, h]; rfl
  · rintro rfl; rfl
theorem dig_inj {n m : Nat} (h : dig n = dig m) : n = m := by rw [← val_dig n, h, val_dig]
/-- Limbs without a nought on top are a number's own. -/
theorem dig_val {l : List Nat} (h : Limbs l) (ht : ∀ (hl : 0 < l.length), l[l.length - 1] ≠ 0) : dig (val l) = l := by
  have hn : nlen (val l) = l.length := by
    rcases Nat.eq_zero_or_pos l.length with h0 | h0
    · have : l = [] := List.length_eq_zero_iff.1 h0
      subst this; rfl
    · have h1 : nlen (val l) ≤ l.length := nlen_le.2 (val_lt h)
      rcases Nat.lt_or_ge (nlen (val l)) l.length with h2 | h2
      · exfalso
        have h3 : val l < B64 ^ (l.length - 1) := nlen_le.1 (by omega)
        have h4 := limb_eq h (l.length - 1)
        rw [Nat.div_eq_of_lt h3, limb_get (by omega)] at h4
        exact ht h0 h4
      · omega
  unfold dig
  rw [hn, digs_val h]
theorem dig_top {n : Nat} (h : 0 < (dig n).length) : (dig n)[(dig n).length - 1] ≠ 0 := by
  have hn : n ≠ 0 := by
    intro e; subst e; simp [dig_zero] at h
  have h1 := le_nlen hn
  have h2 := lt_nlen n
  simp only [dig, digs_get, digs_len]
  have hp : nlen n = nlen n - 1 + 1 := by have := nlen_pos hn; omega
  rw [hp, Nat.pow_succ] at h2
  rw [Nat.mod_eq_of_lt (by rw [Nat.div_lt_iff_lt_mul (Bp_pos _), Nat.mul_comm]; exact h2)]
  have := Nat.div_pos h1 (Bp_pos _)
  omega
/-- What trimming leaves. -/
theorem trim_take {l : List Nat} (h : Limbs l) {n : Nat} (hn : n ≤ l.length) (hz : ∀ i (hi : i < l.length), n ≤ i → l[i] = 0) (ht : ∀ (hp : 0 < n), l[n - 1]'(by omega) ≠ 0) : l.take n = dig (val l) := by
  have e : val l = val (l.take n) := by
    rw [val_take_drop l hn, val_zeros (l := l.drop n), Nat.mul_zero, Nat.add_zero]
    intro x hx
    obtain ⟨i, hi, rfl⟩ := List.mem_iff_getElem.1 hx
    rw [List.getElem_drop]
    exact hz _ _ (by omega)
  rw [e, dig_val (h.take n)]
  intro hl
  have : (l.take n).length = n := by rw [List.length_take]; omega
  simp only [this, List.getElem_take]
  exact ht (by omega)
theorem nlen_mono {a b : Nat} (h : a ≤ b) : nlen a ≤ nlen b := nlen_le.2 (Nat.lt_of_le_of_lt h (lt_nlen b))
theorem un64_map {l : List Nat} (h : Limbs l) : un64 (l.map n64) = some l := by
  induction l with
  | nil => rfl
  | cons x l ih =>
    have hx := h x (by simp)
    have hb : B64 = 18446744073709551616 := rfl
    rw [List.map_cons, un64, if_pos ⟨by omega, by omega⟩, ih fun y hy => h y (by simp [hy])]
    simp
end Go.Proofs.Ytpanbfainilmpaa.Ev.N
end
section
/- Sums, differences, comparing: limb by limb. -/
set_option linter.unusedVariables false
set_option linter.unusedSimpArgs false
namespace Go.Proofs.Ytpanbfainilmpaa.Ev.N
open Go Go.Proofs.Ytpanbfainilmpaa.Ev

/-- The carry into place i. -/
def cry (a b i : Nat) : Nat := (a % B64 ^ i + b % B64 ^ i) / B64 ^ i
theorem cry_zero (a b : Nat) : cry a b 0 = 0 := by simp [cry, Nat.mod_one]
theorem cry_le (a b i : Nat) : cry a b i ≤ 1 := by
  have h1 := Nat.mod_lt a (Bp_pos i)
  have h2 := Nat.mod_lt b (Bp_pos i)
  unfold cry
  rw [← Nat.lt_succ_iff, Nat.div_lt_iff_lt_mul (Bp_pos i)]
  omega
theorem cry_sum (a b i : Nat) : (a % B64 ^ (i + 1) + b % B64 ^ (i + 1)) / B64 ^ i = a / B64 ^ i % B64 + b / B64 ^ i % B64 + cry a b i := by
  rw [Nat.mod_pow_succ, Nat.mod_pow_succ]
  have : a % B64 ^ i + B64 ^ i * (a / B64 ^ i % B64) + (b % B64 ^ i + B64 ^ i * (b / B64 ^ i % B64)) = a % B64 ^ i + b % B64 ^ i + B64 ^ i * (a / B64 ^ i % B64 + b / B64 ^ i % B64) := by
    rw [Nat.mul_add]; omega
  rw [this, Nat.add_mul_div_left _ _ (Bp_pos i)]
  unfold cry
  omega
theorem cry_succ (a b i : Nat) : cry a b (i + 1) = (a / B64 ^ i % B64 + b / B64 ^ i % B64 + cry a b i) / B64 := by
  rw [← cry_sum, Nat.div_div_eq_div_mul, ← Nat.pow_succ]
  rfl
theorem sum_digit (a b i : Nat) : (a + b) / B64 ^ i % B64 = (a / B64 ^ i % B64 + b / B64 ^ i % B64 + cry a b i) % B64 := by
  rw [← cry_sum]
  have h1 : a + b = a % B64 ^ (i + 1) + b % B64 ^ (i + 1) + B64 ^ i * (B64 * (a / B64 ^ (i + 1) + b / B64 ^ (i + 1))) := by
    have e1 := Nat.mod_add_div a (B64 ^ (i + 1))
    have e2 := Nat.mod_add_div b (B64 ^ (i + 1))
    rw [← Nat.mul_assoc, ← Nat.pow_succ, Nat.succ_eq_add_one, Nat.mul_add]
    omega
  conv => lhs; rw [h1]
  rw [Nat.add_mul_div_left _ _ (Bp_pos i), Nat.add_mul_mod_self_left]
theorem sum_digs {a b n : Nat} (ha : a < B64 ^ n) (hb : b < B64 ^ n) : digs n (a + b) ++ [cry a b n] = digs (n + 1) (a + b) := by
  rw [digs_succ]
  congr 2
  unfold cry
  rw [Nat.mod_eq_of_lt ha, Nat.mod_eq_of_lt hb, Nat.mod_eq_of_lt]
  rw [Nat.div_lt_iff_lt_mul (Bp_pos n)]
  have : 2 * B64 ^ n ≤ B64 * B64 ^ n := Nat.mul_le_mul_right _ (by decide)
  omega
theorem sum_val {a b n : Nat} (ha : a < B64 ^ n) (hb : b < B64 ^ n) : val (digs (n + 1) (a + b)) = a + b := by
  rw [val_digs, Nat.mod_eq_of_lt]
  have : 2 * B64 ^ n ≤ B64 * B64 ^ n := Nat.mul_le_mul_right _ (by decide)
  rw [Nat.pow_succ, Nat.mul_comm]
  omega

/-- The borrow out of place i. -/
def bor (a b i : Nat) : Nat := if a % B64 ^ i < b % B64 ^ i then 1 else 0
theorem bor_zero (a b : Nat) : bor a b 0 = 0 := by simp [bor, Nat.mod_one]
theorem bor_le (a b i : Nat) : bor a b i ≤ 1 := by unfold bor; split <;> omega
theorem bor_succ (a b i : Nat) : bor a b (i + 1) = if a / B64 ^ i % B64 < b / B64 ^ i % B64 + bor a b i then 1 else 0 := by
  unfold bor
  rw [Nat.mod_pow_succ, Nat.mod_pow_succ]
  have h1 := Nat.mod_lt a (Bp_pos i)
  have h2 := Nat.mod_lt b (Bp_pos i)
  generalize a % B64 ^ i = p at *
  generalize b % B64 ^ i = q at *
  generalize a / B64 ^ i % B64 = x
  generalize b / B64 ^ i % B64 = y
  generalize B64 ^ i = C at *
  rcases Nat.lt_trichotomy x y with h | h | h
  · have : C * (x + 1) ≤ C * y := Nat.mul_le_mul_left _ h
    rw [Nat.mul_add] at this
    rw [if_pos (by omega)]
    split <;> rw [if_pos (by omega)]
  · subst h
    by_cases hpq : p < q
    · rw [if_pos (by omega), if_pos hpq, if_pos (by omega)]
    · rw [if_neg (by omega), if_neg hpq, if_neg (by omega)]
  · have : C * (y + 1) ≤ C * x := Nat.mul_le_mul_left _ h
    rw [Nat.mul_add] at this
    rw [if_neg (by omega)]
    split <;> rw [if_neg (by omega)]
/-- The digits of a difference: from b + n places up it goes round. -/
theorem dif_mod (a b i : Nat) (n : Nat) (hi : i ≤ n) (hb : b < B64 ^ n) : (a + B64 ^ n - b) % B64 ^ i + b % B64 ^ i = a % B64 ^ i + B64 ^ i * bor a b i := by
  obtain ⟨d, rfl⟩ : ∃ d, n = i + d := ⟨n - i, by omega⟩
  have h1 := Nat.mod_lt a (Bp_pos i)
  have h2 := Nat.mod_lt b (Bp_pos i)
  have e1 := Nat.mod_add_div a (B64 ^ i)
  have e2 := Nat.mod_add_div b (B64 ^ i)
  have hq : b / B64 ^ i < B64 ^ d := by
    rw [Nat.div_lt_iff_lt_mul (Bp_pos i), Nat.mul_comm, ← Nat.pow_add]; exact hb
  unfold bor
  rw [Nat.pow_add] at hb ⊢
  generalize B64 ^ i = C at *
  generalize B64 ^ d = E at *
  generalize a / C = u at *
  generalize b / C = v at *
  by_cases hlt : a % C < b % C
  · rw [if_pos hlt]
    have : a + C * E - b = (a % C + C - b % C) + C * (u + E - v - 1) := by
      have : C * (u + E - v - 1) + C * v + C = C * u + C * E := by
        rw [← Nat.mul_add, ← Nat.mul_add, ← Nat.mul_add_one]
        congr 1; omega
      omega
    rw [this, Nat.add_mul_mod_self_left, Nat.mod_eq_of_lt (by omega)]
    omega
  · rw [if_neg hlt]
    have : a + C * E - b = (a % C - b % C) + C * (u + E - v) := by
      have : C * (u + E - v) + C * v = C * u + C * E := by
        rw [← Nat.mul_add, ← Nat.mul_add]
        congr 1; omega
      omega
    rw [this, Nat.add_mul_mod_self_left, Nat.mod_eq_of_lt (by omega)]
    omega
theorem dif_digit (a b i n : Nat) (hi : i < n) (hb : b < B64 ^ n) : (a + B64 ^ n - b) / B64 ^ i % B64 = (a / B64 ^ i % B64 + B64 - b / B64 ^ i % B64 - bor a b i) % B64 := by
  have h1 := dif_mod a b (i + 1) n hi hb
  have h0 := dif_mod a b i n (by omega) hb
  rw [bor_succ, Nat.mod_pow_succ, Nat.mod_pow_succ, Nat.mod_pow_succ, Nat.pow_succ] at h1
  have hx : a / B64 ^ i % B64 < B64 := Nat.mod_lt _ B_pos
  have hy : b / B64 ^ i % B64 < B64 := Nat.mod_lt _ B_pos
  have ht : (a + B64 ^ n - b) / B64 ^ i % B64 < B64 := Nat.mod_lt _ B_pos
  have hd := bor_le a b i
  have hC := Bp_pos i
  generalize (a + B64 ^ n - b) / B64 ^ i % B64 = t at *
  generalize a / B64 ^ i % B64 = x at *
  generalize b / B64 ^ i % B64 = y at *
  generalize bor a b i = d at *
  generalize (a + B64 ^ n - b) % B64 ^ i = t0 at *
  generalize a % B64 ^ i = p at *
  generalize b % B64 ^ i = q at *
  generalize B64 ^ i = C at *
  have key : C * t + C * y + C * d = C * x + C * (B64 * (if x < y + d then 1 else 0)) := by
    rw [← Nat.mul_assoc]; omega
  have key2 : t + y + d = x + B64 * (if x < y + d then 1 else 0) := by
    rw [← Nat.mul_add, ← Nat.mul_add, ← Nat.mul_add] at key
    exact Nat.eq_of_mul_eq_mul_left hC key
  clear key h1 h0
  have hB : B64 = 18446744073709551616 := rfl
  rw [hB] at hx hy ht key2 ⊢
  by_cases hlt : x < y + d
  · rw [if_pos hlt] at key2
    have e : x + 18446744073709551616 - y - d = t := by omega
    rw [e, Nat.mod_eq_of_lt ht]
  · rw [if_neg hlt] at key2
    have e : x + 18446744073709551616 - y - d = t + 18446744073709551616 := by omega
    rw [e, Nat.add_mod_right, Nat.mod_eq_of_lt ht]

theorem cmpI_self (a : Nat) : cmpI a a = 0 := by simp [cmpI]
/-- Two numbers that are the same from place i + 1 on, and not at place i. -/
theorem cmp_top {a b i : Nat} (h : a / B64 ^ (i + 1) = b / B64 ^ (i + 1)) (hne : a / B64 ^ i % B64 ≠ b / B64 ^ i % B64) : cmpI a b = if a / B64 ^ i % B64 < b / B64 ^ i % B64 then -1 else 1 := by
  have e1 := Nat.div_add_mod a (B64 ^ i)
  have e2 := Nat.div_add_mod b (B64 ^ i)
  have f1 := Nat.div_add_mod (a / B64 ^ i) B64
  have f2 := Nat.div_add_mod (b / B64 ^ i) B64
  rw [Nat.div_div_eq_div_mul, ← Nat.pow_succ] at f1 f2
  rw [h] at f1
  have h1 := Nat.mod_lt a (Bp_pos i)
  have h2 := Nat.mod_lt b (Bp_pos i)
  generalize a / B64 ^ i % B64 = x at *
  generalize b / B64 ^ i % B64 = y at *
  generalize b / B64 ^ (i + 1) = z at *
  rw [← f1] at e1
  rw [← f2] at e2
  generalize a % B64 ^ i = p at *
  generalize b % B64 ^ i = q at *
  generalize B64 ^ i = C at *
  rw [Nat.mul_add] at e1 e2
  unfold cmpI
  rcases Nat.lt_or_ge x y with hxy | hxy
  · have : C * (x + 1) ≤ C * y := Nat.mul_le_mul_left _ hxy
    rw [Nat.mul_add] at this
    rw [if_pos hxy, if_pos (by omega)]
  · have : C * (y + 1) ≤ C * x := Nat.mul_le_mul_left _ (by omega)
    rw [Nat.mul_add] at this
    rw [if_neg (show ¬ x < y by omega), if_neg (show ¬ a < b by omega), if_pos (show b < a by omega)]
theorem div_same {a b i : Nat} (h : a / B64 ^ (i + 1) = b / B64 ^ (i + 1)) (he : a / B64 ^ i % B64 = b / B64 ^ i % B64) : a / B64 ^ i = b / B64 ^ i := by
  have f1 := Nat.div_add_mod (a / B64 ^ i) B64
  have f2 := Nat.div_add_mod (b / B64 ^ i) B64
  rw [Nat.div_div_eq_div_mul, ← Nat.pow_succ] at f1 f2
  rw [← f1, ← f2, h, he]
end Go.Proofs.Ytpanbfainilmpaa.Ev.N
end
section
/- A quotient's digit, guessed and mended (by halves of a word). -/
set_option linter.unusedVariables false
set_option linter.unusedSimpArgs false
namespace Go.Proofs.Ytpanbfainilmpaa.Ev.N
open Go Go.Proofs.Ytpanbfainilmpaa.Ev

/-- The guess is too great just where it times the divisor is. -/
theorem guess_gt {N u v q r y1 y0 n β : Nat} (hv : v = y1 * β + y0) (hN : N = u * β + n) (hq : q * y1 + r = u) : (r * β + n < q * y0 ↔ N < q * v) := by
  have e : q * v + r * β = u * β + q * y0 := by
    rw [hv, ← hq, Nat.mul_add, Nat.add_mul, ← Nat.mul_assoc]; omega
  omega
theorem quot_le {N v q : Nat} (hv : 0 < v) (h : N < q * v) : N / v < q := by rwa [Nat.div_lt_iff_lt_mul hv]
theorem quot_ge {N v q : Nat} (hv : 0 < v) (h : ¬ N < q * v) : q ≤ N / v := by rw [Nat.le_div_iff_mul_le hv]; omega
/-- The first guess. -/
theorem guess_first {u v y1 y0 n β : Nat} (hy : 0 < y1) (hv : v = y1 * β + y0) (h0 : y0 < β) (h1 : β ≤ 2 * y1) (hu : u < v) (hn : n < β) :
    u / y1 ≤ β + 1 ∧ (u * β + n) / v ≤ u / y1 ∧ (u * β + n) / v < β := by
  have hv0 : 0 < v := by omega
  have hd := Nat.div_add_mod u y1
  have hr := Nat.mod_lt u hy
  have hq : (u * β + n) / v < β := by
    rw [Nat.div_lt_iff_lt_mul hv0]
    have : (u + 1) * β ≤ v * β := Nat.mul_le_mul_right _ hu
    rw [Nat.add_mul, Nat.one_mul] at this
    rw [Nat.mul_comm β]
    omega
  refine ⟨?_, ?_, hq⟩
  · rw [← Nat.lt_succ_iff, Nat.div_lt_iff_lt_mul hy]
    have : (β + 1 + 1) * y1 = y1 * β + 2 * y1 := by rw [Nat.add_mul, Nat.add_mul, Nat.mul_comm β]; omega
    show u < (β + 1).succ * y1
    rw [Nat.succ_eq_add_one, this]
    omega
  · rw [Nat.le_div_iff_mul_le hy]
    have h2 : (u * β + n) / v * v ≤ u * β + n := Nat.div_mul_le_self _ _
    generalize (u * β + n) / v = Q at *
    have h3 : Q * v = Q * y1 * β + Q * y0 := by rw [hv, Nat.mul_add, Nat.mul_assoc]
    rcases Nat.lt_or_ge u (Q * y1) with h | h
    · have : (u + 1) * β ≤ Q * y1 * β := Nat.mul_le_mul_right _ h
      rw [Nat.add_mul, Nat.one_mul] at this
      omega
    · exact h
/-- Where one breaks off, the guess is none too great. -/
theorem guess_break {u v y1 y0 n β q r : Nat} (hv : v = y1 * β + y0) (h0 : y0 < β) (hq : q * y1 + r = u) (hr : β ≤ r) (hqb : q ≤ β) : ¬ u * β + n < q * v := by
  have e : q * v + r * β = u * β + q * y0 := by
    rw [hv, ← hq, Nat.mul_add, Nat.add_mul, ← Nat.mul_assoc]; omega
  have h1 : q * y0 ≤ β * β := Nat.mul_le_mul hqb (by omega)
  have h2 : β * β ≤ r * β := Nat.mul_le_mul_right _ hr
  omega
end Go.Proofs.Ytpanbfainilmpaa.Ev.N
end
section
/- A digit of a quotient, guessed by the top limbs. -/
set_option linter.unusedVariables false
set_option linter.unusedSimpArgs false
namespace Go.Proofs.Ytpanbfainilmpaa.Ev.N
open Go Go.Proofs.Ytpanbfainilmpaa.Ev

/-- W: three top limbs (u2 u1 u0) over C, and p below; D: two (v1 v0) over C, and d below. A guess that is too great by the top is too great. -/
theorem guess_down {W D C u2 u1 u0 v1 v0 p d q r : Nat} (hW : W = ((u2 * B64 + u1) * B64 + u0) * C + p) (hp : p < C) (hD : D = (v1 * B64 + v0) * C + d) (hq : q * v1 + r = u2 * B64 + u1) (hgt : r * B64 + u0 < q * v0) : W < q * D := by
  have e : q * ((v1 * B64 + v0) * C) + r * B64 * C = (u2 * B64 + u1) * B64 * C + q * v0 * C := by
    rw [← hq]
    simp only [Nat.add_mul, Nat.mul_add]
    have h1 : q * (v1 * B64 * C) = q * v1 * B64 * C := by simp only [Nat.mul_assoc]
    have h2 : q * (v0 * C) = q * v0 * C := by simp only [Nat.mul_assoc]
    omega
  have h3 : (r * B64 + u0 + 1) * C ≤ q * v0 * C := Nat.mul_le_mul_right _ hgt
  have h4 : q * D = q * ((v1 * B64 + v0) * C) + q * d := by rw [hD, Nat.mul_add]
  have h5 : W = (u2 * B64 + u1) * B64 * C + u0 * C + p := by rw [hW, Nat.add_mul]
  simp only [Nat.add_mul, Nat.one_mul] at h3
  omega
/-- The first guess is none too small. -/
theorem guess_top {W D C v1 u2 u1 p d : Nat} (hv : 0 < v1) (hW : W = (u2 * B64 + u1) * C + p) (hp : p < C) (hD : D = v1 * C + d) (hD0 : 0 < D) : W / D ≤ (u2 * B64 + u1) / v1 := by
  rw [Nat.le_div_iff_mul_le hv]
  have h1 : W / D * D ≤ W := Nat.div_mul_le_self _ _
  generalize W / D = q at *
  rcases Nat.lt_or_ge (u2 * B64 + u1) (q * v1) with h | h
  · have h2 : (u2 * B64 + u1 + 1) * C ≤ q * v1 * C := Nat.mul_le_mul_right _ h
    have h3 : q * D = q * v1 * C + q * d := by rw [hD, Nat.mul_add, Nat.mul_assoc]
    rw [Nat.add_mul, Nat.one_mul] at h2
    omega
  · exact h
end Go.Proofs.Ytpanbfainilmpaa.Ev.N
end
section
/- Long division, limb by limb, plainly. -/
set_option linter.unusedVariables false
set_option linter.unusedSimpArgs false
namespace Go.Proofs.Ytpanbfainilmpaa.Ev.N
open Go Go.Proofs.Ytpanbfainilmpaa.Ev

/-- One place more: what is divided, the quotient, what is left. -/
theorem place_step (A D j : Nat) (hD : 0 < D) :
    A / B64 ^ j = B64 * (A / B64 ^ (j + 1)) + A / B64 ^ j % B64 ∧
    A / B64 ^ j / D = B64 * (A / B64 ^ (j + 1) / D) + (A / B64 ^ (j + 1) % D * B64 + A / B64 ^ j % B64) / D ∧
    A / B64 ^ j % D = (A / B64 ^ (j + 1) % D * B64 + A / B64 ^ j % B64) % D ∧
    (A / B64 ^ (j + 1) % D * B64 + A / B64 ^ j % B64) / D < B64 := by
  have h1 : A / B64 ^ j = B64 * (A / B64 ^ (j + 1)) + A / B64 ^ j % B64 := by
    have f1 := Nat.div_add_mod (A / B64 ^ j) B64
    rw [Nat.div_div_eq_div_mul, ← Nat.pow_succ] at f1
    exact f1.symm
  have hb : A / B64 ^ j % B64 < B64 := Nat.mod_lt _ B_pos
  refine ⟨h1, ?_⟩
  generalize A / B64 ^ j % B64 = x at *
  rw [h1]
  have f2 := Nat.div_add_mod (A / B64 ^ (j + 1)) D
  have hr := Nat.mod_lt (A / B64 ^ (j + 1)) hD
  generalize A / B64 ^ (j + 1) / D = q at *
  generalize A / B64 ^ (j + 1) % D = r at *
  generalize A / B64 ^ (j + 1) = P at *
  have e : B64 * P + x = D * (B64 * q) + (r * B64 + x) := by
    rw [← f2, Nat.mul_add, Nat.mul_left_comm, Nat.mul_comm B64 r]; omega
  rw [e]
  refine ⟨by rw [Nat.mul_add_div hD], by rw [Nat.mul_add_mod], ?_⟩
  rw [Nat.div_lt_iff_lt_mul hD]
  have : (r + 1) * B64 ≤ D * B64 := Nat.mul_le_mul_right _ hr
  rw [Nat.add_mul, Nat.one_mul] at this
  rw [Nat.mul_comm B64 D]; omega
/-- A quotient's limb is set. -/
theorem quot_set {N q j d : Nat} (hj : j < N) (hd : d < B64) (hq : q * B64 ^ (j + 1) < B64 ^ N) : (digs N (q * B64 ^ (j + 1))).set j d = digs N ((B64 * q + d) * B64 ^ j) ∧ (digs N (q * B64 ^ (j + 1)))[j]'(by rw [digs_len]; exact hj) = 0 := by
  have e : q * B64 ^ (j + 1) = B64 * q * B64 ^ j := by rw [Nat.pow_succ, Nat.mul_comm (B64 ^ j), ← Nat.mul_assoc, Nat.mul_comm q]
  have hz : (digs N (q * B64 ^ (j + 1)))[j]'(by rw [digs_len]; exact hj) = 0 := by
    rw [digs_get, e, Nat.mul_div_cancel _ (Bp_pos j), Nat.mul_mod_right]
  refine ⟨?_, hz⟩
  have v := val_set (l := digs N (q * B64 ^ (j + 1))) (by rw [digs_len]; exact hj) d
  rw [hz, val_digs, Nat.mod_eq_of_lt hq, Nat.mul_zero, Nat.add_zero] at v
  have h := digs_val ((digs_limbs N (q * B64 ^ (j + 1))).set hd j)
  rw [List.length_set, digs_len, v] at h
  rw [← h, e, Nat.add_mul, Nat.mul_comm d]
/-- What is left of U0 behind the places from j on. -/
def rem (U0 D j : Nat) : Nat := (U0 / B64 ^ j % D) * B64 ^ j + U0 % B64 ^ j
theorem rem_div (U0 D j : Nat) (hD : 0 < D) : rem U0 D (j + 1) / B64 ^ j = U0 / B64 ^ (j + 1) % D * B64 + U0 / B64 ^ j % B64 := by
  unfold rem
  rw [Nat.mod_pow_succ, Nat.pow_succ, Nat.mul_comm (B64 ^ j) B64, ← Nat.mul_assoc, ← Nat.add_assoc, Nat.add_mul_div_left _ _ (Bp_pos j), Nat.add_comm (_ * B64 ^ j), Nat.add_mul_div_right _ _ (Bp_pos j), Nat.div_eq_of_lt (Nat.mod_lt _ (Bp_pos j)), Nat.zero_add]
theorem rem_mod (U0 D j : Nat) : rem U0 D (j + 1) % B64 ^ j = U0 % B64 ^ j := by
  unfold rem
  rw [Nat.mod_pow_succ, Nat.pow_succ, Nat.mul_comm (B64 ^ j) B64, ← Nat.mul_assoc, ← Nat.add_assoc, Nat.add_mul_mod_self_left, Nat.add_comm, Nat.add_mul_mod_self_right, Nat.mod_mod]
theorem rem_lt {U0 D j n : Nat} (hD : 0 < D) (h : D < B64 ^ n) : rem U0 D j < B64 ^ (n + j) := by
  unfold rem
  have h1 := Nat.mod_lt (U0 / B64 ^ j) hD
  have h2 := Nat.mod_lt U0 (Bp_pos j)
  have : (U0 / B64 ^ j % D + 1) * B64 ^ j ≤ B64 ^ n * B64 ^ j := Nat.mul_le_mul_right _ (by omega)
  rw [Nat.add_mul, Nat.one_mul, ← Nat.pow_add] at this
  omega
end Go.Proofs.Ytpanbfainilmpaa.Ev.N
end
section
/- Products by Montgomery's way, plainly. -/
set_option linter.unusedVariables false
set_option linter.unusedSimpArgs false
namespace Go.Proofs.Ytpanbfainilmpaa.Ev.N
open Go Go.Proofs.Ytpanbfainilmpaa.Ev

/-- The carry of a number and a number times a word. -/
def rcry (T D x k : Nat) : Nat := (T % B64 ^ k + x * (D % B64 ^ k)) / B64 ^ k
theorem rcry_zero (T D x : Nat) : rcry T D x 0 = 0 := by simp [rcry, Nat.mod_one]
theorem rcry_lt {x : Nat} (hx : x < B64) (T D k : Nat) : rcry T D x k < B64 := by
  unfold rcry
  rw [Nat.div_lt_iff_lt_mul (Bp_pos k)]
  have h1 := Nat.mod_lt T (Bp_pos k)
  have h2 := Nat.mod_lt D (Bp_pos k)
  have h3 : x * (D % B64 ^ k) ≤ x * B64 ^ k := Nat.mul_le_mul_left _ (Nat.le_of_lt h2)
  have h4 : (x + 1) * B64 ^ k ≤ B64 * B64 ^ k := Nat.mul_le_mul_right _ hx
  rw [Nat.add_mul, Nat.one_mul] at h4
  omega
theorem rcry_sum (T D x k : Nat) : (T % B64 ^ (k + 1) + x * (D % B64 ^ (k + 1))) / B64 ^ k = x * (D / B64 ^ k % B64) + T / B64 ^ k % B64 + rcry T D x k := by
  rw [Nat.mod_pow_succ, Nat.mod_pow_succ]
  have : T % B64 ^ k + B64 ^ k * (T / B64 ^ k % B64) + x * (D % B64 ^ k + B64 ^ k * (D / B64 ^ k % B64)) = T % B64 ^ k + x * (D % B64 ^ k) + B64 ^ k * (x * (D / B64 ^ k % B64) + T / B64 ^ k % B64) := by
    rw [Nat.mul_add, Nat.mul_add, Nat.mul_left_comm x (B64 ^ k)]; omega
  rw [this, Nat.add_mul_div_left _ _ (Bp_pos k)]
  unfold rcry
  omega
theorem rcry_succ (T D x k : Nat) : rcry T D x (k + 1) = (x * (D / B64 ^ k % B64) + T / B64 ^ k % B64 + rcry T D x k) / B64 := by
  rw [← rcry_sum, Nat.div_div_eq_div_mul, ← Nat.pow_succ]; rfl
theorem row_digit (T D x k : Nat) : (T + x * D) / B64 ^ k % B64 = (x * (D / B64 ^ k % B64) + T / B64 ^ k % B64 + rcry T D x k) % B64 := by
  rw [← rcry_sum]
  have h1 : T + x * D = T % B64 ^ (k + 1) + x * (D % B64 ^ (k + 1)) + B64 ^ k * (B64 * (T / B64 ^ (k + 1) + x * (D / B64 ^ (k + 1)))) := by
    have e1 := Nat.mod_add_div T (B64 ^ (k + 1))
    have e2 := Nat.mod_add_div D (B64 ^ (k + 1))
    conv => lhs; rw [← e1, ← e2]
    rw [← Nat.mul_assoc (B64 ^ k), ← Nat.pow_succ, Nat.succ_eq_add_one, Nat.mul_add, Nat.mul_add, Nat.mul_left_comm x]
    omega
  conv => lhs; rw [h1]
  rw [Nat.add_mul_div_left _ _ (Bp_pos k), Nat.add_mul_mod_self_left]
/-- The lowest k limbs are S's. -/
def mid (U : List Nat) (k S : Nat) : List Nat := digs k S ++ U.drop k
theorem mid_zero (U : List Nat) (S : Nat) : mid U 0 S = U := by simp [mid, digs]
theorem mid_len {U : List Nat} {k S : Nat} (h : k ≤ U.length) : (mid U k S).length = U.length := by
  unfold mid
  rw [List.length_append, digs_len, List.length_drop]; omega
theorem mid_limbs {U : List Nat} (h : Limbs U) (k S : Nat) : Limbs (mid U k S) := (digs_limbs _ _).append (h.drop _)
theorem mid_get {U : List Nat} {k S j : Nat} (h : k ≤ j) (hj : j < U.length) : (mid U k S)[j]'(by rw [mid_len (by omega)]; exact hj) = U[j] := by
  unfold mid
  rw [List.getElem_append_right (by rw [digs_len]; omega)]
  simp only [List.getElem_drop, digs_len]
  congr 1; omega
theorem mid_set {U : List Nat} {k S d : Nat} (h : k < U.length) (hd : d = S / B64 ^ k % B64) : (mid U k S).set k d = mid U (k + 1) S := by
  unfold mid
  rw [List.set_append, if_neg (by rw [digs_len]; omega), digs_len, Nat.sub_self, List.drop_eq_getElem_cons h, List.set_cons_zero, digs_succ, ← hd]
  simp
theorem mid_all {U : List Nat} {k S : Nat} (h : U.length = k) : mid U k S = digs k S := by
  unfold mid
  rw [List.drop_eq_nil_of_le (by omega), List.append_nil]

/-- What -1 over m's lowest limb is, one step nearer. -/
def nw (m x : Nat) : Nat := x * ((2 + B64 - m * x % B64) % B64) % B64
theorem nw_lt (m x : Nat) : nw m x < B64 := Nat.mod_lt _ B_pos
theorem nw_eq (m x : Nat) : ∃ t : Int, (nw m x : Int) = x * (2 - m * x) + 18446744073709551616 * t := by
  have hB : B64 = 18446744073709551616 := rfl
  unfold nw
  have hl := Nat.mod_lt (m * x) B_pos
  have e1 := Nat.mod_add_div (m * x) B64
  have e2 := Nat.mod_add_div (2 + B64 - m * x % B64) B64
  have e3 := Nat.mod_add_div (x * ((2 + B64 - m * x % B64) % B64)) B64
  generalize x * ((2 + B64 - m * x % B64) % B64) % B64 = r at *
  generalize hq3 : x * ((2 + B64 - m * x % B64) % B64) / B64 = q3 at *
  generalize (2 + B64 - m * x % B64) % B64 = w at *
  generalize hq2 : (2 + B64 - m * x % B64) / B64 = q2 at *
  generalize m * x % B64 = y at *
  generalize hq1 : m * x / B64 = q1 at *
  have e2' : (w : Int) = 2 + 18446744073709551616 - y - 18446744073709551616 * q2 := by rw [hB] at e2 hl; omega
  have e1' : ((m * x : Nat) : Int) = y + 18446744073709551616 * q1 := by rw [hB] at e1; omega
  have e3' : (r : Int) = ((x * w : Nat) : Int) - 18446744073709551616 * q3 := by rw [hB] at e3; omega
  rw [Int.natCast_mul] at e1' e3'
  have hw : (w : Int) = (2 - (m : Int) * x) + 18446744073709551616 * (1 + q1 - q2) := by omega
  refine ⟨x * (1 + q1 - q2) - q3, ?_⟩
  rw [e3', hw, Int.mul_add, Int.mul_left_comm (x : Int) 18446744073709551616, Int.mul_sub 18446744073709551616]
  omega
theorem newton {m x : Nat} {c d : Int} (h : c ∣ (m : Int) * x - 1) (hd : c * c * d = 18446744073709551616) : c * c ∣ (m : Int) * (nw m x : Int) - 1 := by
  obtain ⟨t, ht⟩ := nw_eq m x
  obtain ⟨s, hs⟩ := h
  refine ⟨d * (m * t) - s * s, ?_⟩
  have e : (m : Int) * x = 1 + c * s := by omega
  rw [ht, ← hd, Int.mul_add, ← Int.mul_assoc (m : Int) (x : Int), e]
  simp only [Int.mul_sub, Int.add_mul, Int.mul_add, Int.one_mul, Int.mul_one]
  have e1 : c * s * (c * s) = c * c * (s * s) := by ac_rfl
  have e2 : (m : Int) * (c * c * d * t) = c * c * (d * (m * t)) := by ac_rfl
  omega
def nw6 (m : Nat) : Nat := nw m (nw m (nw m (nw m (nw m (nw m 1)))))
theorem nw6_lt (m : Nat) : nw6 m < B64 := nw_lt _ _
theorem nw6_def (m : Nat) : nw m (nw m (nw m (nw m (nw m (nw m 1))))) = nw6 m := rfl
theorem nw6_inv {m : Nat} (hm : m % 2 = 1) : (m * ((B64 - nw6 m) % B64) + 1) % B64 = 0 := by
  have hB : B64 = 18446744073709551616 := rfl
  have h0 : (2 : Int) ∣ (m : Int) * ((1 : Nat) : Int) - 1 := by rw [show ((1 : Nat) : Int) = 1 from rfl, Int.mul_one]; omega
  have h1 := newton (d := 4611686018427387904) h0 (by decide)
  have h2 := newton (d := 1152921504606846976) h1 (by decide)
  have h3 := newton (d := 72057594037927936) h2 (by decide)
  have h4 := newton (d := 281474976710656) h3 (by decide)
  have h5 := newton (d := 4294967296) h4 (by decide)
  have h6 := newton (d := 1) h5 (by decide)
  obtain ⟨s, hs⟩ := h6
  have hl := nw_lt m (nw m (nw m (nw m (nw m (nw m 1)))))
  unfold nw6
  generalize nw m (nw m (nw m (nw m (nw m (nw m 1))))) = x at *
  simp only [Int.reduceMul] at hs
  have e2 := Nat.mod_add_div (B64 - x) B64
  generalize (B64 - x) % B64 = y at *
  generalize (B64 - x) / B64 = q at *
  have hy : (y : Int) = 18446744073709551616 - x - 18446744073709551616 * q := by rw [hB] at e2 hl; omega
  have e : ((m * y + 1 : Nat) : Int) = 18446744073709551616 * (m - m * q - s) := by
    rw [Int.natCast_add, Int.natCast_mul, hy]
    simp only [Int.mul_sub]
    rw [Int.mul_left_comm (m : Int), Int.mul_comm (m : Int) 18446744073709551616]
    have : (m : Int) * x = 1 + 18446744073709551616 * s := by omega
    rw [this]
    omega
  rw [hB]
  have : (((m * y + 1 : Nat) : Int)) % 18446744073709551616 = 0 := by rw [e]; exact Int.mul_emod_right _ _
  omega

/-- One step of a product: a limb more. -/
def mt (M mi D T x : Nat) : Nat := (T + x * D + ((T + x * D) % B64 * mi % B64) * M) / B64
theorem mt_div {M mi D T x : Nat} (hmi : (M * mi + 1) % B64 = 0) : B64 * mt M mi D T x = T + x * D + ((T + x * D) % B64 * mi % B64) * M := by
  unfold mt
  generalize T + x * D = S
  have h1 : (S % B64 * mi % B64 * M) % B64 = (S * (M * mi)) % B64 := by
    rw [Nat.mod_mul_mod, Nat.mul_assoc, Nat.mod_mul_mod, Nat.mul_comm mi M]
  have h2 : (S + S % B64 * mi % B64 * M) % B64 = 0 := by
    rw [Nat.add_mod, h1, ← Nat.add_mod, show S + S * (M * mi) = S * (M * mi + 1) by rw [Nat.mul_add, Nat.mul_one, Nat.add_comm], Nat.mul_mod, hmi, Nat.mul_zero, Nat.zero_mod]
  exact Nat.mul_div_cancel' (Nat.dvd_of_mod_eq_zero h2)
theorem mt_sum {M mi D T x : Nat} (hx : x < B64) (hT : T < D + M) : T + x * D + ((T + x * D) % B64 * mi % B64) * M < B64 * (D + M) := by
  have hq : (T + x * D) % B64 * mi % B64 < B64 := Nat.mod_lt _ B_pos
  generalize (T + x * D) % B64 * mi % B64 = q at *
  have h1 : (x + 1) * D ≤ B64 * D := Nat.mul_le_mul_right _ hx
  have h2 : (q + 1) * M ≤ B64 * M := Nat.mul_le_mul_right _ hq
  rw [Nat.add_mul, Nat.one_mul] at h1 h2
  rw [Nat.mul_add]
  omega
theorem mt_lt {M mi D T x : Nat} (hx : x < B64) (hT : T < D + M) : mt M mi D T x < D + M := by
  unfold mt
  rw [Nat.div_lt_iff_lt_mul B_pos, Nat.mul_comm (D + M)]
  exact mt_sum hx hT
def mts (M mi D : Nat) (l : List Nat) : Nat := l.foldl (mt M mi D) 0
theorem mts_snoc (M mi D : Nat) (l : List Nat) (x : Nat) : mts M mi D (l ++ [x]) = mt M mi D (mts M mi D l) x := by unfold mts; rw [List.foldl_append]; rfl
theorem mts_ok {M mi D : Nat} (hM : 0 < M) (hmi : (M * mi + 1) % B64 = 0) {a : List Nat} (ha : Limbs a) : ∀ i, i ≤ a.length → mts M mi D (a.take i) < D + M ∧ ∃ Q, B64 ^ i * mts M mi D (a.take i) = val (a.take i) * D + Q * M := by
  intro i
  induction i with
  | zero => intro _; exact ⟨by show 0 < D + M; omega, 0, by simp [mts, val]⟩
  | succ i ih =>
    intro h
    obtain ⟨h1, Q, h2⟩ := ih (by omega)
    have hx := ha.get (show i < a.length by omega)
    have e : a.take (i + 1) = a.take i ++ [a[i]] := by rw [List.take_succ_eq_append_getElem (by omega)]
    rw [e, mts_snoc, val_append, List.length_take, Nat.min_eq_left (by omega)]
    refine ⟨mt_lt hx h1, Q + B64 ^ i * ((mts M mi D (a.take i) + a[i] * D) % B64 * mi % B64), ?_⟩
    rw [Nat.pow_succ, Nat.mul_assoc, mt_div hmi]
    generalize (mts M mi D (a.take i) + a[i] * D) % B64 * mi % B64 = q
    rw [Nat.mul_add, Nat.mul_add, h2]
    simp only [val, Nat.mul_zero, Nat.add_zero, Nat.add_mul, Nat.mul_assoc]
    omega
end Go.Proofs.Ytpanbfainilmpaa.Ev.N
end
