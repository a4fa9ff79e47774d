/- The document's data as plain structures, and their code in the evaluator's data. -/
import Derived.Test.YtpanbfainilmpaaEv0
set_option linter.unusedVariables false
set_option linter.unusedSimpArgs false
namespace Go.Proofs.Ytpanbfainilmpaa.Ev.S
open Go.Proofs.Ytpanbfainilmpaa.Ev

abbrev dI (n : Int) : D := .sc (.int .i64 n)
abbrev dS (s : ByteArray) : D := .sc (.string s)
abbrev dB (b : Bool) : D := .sc (.bool b)
structure Mem where
  node : Int
  inc : Int
  deriving DecidableEq
structure Vid where
  c : Int
  n : Int
  i : Int
  deriving DecidableEq
structure Strm where
  who : Mem
  texts : List ByteArray
structure Txt where
  who : Mem
  text : ByteArray
structure Hld where
  who : Mem
  id : Vid
  seq : Int
  text : ByteArray
structure Spot where
  leaf : Bool
  who : Mem
structure Flu where
  who : Mem
  old : Vid
  streams : List Strm
  lid : Vid
  tree : List Spot
  want : Bool
structure View where
  id : Vid
  mems : List Mem
structure Evt where
  kind : Int
  at_ : Int
  who : Mem
  view : View
  from_ : Mem
  seq : Int
  text : ByteArray
  tree : List Spot
  key : ByteArray
structure Drw where
  who : Mem
  value : ByteArray
  at_ : Int

def Mem.enc (m : Mem) : List D := [.sc (.int .i64 m.node), .sc (.int .i64 m.inc)]
def Vid.enc (v : Vid) : List D := [.sc (.int .i64 v.c), .sc (.int .i64 v.n), .sc (.int .i64 v.i)]
def tenc (t : ByteArray) : List D := [.sc (.string t)]
def Strm.enc (s : Strm) : List D := [.sc (.int .i64 s.who.node), .sc (.int .i64 s.who.inc), .sl (s.texts.map tenc)]
def Txt.enc (s : Txt) : List D := [.sc (.int .i64 s.who.node), .sc (.int .i64 s.who.inc), .sc (.string s.text)]
def Hld.enc (s : Hld) : List D := [.sc (.int .i64 s.who.node), .sc (.int .i64 s.who.inc), .sc (.int .i64 s.id.c), .sc (.int .i64 s.id.n), .sc (.int .i64 s.id.i), .sc (.int .i64 s.seq), .sc (.string s.text)]
def Spot.enc (s : Spot) : List D := [.sc (.bool s.leaf), .sc (.int .i64 s.who.node), .sc (.int .i64 s.who.inc)]
def Flu.enc (s : Flu) : List D := [.sc (.int .i64 s.who.node), .sc (.int .i64 s.who.inc), .sc (.int .i64 s.old.c), .sc (.int .i64 s.old.n), .sc (.int .i64 s.old.i), .sl (s.streams.map Strm.enc), .sc (.int .i64 s.lid.c), .sc (.int .i64 s.lid.n), .sc (.int .i64 s.lid.i), .sl (s.tree.map Spot.enc), .sc (.bool s.want)]
def View.enc (v : View) : List D := [.sc (.int .i64 v.id.c), .sc (.int .i64 v.id.n), .sc (.int .i64 v.id.i), .sl (v.mems.map Mem.enc)]
def Evt.enc (s : Evt) : List D := [.sc (.int .i64 s.kind), .sc (.int .i64 s.at_), .sc (.int .i64 s.who.node), .sc (.int .i64 s.who.inc), .sc (.int .i64 s.view.id.c), .sc (.int .i64 s.view.id.n), .sc (.int .i64 s.view.id.i), .sl (s.view.mems.map Mem.enc), .sc (.int .i64 s.from_.node), .sc (.int .i64 s.from_.inc), .sc (.int .i64 s.seq), .sc (.string s.text), .sl (s.tree.map Spot.enc), .sc (.string s.key)]
def Drw.enc (s : Drw) : List D := [.sc (.int .i64 s.who.node), .sc (.int .i64 s.who.inc), .sc (.string s.value), .sc (.int .i64 s.at_)]
end Go.Proofs.Ytpanbfainilmpaa.Ev.S
