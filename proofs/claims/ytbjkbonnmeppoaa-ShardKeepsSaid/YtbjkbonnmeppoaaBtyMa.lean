/- What a shard is, and what its methods do, as plain functions. -/
import Derived.Test.YtbjkbonnmeppoaaBtyY
import Derived.Test.YtbjkbonnmeppoaaBtyV
import Derived.Test.YtbjkbonnmeppoaaBtyR
namespace Go.Bty
open Go

/-- What a key has. -/
structure It where
  key : ByteArray
  val : List UInt8
  flags : Int
  exp : Int
  cas : Int
  sec : Int
  seq : Int
  stale : Bool
  won : Bool
  seen : Bool
  deriving DecidableEq

structure Ev where
  now : Int
  seq : Int
  flush : Int
  flushSeq : Int
  deriving DecidableEq

def liveM (it : It) (e : Ev) : Bool :=
  if it.exp ≠ 0 ∧ it.exp ≤ e.now then false
  else if e.flush ≠ 0 ∧ e.flush ≤ e.now then !(decide (it.sec < e.flush) || (decide (it.sec = e.flush) && decide (it.seq < e.flushSeq)))
  else true
def sizeM (it : It) : Nat := 50 + it.key.size + it.val.length
def clsM (it : It) : Nat := classN (sizeM it)

/-- A shard: its budget, how many keys it protects, its items, the keys in their order, the judge, what was dropped. -/
structure SM where
  budget : Int
  most : Int
  items : List It
  tk : List ByteArray
  sk : List ByteArray
  j : JM
  drops : List ByteArray

def usedL (l : List It) : Int := (l.map fun it => bytesZ (clsM it)).foldr (· + ·) 0
def getI (l : List It) (k : ByteArray) : Option It := l.find? fun it => decide (it.key = k)
def delI (l : List It) (k : ByteArray) : List It := l.filter fun it => decide (it.key ≠ k)
def setI (l : List It) (it : It) : List It := l.map fun x => if x.key = it.key then it else x
def lessM : Option It → Int
  | some x => bytesZ (clsM x)
  | none => 0
namespace SM
def used (m : SM) : Int := usedL m.items
def get (m : SM) (k : ByteArray) : Option It := getI m.items k
def new (seed budget most : Int) : SM := ⟨budget, most, [], [], [], newJ seed, []⟩
def rem (m : SM) (k : ByteArray) : SM := match m.get k with
  | none => m
  | some _ => { m with items := delI m.items k, tk := m.tk.erase k, sk := m.sk.erase k }
def drop (m : SM) (k : ByteArray) : SM := { m.rem k with drops := m.drops ++ [k] }
def find (m : SM) (k : ByteArray) (e : Ev) : SM × Option It := match m.get k with
  | none => (m, none)
  | some it => if liveM it e then (m, some it) else (m.drop k, none)
def use (m : SM) (k : ByteArray) : SM :=
  let j := touchM m.j k
  if k ∈ m.tk ++ m.sk then { m with j := j, tk := (hitM m.most m.tk m.sk k).1, sk := (hitM m.most m.tk m.sk k).2 } else { m with j := j }
/-- Would so many bytes fit, were so many less in use? -/
def fits (m : SM) (size less : Int) : Bool := decide (classN size < 6 ∧ 0 ≤ less ∧ less ≤ m.used ∧ m.used - less + bytesZ (classN size) ≤ m.budget)
def gone (m : SM) (v : ByteArray) (e : Ev) : Bool := match m.get v with | some x => !liveM x e | none => true
/-- Others are dropped, until an item fits. -/
def room : Nat → SM → It → Option It → Ev → SM × Int
  | 0, m, _, _, _ => (m, 0)
  | n + 1, m, it, old, e =>
    if m.fits (sizeM it) (lessM old) then (m, 0)
    else match victimM (m.tk ++ m.sk) it.key with
      | none => (m, 5)
      | some v =>
        if old.isSome || m.gone v e then room n (m.drop v) it old e
        else if worthM m.j it.key > worthM m.j v then room n (m.drop v) it old e
        else (m, 8)
def store (m : SM) (it : It) (e : Ev) : SM × Int :=
  if clsM it = 6 then (m, 4) else
  let f := m.find it.key e
  let r := room (f.1.items.length + 1) f.1 it f.2 e
  if r.2 ≠ 0 then r else
  match f.2 with
  | some _ => ({ r.1 with items := setI r.1.items it }, 0)
  | none => ({ r.1 with items := r.1.items ++ [it], tk := r.1.tk ++ [it.key] }, 0)
def update (m : SM) (it : It) : SM × Int := match m.get it.key with
  | none => (m, 6)
  | some x => if x.val.length ≠ it.val.length then (m, 1) else ({ m with items := setI m.items it }, 0)
end SM
/-- What holds of every shard. -/
structure SOk (m : SM) : Prop where
  dist : (m.items.map (·.key)).Nodup
  keys : (m.tk ++ m.sk).Perm (m.items.map (·.key))
  cls : ∀ it ∈ m.items, clsM it < 6
end Go.Bty
