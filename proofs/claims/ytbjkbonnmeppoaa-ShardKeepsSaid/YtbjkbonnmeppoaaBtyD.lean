/- 'vp': operations that go through alike in whatever world; 'vr': operations that read the world and leave it alone. -/
import Derived.Test.YtbjkbonnmeppoaaBtyC
namespace Go.Bty
open Go

def isI (K : IntKind → Int → Prop) : Value → Prop
  | .int k n => K k n
  | _ => False
/-- A bound of a slice: left out, or given. -/
def vbd (ρ : Env) (x : Option Operand) (dflt bound : Nat) (K : Nat → Prop) : Prop :=
  match x with
  | none => K dflt
  | some x => vx ρ x (isI fun _ i => 0 ≤ i ∧ i ≤ (bound : Int) ∧ K i.toNat)
def offA (a : Option Addr) (m l sz : Nat) : Option Addr := if m = l then a else a.map (·.add (l * sz))
def offB (a : Addr) (m l sz : Nat) : Addr := if m = l then a else a.add (l * sz)
def strT (d : Option TypeDesc) : Bool := match d with | some .string => true | _ => false
def vcv (ρ : Env) (s d : Option TypeDesc) (x : Operand) (K : Value → Prop) : Prop :=
  match d with
  | some (.int k) => match s with
    | some _ => vx ρ x (isI fun _ n => K (.int k (k.wrap n)))
    | none => False
  | some .string => bif strT s then vx ρ x fun v => match v with
      | .string u => K (.string u)
      | _ => False
    else False
  | _ => False
def mx2 (a b : Value) (K : Value → Prop) : Prop := match a, b with
  | .int k m, .int _ n => K (.int k (if n > m then n else m))
  | _, _ => False
def mn2 (a b : Value) (K : Value → Prop) : Prop := match a, b with
  | .int k m, .int _ n => K (.int k (if n < m then n else m))
  | _, _ => False
def vlenS (K : Value → Prop) : Value → Prop
  | .string s => K (.int .i64 s.size)
  | _ => False
def vlenL (K : Value → Prop) : Value → Prop
  | .slice _ n _ => K (.int .i64 n)
  | _ => False
def vcap (K : Value → Prop) : Value → Prop
  | .slice _ _ c => K (.int .i64 c)
  | _ => False
def structFields (P : Program) : List Field → Option (List (Nat × Nat))
  | [] => some []
  | f :: fs => match szOf P f.type with
    | some n => match structFields P fs with
      | some l => some ((f.offset, n) :: l)
      | none => none
    | none => none

def arrT (d : Option TypeDesc) : Option (Nat × TypeId) := match d with | some (.array n e) => some (n, e) | _ => none
def one1 (P : Program) (e : TypeId) : Bool := match szOf P e, aggB P e with
  | some n, some g => Nat.beq n 1 && !g
  | _, _ => false
def vp (P : Program) (ρ : Env) (o : Op) (K : Value → Prop) : Prop :=
  match o with
  | .move x => vx ρ x K
  | .assign x => vx ρ x K
  | .pick c a b => vx ρ c fun c => vx ρ a fun a => vx ρ b fun b => match c with
    | .bool c => K (bif c then a else b)
    | _ => False
  | .nilCheck x => vx ρ x fun v => match v with
    | .pointer p => ∃ a, p = some a ∧ K (.pointer (some a))
    | _ => False
  | .binOp op t x y _ => vx ρ x fun a => vx ρ y fun b => vbin P op t y a b K
  | .unOp op _ x => vx ρ x fun a => match op, a with
    | .neg, .int k n => K (.int k (k.wrap (0 - n)))
    | .not, .bool b => K (.bool !b)
    | _, _ => False
  | .convert s d x => vcv ρ (P.underlying s) (P.underlying d) x K
  | .fieldAddr s x i => match fieldOf P s i with
    | some (off, n, _) => bif Nat.ble 1 n then vx ρ x fun v => match v with
        | .pointer q => OnSome q fun a => K (.pointer (some (a.add off)))
        | _ => False
      else False
    | none => False
  | .field s x i => match fieldOf P s i with
    | some (off, n, g) => vx ρ x fun v => match v with
      | .agg cs => bif g then K (.agg ((cs.toList.drop off).take n).toArray) else match cs.toList[off]? with
        | some u => K u
        | none => False
      | _ => False
    | none => False
  | .indexAddr t x ix => match P.underlying t with
    | some (.array len e) => match szOf P e with
      | some sz => vx ρ x fun v => vx ρ ix fun j => match v, j with
        | .pointer q, .int _ i => OnSome q fun a => 0 ≤ i ∧ i < (len : Int) ∧ K (.pointer (some (a.add (i.toNat * sz))))
        | _, _ => False
      | none => False
    | some (.slice e) => match szOf P e with
      | some sz => vx ρ x fun v => vx ρ ix fun j => match v, j with
        | .slice b n _, .int _ i => ∃ a, b = some a ∧ 0 ≤ i ∧ i < (n : Int) ∧ K (.pointer (some (a.add (i.toNat * sz))))
        | _, _ => False
      | none => False
    | _ => False
  | .index t x ix => bif strT (P.underlying t) then vx ρ x fun v => vx ρ ix fun j => match v, j with
      | .string s, .int _ i => 0 ≤ i ∧ ∃ b, s[i.toNat]? = some b ∧ K (.int .u8 b.toNat)
      | _, _ => False
    else match arrT (P.underlying t) with
      | some (len, e) => match shOf P e with
        | some (.one s) => bif one1 P e then vx ρ x fun v => vx ρ ix fun j => match v, j with
            | .agg cs, .int _ i => 0 ≤ i ∧ i < (len : Int) ∧ s.ex fun u => cs.toList[i.toNat]? = some u ∧ K u
            | _, _ => False
          else False
        | _ => False
      | none => False
  | .slice t x lo hi mx => match P.underlying t with
    | some .string => match mx with
      | none => vx ρ x fun v => match v with
        | .string s => vbd ρ hi s.size s.size fun h => vbd ρ lo 0 h fun l => K (.string (s.extract l h))
        | _ => False
      | some _ => False
    | some (.slice e) => match szOf P e with
      | some sz => match mx with
        | none => vx ρ x fun v => match v with
          | .slice a n c => vbd ρ hi n c fun h => vbd ρ lo 0 h fun l => K (.slice (offA a c l sz) (h - l) (c - l))
          | _ => False
        | some mx => vx ρ x fun v => match v with
          | .slice a n c => vbd ρ (some mx) c c fun m => vbd ρ hi n m fun h => vbd ρ lo 0 h fun l => bif hi.isSome then K (.slice (offA a m l sz) (h - l) (m - l)) else False
          | _ => False
      | none => False
    | some (.array n e) => match szOf P e with
      | some sz => match mx with
        | none => vx ρ x fun v => match v with
          | .pointer q => OnSome q fun a => vbd ρ hi n n fun h => vbd ρ lo 0 h fun l => K (.slice (some (offB a n l sz)) (h - l) (n - l))
          | _ => False
        | some _ => False
      | none => False
    | _ => False
  | .extract x i => vx ρ x fun v => match v with
    | .tuple vs => match vs.toList[i]? with
      | some u => K u
      | none => False
    | _ => False
  | .makeInterface t x => match P.underlying t with
    | some (.interface _) => False
    | some _ => vx ρ x fun v => K (.iface t v)
    | none => False
  | .makeFunc fn fs cs => match evs ρ fs.toList with
    | some us => match evs ρ cs.toList with
      | some vs => K (.func fn us.toArray vs.toArray)
      | none => False
    | none => False
  | .build t ps => match zeroOf P t with
    | some z => match evp ρ ps.toList with
      | some qs => match P.underlying t with
        | some (.struct fs) => match structFields P fs.toList with
          | some pl => match Instr.fill (fun i => pl[i]?) z.cells qs with
            | some cs => K (.agg cs.toList.toArray)
            | none => False
          | none => False
        | some (.array _ e) => match szOf P e with
          | some sz => match Instr.fill (fun i => some (i * sz, sz)) z.cells qs with
            | some cs => K (.agg cs.toList.toArray)
            | none => False
          | none => False
        | _ => False
      | none => False
    | none => False
  | .call { callee := .builtin .len, args, argTypes } => match args.toList, argTypes.toList with
    | [x], t :: _ => match P.underlying t with
      | some .string => vx ρ x (vlenS K)
      | some (.slice _) => vx ρ x (vlenL K)
      | _ => False
    | _, _ => False
  | .call { callee := .builtin .cap, args, argTypes } => match args.toList, argTypes.toList with
    | [x], t :: _ => bif sliceT (P.underlying t) then vx ρ x (vcap K) else False
    | _, _ => False
  | .call { callee := .builtin .max, args, .. } => match args.toList with
    | [x, y] => vx ρ x fun a => vx ρ y fun b => mx2 a b K
    | _ => False
  | .call { callee := .builtin .min, args, .. } => match args.toList with
    | [x, y] => vx ρ x fun a => vx ρ y fun b => mn2 a b K
    | _ => False
  | _ => False

/-- Whether an operation is one of 'vp's. -/
def isP : Op → Bool
  | .move _ | .assign _ | .pick .. | .nilCheck _ | .binOp .. | .unOp .. | .fieldAddr .. | .field .. | .indexAddr .. | .index .. | .slice .. | .extract .. | .makeInterface .. | .makeFunc .. | .build .. => true
  | .call { callee := .builtin .cap, .. } | .call { callee := .builtin .max, .. } | .call { callee := .builtin .min, .. } => true
  | _ => false
end Go.Bty
