/- The conditions of operations that leave the world alone, in whatever world ('vp'), and that read it ('vr'), with their proofs. -/
import Derived.Test.YtbjkbonnmeppoaaBtyB
namespace Go.Bty
open Go

def isNilV : Value → Option Bool
  | .nilIface => some true
  | .iface _ _ => some false
  | .nilFunc => some true
  | .func _ _ _ => some false
  | _ => none
def isConstO : Operand → Bool
  | .const _ => true
  | _ => false
def seq (a b : ByteArray) : Bool := a.toList == b.toList
def slt (a b : ByteArray) : Bool := Op.bytesLess a.toList b.toList

def vbinI' (op : BinOp) (k : IntKind) (m n : Int) (K : Value → Prop) : Prop :=
  match op with
  | .add => K (.int k (k.wrap (m + n)))
  | .sub => K (.int k (k.wrap (m - n)))
  | .mul => K (.int k (k.wrap (m * n)))
  | .quo => n ≠ 0 ∧ K (.int k (k.wrap (m.tdiv n)))
  | .rem => n ≠ 0 ∧ K (.int k (m.tmod n))
  | .and => K (.int k (k.wrap ((BitVec.ofInt k.bits m &&& BitVec.ofInt k.bits n).toNat : Int)))
  | .or => K (.int k (k.wrap ((BitVec.ofInt k.bits m ||| BitVec.ofInt k.bits n).toNat : Int)))
  | .xor => K (.int k (k.wrap ((BitVec.ofInt k.bits m ^^^ BitVec.ofInt k.bits n).toNat : Int)))
  | .eql => K (.bool (m == n))
  | .neq => K (.bool (m != n))
  | .lss => K (.bool (decide (m < n)))
  | .leq => K (.bool (decide (m ≤ n)))
  | .gtr => K (.bool (decide (m > n)))
  | .geq => K (.bool (decide (m ≥ n)))
  | _ => False
def vbinI (op : BinOp) (k : IntKind) (m : Int) (k' : IntKind) (n : Int) (K : Value → Prop) : Prop :=
  match op with
  | .shl => 0 ≤ n ∧ K (.int k (k.wrap (m * 2 ^ (min n.toNat k.bits))))
  | .shr => 0 ≤ n ∧ K (.int k (m.fdiv (2 ^ (min n.toNat k.bits))))
  | op => bif decide (k = k') then vbinI' op k m n K else False
def vbinS (op : BinOp) (s u : ByteArray) (K : Value → Prop) : Prop :=
  match op with
  | .add => ((s.size + u.size : Nat) : Int) ≤ IntKind.i64.max ∧ K (.string (s ++ u))
  | .eql => K (.bool (seq s u))
  | .neq => K (.bool !(seq s u))
  | .lss => K (.bool (slt s u))
  | .leq => K (.bool (slt s u || seq s u))
  | .gtr => K (.bool !(slt s u || seq s u))
  | .geq => K (.bool !(slt s u))
  | _ => False
def veq (op : BinOp) (b : Bool) (K : Value → Prop) : Prop :=
  match op with
  | .eql => K (.bool b)
  | .neq => K (.bool !b)
  | _ => False
def ptrT (d : Option TypeDesc) : Bool := match d with | some (.pointer _) => true | _ => false
def sliceT (d : Option TypeDesc) : Bool := match d with | some (.slice _) => true | _ => false
def mapT (d : Option TypeDesc) : Bool := match d with | some (.map _ _) => true | _ => false
def ifaceT (d : Option TypeDesc) : Bool := match d with | some (.interface _) => true | _ => false
def funcT (d : Option TypeDesc) : Bool := match d with | some (.func _ _ _) => true | _ => false
def boolT (d : Option TypeDesc) : Bool := match d with | some .bool => true | _ => false
def vbin (P : Program) (op : BinOp) (t : TypeId) (y : Operand) (a b : Value) (K : Value → Prop) : Prop :=
  match b with
  | .nilIface => bif isConstO y && ifaceT (P.underlying t) then ∃ c, isNilV a = some c ∧ (a ≠ .nilFunc ∧ (∀ f x z, a ≠ .func f x z)) ∧ veq op c K else False
  | .nilFunc => bif funcT (P.underlying t) then ∃ c, isNilV a = some c ∧ (a ≠ .nilIface ∧ (∀ u v, a ≠ .iface u v)) ∧ veq op c K else False
  | .pointer none => match a with
    | .pointer p => bif ptrT (P.underlying t) then veq op p.isNone K else False
    | _ => False
  | .slice none _ _ => match a with
    | .slice p _ _ => bif sliceT (P.underlying t) then veq op p.isNone K else False
    | _ => False
  | .map none => match a with
    | .map p => bif mapT (P.underlying t) then veq op p.isNone K else False
    | _ => False
  | .int k' n => match a with
    | .int k m => vbinI op k m k' n K
    | _ => False
  | .string u => match a with
    | .string s => vbinS op s u K
    | _ => False
  | .bool q => match a with
    | .bool p => bif boolT (P.underlying t) then veq op (p == q) K else False
    | _ => False
  | _ => False
end Go.Bty
namespace Go.Bty
open Go
/-- 'binOp' goes through, in whatever world. -/
def AllW (P : Program) (s : Sem Value) (K : Value → Prop) : Prop := ∃ v, K v ∧ ∀ w, s.run P w = .ok v w

theorem AllW.mk {P : Program} {s : Sem Value} {K : Value → Prop} {v : Value} (h : K v) (hs : ∀ w, s.run P w = .ok v w) : AllW P s K := ⟨v, h, hs⟩

theorem intBin_sound {P : Program} {op : BinOp} {t : TypeId} {k k' : IntKind} {m n : Int} {K : Value → Prop} (h : vbinI op k m k' n K) :
    AllW P (binOp op t (.int k m) (.int k' n)) K := by
  unfold vbinI at h
  cases op <;> simp only at h
  case shl => exact .mk h.2 fun w => by simp [binOp, Op.shift, Int.not_lt.2 h.1]
  case shr => exact .mk h.2 fun w => by simp [binOp, Op.shift, Int.not_lt.2 h.1]
  all_goals
    cases hk : decide (k = k') with
    | false => rw [hk] at h; exact h.elim
    | true =>
      rw [hk] at h
      obtain rfl : k = k' := of_decide_eq_true hk
      simp only [cond_true, vbinI'] at h <;> first
        | exact .mk h fun w => by simp [binOp, Op.intArith, Op.intBits, Op.intCmp]
        | exact .mk h.2 fun w => by simp [binOp, Op.intDiv, h.1]

theorem strBin_sound {P : Program} {op : BinOp} {t : TypeId} {s u : ByteArray} {K : Value → Prop} (h : vbinS op s u K) :
    AllW P (binOp op t (.string s) (.string u)) K := by
  unfold vbinS at h
  cases op <;> simp only at h
  case add =>
    have h1 : ¬ (((s.size + u.size : Nat) : Int) > IntKind.i64.max) := by have := h.1; omega
    exact .mk h.2 fun w => by simp only [binOp, Op.stringOp]; rw [if_neg h1]; rfl
  all_goals first
    | exact .mk h fun w => by simp [binOp, Op.stringOp, seq, slt]
    | exact h.elim

theorem eqGuard_plain {P : Program} {op : BinOp} {t : TypeId} {x y : Operand} {a b : Value} (h1 : ∀ cs, b ≠ .agg cs) (h2 : b = .nilIface → isConstO y = true) (w : World) :
    (eqGuard op t x y a b).run P w = .ok () w := by
  unfold eqGuard
  have key : ∀ s : Sem Unit, (∀ w, s.run P w = .ok () w) → ((if (!(match op with | .eql | .neq => true | _ => false)) = true then pure () else s : Sem Unit)).run P w = .ok () w := fun s hs => by
    cases op <;> first | rfl | exact hs w
  refine key _ fun w => ?_
  cases b with
  | agg cs => exact absurd rfl (h1 cs)
  | nilIface =>
    have hy := h2 rfl
    cases y <;> simp only [isConstO, Bool.false_eq_true] at hy
    cases a <;> simp
  | _ => cases a <;> rfl

theorem run_underlying {P : Program} {t : TypeId} {d : TypeDesc} (h : P.underlying t = some d) (w : World) : (underlying t).run P w = .ok d w := by simp [underlying, h]

theorem equal_bool {P : Program} {t : TypeId} (h : boolT (P.underlying t) = true) (p q : Bool) (w : World) : (Op.equal t (.bool p) (.bool q)).run P w = .ok (p == q) w := by
  cases hu : P.underlying t with
  | none => rw [hu] at h; cases h
  | some d =>
    rw [hu] at h
    cases d <;> simp only [boolT, Bool.false_eq_true] at h
    unfold Op.equal
    rw [show Op.maxDepth = 9999 + 1 from rfl, Op.equalIn, Sem.run_bind, run_underlying hu]
    rfl
theorem equal_ptr {P : Program} {t : TypeId} (h : ptrT (P.underlying t) = true) (p : Option Addr) (w : World) : (Op.equal t (.pointer p) (.pointer none)).run P w = .ok p.isNone w := by
  cases hu : P.underlying t with
  | none => rw [hu] at h; cases h
  | some d =>
    rw [hu] at h
    cases d <;> simp only [ptrT, Bool.false_eq_true] at h
    unfold Op.equal
    rw [show Op.maxDepth = 9999 + 1 from rfl, Op.equalIn, Sem.run_bind, run_underlying hu]
    cases p <;> rfl
theorem equal_slice {P : Program} {t : TypeId} (h : sliceT (P.underlying t) = true) (p : Option Addr) (n c m d : Nat) (w : World) : (Op.equal t (.slice p n c) (.slice none m d)).run P w = .ok p.isNone w := by
  cases hu : P.underlying t with
  | none => rw [hu] at h; cases h
  | some d =>
    rw [hu] at h
    cases d <;> simp only [sliceT, Bool.false_eq_true] at h
    unfold Op.equal
    rw [show Op.maxDepth = 9999 + 1 from rfl, Op.equalIn, Sem.run_bind, run_underlying hu]
    cases p <;> rfl
theorem equal_map {P : Program} {t : TypeId} (h : mapT (P.underlying t) = true) (p : Option Nat) (w : World) : (Op.equal t (.map p) (.map none)).run P w = .ok p.isNone w := by
  cases hu : P.underlying t with
  | none => rw [hu] at h; cases h
  | some d =>
    rw [hu] at h
    cases d <;> simp only [mapT, Bool.false_eq_true] at h
    unfold Op.equal
    rw [show Op.maxDepth = 9999 + 1 from rfl, Op.equalIn, Sem.run_bind, run_underlying hu]
    cases p <;> rfl
theorem equal_iface {P : Program} {t : TypeId} (h : ifaceT (P.underlying t) = true) {a : Value} {c : Bool} (hn : isNilV a = some c) (h1 : a ≠ .nilFunc) (h2 : ∀ f x z, a ≠ .func f x z) (w : World) : (Op.equal t a .nilIface).run P w = .ok c w := by
  cases hu : P.underlying t with
  | none => rw [hu] at h; cases h
  | some d =>
    rw [hu] at h
    cases d <;> simp only [ifaceT, Bool.false_eq_true] at h
    unfold Op.equal
    rw [show Op.maxDepth = 9999 + 1 from rfl, Op.equalIn, Sem.run_bind, run_underlying hu]
    cases a <;> simp only [isNilV, Option.some.injEq, reduceCtorEq] at hn
    case iface => subst hn; rfl
    case nilIface => subst hn; rfl
    case nilFunc => exact absurd rfl h1
    case func f x z => exact absurd rfl (h2 f x z)
theorem equal_func {P : Program} {t : TypeId} (h : funcT (P.underlying t) = true) {a : Value} {c : Bool} (hn : isNilV a = some c) (h1 : a ≠ .nilIface) (h2 : ∀ u v, a ≠ .iface u v) (w : World) : (Op.equal t a .nilFunc).run P w = .ok c w := by
  cases hu : P.underlying t with
  | none => rw [hu] at h; cases h
  | some d =>
    rw [hu] at h
    cases d <;> simp only [funcT, Bool.false_eq_true] at h
    unfold Op.equal
    rw [show Op.maxDepth = 9999 + 1 from rfl, Op.equalIn, Sem.run_bind, run_underlying hu]
    cases a <;> simp only [isNilV, Option.some.injEq, reduceCtorEq] at hn
    case func => subst hn; rfl
    case nilFunc => subst hn; rfl
    case nilIface => exact absurd rfl h1
    case iface u v => exact absurd rfl (h2 u v)

theorem veq_sound {P : Program} {op : BinOp} {t : TypeId} {a b : Value} {c : Bool} {K : Value → Prop} (h : veq op c K) (he : ∀ w, (Op.equal t a b).run P w = .ok c w)
    (hb : ∀ w, (binOp .eql t a b).run P w = (do pure (Value.bool (← Op.equal t a b)) : Sem Value).run P w) (hb' : ∀ w, (binOp .neq t a b).run P w = (do pure (Value.bool (!(← Op.equal t a b))) : Sem Value).run P w) :
    AllW P (binOp op t a b) K := by
  cases op <;> simp only [veq] at h
  case eql => exact .mk h fun w => by rw [hb, Sem.run_bind, he]; rfl
  case neq => exact .mk h fun w => by rw [hb', Sem.run_bind, he]; rfl
  all_goals exact h.elim

theorem bin_sound {P : Program} {op : BinOp} {t : TypeId} {x y : Operand} {a b : Value} {K : Value → Prop} (h : vbin P op t y a b K) :
    AllW P (do eqGuard op t x y a b; binOp op t a b) K := by
  have hg : (∀ cs, b ≠ .agg cs) ∧ (b = .nilIface → isConstO y = true) := by
    unfold vbin at h
    constructor
    · rintro cs rfl; exact h.elim
    · rintro rfl
      simp only at h
      cases hc : isConstO y with
      | true => rfl
      | false => rw [hc] at h; exact h.elim
  suffices hs : AllW P (binOp op t a b) K by
    obtain ⟨v, hv, hw⟩ := hs
    exact ⟨v, hv, fun w => by simp only [Sem.run_bind, eqGuard_plain hg.1 hg.2 w, Result.andThen_ok, hw]⟩
  unfold vbin at h
  split at h
  · cases hc : isConstO y && ifaceT (P.underlying t) with
    | false => rw [hc] at h; exact h.elim
    | true =>
      rw [hc] at h
      obtain ⟨c, hn, ⟨hx1, hx2⟩, h⟩ := h
      simp only [Bool.and_eq_true] at hc
      exact veq_sound h (equal_iface hc.2 hn hx1 hx2) (fun w => by cases a <;> first | rfl | (simp [isNilV] at hn)) (fun w => by cases a <;> first | rfl | (simp [isNilV] at hn))
  · cases hc : funcT (P.underlying t) with
    | false => rw [hc] at h; exact h.elim
    | true =>
      rw [hc] at h
      obtain ⟨c, hn, ⟨hx1, hx2⟩, h⟩ := h
      exact veq_sound h (equal_func hc hn hx1 hx2) (fun w => by cases a <;> first | rfl | (simp [isNilV] at hn)) (fun w => by cases a <;> first | rfl | (simp [isNilV] at hn))
  · split at h
    · cases hc : ptrT (P.underlying t) with
      | false => rw [hc] at h; exact h.elim
      | true => rw [hc] at h; exact veq_sound h (equal_ptr hc _) (fun _ => rfl) (fun _ => rfl)
    · exact h.elim
  · split at h
    · cases hc : sliceT (P.underlying t) with
      | false => rw [hc] at h; exact h.elim
      | true => rw [hc] at h; exact veq_sound h (equal_slice hc _ _ _ _ _) (fun _ => rfl) (fun _ => rfl)
    · exact h.elim
  · split at h
    · cases hc : mapT (P.underlying t) with
      | false => rw [hc] at h; exact h.elim
      | true => rw [hc] at h; exact veq_sound h (equal_map hc _) (fun _ => rfl) (fun _ => rfl)
    · exact h.elim
  · split at h
    · exact intBin_sound h
    · exact h.elim
  · split at h
    · exact strBin_sound h
    · exact h.elim
  · split at h
    · cases hc : boolT (P.underlying t) with
      | false => rw [hc] at h; exact h.elim
      | true => rw [hc] at h; exact veq_sound h (equal_bool hc _ _) (fun _ => rfl) (fun _ => rfl)
    · exact h.elim
  · exact h.elim
end Go.Bty
