/- The conditions of single operations: what must hold for an operation to go through, and what it leaves; over an environment of temporaries whose keys are numerals. -/
import Derived.Test.YtbjkbonnmeppoaaBtyA
import Derived.Laws.Cells
import Derived.Laws.NewFold
namespace Go.Bty
open Go

/-- What is in an option. -/
def OnSome {α : Type} (p : Option α) (K : α → Prop) : Prop :=
  match p with
  | some a => K a
  | none => False
theorem onSome_some {α : Type} {a : α} {K : α → Prop} : OnSome (some a) K = K a := rfl
theorem onSome_spec {α : Type} {p : Option α} {K : α → Prop} (h : OnSome p K) : ∃ a, p = some a ∧ K a := by
  cases p with
  | none => exact h.elim
  | some a => exact ⟨a, rfl, h⟩

/- ### Shapes of values -/
inductive S1 where
  | int (k : IntKind) | bool | str | ptr | slice | map | any
  deriving DecidableEq
inductive S2 where
  | one (s : S1) | agg (ss : List S1)
inductive Sh where
  | one (s : S2) | tup (ss : List S2)

def S1.ex : S1 → (Value → Prop) → Prop
  | .int k, K => ∃ n : Int, K (.int k n)
  | .bool, K => ∃ b : Bool, K (.bool b)
  | .str, K => ∃ s : ByteArray, K (.string s)
  | .ptr, K => ∃ a : Option Addr, K (.pointer a)
  | .slice, K => ∃ (a : Option Addr) (n c : Nat), K (.slice a n c)
  | .map, K => ∃ r : Option Nat, K (.map r)
  | .any, K => ∃ v : Value, K v

def exs : List S1 → (List Value → Prop) → Prop
  | [], K => K []
  | s :: ss, K => s.ex fun v => exs ss fun vs => K (v :: vs)

def S2.ex : S2 → (Value → Prop) → Prop
  | .one s, K => s.ex K
  | .agg ss, K => exs ss fun vs => K (.agg vs.toArray)

def exs2 : List S2 → (List Value → Prop) → Prop
  | [], K => K []
  | s :: ss, K => s.ex fun v => exs2 ss fun vs => K (v :: vs)

def Sh.ex : Sh → (Value → Prop) → Prop
  | .one s, K => s.ex K
  | .tup ss, K => exs2 ss fun vs => K (.tuple vs.toArray)

def S1.of : Value → S1
  | .int k _ => .int k
  | .bool _ => .bool
  | .string _ => .str
  | .pointer _ => .ptr
  | .slice .. => .slice
  | .map _ => .map
  | _ => .any

section
theorem S1.ex_imp {s : S1} {K : Value → Prop} (h : s.ex K) : ∃ v, K v := by
  cases s <;> simp only [S1.ex] at h
  case slice => obtain ⟨a, n, c, h⟩ := h; exact ⟨_, h⟩
  all_goals (obtain ⟨v, h⟩ := h; exact ⟨_, h⟩)
theorem exs_imp : ∀ {ss : List S1} {K : List Value → Prop}, exs ss K → ∃ vs, vs.length = ss.length ∧ K vs
  | [], _, h => ⟨[], rfl, h⟩
  | _ :: ss, _, h => by
    obtain ⟨v, h⟩ := S1.ex_imp h
    obtain ⟨vs, hl, h⟩ := exs_imp (ss := ss) h
    exact ⟨v :: vs, by simp [hl], h⟩
theorem S2.ex_imp {s : S2} {K : Value → Prop} (h : s.ex K) : ∃ v, K v := by
  cases s with
  | one s => exact S1.ex_imp h
  | agg ss => obtain ⟨vs, _, h⟩ := exs_imp h; exact ⟨_, h⟩
theorem exs2_imp : ∀ {ss : List S2} {K : List Value → Prop}, exs2 ss K → ∃ vs, K vs
  | [], _, h => ⟨[], h⟩
  | _ :: ss, _, h => by
    obtain ⟨v, h⟩ := S2.ex_imp h
    obtain ⟨vs, h⟩ := exs2_imp (ss := ss) h
    exact ⟨v :: vs, h⟩
theorem Sh.ex_imp {s : Sh} {K : Value → Prop} (h : s.ex K) : ∃ v, K v := by
  cases s with
  | one s => exact S2.ex_imp h
  | tup ss => obtain ⟨vs, h⟩ := exs2_imp h; exact ⟨_, h⟩
end

/- ### The environment -/
abbrev Env := List (Nat × Value)
def Env.get : Env → Nat → Option Value
  | [], _ => none
  | p :: ρ, t => bif Nat.beq p.1 t then some p.2 else Env.get ρ t
def Env.put (ρ : Env) (dst : Option Nat) (v : Value) : Env :=
  match dst with
  | some d => (d, v) :: ρ
  | none => ρ
def Env.drop (ρ : Env) (ts : List Nat) : Env := ρ.filter fun p => !(ts.any fun t => Nat.beq p.1 t)
def ev (ρ : Env) : Operand → Option Value
  | .tmp t => ρ.get t
  | .const v => some v
  | .global g => some (.pointer (some ⟨g, 0, none⟩))
  | .func f => some (.func (.func f) #[] #[])
def evs (ρ : Env) : List Operand → Option (List Value)
  | [] => some []
  | x :: xs => match ev ρ x with
    | some v => match evs ρ xs with
      | some vs => some (v :: vs)
      | none => none
    | none => none
def evp (ρ : Env) : List (Nat × Operand) → Option (List (Nat × Value))
  | [] => some []
  | (i, x) :: xs => match ev ρ x with
    | some v => match evp ρ xs with
      | some vs => some ((i, v) :: vs)
      | none => none
    | none => none
def vx (ρ : Env) (x : Operand) (K : Value → Prop) : Prop :=
  match ev ρ x with
  | some v => K v
  | none => False

structure Rel (N : Nat) (ρ : Env) (ds : List Nat) (a : Act) : Prop where
  size : a.tmps.size = N
  val : ∀ t v, ρ.get t = some v → a.tmps.getD t undef = v
  defs : a.defers = ds.map fun D => { target := .collected D, args := #[] }

theorem Rel.ev {N : Nat} {ρ : Env} {ds : List Nat} {a : Act} (h : Rel N ρ ds a) {x : Operand} {v : Value} (hx : ev ρ x = some v) : a.eval x = v := by
  cases x with
  | tmp t => exact h.val t v hx
  | const c => simpa [Bty.ev, Act.eval] using hx
  | global g => simpa [Bty.ev, Act.eval] using hx
  | func f => simpa [Bty.ev, Act.eval] using hx

theorem Rel.vx {N : Nat} {ρ : Env} {ds : List Nat} {a : Act} (h : Rel N ρ ds a) {x : Operand} {K : Value → Prop} (hx : vx ρ x K) : K (a.eval x) := by
  unfold Bty.vx at hx
  split at hx
  · rename_i v hv; rw [h.ev hv]; exact hx
  · exact hx.elim

theorem Rel.evs {N : Nat} {ρ : Env} {ds : List Nat} {a : Act} (h : Rel N ρ ds a) : ∀ {xs : List Operand} {vs : List Value}, evs ρ xs = some vs → xs.map a.eval = vs
  | [], vs, hx => by simpa [Bty.evs] using hx
  | x :: xs, vs, hx => by
    simp only [Bty.evs] at hx
    split at hx
    · rename_i v hv
      split at hx
      · rename_i us hu
        cases hx
        simp [h.ev hv, Rel.evs h hu]
      · cases hx
    · cases hx

theorem Rel.evp {N : Nat} {ρ : Env} {ds : List Nat} {a : Act} (h : Rel N ρ ds a) : ∀ {xs : List (Nat × Operand)} {vs : List (Nat × Value)}, evp ρ xs = some vs → xs.map (fun p => (p.1, a.eval p.2)) = vs
  | [], vs, hx => by simpa [Bty.evp] using hx
  | (i, x) :: xs, vs, hx => by
    simp only [Bty.evp] at hx
    split at hx
    · rename_i v hv
      split at hx
      · rename_i us hu
        cases hx
        simp [h.ev hv, Rel.evp h hu]
      · cases hx
    · cases hx

theorem Env.get_put {ρ : Env} {d t : Nat} {v u : Value} (h : Env.get ((d, v) :: ρ) t = some u) : (d = t ∧ u = v) ∨ (d ≠ t ∧ ρ.get t = some u) := by
  simp only [Env.get] at h
  cases hb : Nat.beq d t with
  | true => rw [hb] at h; exact .inl ⟨Nat.eq_of_beq_eq_true hb, by simpa using h.symm⟩
  | false => rw [hb] at h; exact .inr ⟨Nat.ne_of_beq_eq_false hb, by simpa using h⟩

theorem Rel.put {N : Nat} {ρ : Env} {ds : List Nat} {a : Act} (h : Rel N ρ ds a) {dst : Option Nat} (hd : ∀ d, dst = some d → d < N) (v : Value) : Rel N (ρ.put dst v) ds (a.put dst v) := by
  cases dst with
  | none => exact h
  | some d =>
    have hlt := hd d rfl
    refine ⟨by simp [Act.put, h.size], fun t u hu => ?_, h.defs⟩
    rcases Env.get_put hu with ⟨rfl, rfl⟩ | ⟨hne, hu⟩
    · simp [Act.put, h.size, hlt]
    · have := h.val t u hu
      simp only [Act.put, Array.getD_eq_getD_getElem?] at *
      rw [Array.getElem?_setIfInBounds_ne hne]; exact this

theorem Rel.forget {N : Nat} {ρ ρ' : Env} {ds : List Nat} {a : Act} (h : Rel N ρ ds a) (hs : ∀ t v, ρ'.get t = some v → ρ.get t = some v) : Rel N ρ' ds a :=
  ⟨h.size, fun t v hv => h.val t v (hs t v hv), h.defs⟩

theorem Env.get_drop {ρ : Env} {ts : List Nat} {t : Nat} {v : Value} : (ρ.drop ts).get t = some v → ρ.get t = some v ∧ t ∉ ts := by
  induction ρ with
  | nil => intro h; cases h
  | cons p ρ ih =>
    intro h
    unfold Env.drop at h
    rw [List.filter_cons] at h
    have key : ∀ t', (ts.any fun t => Nat.beq t' t) = true ↔ t' ∈ ts := fun t' => by
      simp only [List.any_eq_true]
      constructor
      · rintro ⟨x, hx, hb⟩; rw [Nat.eq_of_beq_eq_true hb]; exact hx
      · intro hm; exact ⟨t', hm, by simp⟩
    split at h
    · rename_i hp
      obtain ⟨p1, p2⟩ := p
      rcases Env.get_put h with ⟨rfl, rfl⟩ | ⟨hne, hv⟩
      · refine ⟨by simp [Env.get], fun hm => ?_⟩
        have := (key p1).2 hm
        simp only [this] at hp; cases hp
      · obtain ⟨h1, h2⟩ := ih hv
        refine ⟨?_, h2⟩
        simp only [Env.get]
        have : Nat.beq p1 t = false := by
          cases hb : Nat.beq p1 t with
          | true => exact absurd (Nat.eq_of_beq_eq_true hb) hne
          | false => rfl
        rw [this]; exact h1
    · rename_i hp
      obtain ⟨h1, h2⟩ := ih h
      refine ⟨?_, h2⟩
      obtain ⟨p1, p2⟩ := p
      have hm : p1 ∈ ts := (key p1).1 (by simpa using hp)
      simp only [Env.get]
      have : Nat.beq p1 t = false := by
        cases hb : Nat.beq p1 t with
        | true => rw [Nat.eq_of_beq_eq_true hb] at hm; exact absurd hm h2
        | false => rfl
      rw [this]; exact h1

/- ### Facts of types -/
def aggB (P : Program) (t : TypeId) : Option Bool :=
  match P.underlying t with
  | some (.struct _) => some true
  | some (.array _ _) => some true
  | some _ => some false
  | none => none
def szOf (P : Program) (t : TypeId) : Option Nat := (P.info? t).map (·.size)
def zeroOf (P : Program) (t : TypeId) : Option Value := (P.info? t).bind (·.zero)
/-- The shape of a variable of a type, with its size. -/
def shOf (P : Program) (t : TypeId) : Option S2 :=
  match aggB P t with
  | none => none
  | some agg => match P.info? t with
    | none => none
    | some i => match i.zero with
      | none => none
      | some z => match agg, z with
        | true, .agg cs => bif Nat.beq cs.size i.size then some (.agg (cs.toList.map S1.of)) else none
        | true, _ => none
        | false, .agg _ => none
        | false, z => bif Nat.beq i.size 1 then some (.one (S1.of z)) else none
def shsOf (P : Program) : List TypeId → Option (List S2)
  | [] => some []
  | t :: ts => match shOf P t with
    | some s => match shsOf P ts with
      | some ss => some (s :: ss)
      | none => none
    | none => none
def shOfT (P : Program) (t : TypeId) : Option Sh :=
  match P.underlying t with
  | some (.tuple ts) => match shsOf P ts.toList with
    | some ss => some (.tup ss)
    | none => none
  | _ => match shOf P t with
    | some s => some (.one s)
    | none => none
/-- A field: where it begins, how many cells it has, whether it is an aggregate. -/
def fieldOf (P : Program) (s : TypeId) (i : Nat) : Option (Nat × Nat × Bool) :=
  match P.underlying s with
  | some (.struct fs) => match fs[i]? with
    | some f => match szOf P f.type with
      | some n => match aggB P f.type with
        | some g => some (f.offset, n, g)
        | none => none
      | none => none
    | none => none
  | _ => none

/- ### Memory words -/
/-- The cells from a on hold these values. -/
def SpanAt (w : World) (a : Addr) (vs : List Value) : Prop := ∀ i v, vs[i]? = some v → w.cell? (a.add i) = some v
/-- The n cells from a on may be written. -/
def Wr (w : World) (a : Addr) (n : Nat) : Prop := ∀ i, i < n → (∃ u, w.cell? (a.add i) = some u) ∧ w.frozen? (a.add i) = false
def setSpanFrom (w : World) (a : Addr) (i : Nat) : List Value → World
  | [] => w
  | v :: vs => setSpanFrom (w.setCell (a.add i) v) a (i + 1) vs
def setSpan (w : World) (a : Addr) (vs : List Value) : World := setSpanFrom w a 0 vs
end Go.Bty
