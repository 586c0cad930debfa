/- What is only read: rows that stay as they are while a call goes on. -/
/- What a shard is, and what its methods do, as plain functions. -/
/- Items: how they lie in memory; what is asked of one, and copies of one. -/
/- The shard: how it lies in memory. -/
/- The shard: dropping, finding, what is in use. -/
import Derived.Test.YtbjkbonnmeppoaaPkE
import Derived.Test.YtbjkbonnmeppoaaPkD
import Derived.Test.YtbjkbonnmeppoaaBtyR
import Derived.Test.YtbjkbonnmeppoaaShardC
import Derived.Test.YtbjkbonnmeppoaaTableC
import Derived.Test.YtbjkbonnmeppoaaPkF
namespace Go.Bty
open Go

theorem m8 {α : Type} {a x0 x1 x2 x3 x4 x5 x6 x7 : α} {l : List α} : a ∈ x0 :: x1 :: x2 :: x3 :: x4 :: x5 :: x6 :: x7 :: a :: l := .tail _ m7
theorem m9 {α : Type} {a x0 x1 x2 x3 x4 x5 x6 x7 x8 : α} {l : List α} : a ∈ x0 :: x1 :: x2 :: x3 :: x4 :: x5 :: x6 :: x7 :: x8 :: a :: l := .tail _ m8
theorem m10 {α : Type} {a x0 x1 x2 x3 x4 x5 x6 x7 x8 x9 : α} {l : List α} : a ∈ x0 :: x1 :: x2 :: x3 :: x4 :: x5 :: x6 :: x7 :: x8 :: x9 :: a :: l := .tail _ m9
theorem m11 {α : Type} {a x0 x1 x2 x3 x4 x5 x6 x7 x8 x9 x10 : α} {l : List α} : a ∈ x0 :: x1 :: x2 :: x3 :: x4 :: x5 :: x6 :: x7 :: x8 :: x9 :: x10 :: a :: l := .tail _ m10
theorem m12 {α : Type} {a x0 x1 x2 x3 x4 x5 x6 x7 x8 x9 x10 x11 : α} {l : List α} : a ∈ x0 :: x1 :: x2 :: x3 :: x4 :: x5 :: x6 :: x7 :: x8 :: x9 :: x10 :: x11 :: a :: l := .tail _ m11
theorem m13 {α : Type} {a x0 x1 x2 x3 x4 x5 x6 x7 x8 x9 x10 x11 x12 : α} {l : List α} : a ∈ x0 :: x1 :: x2 :: x3 :: x4 :: x5 :: x6 :: x7 :: x8 :: x9 :: x10 :: x11 :: x12 :: a :: l := .tail _ m12
theorem m14 {α : Type} {a x0 x1 x2 x3 x4 x5 x6 x7 x8 x9 x10 x11 x12 x13 : α} {l : List α} : a ∈ x0 :: x1 :: x2 :: x3 :: x4 :: x5 :: x6 :: x7 :: x8 :: x9 :: x10 :: x11 :: x12 :: x13 :: a :: l := .tail _ m13
theorem m15 {α : Type} {a x0 x1 x2 x3 x4 x5 x6 x7 x8 x9 x10 x11 x12 x13 x14 : α} {l : List α} : a ∈ x0 :: x1 :: x2 :: x3 :: x4 :: x5 :: x6 :: x7 :: x8 :: x9 :: x10 :: x11 :: x12 :: x13 :: x14 :: a :: l := .tail _ m14
theorem m16 {α : Type} {a x0 x1 x2 x3 x4 x5 x6 x7 x8 x9 x10 x11 x12 x13 x14 x15 : α} {l : List α} : a ∈ x0 :: x1 :: x2 :: x3 :: x4 :: x5 :: x6 :: x7 :: x8 :: x9 :: x10 :: x11 :: x12 :: x13 :: x14 :: x15 :: a :: l := .tail _ m15
theorem m17 {α : Type} {a x0 x1 x2 x3 x4 x5 x6 x7 x8 x9 x10 x11 x12 x13 x14 x15 x16 : α} {l : List α} : a ∈ x0 :: x1 :: x2 :: x3 :: x4 :: x5 :: x6 :: x7 :: x8 :: x9 :: x10 :: x11 :: x12 :: x13 :: x14 :: x15 :: x16 :: a :: l := .tail _ m16
theorem St.pull11 {h0 : Frag} {w0 w : World} {As : List HP} {X0 X1 X2 X3 X4 X5 X6 X7 X8 X9 X10 : HP} (H : St h0 w0 w (X0 :: X1 :: X2 :: X3 :: X4 :: X5 :: X6 :: X7 :: X8 :: X9 :: X10 :: As)) : St h0 w0 w (X10 :: X0 :: X1 :: X2 :: X3 :: X4 :: X5 :: X6 :: X7 :: X8 :: X9 :: As) := H.perm ((List.perm_append_comm (l₁ := [X0, X1, X2, X3, X4, X5, X6, X7, X8, X9]) (l₂ := [X10])).append_right As)
theorem St.pull12 {h0 : Frag} {w0 w : World} {As : List HP} {X0 X1 X2 X3 X4 X5 X6 X7 X8 X9 X10 X11 : HP} (H : St h0 w0 w (X0 :: X1 :: X2 :: X3 :: X4 :: X5 :: X6 :: X7 :: X8 :: X9 :: X10 :: X11 :: As)) : St h0 w0 w (X11 :: X0 :: X1 :: X2 :: X3 :: X4 :: X5 :: X6 :: X7 :: X8 :: X9 :: X10 :: As) := H.perm ((List.perm_append_comm (l₁ := [X0, X1, X2, X3, X4, X5, X6, X7, X8, X9, X10]) (l₂ := [X11])).append_right As)
theorem St.pull13 {h0 : Frag} {w0 w : World} {As : List HP} {X0 X1 X2 X3 X4 X5 X6 X7 X8 X9 X10 X11 X12 : HP} (H : St h0 w0 w (X0 :: X1 :: X2 :: X3 :: X4 :: X5 :: X6 :: X7 :: X8 :: X9 :: X10 :: X11 :: X12 :: As)) : St h0 w0 w (X12 :: X0 :: X1 :: X2 :: X3 :: X4 :: X5 :: X6 :: X7 :: X8 :: X9 :: X10 :: X11 :: As) := H.perm ((List.perm_append_comm (l₁ := [X0, X1, X2, X3, X4, X5, X6, X7, X8, X9, X10, X11]) (l₂ := [X12])).append_right As)
theorem St.pull14 {h0 : Frag} {w0 w : World} {As : List HP} {X0 X1 X2 X3 X4 X5 X6 X7 X8 X9 X10 X11 X12 X13 : HP} (H : St h0 w0 w (X0 :: X1 :: X2 :: X3 :: X4 :: X5 :: X6 :: X7 :: X8 :: X9 :: X10 :: X11 :: X12 :: X13 :: As)) : St h0 w0 w (X13 :: X0 :: X1 :: X2 :: X3 :: X4 :: X5 :: X6 :: X7 :: X8 :: X9 :: X10 :: X11 :: X12 :: As) := H.perm ((List.perm_append_comm (l₁ := [X0, X1, X2, X3, X4, X5, X6, X7, X8, X9, X10, X11, X12]) (l₂ := [X13])).append_right As)
theorem St.pull15 {h0 : Frag} {w0 w : World} {As : List HP} {X0 X1 X2 X3 X4 X5 X6 X7 X8 X9 X10 X11 X12 X13 X14 : HP} (H : St h0 w0 w (X0 :: X1 :: X2 :: X3 :: X4 :: X5 :: X6 :: X7 :: X8 :: X9 :: X10 :: X11 :: X12 :: X13 :: X14 :: As)) : St h0 w0 w (X14 :: X0 :: X1 :: X2 :: X3 :: X4 :: X5 :: X6 :: X7 :: X8 :: X9 :: X10 :: X11 :: X12 :: X13 :: As) := H.perm ((List.perm_append_comm (l₁ := [X0, X1, X2, X3, X4, X5, X6, X7, X8, X9, X10, X11, X12, X13]) (l₂ := [X14])).append_right As)
theorem St.pull16 {h0 : Frag} {w0 w : World} {As : List HP} {X0 X1 X2 X3 X4 X5 X6 X7 X8 X9 X10 X11 X12 X13 X14 X15 : HP} (H : St h0 w0 w (X0 :: X1 :: X2 :: X3 :: X4 :: X5 :: X6 :: X7 :: X8 :: X9 :: X10 :: X11 :: X12 :: X13 :: X14 :: X15 :: As)) : St h0 w0 w (X15 :: X0 :: X1 :: X2 :: X3 :: X4 :: X5 :: X6 :: X7 :: X8 :: X9 :: X10 :: X11 :: X12 :: X13 :: X14 :: As) := H.perm ((List.perm_append_comm (l₁ := [X0, X1, X2, X3, X4, X5, X6, X7, X8, X9, X10, X11, X12, X13, X14]) (l₂ := [X15])).append_right As)
theorem St.pull17 {h0 : Frag} {w0 w : World} {As : List HP} {X0 X1 X2 X3 X4 X5 X6 X7 X8 X9 X10 X11 X12 X13 X14 X15 X16 : HP} (H : St h0 w0 w (X0 :: X1 :: X2 :: X3 :: X4 :: X5 :: X6 :: X7 :: X8 :: X9 :: X10 :: X11 :: X12 :: X13 :: X14 :: X15 :: X16 :: As)) : St h0 w0 w (X16 :: X0 :: X1 :: X2 :: X3 :: X4 :: X5 :: X6 :: X7 :: X8 :: X9 :: X10 :: X11 :: X12 :: X13 :: X14 :: X15 :: As) := H.perm ((List.perm_append_comm (l₁ := [X0, X1, X2, X3, X4, X5, X6, X7, X8, X9, X10, X11, X12, X13, X14, X15]) (l₂ := [X16])).append_right As)
theorem St.pull18 {h0 : Frag} {w0 w : World} {As : List HP} {X0 X1 X2 X3 X4 X5 X6 X7 X8 X9 X10 X11 X12 X13 X14 X15 X16 X17 : HP} (H : St h0 w0 w (X0 :: X1 :: X2 :: X3 :: X4 :: X5 :: X6 :: X7 :: X8 :: X9 :: X10 :: X11 :: X12 :: X13 :: X14 :: X15 :: X16 :: X17 :: As)) : St h0 w0 w (X17 :: X0 :: X1 :: X2 :: X3 :: X4 :: X5 :: X6 :: X7 :: X8 :: X9 :: X10 :: X11 :: X12 :: X13 :: X14 :: X15 :: X16 :: As) := H.perm ((List.perm_append_comm (l₁ := [X0, X1, X2, X3, X4, X5, X6, X7, X8, X9, X10, X11, X12, X13, X14, X15, X16]) (l₂ := [X17])).append_right As)

/-- The n cells behind a stay what they are as long as no one but the owner of h writes. -/
def Kept (h : Frag) (w : World) (a : Option Addr) (n : Nat) (vs : List Value) : Prop :=
  vs.length = n ∧ (n = 0 ∨ ∃ b o L T fr, a = some (Addr.mk b o none) ∧ h b = none ∧ w.heap[b]? = some (.cells L T fr) ∧ ∀ i v, vs[i]? = some v → L[o + i]? = some v)

theorem Kept.nil {h : Frag} {w : World} {a : Option Addr} : Kept h w a 0 [] := ⟨rfl, .inl rfl⟩

section
variable {h0 : Frag} {w0 w w' : World} {As : List HP} {A : HP} {a : Option Addr} {n c b : Nat} {vs : List Value} {T : TypeId}

theorem Kept.at (hk : Kept h0 w0 a n vs) (H : St h0 w0 w As) : RowAt w a n vs := by
  obtain ⟨h1, h2⟩ := hk
  refine ⟨h1, ?_⟩
  rcases h2 with rfl | ⟨b, o, L, T, fr, rfl, h3, h4, h5⟩
  · have : vs = [] := List.eq_nil_of_length_eq_zero h1
    subst this
    cases a with
    | none => rfl
    | some p => intro i v hi; simp at hi
  · obtain ⟨h, hs, ho, hf⟩ := H
    have hlt := (Array.getElem?_eq_some_iff.1 h4).1
    have hw := (hf.old b hlt h3).trans h4
    intro i v hi
    rw [add_mk]
    unfold World.cell?
    simp only [hw]
    have := h5 i v hi
    simpa using this

/-- What a caller knows of the rest. -/
def KpOk (h0 : Frag) (w0 w : World) (A : HP) (As : List HP) (a : Option Addr) (n : Nat) (vs : List Value) : Prop :=
  ∀ (h : Frag) (m : Nat → Bool), A (h.cut m) → SepL As (h.cut fun b => !m b) → Owns w h → Fr h0 w0 h w → Kept (h.cut m) w a n vs

theorem Kept.pass (hk : Kept h0 w0 a n vs) : KpOk h0 w0 w A As a n vs := fun h m _ _ ho hf => by
  obtain ⟨h1, h2⟩ := hk
  refine ⟨h1, ?_⟩
  rcases h2 with rfl | ⟨b, o, L, T, fr, rfl, h3, h4, h5⟩
  · exact .inl rfl
  · have hlt := (Array.getElem?_eq_some_iff.1 h4).1
    refine .inr ⟨b, o, L, T, fr, rfl, ?_, (hf.old b hlt h3).trans h4, h5⟩
    have hb : h b = none := by
      cases e : h b with
      | none => rfl
      | some u =>
        rcases hf.foot b u e with ⟨u', hu⟩ | hu
        · rw [h3] at hu; cases hu
        · omega
    simp [Frag.cut, hb]

/-- A row among the rest. -/
theorem kpRow (hm : Row T 1 a n c vs ∈ As) : KpOk h0 w0 w A As a n vs := fun h m hA hr ho hf => by
  obtain ⟨g, hg⟩ := sepL_cut_mem hr _ hm
  obtain ⟨e1, e2, e3⟩ := hg
  rw [Nat.mul_one] at e1
  refine ⟨e1, ?_⟩
  rcases e3 with ⟨rfl, rfl⟩ | ⟨b, l, rfl, hl, ht, hb⟩
  · left; omega
  · right
    obtain ⟨_, q2⟩ := cut_some hb
    obtain ⟨q3, q4⟩ := cut_some q2
    refine ⟨b, 0, l.toArray, T, _, rfl, ?_, ho b _ q4, fun i v hi => ?_⟩
    · simp only [Bool.not_eq_true'] at q3
      simp [Frag.cut, q3]
    · rw [Nat.zero_add]
      rw [← ht, List.getElem?_take] at hi
      split at hi
      · simpa using hi
      · cases hi
/-- A block of cells among the rest. -/
theorem kpCells {l : List Value} {o : Nat} (hm : cl b T l ∈ As) (hn : vs.length = n) (hv : ∀ i v, vs[i]? = some v → l[o + i]? = some v) : KpOk h0 w0 w A As (some (Addr.mk b o none)) n vs := fun h m hA hr ho hf => by
  obtain ⟨g, hb⟩ := sepL_cut_mem hr _ hm
  refine ⟨hn, .inr ?_⟩
  obtain ⟨_, q2⟩ := cut_some hb
  obtain ⟨q3, q4⟩ := cut_some q2
  refine ⟨b, o, l.toArray, T, _, rfl, ?_, ho b _ q4, fun i v hi => ?_⟩
  · simp only [Bool.not_eq_true'] at q3
    simp [Frag.cut, q3]
  · simpa using hv i v hi
theorem kpNil : KpOk h0 w0 w A As a 0 [] := fun _ _ _ _ _ _ => Kept.nil

/-- A call that needs A and leaves R; a row is read, and stays. -/
def SpK (P : Program) (f : FuncId) (args : Array Value) (a : Option Addr) (n : Nat) (vs : List Value) (A : HP) (R : Value → HP) : Prop :=
  ∀ w h, A h → Owns w h → Kept h w a n vs → Cl P f args w fun v w' => ∃ h', R v h' ∧ Owns w' h' ∧ Fr h w h' w'

theorem St.callK {P : Program} {f : FuncId} {args : Array Value} {R : Value → HP} {K : Value → World → Prop} (H : St h0 w0 w (A :: As)) (hkp : KpOk h0 w0 w A As a n vs) (hsp : SpK P f args a n vs A R) (hk : ∀ v w', St h0 w0 w' (R v :: As) → K v w') : Cl P f args w K := by
  obtain ⟨h, ⟨m, hA, hr⟩, ho, hf⟩ := H
  have hoA : Owns w (h.cut m) := fun b o hb => ho b o (cut_some hb).2
  have hK := hkp h m hA hr ho hf
  refine CallsIn.mono (hsp w _ hA hoA hK) ?_
  rintro e w' ⟨v, rfl, h', hR, ho', hfr⟩
  refine ⟨v, rfl, hk v w' ?_⟩
  have hne : ∀ b o, h' b = some o → (h.cut fun b => !m b) b = none := fun b o hb => by
    rcases hfr.foot b o hb with ⟨u, hu⟩ | hlt
    · obtain ⟨hm, _⟩ := cut_some hu
      simp [Frag.cut, hm]
    · cases e : (h.cut fun b => !m b) b with
      | none => rfl
      | some u =>
        have := ho.lt (cut_some e).2
        omega
  refine ⟨fun b => match h' b with | some o => some o | none => (h.cut fun b => !m b) b, ⟨fun b => (h' b).isSome, ?_, ?_⟩, fun b o hb => ?_, hf.trans ⟨hfr.size, fun b hb hn => ?_, fun b o hb => ?_, hfr.os, hfr.out, hfr.tape⟩⟩
  · have : (Frag.cut (fun b => match h' b with | some o => some o | none => (h.cut fun b => !m b) b) fun b => (h' b).isSome) = h' := by
      funext b
      simp only [Frag.cut]
      cases h' b <;> rfl
    rw [this]; exact hR
  · have : (Frag.cut (fun b => match h' b with | some o => some o | none => (h.cut fun b => !m b) b) fun b => !(h' b).isSome) = h.cut fun b => !m b := by
      funext b
      cases hb : h' b with
      | none => simp only [Frag.cut, hb]; rfl
      | some o => rw [hne b o hb]; simp only [Frag.cut, hb]; rfl
    rw [this]; exact hr
  · simp only at hb
    cases hb' : h' b with
    | some u => rw [hb'] at hb; cases hb; exact ho' b _ hb'
    | none =>
      rw [hb'] at hb
      obtain ⟨hm, hb2⟩ := cut_some hb
      have hlt := ho.lt hb2
      rw [hfr.old b hlt (by simp only [Frag.cut]; simp only [Bool.not_eq_true'] at hm; rw [hm]; rfl)]
      exact ho b o hb2
  · exact hfr.old b hb (by simp only [Frag.cut]; cases m b <;> simp [hn])
  · cases hb' : h' b with
    | some u =>
      rcases hfr.foot b u hb' with ⟨x, hx⟩ | hx
      · exact .inl ⟨x, (cut_some hx).2⟩
      · exact .inr hx
    | none =>
      rw [hb'] at hb
      exact .inl ⟨o, (cut_some hb).2⟩

theorem spK_of {P : Program} {f : FuncId} {args : Array Value} {R : Value → HP} (H : ∀ w0 h0, Kept h0 w0 a n vs → St h0 w0 w0 [A] → Cl P f args w0 fun v w' => St h0 w0 w' [R v]) : SpK P f args a n vs A R := by
  intro w h hA ho hk
  refine CallsIn.mono (H w h hk ⟨h, ⟨fun _ => true, by have : h.cut (fun _ => true) = h := rfl; rw [this]; exact hA, trivial⟩, ho, Fr.refl h w⟩) ?_
  rintro e w' ⟨v, rfl, h', ⟨m, hR, _⟩, ho', hfr⟩
  exact ⟨v, rfl, h'.cut m, hR, fun b o hb => ho' b o (cut_some hb).2, hfr.size, hfr.old, fun b o hb => hfr.foot b o (cut_some hb).2, hfr.os, hfr.out, hfr.tape⟩
theorem Sp.toK {P : Program} {f : FuncId} {args : Array Value} {R : Value → HP} (h : Sp P f args A R) : SpK P f args a n vs A R := fun w g hA ho _ => h w g hA ho

theorem St.callE {α : Type} {P : Program} {f : FuncId} {args : Array Value} {g : α → Value} {B : α → HP} {K : Value → World → Prop} (H : St h0 w0 w (A :: As)) (hsp : Sp P f args A (fun v h => ∃ x, v = g x ∧ B x h)) (hk : ∀ x w', St h0 w0 w' (B x :: As) → K (g x) w') : Cl P f args w K :=
  H.call hsp fun v w' H' => by
    obtain ⟨_, ⟨x, hv, hB⟩, hk2⟩ := H'.opn
    replace H' := hk2 [_] (sepL_one hB)
    subst hv
    exact hk x w' H'
theorem St.callKE {α : Type} {P : Program} {f : FuncId} {args : Array Value} {g : α → Value} {B : α → HP} {K : Value → World → Prop} (H : St h0 w0 w (A :: As)) (hkp : KpOk h0 w0 w A As a n vs) (hsp : SpK P f args a n vs A (fun v h => ∃ x, v = g x ∧ B x h)) (hk : ∀ x w', St h0 w0 w' (B x :: As) → K (g x) w') : Cl P f args w K :=
  H.callK hkp hsp fun v w' H' => by
    obtain ⟨_, ⟨x, hv, hB⟩, hk2⟩ := H'.opn
    replace H' := hk2 [_] (sepL_one hB)
    subst hv
    exact hk x w' H'
theorem St.callKV {x : Value} {B : HP} {P : Program} {f : FuncId} {args : Array Value} {K : Value → World → Prop} (H : St h0 w0 w (A :: As)) (hkp : KpOk h0 w0 w A As a n vs) (hsp : SpK P f args a n vs A (fun v h => v = x ∧ B h)) (hk : ∀ w', St h0 w0 w' (B :: As) → K x w') : Cl P f args w K :=
  H.callK hkp hsp fun v w' H' => by
    have e := H'.facts fun _ h => h.1
    replace H' := H'.conv fun _ h => h.2
    subst e
    exact hk w' H'
end
end Go.Bty

namespace Go.Bty
open Go

/-- What a key has. -/
structure It where
  key : ByteArray
  val : List UInt8
  flags : Int
  exp : Int
  cas : Int
  sec : Int
  seq : Int
  stale : Bool
  won : Bool
  seen : Bool
  deriving DecidableEq

structure Ev where
  now : Int
  seq : Int
  flush : Int
  flushSeq : Int
  deriving DecidableEq

def liveM (it : It) (e : Ev) : Bool :=
  if it.exp ≠ 0 ∧ it.exp ≤ e.now then false
  else if e.flush ≠ 0 ∧ e.flush ≤ e.now then !(decide (it.sec < e.flush) || (decide (it.sec = e.flush) && decide (it.seq < e.flushSeq)))
  else true
def sizeM (it : It) : Nat := 50 + it.key.size + it.val.length
def clsM (it : It) : Nat := classN (sizeM it)

/-- A shard: its budget, how many keys it protects, its items, the keys in their order, the judge, what was dropped. -/
structure SM where
  budget : Int
  most : Int
  items : List It
  tk : List ByteArray
  sk : List ByteArray
  j : JM
  drops : List ByteArray

def usedL (l : List It) : Int := (l.map fun it => bytesZ (clsM it)).foldr (· + ·) 0
def getI (l : List It) (k : ByteArray) : Option It := l.find? fun it => decide (it.key = k)
def delI (l : List It) (k : ByteArray) : List It := l.filter fun it => decide (it.key ≠ k)
def setI (l : List It) (it : It) : List It := l.map fun x => if x.key = it.key then it else x
def lessM : Option It → Int
  | some x => bytesZ (clsM x)
  | none => 0
namespace SM
def used (m : SM) : Int := usedL m.items
def get (m : SM) (k : ByteArray) : Option It := getI m.items k
def new (seed budget most : Int) : SM := ⟨budget, most, [], [], [], newJ seed, []⟩
def rem (m : SM) (k : ByteArray) : SM := match m.get k with
  | none => m
  | some _ => { m with items := delI m.items k, tk := m.tk.erase k, sk := m.sk.erase k }
def drop (m : SM) (k : ByteArray) : SM := { m.rem k with drops := m.drops ++ [k] }
def find (m : SM) (k : ByteArray) (e : Ev) : SM × Option It := match m.get k with
  | none => (m, none)
  | some it => if liveM it e then (m, some it) else (m.drop k, none)
def use (m : SM) (k : ByteArray) : SM :=
  let j := touchM m.j k
  if k ∈ m.tk ++ m.sk then { m with j := j, tk := (hitM m.most m.tk m.sk k).1, sk := (hitM m.most m.tk m.sk k).2 } else { m with j := j }
/-- Would so many bytes fit, were so many less in use? -/
def fits (m : SM) (size less : Int) : Bool := decide (classN size < 6 ∧ 0 ≤ less ∧ less ≤ m.used ∧ m.used - less + bytesZ (classN size) ≤ m.budget)
def gone (m : SM) (v : ByteArray) (e : Ev) : Bool := match m.get v with | some x => !liveM x e | none => true
/-- Others are dropped, until an item fits. -/
def room : Nat → SM → It → Option It → Ev → SM × Int
  | 0, m, _, _, _ => (m, 0)
  | n + 1, m, it, old, e =>
    if m.fits (sizeM it) (lessM old) then (m, 0)
    else match victimM (m.tk ++ m.sk) it.key with
      | none => (m, 5)
      | some v =>
        if old.isSome || m.gone v e then room n (m.drop v) it old e
        else if worthM m.j it.key > worthM m.j v then room n (m.drop v) it old e
        else (m, 8)
def store (m : SM) (it : It) (e : Ev) : SM × Int :=
  if clsM it = 6 then (m, 4) else
  let f := m.find it.key e
  let r := room (f.1.items.length + 1) f.1 it f.2 e
  if r.2 ≠ 0 then r else
  match f.2 with
  | some _ => ({ r.1 with items := setI r.1.items it }, 0)
  | none => ({ r.1 with items := r.1.items ++ [it], tk := r.1.tk ++ [it.key] }, 0)
def update (m : SM) (it : It) : SM × Int := match m.get it.key with
  | none => (m, 6)
  | some x => if x.val.length ≠ it.val.length then (m, 1) else ({ m with items := setI m.items it }, 0)
end SM
/-- What holds of every shard. -/
structure SOk (m : SM) : Prop where
  dist : (m.items.map (·.key)).Nodup
  keys : (m.tk ++ m.sk).Perm (m.items.map (·.key))
  cls : ∀ it ∈ m.items, clsM it < 6
end Go.Bty

namespace Go.Bty
open Go
open Go.Proofs.Try renaming prog → P

abbrev itV (it : It) (s : Sl) : List Value := [.string it.key, .slice s.1 s.2.1 s.2.2, .int .u32 it.flags, .int .i64 it.exp, .int .u64 it.cas, .int .i64 it.sec, .int .u64 it.seq, .bool it.stale, .bool it.won, .bool it.seen]
abbrev evV (e : Ev) : List Value := [.int .i64 e.now, .int .u64 e.seq, .int .i64 e.flush, .int .u64 e.flushSeq]
/-- A row of bytes. -/
def BRow (s : Sl) (bs : List UInt8) : HP := Row T_uint8 1 s.1 s.2.1 s.2.2 (bytesV bs)
theorem bytesV_length (bs : List UInt8) : (bytesV bs).length = bs.length := by simp [bytesV]

section
variable {h0 : Frag} {w0 w w' : World} {As : List HP}

theorem clone_sp (a : Option Addr) (n c : Nat) (bs : List UInt8) (hn : n < 2 ^ 45) : SpK P f_slices_Clone_byte_byte #[.slice a n c] a n (bytesV bs) (fun _ => True) (fun v h => ∃ s : Sl, v = .slice s.1 s.2.1 s.2.2 ∧ BRow s bs h) := spK_of fun w h hk H => by
  apply cl_slices_Clone_byte_byte
  unfold c_slices_Clone_byte_byte
  have hl := hk.1
  rw [bytesV_length] at hl
  refine br (fun ha => ?_) fun ha => ?_
  · have ha : a = none := by simpa using ha
    have h0 : n = 0 := by
      rcases hk.2 with h | ⟨b, o, L, T, fr, h, _⟩
      · exact h
      · rw [ha] at h; cases h
    have : bs = [] := List.eq_nil_of_length_eq_zero (by omega)
    subst this
    exact (H.drop.rowNil (T := T_uint8) (sz := 1)).conv fun _ hs => ⟨(none, 0, 0), rfl, hs⟩
  · intro b1 w2 e1 e2
    have H := (H.drop.newCells (cs := []) e1 e2).rowMk (c := 0) (sz := 1) (n := 0) rfl (Nat.le_refl _)
    refine ⟨bytesV bs, by rw [Nat.mul_one]; exact hk.at H, ?_⟩
    refine H.rowAppend (bytesV_oneC bs) (by rw [bytesV_length]; omega) rfl (by omega) fun a' c' w' H => ?_
    exact H.conv fun _ hs => ⟨(a', 0 + n, c'), rfl, hs⟩

theorem size_sp (it : It) (s : Sl) (hs : s.2.1 = it.val.length) (hb : it.key.size < 2 ^ 60) (hv : it.val.length < 2 ^ 60) : Pu P f_item_Size #[.agg (itV it s).toArray] (.int .i64 (sizeM it)) := pu_of fun w h H => by
  apply cl_item_Size
  unfold c_item_Size
  intro b1 w2 e1 e2
  have H := H.newCells (cs := itV it s) e1 e2
  refine ⟨it.key, by rw [add_mk, H.cell m0]; rfl, s.1, s.2.1, s.2.2, by rw [add_mk, H.cell m0]; rfl, ?_⟩
  rw [wrap_i64 (n := 50 + (it.key.size : Int)) (by omega) (by omega), wrap_i64 (by omega) (by omega), hs]
  refine ⟨?_, H.drop⟩
  unfold sizeM
  congr 1

theorem live1_sp {it : It} {s : Sl} {b : Nat} {x y : Int} {K : Value → World → Prop} (H : St h0 w0 w (cl b T_api_Item (itV it s) :: As)) (hK : K (.bool (decide (it.sec < x) || (decide (it.sec = x) && decide (it.seq < y)))) w) :
    Cl P f_item_Live_1 #[.int .i64 x, .int .u64 y, .pointer (some (Addr.mk b 0 none))] w K := by
  apply cl_item_Live_1
  unfold c_item_Live_1
  refine ⟨it.sec, by rw [add_mk, H.cell m0]; rfl, br (fun h1 => ?_) fun h1 => ⟨it.sec, by rw [add_mk, H.cell m0]; rfl, br (fun h2 => ⟨it.seq, by rw [add_mk, H.cell m0]; rfl, ?_⟩) fun h2 => ?_⟩⟩
  · rw [h1] at hK; exact hK
  · have : it.sec = x := by simpa using h2
    rw [h1, show decide (it.sec = x) = true by simpa using this] at hK
    simpa using hK
  · have : ¬ it.sec = x := by simpa using h2
    rw [h1, show decide (it.sec = x) = false by simpa using this] at hK
    exact hK

theorem live_sp (it : It) (s : Sl) (e : Ev) : Pu P f_item_Live #[.agg (itV it s).toArray, .agg (evV e).toArray] (.bool (liveM it e)) := pu_of fun w h H => by
  apply cl_item_Live
  unfold c_item_Live
  intro b1 w2 e1 e2 b3 w4 e3 e4
  have H := ((H.newCells (cs := itV it s) e1 e2).newCells (cs := evV e) e3 e4).swap
  unfold liveM
  have second : ∀ {R : Value → World → Prop}, (R (.bool (if e.flush ≠ 0 ∧ e.flush ≤ e.now then !(decide (it.sec < e.flush) || (decide (it.sec = e.flush) && decide (it.seq < e.flushSeq))) else true)) w4) → 
      ∃ x16 : Int, World.cell? w4 (Addr.add (Addr.mk b3 0 none) 2) = some (.int .i64 x16) ∧ (bif (x16 != (0 : Int)) then ∃ x17 : Int, World.cell? w4 (Addr.add (Addr.mk b3 0 none) 2) = some (.int .i64 x17) ∧ ∃ x18 : Int, World.cell? w4 (Addr.add (Addr.mk b3 0 none) 0) = some (.int .i64 x18) ∧ 
 (bif (decide (x17 ≤ x18)) then
 ∃ x19 : Int, World.cell? w4 (Addr.add (Addr.mk b3 0 none) 2) = some (.int .i64 x19) ∧ ∃ x20 : Int, World.cell? w4 (Addr.add (Addr.mk b3 0 none) 3) = some (.int .u64 x20) ∧ true = true ∧ Cl P f_item_Live_1 #[(.int .i64 x19), (.int .u64 x20), (.pointer (some (Addr.mk b1 0 none)))] w4 (fun (u21 : Value) (w22 : World) => ∃ x23 : Bool, u21 = (.bool x23) ∧ 
 R (.bool (!x23)) w22) else
 R (.bool true) w4) else
 R (.bool true) w4) := fun {R} hR => by
    refine ⟨e.flush, by rw [add_mk, H.cell m1]; rfl, br (fun h1 => ⟨e.flush, by rw [add_mk, H.cell m1]; rfl, e.now, by rw [add_mk, H.cell m1]; rfl, br (fun h2 => ?_) fun h2 => ?_⟩) fun h1 => ?_⟩
    · refine ⟨e.flush, by rw [add_mk, H.cell m1]; rfl, e.flushSeq, by rw [add_mk, H.cell m1]; rfl, rfl, live1_sp H ⟨_, rfl, ?_⟩⟩
      rw [if_pos ⟨by simpa using h1, by simpa using h2⟩] at hR
      exact hR
    · rw [if_neg (fun hh => by simp at h2; omega)] at hR
      exact hR
    · rw [if_neg (fun hh => by simp at h1; exact hh.1 h1)] at hR
      exact hR
  refine ⟨it.exp, by rw [add_mk, H.cell m0]; rfl, br (fun h1 => ⟨it.exp, by rw [add_mk, H.cell m0]; rfl, e.now, by rw [add_mk, H.cell m1]; rfl, br (fun h2 => ?_) fun h2 => ?_⟩) fun h1 => ?_⟩
  · rw [if_pos ⟨by simpa using h1, by simpa using h2⟩]
    exact ⟨rfl, H.drop.drop⟩
  · rw [if_neg (fun hh => by simp at h2; omega)]
    refine second (R := fun u w' => u = _ ∧ St h w w' []) ?_
    exact ⟨rfl, H.drop.drop⟩
  · rw [if_neg (fun hh => by simp at h1; exact hh.1 h1)]
    refine second (R := fun u w' => u = _ ∧ St h w w' []) ?_
    exact ⟨rfl, H.drop.drop⟩

theorem owned_sp (it : It) (s : Sl) (hn : s.2.1 < 2 ^ 45) : SpK P f_shard_owned #[.agg (itV it s).toArray] s.1 s.2.1 (bytesV it.val) (fun _ => True) (fun v h => ∃ s' : Sl, v = .agg (itV it s').toArray ∧ BRow s' it.val h) := spK_of fun w h hk H => by
  apply cl_shard_owned
  unfold c_shard_owned
  intro b1 w2 e1 e2 b3 w4 e3 e4
  have H := ((H.newCells (cs := itV it s) e1 e2).newCells (cs := itV ⟨⟨#[]⟩, [], 0, 0, 0, 0, 0, false, false, false⟩ (none, 0, 0)) e3 e4).pull3
  refine ⟨s.1, s.2.1, s.2.2, by rw [add_mk, H.cell m2]; rfl, ?_⟩
  refine H.emp.callKE hk.pass (clone_sp s.1 s.2.1 s.2.2 it.val hn) fun s' w7 H => ⟨s'.1, s'.2.1, s'.2.2, rfl, ?_⟩
  -- [row, True, b3, b1]
  refine ⟨by rw [add_mk]; exact H.stOk m3 (by simp [itV]), fun w9 e9 => ?_⟩
  rw [add_mk] at e9
  have H := H.pull4.set e9
  refine ⟨it.key, s'.1, s'.2.1, s'.2.2, it.flags, it.exp, it.cas, it.sec, it.seq, it.stale, it.won, it.seen, H.spanAll m0, H.wr m3 (by simp [itV]), fun w20 e20 => ?_⟩
  have H := H.pull4.setSpan0 e20
  refine ⟨it.key, s'.1, s'.2.1, s'.2.2, it.flags, it.exp, it.cas, it.sec, it.seq, it.stale, it.won, it.seen, H.spanAll m0, ?_⟩
  exact (H.only m2).conv fun _ hs => ⟨s', rfl, hs⟩
end
end Go.Bty

namespace Go.Bty
open Go
open Go.Proofs.Try renaming prog → P

/-- An entry: its item, its block, where its value lies, its chunk. -/
structure En where
  it : It
  b : Nat
  s : Sl
  c : Int × Int

def entCells (x : En) : List Value := itV x.it x.s ++ [.int .i64 x.c.1, .int .i64 x.c.2]
def entHP (x : En) : HP := SepL [cl x.b T_shard_entry (entCells x), BRow x.s x.it.val]
def Ents (es : List En) : HP := SepL (es.map entHP)
def tabOf (es : List En) : List Pr := es.map fun x => (x.it.key, ad x.b)
def strs (l : List ByteArray) : List Value := l.map .string
def entOf (es : List En) (k : ByteArray) : Option En := es.find? fun x => decide (x.it.key = k)
def delE (es : List En) (k : ByteArray) : List En := es.filter fun x => decide (x.it.key ≠ k)

theorem getL_tabOf (es : List En) (k : ByteArray) : getL (tabOf es) k = (entOf es k).map fun x => ad x.b := by
  unfold getL tabOf entOf
  rw [List.find?_map, Option.map_map]
  rfl
theorem getI_map (es : List En) (k : ByteArray) : getI (es.map (·.it)) k = (entOf es k).map (·.it) := by
  unfold getI entOf
  rw [List.find?_map]
  rfl
theorem delI_map (es : List En) (k : ByteArray) : delI (es.map (·.it)) k = (delE es k).map (·.it) := by
  unfold delI delE
  rw [List.filter_map]
  rfl
theorem tabOf_del (es : List En) (k : ByteArray) : ((tabOf es).filter fun y => decide (y.1 ≠ k)) = tabOf (delE es k) := by
  unfold tabOf delE
  rw [List.filter_map]
  rfl
theorem entOf_some {es : List En} {k : ByteArray} {x : En} (h : entOf es k = some x) : x ∈ es ∧ x.it.key = k :=
  ⟨List.mem_of_find?_eq_some h, by simpa using List.find?_some h⟩
theorem del_split {l r : List En} {x : En} (hd : ((l ++ x :: r).map (·.it.key)).Nodup) : delE (l ++ x :: r) x.it.key = l ++ r := by
  rw [List.map_append, List.map_cons, List.nodup_append] at hd
  obtain ⟨_, h2, h3⟩ := hd
  rw [List.nodup_cons] at h2
  unfold delE
  rw [List.filter_append, List.filter_cons_of_neg (by simp)]
  congr 1
  · rw [List.filter_eq_self]
    intro y hy
    simp only [decide_eq_true_eq]
    intro e
    exact h3 _ (List.mem_map.2 ⟨y, hy, rfl⟩) _ (List.mem_cons_self ..) e
  · rw [List.filter_eq_self]
    intro y hy
    simp only [decide_eq_true_eq]
    intro e
    exact h2.1 (List.mem_map.2 ⟨y, hy, e⟩)

structure SPl where
  pt : Nat
  ps : Nat
  pl : Nat
  pj : Nat
  d : Sl
def shCells (q : SPl) : List Value := [.pointer (ad q.pt), .pointer (ad q.ps), .pointer (ad q.pl), .pointer (ad q.pj), .slice q.d.1 q.d.2.1 q.d.2.2]

structure SInv (N : Nat) (o : Option (It × Nat)) (m : SM) (es : List En) (inn : List (Int × Int)) (N1 N2 : Nat) : Prop where
  items : es.map (·.it) = m.items
  ok : SOk m
  chunks : inn.Perm (es.map (·.c))
  cls : ∀ x ∈ es, x.c.1 = clsM x.it
  n1 : N1 ≤ N
  n2 : N2 + m.items.length ≤ N
  nd : m.drops.length + m.items.length ≤ N
  old : ∀ y, o = some y → ∃ x ∈ es, x.it = y.1 ∧ x.b = y.2

/-- A shard at block p; o: an entry that is known to be there, and where. -/
def Shard (p N : Nat) (o : Option (It × Nat)) (m : SM) : HP := fun h => ∃ (q : SPl) (es : List En) (inn : List (Int × Int)) (N1 N2 : Nat) (seed : Int), SInv N o m es inn N1 N2 ∧
  SepL [cl p T_shard_Shard (shCells q), Tbl q.pt N1 seed (tabOf es), Slab q.ps N2 m.budget inn, Slru q.pl m.most m.tk m.sk, Judge q.pj m.j, Row T_string 1 q.d.1 q.d.2.1 q.d.2.2 (strs m.drops), Ents es] h

theorem small_of {it : It} (h : clsM it < 6) : sizeM it ≤ 2048 := by
  unfold clsM at h
  have := (classN_le (i := 5) (by omega) (sizeM it)).2 (by omega)
  have e : bytesZ ((5 : Nat) : Int) = 2048 := by kernel_rfl
  rw [e] at this
  omega
theorem small_key {it : It} (h : clsM it < 6) : it.key.size ≤ 2048 ∧ it.val.length ≤ 2048 := by
  have := small_of h
  unfold sizeM at this
  omega

theorem SOk.get_small {m : SM} (h : SOk m) {k : ByteArray} (hk : k ∈ m.tk ++ m.sk) : k.size ≤ 2048 := by
  obtain ⟨it, hi, rfl⟩ := List.mem_map.1 (h.keys.mem_iff.1 hk)
  exact (small_key (h.cls _ hi)).1
theorem getI_isSome {l : List It} {k : ByteArray} : (getI l k).isSome = true ↔ k ∈ l.map (·.key) := by
  unfold getI
  rw [List.find?_isSome]
  simp
theorem SOk.get_mem {m : SM} (h : SOk m) {k : ByteArray} : (m.get k).isSome = true ↔ k ∈ m.tk ++ m.sk := by
  rw [h.keys.mem_iff]
  exact getI_isSome
theorem mapKey_del (l : List It) (k : ByteArray) : (delI l k).map (·.key) = (l.map (·.key)).filter (· != k) := by
  unfold delI
  rw [List.filter_map]
  congr 1
  apply List.filter_congr
  intro x _
  by_cases h : x.key = k
  · simp [h]
  · simp [h]

theorem SOk.rem {m : SM} (h : SOk m) (k : ByteArray) : SOk (m.rem k) := by
  unfold SM.rem
  split
  · exact h
  · have hnd := h.keys.nodup_iff.2 h.dist
    rw [List.nodup_append] at hnd
    refine ⟨?_, ?_, fun it hi => h.cls it ((List.mem_filter.1 hi).1)⟩
    · simp only
      rw [mapKey_del]
      exact List.Nodup.sublist List.filter_sublist h.dist
    · simp only
      rw [mapKey_del, hnd.1.erase_eq_filter, hnd.2.1.erase_eq_filter, ← List.filter_append]
      exact h.keys.filter _

section
variable {h0 : Frag} {w0 w w' : World} {As : List HP} {p N : Nat} {o : Option (It × Nat)} {m : SM}
theorem St.shOpen (H : St h0 w0 w (Shard p N o m :: As)) : ∃ (q : SPl) (es : List En) (inn : List (Int × Int)) (N1 N2 : Nat) (seed : Int), SInv N o m es inn N1 N2 ∧
    St h0 w0 w (cl p T_shard_Shard (shCells q) :: Tbl q.pt N1 seed (tabOf es) :: Slab q.ps N2 m.budget inn :: Slru q.pl m.most m.tk m.sk :: Judge q.pj m.j :: Row T_string 1 q.d.1 q.d.2.1 q.d.2.2 (strs m.drops) :: Ents es :: As) := by
  obtain ⟨h, ⟨q, es, inn, N1, N2, seed, h1, h2⟩, hk⟩ := H.opn
  exact ⟨q, es, inn, N1, N2, seed, h1, hk _ h2⟩
theorem St.shMk {q : SPl} {es : List En} {inn : List (Int × Int)} {N1 N2 : Nat} {seed : Int} (h1 : SInv N o m es inn N1 N2)
    (H : St h0 w0 w (cl p T_shard_Shard (shCells q) :: Tbl q.pt N1 seed (tabOf es) :: Slab q.ps N2 m.budget inn :: Slru q.pl m.most m.tk m.sk :: Judge q.pj m.j :: Row T_string 1 q.d.1 q.d.2.1 q.d.2.2 (strs m.drops) :: Ents es :: As)) : St h0 w0 w (Shard p N o m :: As) :=
  St.cls [_, _, _, _, _, _, _] H fun _ h => ⟨q, es, inn, N1, N2, seed, h1, h⟩
theorem St.entsOut {l r : List En} {x : En} (H : St h0 w0 w (Ents (l ++ x :: r) :: As)) : St h0 w0 w (entHP x :: Ents (l ++ r) :: As) := by
  have h1 := (St.split H).perm ((List.perm_middle.map entHP).append_right As)
  rw [List.map_cons, List.cons_append] at h1
  exact (St.join (Bs := (l ++ r).map entHP) (As := entHP x :: As) (h1.perm List.perm_middle.symm)).swap
theorem St.entsIn {l r : List En} {x : En} (H : St h0 w0 w (entHP x :: Ents (l ++ r) :: As)) : St h0 w0 w (Ents (l ++ x :: r) :: As) := by
  have h1 := (St.split H.swap).perm List.perm_middle
  exact St.join ((l ++ x :: r).map entHP) (h1.perm ((List.perm_middle.map entHP).symm.append_right As))
theorem St.entOpen {x : En} (H : St h0 w0 w (entHP x :: As)) : St h0 w0 w (cl x.b T_shard_entry (entCells x) :: BRow x.s x.it.val :: As) := St.split H
theorem St.entMk {x : En} (H : St h0 w0 w (cl x.b T_shard_entry (entCells x) :: BRow x.s x.it.val :: As)) : St h0 w0 w (entHP x :: As) := St.join [_, _] H

theorem SInv.es_nodup {es : List En} {inn : List (Int × Int)} {N1 N2 : Nat} (h : SInv N o m es inn N1 N2) : (es.map (·.it.key)).Nodup := by
  have := h.ok.dist
  rw [← h.items, List.map_map] at this
  exact this

/-- An item is taken out. -/
theorem shard_remove (p N : Nat) (o : Option (It × Nat)) (m : SM) (k : ByteArray) (hN : N < 2 ^ 31) (hk : k.size < 2 ^ 62) (ho : ∀ y, o = some y → y.1.key ≠ k) :
    Sp P f_shard_Shard_Remove #[.pointer (ad p), .string k] (Shard p N o m) (fun v h => v = .bool (m.get k).isSome ∧ Shard p N o (m.rem k) h) := sp_of fun w h H => by
  apply cl_shard_Shard_Remove
  unfold c_shard_Shard_Remove
  have HS := H
  obtain ⟨q, es, inn, N1, N2, seed, hi, H⟩ := H.shOpen
  have hgm : m.get k = (entOf es k).map (·.it) := by unfold SM.get; rw [← hi.items, getI_map]
  have n1 := hi.n1
  have n2 := hi.n2
  have nd := hi.nd
  refine ⟨_, rfl, ad q.pt, by rw [add_mk, H.cell m0]; rfl, ?_⟩
  refine H.swap.callV (table_get q.pt N1 seed (tabOf es) k (by omega) hk) fun w4 H => ⟨_, _, rfl, ?_⟩
  rw [getL_tabOf]
  cases hg : entOf es k with
  | none =>
    have e : m.rem k = m := by unfold SM.rem; rw [hgm, hg]; rfl
    have e2 : (m.get k).isSome = false := by rw [hgm, hg]; rfl
    refine br (fun hc => by simp at hc) fun _ => ?_
    rw [e, e2]
    exact (St.shMk hi H.swap).conv fun _ hs => ⟨rfl, hs⟩
  | some x =>
    obtain ⟨hx, rfl⟩ := entOf_some hg
    obtain ⟨l, r, rfl⟩ := List.append_of_mem hx
    have hdel := del_split hi.es_nodup
    have hgs : (m.get x.it.key).isSome = true := by rw [hgm, hg]; rfl
    have hmem := hi.ok.get_mem.1 hgs
    have hrem : m.rem x.it.key = { m with items := delI m.items x.it.key, tk := m.tk.erase x.it.key, sk := m.sk.erase x.it.key } := by
      unfold SM.rem
      rw [hgm, hg]; rfl
    have hlen : m.items.length = (l ++ r).length + 1 := by rw [← hi.items]; simp; omega
    have hkl : m.tk.length + m.sk.length = m.items.length := by
      have := hi.ok.keys.length_eq
      simpa using this
    refine br (fun _ => ?_) fun hc => by simp at hc
    refine ⟨_, rfl, ad q.pt, by rw [add_mk, H.cell m1]; rfl, ?_⟩
    refine H.callV (table_delete q.pt N1 seed (tabOf (l ++ x :: r)) x.it.key (by omega) hk) fun w10 H => ⟨_, rfl, fun w12 e12 => ?_⟩
    rw [tabOf_del, hdel] at H
    -- [Tbl, cl, Slab, Slru, Judge, Row, Ents]
    have H := (H.drew e12).pull7.entsOut.entOpen
    -- [ent, val, Ents, Tbl, cl, Slab, Slru, Judge, Row]
    refine ⟨_, rfl, ad q.ps, by rw [add_mk, H.cell m4]; rfl, _, rfl, x.c.1, x.c.2, ?_, ?_⟩
    · rw [add_mk]
      refine H.span m0 fun i v hv => ?_
      match i, hv with
      | 0, hv => exact hv
      | 1, hv => exact hv
    have hin : x.c ∈ inn := hi.chunks.mem_iff.2 (by simp)
    refine H.pull6.callV (slab_free q.ps N2 m.budget inn x.c (by omega) hin) fun w19 H => ⟨_, rfl, ?_⟩
    -- [Slab, ent, val, Ents, Tbl, cl, Slru, Judge, Row]
    refine ⟨_, rfl, ad q.pl, by rw [add_mk, H.cell m5]; rfl, ?_⟩
    refine H.pull7.call (slru_remove q.pl m.most m.tk m.sk x.it.key (by omega)) fun v w24 H => ?_
    have hv : v = .int .i64 0 := by
      refine H.facts fun _ hh => ?_
      rcases hh with ⟨h1, _⟩ | ⟨_, h2, _⟩
      · exact absurd hmem h1
      · exact h2
    replace H := H.conv (A' := Slru q.pl m.most (m.tk.erase x.it.key) (m.sk.erase x.it.key)) fun _ hh => by
      rcases hh with ⟨h1, _⟩ | ⟨_, _, h3⟩
      · exact absurd hmem h1
      · exact h3
    refine ⟨0, hv, ?_⟩
    -- [Slru, Slab, ent, val, Ents, Tbl, cl, Judge, Row]
    have H := H.pull3.drop.pull3.drop.pull5
    -- [cl, Slru, Slab, Ents, Tbl, Judge, Row]
    have H := H.pull7.pull7.pull4.pull5.pull7.pull6
    rw [hgs, hrem]
    refine (St.shMk ⟨?_, by have := hi.ok.rem x.it.key; rw [hrem] at this; exact this, ?_, fun y hy => hi.cls y ?_, n1, ?_, ?_, fun y hy => ?_⟩ H).conv fun _ hs => ⟨rfl, hs⟩
    · simp only
      rw [← hi.items, delI_map, hdel]
    · have := hi.chunks.erase x.c
      refine this.trans ?_
      rw [List.map_append, List.map_cons]
      refine ((List.perm_middle (l₁ := l.map (·.c)) (a := x.c) (l₂ := r.map (·.c))).erase x.c).trans ?_
      rw [List.erase_cons_head, List.map_append]
    · rcases List.mem_append.1 hy with hy | hy
      · exact List.mem_append.2 (.inl hy)
      · exact List.mem_append.2 (.inr (List.mem_cons_of_mem _ hy))
    · simp only
      rw [← hi.items, delI_map, hdel, List.length_map]; omega
    · simp only
      rw [← hi.items, delI_map, hdel, List.length_map]; omega
    · obtain ⟨z, hz, e1, e2⟩ := hi.old y hy
      refine ⟨z, ?_, e1, e2⟩
      have hne : z.it.key ≠ x.it.key := by rw [e1]; exact ho y hy
      rcases List.mem_append.1 hz with hz | hz
      · exact List.mem_append.2 (.inl hz)
      · rcases List.mem_cons.1 hz with rfl | hz
        · exact absurd rfl hne
        · exact List.mem_append.2 (.inr hz)
end
end Go.Bty

namespace Go.Bty
open Go
open Go.Proofs.Try renaming prog → P

theorem strs_oneC (l : List ByteArray) : OneC (strs l) := fun u hu => by
  obtain ⟨b, _, rfl⟩ := List.mem_map.1 hu
  rfl
theorem strs_append (l q : List ByteArray) : strs (l ++ q) = strs l ++ strs q := List.map_append
theorem strs_length (l : List ByteArray) : (strs l).length = l.length := by simp [strs]

theorem getI_mem {l : List It} {k : ByteArray} {it : It} (h : getI l k = some it) : it ∈ l ∧ it.key = k :=
  ⟨List.mem_of_find?_eq_some h, by simpa using List.find?_some h⟩
theorem delI_len {l : List It} {k : ByteArray} (h : (getI l k).isSome = true) : (delI l k).length + 1 ≤ l.length := by
  obtain ⟨it, hi⟩ := Option.isSome_iff_exists.1 h
  obtain ⟨hm, hk⟩ := getI_mem hi
  obtain ⟨a, b, rfl⟩ := List.append_of_mem hm
  unfold delI
  rw [List.filter_append, List.filter_cons_of_neg (by simp [hk])]
  have h1 := List.length_filter_le (fun it : It => decide (it.key ≠ k)) a
  have h2 := List.length_filter_le (fun it : It => decide (it.key ≠ k)) b
  simp only [List.length_append, List.length_cons] at *
  omega

theorem SM.rem_drops (m : SM) (k : ByteArray) : (m.rem k).drops = m.drops := by
  unfold SM.rem; split <;> rfl
theorem SM.rem_budget (m : SM) (k : ByteArray) : (m.rem k).budget = m.budget := by
  unfold SM.rem; split <;> rfl
theorem SM.rem_most (m : SM) (k : ByteArray) : (m.rem k).most = m.most := by
  unfold SM.rem; split <;> rfl
theorem SM.rem_j (m : SM) (k : ByteArray) : (m.rem k).j = m.j := by
  unfold SM.rem; split <;> rfl
theorem SM.rem_items (m : SM) (k : ByteArray) : (m.rem k).items = delI m.items k := by
  unfold SM.rem
  split
  · rename_i h
    have : m.items.filter (fun it => decide (it.key ≠ k)) = m.items := List.filter_eq_self.2 fun it hi => by
      simp only [decide_eq_true_eq]
      intro e
      have := List.find?_eq_none.1 h it hi
      simp [e] at this
    exact this.symm
  · rfl

section
variable {h0 : Frag} {w0 w w' : World} {As : List HP} {p N : Nat} {o : Option (It × Nat)} {m : SM}
theorem St.shDrops (H : St h0 w0 w (Shard p N o m :: As)) : m.drops.length + m.items.length ≤ N := by
  obtain ⟨q, es, inn, N1, N2, seed, hi, H⟩ := H.shOpen
  exact hi.nd
theorem St.shOk (H : St h0 w0 w (Shard p N o m :: As)) : SOk m := by
  obtain ⟨q, es, inn, N1, N2, seed, hi, H⟩ := H.shOpen
  exact hi.ok

/-- A key that is there is dropped. -/
theorem shard_drop (p N : Nat) (o : Option (It × Nat)) (m : SM) (k : ByteArray) (hN : N < 2 ^ 31) (hg : (m.get k).isSome = true) (ho : ∀ y, o = some y → y.1.key ≠ k) :
    Sp P f_shard_Shard_drop #[.pointer (ad p), .string k] (Shard p N o m) (fun v h => v = .tuple #[] ∧ Shard p N o (m.drop k) h) := sp_of fun w h H => by
  apply cl_shard_Shard_drop
  unfold c_shard_Shard_drop
  have hok := H.shOk
  have nd0 := H.shDrops
  have hks := hok.get_small (hok.get_mem.1 hg)
  have hdl := delI_len hg
  refine H.callV (shard_remove p N o m k hN (by omega) ho) fun w2 H => ⟨_, rfl, ?_⟩
  obtain ⟨q, es, inn, N1, N2, seed, hi, H⟩ := H.shOpen
  have nd := hi.nd
  have hitems : es.map (·.it) = delI m.items k := by rw [hi.items, m.rem_items]
  refine ⟨_, rfl, q.d.1, q.d.2.1, q.d.2.2, by rw [add_mk, H.cell m0]; rfl, fun b6 w7 e6 e7 => ?_⟩
  have H := H.newCells (cs := [.string k]) e6 e7
  refine ⟨[.string k], ⟨rfl, H.spanAll m0⟩, ?_⟩
  have H := H.drop.pull6
  have hrl := H.rowLen
  rw [strs_length] at hrl
  have hdn : q.d.2.1 ≤ N := by omega
  refine H.rowAppend (by intro u hu; rw [List.mem_singleton.1 hu]; rfl) rfl rfl (by omega) fun a9 c10 w11 H => ?_
  refine ⟨_, rfl, by rw [add_mk]; exact H.stOk m1 (by simp [shCells]), fun w13 e13 => ?_⟩
  rw [add_mk] at e13
  have H := H.swap.set e13
  have H := H.pull6.pull6.pull6.pull6.pull5
  have e1 : strs (m.rem k).drops ++ [.string k] = strs (m.drops ++ [k]) := by rw [m.rem_drops, strs_append]; rfl
  rw [e1] at H
  refine (St.shMk (q := { q with d := (a9, q.d.2.1 + 1, c10) }) (m := m.drop k) ⟨hi.items, ⟨hi.ok.dist, hi.ok.keys, hi.ok.cls⟩, hi.chunks, hi.cls, hi.n1, hi.n2, ?_, hi.old⟩ H).conv fun _ hs => ⟨rfl, hs⟩
  have e2 : (m.drop k).items = delI m.items k := m.rem_items k
  have e3 : (m.drop k).drops = m.drops ++ [k] := rfl
  have := H.pull6.rowLen
  rw [m.rem_drops] at nd
  rw [e2, e3, List.length_append, List.length_singleton]
  rw [m.rem_items] at nd
  omega

theorem St.shWeak (H : St h0 w0 w (Shard p N o m :: As)) : St h0 w0 w (Shard p N none m :: As) := by
  obtain ⟨q, es, inn, N1, N2, seed, hi, H⟩ := H.shOpen
  exact St.shMk ⟨hi.items, hi.ok, hi.chunks, hi.cls, hi.n1, hi.n2, hi.nd, fun y hy => by cases hy⟩ H

/-- The entry of a key, if its item lives; what does not is dropped. -/
theorem shard_find (p N : Nat) (m : SM) (k : ByteArray) (e : Ev) (hN : N < 2 ^ 31) (hk : k.size < 2 ^ 62) :
    Sp P f_shard_Shard_find #[.pointer (ad p), .string k, .agg (evV e).toArray] (Shard p N none m)
      (fun v h => ((m.find k e).2 = none ∧ v = .pointer none ∧ Shard p N none (m.find k e).1 h) ∨ ∃ it b, (m.find k e).2 = some it ∧ v = .pointer (ad b) ∧ Shard p N (some (it, b)) (m.find k e).1 h) := sp_of fun w h H => by
  apply cl_shard_Shard_find
  unfold c_shard_Shard_find
  intro b1 w2 e1 e2
  obtain ⟨q, es, inn, N1, N2, seed, hi, H⟩ := H.shOpen
  have n1 := hi.n1
  have H := (H.newCells (cs := evV e) e1 e2)
  have hgm : m.get k = (entOf es k).map (·.it) := by unfold SM.get; rw [← hi.items, getI_map]
  refine ⟨_, rfl, ad q.pt, by rw [add_mk, H.cell m1]; rfl, ?_⟩
  refine H.pull3.callV (table_get q.pt N1 seed (tabOf es) k (by omega) hk) fun w6 H => ⟨_, _, rfl, ?_⟩
  rw [getL_tabOf]
  cases hg : entOf es k with
  | none =>
    have hf : m.find k e = (m, none) := by unfold SM.find; rw [hgm, hg]; rfl
    refine br (fun _ => ?_) fun hc => by simp at hc
    rw [hf]
    have H := (H.swap.drop).swap
    exact (St.shMk hi H).conv fun _ hs => .inl ⟨rfl, rfl, hs⟩
  | some x =>
    obtain ⟨hx, rfl⟩ := entOf_some hg
    have hgs : m.get x.it.key = some x.it := by rw [hgm, hg]; rfl
    refine br (fun hc => by simp at hc) fun _ => fun w9 e9 => ?_
    have H := H.drew e9
    -- [Tbl, ev, cl, Slab, Slru, Judge, Row, Ents]
    have H := H.pull3.pull3.pull8
    obtain ⟨l, r, rfl⟩ := List.append_of_mem hx
    have HE := H.entsOut.entOpen
    refine ⟨_, rfl, x.it.key, x.s.1, x.s.2.1, x.s.2.2, x.it.flags, x.it.exp, x.it.cas, x.it.sec, x.it.seq, x.it.stale, x.it.won, x.it.seen, ?_, e.now, e.seq, e.flush, e.flushSeq, ?_, ?_⟩
    · refine HE.span m0 fun i v hv => ?_
      rw [Nat.zero_add]
      unfold entCells
      rw [List.getElem?_append_left (List.getElem?_eq_some_iff.1 hv).1]
      exact hv
    · exact H.spanAll m1
    refine H.pure (live_sp x.it x.s e) fun w26 H => ⟨_, rfl, ?_⟩
    have HS := St.shMk (p := p) ⟨hi.items, hi.ok, hi.chunks, hi.cls, hi.n1, hi.n2, hi.nd, fun y (hy : some (x.it, x.b) = some y) => by cases hy; exact ⟨x, hx, rfl, rfl⟩⟩ (H.swap.drop.pull7.pull7.pull7.pull7.pull7.pull7)
    refine br (fun hc => ?_) fun hc => ?_
    · have hl : liveM x.it e = false := by simpa using hc
      have hf : m.find x.it.key e = (m.drop x.it.key, none) := by unfold SM.find; rw [hgs]; simp [hl]
      refine HS.shWeak.callV (shard_drop p N none m x.it.key hN (by rw [hgs]; rfl) (fun y hy => by cases hy)) fun w29 H => ⟨rfl, ?_⟩
      rw [hf]
      exact H.conv fun _ hs => .inl ⟨rfl, rfl, hs⟩
    · have hl : liveM x.it e = true := by simpa using hc
      have hf : m.find x.it.key e = (m, some x.it) := by unfold SM.find; rw [hgs]; simp [hl]
      rw [hf]
      exact HS.conv fun _ hs => .inr ⟨x.it, x.b, rfl, rfl, hs⟩

/-- What was dropped is handed over. -/
theorem shard_drops (p N : Nat) (m : SM) : Sp P f_shard_Shard_Drops #[.pointer (ad p)] (Shard p N none m)
    (fun v h => ∃ d : Sl, v = .slice d.1 d.2.1 d.2.2 ∧ SepL [Shard p N none { m with drops := [] }, Row T_string 1 d.1 d.2.1 d.2.2 (strs m.drops)] h) := sp_of fun w h H => by
  apply cl_shard_Shard_Drops
  unfold c_shard_Shard_Drops
  obtain ⟨q, es, inn, N1, N2, seed, hi, H⟩ := H.shOpen
  refine ⟨_, rfl, q.d.1, q.d.2.1, q.d.2.2, by rw [add_mk, H.cell m0]; rfl, _, rfl, by rw [add_mk]; exact H.stOk m0 (by simp [shCells]), fun w4 e4 => ?_⟩
  rw [add_mk] at e4
  have H := (H.set e4).rowNil (T := T_string) (sz := 1)
  have H := H.pull8.swap.pull7.pull7.pull7.pull7.pull7
  have nd := hi.nd
  have HS := St.shMk (p := p) (q := { q with d := (none, 0, 0) }) (m := { m with drops := [] }) ⟨hi.items, ⟨hi.ok.dist, hi.ok.keys, hi.ok.cls⟩, hi.chunks, hi.cls, hi.n1, hi.n2, by simp only [List.length_nil]; omega, hi.old⟩ H
  exact (St.join [_, _] HS).conv fun _ hs => ⟨q.d, rfl, hs⟩

theorem sumZ_perm {l q : List (Int × Int)} (h : l.Perm q) : sumZ l = sumZ q := by
  induction h with
  | nil => rfl
  | cons x _ ih => simp only [sumZ, ih]
  | swap x y l => simp only [sumZ]; omega
  | trans _ _ a b => exact a.trans b
theorem usedL_es {es : List En} (h : ∀ x ∈ es, x.c.1 = clsM x.it) : sumZ (es.map (·.c)) = usedL (es.map (·.it)) := by
  induction es with
  | nil => rfl
  | cons x es ih =>
    have := ih fun y hy => h y (List.mem_cons_of_mem _ hy)
    have hx := h x (List.mem_cons_self ..)
    simp only [List.map_cons, sumZ, usedL, List.foldr_cons] at *
    rw [this, hx]
theorem SInv.used {es : List En} {inn : List (Int × Int)} {N1 N2 : Nat} (h : SInv N o m es inn N1 N2) : sumZ inn = m.used := by
  rw [sumZ_perm h.chunks, usedL_es h.cls, h.items]; rfl

theorem shard_used (p N : Nat) (m : SM) : Sp P f_shard_Shard_Used #[.pointer (ad p)] (Shard p N none m) (fun v h => v = .int .i64 m.used ∧ Shard p N none m h) := sp_of fun w h H => by
  apply cl_shard_Shard_Used
  unfold c_shard_Shard_Used
  obtain ⟨q, es, inn, N1, N2, seed, hi, H⟩ := H.shOpen
  refine ⟨_, rfl, ad q.ps, by rw [add_mk, H.cell m0]; rfl, ?_⟩
  refine H.pull3.callV (slab_used q.ps N2 m.budget inn) fun w4 H => ⟨_, rfl, ?_⟩
  rw [hi.used]
  exact (St.shMk hi H.pull3.pull3).conv fun _ hs => ⟨rfl, hs⟩

theorem shard_len (p N : Nat) (m : SM) : Sp P f_shard_Shard_Len #[.pointer (ad p)] (Shard p N none m) (fun v h => v = .int .i64 m.items.length ∧ Shard p N none m h) := sp_of fun w h H => by
  apply cl_shard_Shard_Len
  unfold c_shard_Shard_Len
  obtain ⟨q, es, inn, N1, N2, seed, hi, H⟩ := H.shOpen
  refine ⟨_, rfl, ad q.pt, by rw [add_mk, H.cell m0]; rfl, ?_⟩
  refine H.swap.callV (table_len q.pt N1 seed (tabOf es)) fun w4 H => ⟨_, rfl, ?_⟩
  have e : (tabOf es).length = m.items.length := by rw [← hi.items]; simp [tabOf]
  rw [e]
  exact (St.shMk hi H.swap).conv fun _ hs => ⟨rfl, hs⟩

theorem shard_new (seed budget most : Int) : Sp P f_shard_New #[.int .u64 seed, .int .i64 budget, .int .i64 most] (fun _ => True) (fun v h => ∃ p, v = .pointer (ad p) ∧ Shard p 0 none (SM.new seed budget most) h) := sp_of fun w h H => by
  apply cl_shard_New
  unfold c_shard_New
  refine H.callE (table_new seed) fun pt w2 H => ⟨_, rfl, ?_⟩
  refine H.emp.callE (slab_new budget) fun ps w5 H => ⟨_, rfl, ?_⟩
  refine H.emp.callE (slru_new most) fun pl w8 H => ⟨_, rfl, ?_⟩
  refine H.emp.callE (tiny_new seed) fun pj w11 H => ⟨_, rfl, fun b13 w14 e13 e14 => ?_⟩
  have H := (H.newCells (cs := shCells ⟨pt, ps, pl, pj, (none, 0, 0)⟩) e13 e14)
  -- [cl, Judge, Slru, Slab, Tbl]
  have H := H.pull3.pull4.pull5.pull4
  have H := (St.join ([] : List HP) H).rowNil (T := T_string) (sz := 1)
  -- [Row, Ents, cl, Tbl, Slab, Slru, Judge]
  have H := H.pull7.pull7.pull7.pull7.pull7
  exact (St.shMk (q := ⟨pt, ps, pl, pj, (none, 0, 0)⟩) (es := []) (N := 0) (o := none) (m := SM.new seed budget most) ⟨rfl, ⟨List.nodup_nil, List.Perm.refl _, fun it hi => by cases hi⟩, List.Perm.refl _, (fun x hx => by cases hx), Nat.le_refl _, Nat.le_refl _, Nat.le_refl _, fun y hy => by cases hy⟩ H).conv fun _ hs => ⟨b13, rfl, hs⟩

theorem hitM_perm {most : Int} {tk sk : List ByteArray} {k : ByteArray} (hd : (tk ++ sk).Nodup) (hk : k ∈ tk ++ sk) : ((hitM most tk sk k).1 ++ (hitM most tk sk k).2).Perm (tk ++ sk) := by
  have h1 : (tk.erase k ++ (sk.erase k ++ [k])).Perm (tk ++ sk) := by
    rw [← List.append_assoc]
    rw [List.nodup_append] at hd
    rw [hd.1.erase_eq_filter, hd.2.1.erase_eq_filter, ← List.filter_append]
    have hn : (tk ++ sk).Nodup := List.nodup_append.2 hd
    rw [← hn.erase_eq_filter]
    exact (List.perm_append_comm (l₁ := (tk ++ sk).erase k) (l₂ := [k])).trans (List.perm_cons_erase hk).symm
  unfold hitM
  simp only
  split
  · rw [List.append_assoc, List.take_append_drop]; exact h1
  · exact h1

theorem shard_use (p N : Nat) (m : SM) (k : ByteArray) (hN : N < 2 ^ 31) (hk : k.size < 2 ^ 62) : Sp P f_shard_Shard_Use #[.pointer (ad p), .string k] (Shard p N none m) (fun v h => v = .tuple #[] ∧ Shard p N none (m.use k) h) := sp_of fun w h H => by
  apply cl_shard_Shard_Use
  unfold c_shard_Shard_Use
  obtain ⟨q, es, inn, N1, N2, seed, hi, H⟩ := H.shOpen
  have hkl := hi.ok.keys.length_eq
  have n2 := hi.n2
  simp only [List.length_append, List.length_map] at hkl
  have hnd := hi.ok.keys.nodup_iff.2 hi.ok.dist
  refine ⟨_, rfl, ad q.pj, by rw [add_mk, H.cell m0]; rfl, ?_⟩
  refine H.pull5.callV (tiny_touch q.pj m.j k hk) fun w4 H => ⟨rfl, _, rfl, ad q.pl, by rw [add_mk, H.cell m1]; rfl, ?_⟩
  refine H.pull5.call (slru_hit q.pl m.most m.tk m.sk k (by omega)) fun v w8 H => ?_
  obtain ⟨n, hn⟩ : ∃ n, v = .int .i64 n := H.facts fun _ hh => by
    rcases hh with ⟨_, h, _⟩ | ⟨_, h, _⟩
    · exact ⟨_, h⟩
    · exact ⟨_, h⟩
  refine ⟨n, hn, ?_⟩
  have H := H.pull5.pull5.pull5
  by_cases hm : k ∈ m.tk ++ m.sk
  · have H := H.pull4.conv (A' := Slru q.pl m.most (hitM m.most m.tk m.sk k).1 (hitM m.most m.tk m.sk k).2) fun _ hh => by
      rcases hh with ⟨h1, _⟩ | ⟨_, _, h3⟩
      · exact absurd hm h1
      · exact h3
    have e : m.use k = { m with j := touchM m.j k, tk := (hitM m.most m.tk m.sk k).1, sk := (hitM m.most m.tk m.sk k).2 } := by unfold SM.use; rw [if_pos hm]
    rw [e]
    exact (St.shMk (p := p) (m := { m with j := touchM m.j k, tk := (hitM m.most m.tk m.sk k).1, sk := (hitM m.most m.tk m.sk k).2 }) ⟨hi.items, ⟨hi.ok.dist, (hitM_perm hnd hm).trans hi.ok.keys, hi.ok.cls⟩, hi.chunks, hi.cls, hi.n1, hi.n2, hi.nd, hi.old⟩ H.pull4.pull4.pull4).conv fun _ hs => ⟨rfl, hs⟩
  · have H := H.pull4.conv (A' := Slru q.pl m.most m.tk m.sk) fun _ hh => by
      rcases hh with ⟨_, _, h3⟩ | ⟨h1, _⟩
      · exact h3
      · exact absurd h1 hm
    have e : m.use k = { m with j := touchM m.j k } := by unfold SM.use; rw [if_neg hm]
    rw [e]
    exact (St.shMk (p := p) (m := { m with j := touchM m.j k }) ⟨hi.items, ⟨hi.ok.dist, hi.ok.keys, hi.ok.cls⟩, hi.chunks, hi.cls, hi.n1, hi.n2, hi.nd, hi.old⟩ H.pull4.pull4.pull4).conv fun _ hs => ⟨rfl, hs⟩
end
end Go.Bty
