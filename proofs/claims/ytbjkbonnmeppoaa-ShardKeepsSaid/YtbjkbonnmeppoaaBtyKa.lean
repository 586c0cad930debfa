/- What is only read: rows that stay as they are while a call goes on. -/
import Derived.Test.YtbjkbonnmeppoaaBtyX
namespace Go.Bty
open Go

theorem m8 {α : Type} {a x0 x1 x2 x3 x4 x5 x6 x7 : α} {l : List α} : a ∈ x0 :: x1 :: x2 :: x3 :: x4 :: x5 :: x6 :: x7 :: a :: l := .tail _ m7
theorem m9 {α : Type} {a x0 x1 x2 x3 x4 x5 x6 x7 x8 : α} {l : List α} : a ∈ x0 :: x1 :: x2 :: x3 :: x4 :: x5 :: x6 :: x7 :: x8 :: a :: l := .tail _ m8
theorem m10 {α : Type} {a x0 x1 x2 x3 x4 x5 x6 x7 x8 x9 : α} {l : List α} : a ∈ x0 :: x1 :: x2 :: x3 :: x4 :: x5 :: x6 :: x7 :: x8 :: x9 :: a :: l := .tail _ m9
theorem m11 {α : Type} {a x0 x1 x2 x3 x4 x5 x6 x7 x8 x9 x10 : α} {l : List α} : a ∈ x0 :: x1 :: x2 :: x3 :: x4 :: x5 :: x6 :: x7 :: x8 :: x9 :: x10 :: a :: l := .tail _ m10
theorem m12 {α : Type} {a x0 x1 x2 x3 x4 x5 x6 x7 x8 x9 x10 x11 : α} {l : List α} : a ∈ x0 :: x1 :: x2 :: x3 :: x4 :: x5 :: x6 :: x7 :: x8 :: x9 :: x10 :: x11 :: a :: l := .tail _ m11
theorem m13 {α : Type} {a x0 x1 x2 x3 x4 x5 x6 x7 x8 x9 x10 x11 x12 : α} {l : List α} : a ∈ x0 :: x1 :: x2 :: x3 :: x4 :: x5 :: x6 :: x7 :: x8 :: x9 :: x10 :: x11 :: x12 :: a :: l := .tail _ m12
theorem m14 {α : Type} {a x0 x1 x2 x3 x4 x5 x6 x7 x8 x9 x10 x11 x12 x13 : α} {l : List α} : a ∈ x0 :: x1 :: x2 :: x3 :: x4 :: x5 :: x6 :: x7 :: x8 :: x9 :: x10 :: x11 :: x12 :: x13 :: a :: l := .tail _ m13
theorem m15 {α : Type} {a x0 x1 x2 x3 x4 x5 x6 x7 x8 x9 x10 x11 x12 x13 x14 : α} {l : List α} : a ∈ x0 :: x1 :: x2 :: x3 :: x4 :: x5 :: x6 :: x7 :: x8 :: x9 :: x10 :: x11 :: x12 :: x13 :: x14 :: a :: l := .tail _ m14
theorem m16 {α : Type} {a x0 x1 x2 x3 x4 x5 x6 x7 x8 x9 x10 x11 x12 x13 x14 x15 : α} {l : List α} : a ∈ x0 :: x1 :: x2 :: x3 :: x4 :: x5 :: x6 :: x7 :: x8 :: x9 :: x10 :: x11 :: x12 :: x13 :: x14 :: x15 :: a :: l := .tail _ m15
theorem m17 {α : Type} {a x0 x1 x2 x3 x4 x5 x6 x7 x8 x9 x10 x11 x12 x13 x14 x15 x16 : α} {l : List α} : a ∈ x0 :: x1 :: x2 :: x3 :: x4 :: x5 :: x6 :: x7 :: x8 :: x9 :: x10 :: x11 :: x12 :: x13 :: x14 :: x15 :: x16 :: a :: l := .tail _ m16
theorem St.pull11 {h0 : Frag} {w0 w : World} {As : List HP} {X0 X1 X2 X3 X4 X5 X6 X7 X8 X9 X10 : HP} (H : St h0 w0 w (X0 :: X1 :: X2 :: X3 :: X4 :: X5 :: X6 :: X7 :: X8 :: X9 :: X10 :: As)) : St h0 w0 w (X10 :: X0 :: X1 :: X2 :: X3 :: X4 :: X5 :: X6 :: X7 :: X8 :: X9 :: As) := H.perm ((List.perm_append_comm (l₁ := [X0, X1, X2, X3, X4, X5, X6, X7, X8, X9]) (l₂ := [X10])).append_right As)
theorem St.pull12 {h0 : Frag} {w0 w : World} {As : List HP} {X0 X1 X2 X3 X4 X5 X6 X7 X8 X9 X10 X11 : HP} (H : St h0 w0 w (X0 :: X1 :: X2 :: X3 :: X4 :: X5 :: X6 :: X7 :: X8 :: X9 :: X10 :: X11 :: As)) : St h0 w0 w (X11 :: X0 :: X1 :: X2 :: X3 :: X4 :: X5 :: X6 :: X7 :: X8 :: X9 :: X10 :: As) := H.perm ((List.perm_append_comm (l₁ := [X0, X1, X2, X3, X4, X5, X6, X7, X8, X9, X10]) (l₂ := [X11])).append_right As)
theorem St.pull13 {h0 : Frag} {w0 w : World} {As : List HP} {X0 X1 X2 X3 X4 X5 X6 X7 X8 X9 X10 X11 X12 : HP} (H : St h0 w0 w (X0 :: X1 :: X2 :: X3 :: X4 :: X5 :: X6 :: X7 :: X8 :: X9 :: X10 :: X11 :: X12 :: As)) : St h0 w0 w (X12 :: X0 :: X1 :: X2 :: X3 :: X4 :: X5 :: X6 :: X7 :: X8 :: X9 :: X10 :: X11 :: As) := H.perm ((List.perm_append_comm (l₁ := [X0, X1, X2, X3, X4, X5, X6, X7, X8, X9, X10, X11]) (l₂ := [X12])).append_right As)
theorem St.pull14 {h0 : Frag} {w0 w : World} {As : List HP} {X0 X1 X2 X3 X4 X5 X6 X7 X8 X9 X10 X11 X12 X13 : HP} (H : St h0 w0 w (X0 :: X1 :: X2 :: X3 :: X4 :: X5 :: X6 :: X7 :: X8 :: X9 :: X10 :: X11 :: X12 :: X13 :: As)) : St h0 w0 w (X13 :: X0 :: X1 :: X2 :: X3 :: X4 :: X5 :: X6 :: X7 :: X8 :: X9 :: X10 :: X11 :: X12 :: As) := H.perm ((List.perm_append_comm (l₁ := [X0, X1, X2, X3, X4, X5, X6, X7, X8, X9, X10, X11, X12]) (l₂ := [X13])).append_right As)
theorem St.pull15 {h0 : Frag} {w0 w : World} {As : List HP} {X0 X1 X2 X3 X4 X5 X6 X7 X8 X9 X10 X11 X12 X13 X14 : HP} (H : St h0 w0 w (X0 :: X1 :: X2 :: X3 :: X4 :: X5 :: X6 :: X7 :: X8 :: X9 :: X10 :: X11 :: X12 :: X13 :: X14 :: As)) : St h0 w0 w (X14 :: X0 :: X1 :: X2 :: X3 :: X4 :: X5 :: X6 :: X7 :: X8 :: X9 :: X10 :: X11 :: X12 :: X13 :: As) := H.perm ((List.perm_append_comm (l₁ := [X0, X1, X2, X3, X4, X5, X6, X7, X8, X9, X10, X11, X12, X13]) (l₂ := [X14])).append_right As)
theorem St.pull16 {h0 : Frag} {w0 w : World} {As : List HP} {X0 X1 X2 X3 X4 X5 X6 X7 X8 X9 X10 X11 X12 X13 X14 X15 : HP} (H : St h0 w0 w (X0 :: X1 :: X2 :: X3 :: X4 :: X5 :: X6 :: X7 :: X8 :: X9 :: X10 :: X11 :: X12 :: X13 :: X14 :: X15 :: As)) : St h0 w0 w (X15 :: X0 :: X1 :: X2 :: X3 :: X4 :: X5 :: X6 :: X7 :: X8 :: X9 :: X10 :: X11 :: X12 :: X13 :: X14 :: As) := H.perm ((List.perm_append_comm (l₁ := [X0, X1, X2, X3, X4, X5, X6, X7, X8, X9, X10, X11, X12, X13, X14]) (l₂ := [X15])).append_right As)
theorem St.pull17 {h0 : Frag} {w0 w : World} {As : List HP} {X0 X1 X2 X3 X4 X5 X6 X7 X8 X9 X10 X11 X12 X13 X14 X15 X16 : HP} (H : St h0 w0 w (X0 :: X1 :: X2 :: X3 :: X4 :: X5 :: X6 :: X7 :: X8 :: X9 :: X10 :: X11 :: X12 :: X13 :: X14 :: X15 :: X16 :: As)) : St h0 w0 w (X16 :: X0 :: X1 :: X2 :: X3 :: X4 :: X5 :: X6 :: X7 :: X8 :: X9 :: X10 :: X11 :: X12 :: X13 :: X14 :: X15 :: As) := H.perm ((List.perm_append_comm (l₁ := [X0, X1, X2, X3, X4, X5, X6, X7, X8, X9, X10, X11, X12, X13, X14, X15]) (l₂ := [X16])).append_right As)
theorem St.pull18 {h0 : Frag} {w0 w : World} {As : List HP} {X0 X1 X2 X3 X4 X5 X6 X7 X8 X9 X10 X11 X12 X13 X14 X15 X16 X17 : HP} (H : St h0 w0 w (X0 :: X1 :: X2 :: X3 :: X4 :: X5 :: X6 :: X7 :: X8 :: X9 :: X10 :: X11 :: X12 :: X13 :: X14 :: X15 :: X16 :: X17 :: As)) : St h0 w0 w (X17 :: X0 :: X1 :: X2 :: X3 :: X4 :: X5 :: X6 :: X7 :: X8 :: X9 :: X10 :: X11 :: X12 :: X13 :: X14 :: X15 :: X16 :: As) := H.perm ((List.perm_append_comm (l₁ := [X0, X1, X2, X3, X4, X5, X6, X7, X8, X9, X10, X11, X12, X13, X14, X15, X16]) (l₂ := [X17])).append_right As)

/-- The n cells behind a stay what they are as long as no one but the owner of h writes. -/
def Kept (h : Frag) (w : World) (a : Option Addr) (n : Nat) (vs : List Value) : Prop :=
  vs.length = n ∧ (n = 0 ∨ ∃ b o L T fr, a = some (Addr.mk b o none) ∧ h b = none ∧ w.heap[b]? = some (.cells L T fr) ∧ ∀ i v, vs[i]? = some v → L[o + i]? = some v)

theorem Kept.nil {h : Frag} {w : World} {a : Option Addr} : Kept h w a 0 [] := ⟨rfl, .inl rfl⟩

section
variable {h0 : Frag} {w0 w w' : World} {As : List HP} {A : HP} {a : Option Addr} {n c b : Nat} {vs : List Value} {T : TypeId}

theorem Kept.at (hk : Kept h0 w0 a n vs) (H : St h0 w0 w As) : RowAt w a n vs := by
  obtain ⟨h1, h2⟩ := hk
  refine ⟨h1, ?_⟩
  rcases h2 with rfl | ⟨b, o, L, T, fr, rfl, h3, h4, h5⟩
  · have : vs = [] := List.eq_nil_of_length_eq_zero h1
    subst this
    cases a with
    | none => rfl
    | some p => intro i v hi; simp at hi
  · obtain ⟨h, hs, ho, hf⟩ := H
    have hlt := (Array.getElem?_eq_some_iff.1 h4).1
    have hw := (hf.old b hlt h3).trans h4
    intro i v hi
    rw [add_mk]
    unfold World.cell?
    simp only [hw]
    have := h5 i v hi
    simpa using this

/-- What a caller knows of the rest. -/
def KpOk (h0 : Frag) (w0 w : World) (A : HP) (As : List HP) (a : Option Addr) (n : Nat) (vs : List Value) : Prop :=
  ∀ (h : Frag) (m : Nat → Bool), A (h.cut m) → SepL As (h.cut fun b => !m b) → Owns w h → Fr h0 w0 h w → Kept (h.cut m) w a n vs

theorem Kept.pass (hk : Kept h0 w0 a n vs) : KpOk h0 w0 w A As a n vs := fun h m _ _ ho hf => by
  obtain ⟨h1, h2⟩ := hk
  refine ⟨h1, ?_⟩
  rcases h2 with rfl | ⟨b, o, L, T, fr, rfl, h3, h4, h5⟩
  · exact .inl rfl
  · have hlt := (Array.getElem?_eq_some_iff.1 h4).1
    refine .inr ⟨b, o, L, T, fr, rfl, ?_, (hf.old b hlt h3).trans h4, h5⟩
    have hb : h b = none := by
      cases e : h b with
      | none => rfl
      | some u =>
        rcases hf.foot b u e with ⟨u', hu⟩ | hu
        · rw [h3] at hu; cases hu
        · omega
    simp [Frag.cut, hb]

/-- A row among the rest. -/
theorem kpRow (hm : Row T 1 a n c vs ∈ As) : KpOk h0 w0 w A As a n vs := fun h m hA hr ho hf => by
  obtain ⟨g, hg⟩ := sepL_cut_mem hr _ hm
  obtain ⟨e1, e2, e3⟩ := hg
  rw [Nat.mul_one] at e1
  refine ⟨e1, ?_⟩
  rcases e3 with ⟨rfl, rfl⟩ | ⟨b, l, rfl, hl, ht, hb⟩
  · left; omega
  · right
    obtain ⟨_, q2⟩ := cut_some hb
    obtain ⟨q3, q4⟩ := cut_some q2
    refine ⟨b, 0, l.toArray, T, _, rfl, ?_, ho b _ q4, fun i v hi => ?_⟩
    · simp only [Bool.not_eq_true'] at q3
      simp [Frag.cut, q3]
    · rw [Nat.zero_add]
      rw [← ht, List.getElem?_take] at hi
      split at hi
      · simpa using hi
      · cases hi
/-- A block of cells among the rest. -/
theorem kpCells {l : List Value} {o : Nat} (hm : cl b T l ∈ As) (hn : vs.length = n) (hv : ∀ i v, vs[i]? = some v → l[o + i]? = some v) : KpOk h0 w0 w A As (some (Addr.mk b o none)) n vs := fun h m hA hr ho hf => by
  obtain ⟨g, hb⟩ := sepL_cut_mem hr _ hm
  refine ⟨hn, .inr ?_⟩
  obtain ⟨_, q2⟩ := cut_some hb
  obtain ⟨q3, q4⟩ := cut_some q2
  refine ⟨b, o, l.toArray, T, _, rfl, ?_, ho b _ q4, fun i v hi => ?_⟩
  · simp only [Bool.not_eq_true'] at q3
    simp [Frag.cut, q3]
  · simpa using hv i v hi
theorem kpNil : KpOk h0 w0 w A As a 0 [] := fun _ _ _ _ _ _ => Kept.nil

/-- A call that needs A and leaves R; a row is read, and stays. -/
def SpK (P : Program) (f : FuncId) (args : Array Value) (a : Option Addr) (n : Nat) (vs : List Value) (A : HP) (R : Value → HP) : Prop :=
  ∀ w h, A h → Owns w h → Kept h w a n vs → Cl P f args w fun v w' => ∃ h', R v h' ∧ Owns w' h' ∧ Fr h w h' w'

theorem St.callK {P : Program} {f : FuncId} {args : Array Value} {R : Value → HP} {K : Value → World → Prop} (H : St h0 w0 w (A :: As)) (hkp : KpOk h0 w0 w A As a n vs) (hsp : SpK P f args a n vs A R) (hk : ∀ v w', St h0 w0 w' (R v :: As) → K v w') : Cl P f args w K := by
  obtain ⟨h, ⟨m, hA, hr⟩, ho, hf⟩ := H
  have hoA : Owns w (h.cut m) := fun b o hb => ho b o (cut_some hb).2
  have hK := hkp h m hA hr ho hf
  refine CallsIn.mono (hsp w _ hA hoA hK) ?_
  rintro e w' ⟨v, rfl, h', hR, ho', hfr⟩
  refine ⟨v, rfl, hk v w' ?_⟩
  have hne : ∀ b o, h' b = some o → (h.cut fun b => !m b) b = none := fun b o hb => by
    rcases hfr.foot b o hb with ⟨u, hu⟩ | hlt
    · obtain ⟨hm, _⟩ := cut_some hu
      simp [Frag.cut, hm]
    · cases e : (h.cut fun b => !m b) b with
      | none => rfl
      | some u =>
        have := ho.lt (cut_some e).2
        omega
  refine ⟨fun b => match h' b with | some o => some o | none => (h.cut fun b => !m b) b, ⟨fun b => (h' b).isSome, ?_, ?_⟩, fun b o hb => ?_, hf.trans ⟨hfr.size, fun b hb hn => ?_, fun b o hb => ?_, hfr.os, hfr.out, hfr.tape⟩⟩
  · have : (Frag.cut (fun b => match h' b with | some o => some o | none => (h.cut fun b => !m b) b) fun b => (h' b).isSome) = h' := by
      funext b
      simp only [Frag.cut]
      cases h' b <;> rfl
    rw [this]; exact hR
  · have : (Frag.cut (fun b => match h' b with | some o => some o | none => (h.cut fun b => !m b) b) fun b => !(h' b).isSome) = h.cut fun b => !m b := by
      funext b
      cases hb : h' b with
      | none => simp only [Frag.cut, hb]; rfl
      | some o => rw [hne b o hb]; simp only [Frag.cut, hb]; rfl
    rw [this]; exact hr
  · simp only at hb
    cases hb' : h' b with
    | some u => rw [hb'] at hb; cases hb; exact ho' b _ hb'
    | none =>
      rw [hb'] at hb
      obtain ⟨hm, hb2⟩ := cut_some hb
      have hlt := ho.lt hb2
      rw [hfr.old b hlt (by simp only [Frag.cut]; simp only [Bool.not_eq_true'] at hm; rw [hm]; rfl)]
      exact ho b o hb2
  · exact hfr.old b hb (by simp only [Frag.cut]; cases m b <;> simp [hn])
  · cases hb' : h' b with
    | some u =>
      rcases hfr.foot b u hb' with ⟨x, hx⟩ | hx
      · exact .inl ⟨x, (cut_some hx).2⟩
      · exact .inr hx
    | none =>
      rw [hb'] at hb
      exact .inl ⟨o, (cut_some hb).2⟩

theorem spK_of {P : Program} {f : FuncId} {args : Array Value} {R : Value → HP} (H : ∀ w0 h0, Kept h0 w0 a n vs → St h0 w0 w0 [A] → Cl P f args w0 fun v w' => St h0 w0 w' [R v]) : SpK P f args a n vs A R := by
  intro w h hA ho hk
  refine CallsIn.mono (H w h hk ⟨h, ⟨fun _ => true, by have : h.cut (fun _ => true) = h := rfl; rw [this]; exact hA, trivial⟩, ho, Fr.refl h w⟩) ?_
  rintro e w' ⟨v, rfl, h', ⟨m, hR, _⟩, ho', hfr⟩
  exact ⟨v, rfl, h'.cut m, hR, fun b o hb => ho' b o (cut_some hb).2, hfr.size, hfr.old, fun b o hb => hfr.foot b o (cut_some hb).2, hfr.os, hfr.out, hfr.tape⟩
theorem Sp.toK {P : Program} {f : FuncId} {args : Array Value} {R : Value → HP} (h : Sp P f args A R) : SpK P f args a n vs A R := fun w g hA ho _ => h w g hA ho

theorem St.callE {α : Type} {P : Program} {f : FuncId} {args : Array Value} {g : α → Value} {B : α → HP} {K : Value → World → Prop} (H : St h0 w0 w (A :: As)) (hsp : Sp P f args A (fun v h => ∃ x, v = g x ∧ B x h)) (hk : ∀ x w', St h0 w0 w' (B x :: As) → K (g x) w') : Cl P f args w K :=
  H.call hsp fun v w' H' => by
    obtain ⟨_, ⟨x, hv, hB⟩, hk2⟩ := H'.opn
    replace H' := hk2 [_] (sepL_one hB)
    subst hv
    exact hk x w' H'
theorem St.callKE {α : Type} {P : Program} {f : FuncId} {args : Array Value} {g : α → Value} {B : α → HP} {K : Value → World → Prop} (H : St h0 w0 w (A :: As)) (hkp : KpOk h0 w0 w A As a n vs) (hsp : SpK P f args a n vs A (fun v h => ∃ x, v = g x ∧ B x h)) (hk : ∀ x w', St h0 w0 w' (B x :: As) → K (g x) w') : Cl P f args w K :=
  H.callK hkp hsp fun v w' H' => by
    obtain ⟨_, ⟨x, hv, hB⟩, hk2⟩ := H'.opn
    replace H' := hk2 [_] (sepL_one hB)
    subst hv
    exact hk x w' H'
theorem St.callKV {x : Value} {B : HP} {P : Program} {f : FuncId} {args : Array Value} {K : Value → World → Prop} (H : St h0 w0 w (A :: As)) (hkp : KpOk h0 w0 w A As a n vs) (hsp : SpK P f args a n vs A (fun v h => v = x ∧ B h)) (hk : ∀ w', St h0 w0 w' (B :: As) → K x w') : Cl P f args w K :=
  H.callK hkp hsp fun v w' H' => by
    have e := H'.facts fun _ h => h.1
    replace H' := H'.conv fun _ h => h.2
    subst e
    exact hk w' H'
end
end Go.Bty
