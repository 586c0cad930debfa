/- Pieces of memory: what a call owns, what it leaves alone; assertions on pieces, and lists of them that lie apart. -/
import Derived.Test.YtbjkbonnmeppoaaBtyO
namespace Go.Bty
open Go

/-- A piece of memory. -/
abbrev Frag := Nat → Option Obj
abbrev HP := Frag → Prop

def Frag.cut (h : Frag) (f : Nat → Bool) : Frag := fun b => bif f b then h b else none
def Frag.set (h : Frag) (b : Nat) (o : Obj) : Frag := fun x => if x = b then some o else h x

def SepL : List HP → HP
  | [], _ => True
  | A :: As, h => ∃ f : Nat → Bool, A (h.cut f) ∧ SepL As (h.cut fun b => !f b)

def pt (b : Nat) (o : Obj) : HP := fun h => h b = some o

theorem cut_some {h : Frag} {f : Nat → Bool} {b : Nat} {o : Obj} (e : h.cut f b = some o) : f b = true ∧ h b = some o := by
  unfold Frag.cut at e
  cases hf : f b <;> rw [hf] at e
  · cases e
  · exact ⟨rfl, e⟩

theorem sepL_mono {As : List HP} : ∀ {h h' : Frag}, SepL As h → (∀ b o, h b = some o → h' b = some o) → SepL As h' := by
  induction As with
  | nil => intro _ _ _ _; trivial
  | cons A As ih =>
    rintro h h' ⟨f, hA, hr⟩ hs
    refine ⟨fun b => f b && (h b).isSome, ?_, ih hr fun b o hb => ?_⟩
    · have : (h'.cut fun b => f b && (h b).isSome) = h.cut f := by
        funext b
        simp only [Frag.cut]
        cases hf : f b with
        | false => rfl
        | true =>
          cases hb : h b with
          | none => rfl
          | some o => simpa using hs b o hb
      rw [this]; exact hA
    · obtain ⟨hf, hb⟩ := cut_some hb
      simp only [Frag.cut]
      cases hfb : f b with
      | false => simpa using hs b o hb
      | true => rw [hfb] at hf; cases hf

theorem sepL_swap {A B : HP} {As : List HP} {h : Frag} (H : SepL (A :: B :: As) h) : SepL (B :: A :: As) h := by
  obtain ⟨f, hA, g, hB, hr⟩ := H
  refine ⟨fun b => !f b && g b, ?_, f, ?_, ?_⟩
  · have : h.cut (fun b => !f b && g b) = (h.cut fun b => !f b).cut g := by
      funext b; simp only [Frag.cut]; cases f b <;> cases g b <;> rfl
    rw [this]; exact hB
  · have : (h.cut fun b => !(!f b && g b)).cut f = h.cut f := by
      funext b; simp only [Frag.cut]; cases f b <;> cases g b <;> rfl
    rw [this]; exact hA
  · have : ((h.cut fun b => !(!f b && g b)).cut fun b => !f b) = (h.cut fun b => !f b).cut fun b => !g b := by
      funext b; simp only [Frag.cut]; cases f b <;> cases g b <;> rfl
    rw [this]; exact hr

theorem sepL_perm {As Bs : List HP} (p : As.Perm Bs) : ∀ {h : Frag}, SepL As h → SepL Bs h := by
  induction p with
  | nil => exact id
  | cons A _ ih => rintro h ⟨f, hA, hr⟩; exact ⟨f, hA, ih hr⟩
  | swap A B As => exact sepL_swap
  | trans _ _ ih1 ih2 => exact fun H => ih2 (ih1 H)

theorem sepL_cut_mem {As : List HP} : ∀ {h : Frag}, SepL As h → ∀ A ∈ As, ∃ f : Nat → Bool, A (h.cut f) := by
  induction As with
  | nil => intro h _ A hA; cases hA
  | cons B As ih =>
    rintro h ⟨f, hB, hr⟩ A hA
    rcases List.mem_cons.1 hA with rfl | hA
    · exact ⟨f, hB⟩
    · obtain ⟨g, hg⟩ := ih hr A hA
      refine ⟨fun b => !f b && g b, ?_⟩
      have : h.cut (fun b => !f b && g b) = (h.cut fun b => !f b).cut g := by
        funext b; simp only [Frag.cut]; cases f b <;> cases g b <;> rfl
      rw [this]; exact hg

/-- The assertions 'Bs' as one. -/
theorem sepL_append {As Bs : List HP} : ∀ {h : Frag}, SepL (As ++ Bs) h ↔ SepL (SepL As :: Bs) h := by
  induction As with
  | nil =>
    intro h
    constructor
    · intro H; exact ⟨fun _ => false, trivial, by have : (h.cut fun b => !(fun _ => false) b) = h := rfl; rw [this]; exact H⟩
    · rintro ⟨f, _, H⟩
      exact sepL_mono H fun b o hb => (cut_some hb).2
  | cons A As ih =>
    intro h
    constructor
    · rintro ⟨f, hA, hr⟩
      obtain ⟨g, hg, hB⟩ := (ih (h := h.cut fun b => !f b)).1 hr
      refine ⟨fun b => f b || g b, ⟨f, ?_, ?_⟩, ?_⟩
      · have : (h.cut fun b => f b || g b).cut f = h.cut f := by funext b; simp only [Frag.cut]; cases f b <;> cases g b <;> rfl
        rw [this]; exact hA
      · have : ((h.cut fun b => f b || g b).cut fun b => !f b) = (h.cut fun b => !f b).cut g := by funext b; simp only [Frag.cut]; cases f b <;> cases g b <;> rfl
        rw [this]; exact hg
      · have : (h.cut fun b => !(f b || g b)) = (h.cut fun b => !f b).cut fun b => !g b := by funext b; simp only [Frag.cut]; cases f b <;> cases g b <;> rfl
        rw [this]; exact hB
    · rintro ⟨g, ⟨f, hA, hr⟩, hB⟩
      refine ⟨fun b => g b && f b, ?_, ?_⟩
      · have : h.cut (fun b => g b && f b) = (h.cut g).cut f := by funext b; simp only [Frag.cut]; cases f b <;> cases g b <;> rfl
        rw [this]; exact hA
      · refine (ih (h := h.cut fun b => !(g b && f b))).2 ⟨g, ?_, ?_⟩
        · have : (h.cut fun b => !(g b && f b)).cut g = (h.cut g).cut fun b => !f b := by funext b; simp only [Frag.cut]; cases f b <;> cases g b <;> rfl
          rw [this]; exact hr
        · have : ((h.cut fun b => !(g b && f b)).cut fun b => !g b) = h.cut fun b => !g b := by funext b; simp only [Frag.cut]; cases f b <;> cases g b <;> rfl
          rw [this]; exact hB

/- ### What is owned in a world; what a stretch of a run leaves alone -/
def Owns (w : World) (h : Frag) : Prop := ∀ b o, h b = some o → w.heap[b]? = some o
structure Fr (h0 : Frag) (w0 : World) (h : Frag) (w : World) : Prop where
  size : w0.heap.size ≤ w.heap.size
  old : ∀ b, b < w0.heap.size → h0 b = none → w.heap[b]? = w0.heap[b]?
  foot : ∀ b o, h b = some o → (∃ o, h0 b = some o) ∨ w0.heap.size ≤ b
  os : w.os = w0.os
  out : w.output = w0.output
  tape : w.tape = w0.tape

theorem Owns.lt {w : World} {h : Frag} (H : Owns w h) {b : Nat} {o : Obj} (hb : h b = some o) : b < w.heap.size := (Array.getElem?_eq_some_iff.1 (H b o hb)).1

theorem Fr.refl (h : Frag) (w : World) : Fr h w h w := ⟨Nat.le_refl _, fun _ _ _ => rfl, fun _ o hb => .inl ⟨o, hb⟩, rfl, rfl, rfl⟩
theorem Fr.trans {h0 h1 h2 : Frag} {w0 w1 w2 : World} (a : Fr h0 w0 h1 w1) (b : Fr h1 w1 h2 w2) : Fr h0 w0 h2 w2 := by
  refine ⟨Nat.le_trans a.size b.size, fun x hx h => ?_, fun x o h => ?_, b.os.trans a.os, b.out.trans a.out, b.tape.trans a.tape⟩
  · rw [b.old x (Nat.lt_of_lt_of_le hx a.size) ?_, a.old x hx h]
    cases h1x : h1 x with
    | none => rfl
    | some o =>
      rcases a.foot x o h1x with ⟨o, h'⟩ | h'
      · rw [h] at h'; cases h'
      · omega
  · rcases b.foot x o h with ⟨o, h'⟩ | h'
    · exact a.foot x o h'
    · exact .inr (Nat.le_trans a.size h')

/-- Since (h0, w0): the run stands at w and owns 'As'. -/
def St (h0 : Frag) (w0 w : World) (As : List HP) : Prop := ∃ h, SepL As h ∧ Owns w h ∧ Fr h0 w0 h w

/-- A call that needs A and leaves R. -/
def Sp (P : Program) (f : FuncId) (args : Array Value) (A : HP) (R : Value → HP) : Prop :=
  ∀ w h, A h → Owns w h → Cl P f args w fun v w' => ∃ h', R v h' ∧ Owns w' h' ∧ Fr h w h' w'

section
variable {h0 : Frag} {w0 w w' : World} {As Bs : List HP} {A : HP} {b : Nat} {o o' : Obj}

theorem St.perm (H : St h0 w0 w As) (p : As.Perm Bs) : St h0 w0 w Bs := let ⟨h, a, b⟩ := H; ⟨h, sepL_perm p a, b⟩
theorem St.drop (H : St h0 w0 w (A :: As)) : St h0 w0 w As := by
  obtain ⟨h, ⟨f, _, hr⟩, ho, hf⟩ := H
  exact ⟨h, sepL_mono hr fun b o hb => (cut_some hb).2, ho, hf⟩

theorem St.get (H : St h0 w0 w As) (hm : pt b o ∈ As) : w.heap[b]? = some o := by
  obtain ⟨h, hs, ho, _⟩ := H
  obtain ⟨f, hf⟩ := sepL_cut_mem hs _ hm
  exact ho b o (cut_some hf).2

theorem SepL.alloc {h : Frag} (H : SepL As h) (hb : h b = none) : SepL (pt b o :: As) (h.set b o) := by
  refine ⟨fun x => decide (x = b), by simp [pt, Frag.cut, Frag.set], ?_⟩
  have : ((h.set b o).cut fun x => !decide (x = b)) = h := by
    funext x
    simp only [Frag.cut, Frag.set]
    by_cases hx : x = b
    · subst hx; simp [hb]
    · simp [hx]
  rw [this]; exact H

theorem SepL.turn {h : Frag} (H : SepL (pt b o :: As) h) : SepL (pt b o' :: As) (h.set b o') ∧ h b = some o := by
  obtain ⟨f, hf, hr⟩ := H
  obtain ⟨hfb, hb⟩ := cut_some hf
  refine ⟨⟨f, by simp [pt, Frag.cut, Frag.set, hfb], ?_⟩, hb⟩
  have : ((h.set b o').cut fun x => !f x) = h.cut fun x => !f x := by
    funext x
    simp only [Frag.cut, Frag.set]
    by_cases hx : x = b
    · subst hx; simp [hfb]
    · simp [hx]
  rw [this]; exact hr

theorem St.alloc (H : St h0 w0 w As) (hb : b = w.heap.size) (hw : w' = w.alloc o) : St h0 w0 w' (pt b o :: As) := by
  obtain ⟨h, hs, ho, hf⟩ := H
  subst hb hw
  have hn : h w.heap.size = none := by
    cases e : h w.heap.size with
    | none => rfl
    | some o => exact absurd (ho.lt e) (Nat.lt_irrefl _)
  refine ⟨_, hs.alloc hn, fun x o' hx => ?_, hf.trans ⟨by simp, fun x hx _ => ?_, fun x o' hx => ?_, rfl, rfl, rfl⟩⟩
  · simp only [Frag.set] at hx
    by_cases e : x = w.heap.size
    · rw [if_pos e] at hx; cases hx; rw [e]; simp only [World.alloc]; rw [Array.getElem?_push, if_pos rfl]
    · rw [if_neg e] at hx
      have := ho x o' hx
      simp only [World.alloc]
      rw [Array.getElem?_push, if_neg e]; exact this
  · simp only [World.alloc]
    rw [Array.getElem?_push, if_neg (by omega)]
  · simp only [Frag.set] at hx
    by_cases e : x = w.heap.size
    · right; omega
    · rw [if_neg e] at hx; exact .inl ⟨o', hx⟩

theorem St.drew (H : St h0 w0 w As) (hw : w' = w.drew) : St h0 w0 w' As := by
  subst hw
  obtain ⟨h, hs, ho, hf⟩ := H
  exact ⟨h, hs, ho, hf.trans ⟨Nat.le_refl _, fun _ _ _ => rfl, fun _ o hb => .inl ⟨o, hb⟩, rfl, rfl, rfl⟩⟩

/-- A block is turned. -/
theorem St.turn (H : St h0 w0 w (pt b o :: As)) (hs : w'.heap = w.heap.setIfInBounds b o') (e1 : w'.os = w.os) (e2 : w'.output = w.output) (e3 : w'.tape = w.tape) : St h0 w0 w' (pt b o' :: As) := by
  obtain ⟨h, hsep, ho, hf⟩ := H
  obtain ⟨h1, hb⟩ := hsep.turn (o' := o')
  have hlt := ho.lt hb
  refine ⟨_, h1, fun x u hx => ?_, hf.trans ⟨by rw [hs]; simp, fun x hx hn => ?_, fun x u hx => ?_, e1, e2, e3⟩⟩
  · rw [hs]
    simp only [Frag.set] at hx
    by_cases e : x = b
    · subst e
      rw [if_pos rfl] at hx; cases hx
      simp [hlt]
    · rw [if_neg e] at hx
      rw [Array.getElem?_setIfInBounds_ne (Ne.symm e)]; exact ho x u hx
  · rw [hs]
    have : b ≠ x := fun e => by subst e; rw [hb] at hn; cases hn
    rw [Array.getElem?_setIfInBounds_ne this]
  · simp only [Frag.set] at hx
    by_cases e : x = b
    · subst e; exact .inl ⟨o, hb⟩
    · rw [if_neg e] at hx; exact .inl ⟨u, hx⟩

theorem St.putObj (H : St h0 w0 w (pt b o :: As)) (hw : w' = w.putObj b o') : St h0 w0 w' (pt b o' :: As) := by
  subst hw; exact H.turn rfl rfl rfl rfl

/-- A call, with what it does not need beside it. -/
theorem St.call {P : Program} {f : FuncId} {args : Array Value} {R : Value → HP} {K : Value → World → Prop} (H : St h0 w0 w (A :: As)) (hsp : Sp P f args A R) (hk : ∀ v w', St h0 w0 w' (R v :: As) → K v w') : Cl P f args w K := by
  obtain ⟨h, ⟨m, hA, hr⟩, ho, hf⟩ := H
  have hoA : Owns w (h.cut m) := fun b o hb => ho b o (cut_some hb).2
  refine CallsIn.mono (hsp w _ hA hoA) ?_
  rintro e w' ⟨v, rfl, h', hR, ho', hfr⟩
  refine ⟨v, rfl, hk v w' ?_⟩
  have hne : ∀ b o, h' b = some o → (h.cut fun b => !m b) b = none := fun b o hb => by
    rcases hfr.foot b o hb with ⟨u, hu⟩ | hlt
    · obtain ⟨hm, _⟩ := cut_some hu
      simp [Frag.cut, hm]
    · cases e : (h.cut fun b => !m b) b with
      | none => rfl
      | some u =>
        have := ho.lt (cut_some e).2
        omega
  refine ⟨fun b => match h' b with | some o => some o | none => (h.cut fun b => !m b) b, ⟨fun b => (h' b).isSome, ?_, ?_⟩, fun b o hb => ?_, hf.trans ⟨hfr.size, fun b hb hn => ?_, fun b o hb => ?_, hfr.os, hfr.out, hfr.tape⟩⟩
  · have : (Frag.cut (fun b => match h' b with | some o => some o | none => (h.cut fun b => !m b) b) fun b => (h' b).isSome) = h' := by
      funext b
      simp only [Frag.cut]
      cases h' b <;> rfl
    rw [this]; exact hR
  · have : (Frag.cut (fun b => match h' b with | some o => some o | none => (h.cut fun b => !m b) b) fun b => !(h' b).isSome) = h.cut fun b => !m b := by
      funext b
      cases hb : h' b with
      | none => simp only [Frag.cut, hb]; rfl
      | some o => rw [hne b o hb]; simp only [Frag.cut, hb]; rfl
    rw [this]; exact hr
  · simp only at hb
    cases hb' : h' b with
    | some u => rw [hb'] at hb; cases hb; exact ho' b _ hb'
    | none =>
      rw [hb'] at hb
      obtain ⟨hm, hb2⟩ := cut_some hb
      have hlt := ho.lt hb2
      rw [hfr.old b hlt (by simp only [Frag.cut]; simp only [Bool.not_eq_true'] at hm; rw [hm]; rfl)]
      exact ho b o hb2
  · exact hfr.old b hb (by simp only [Frag.cut]; cases m b <;> simp [hn])
  · cases hb' : h' b with
    | some u =>
      rcases hfr.foot b u hb' with ⟨x, hx⟩ | hx
      · exact .inl ⟨x, (cut_some hx).2⟩
      · exact .inr hx
    | none =>
      rw [hb'] at hb
      exact .inl ⟨o, (cut_some hb).2⟩

/-- The way in, and the way out. -/
theorem sp_of {P : Program} {f : FuncId} {args : Array Value} {R : Value → HP} (H : ∀ w0 h0, St h0 w0 w0 [A] → Cl P f args w0 fun v w' => St h0 w0 w' [R v]) : Sp P f args A R := by
  intro w h hA ho
  refine CallsIn.mono (H w h ⟨h, ⟨fun _ => true, by have : h.cut (fun _ => true) = h := rfl; rw [this]; exact hA, trivial⟩, ho, Fr.refl h w⟩) ?_
  rintro e w' ⟨v, rfl, h', ⟨m, hR, _⟩, ho', hfr⟩
  exact ⟨v, rfl, h'.cut m, hR, fun b o hb => ho' b o (cut_some hb).2, hfr.size, hfr.old, fun b o hb => hfr.foot b o (cut_some hb).2, hfr.os, hfr.out, hfr.tape⟩
end
end Go.Bty
