/- Lists of calls that came in: how they are read. -/
import Derived.Test.YtbjkbonnmeppoaaBtyLa
namespace Go.Bty
open Go
open Go.Proofs.Try renaming prog → P

structure Opd where
  kind : Int
  it : It
  s : Sl
  e : Ev
abbrev opV (x : Opd) : List Value := .int .i64 x.kind :: (itV x.it x.s ++ evV x.e)

/-- Calls that came in, behind a. -/
def Ops (h0 : Frag) (w0 : World) (a : Option Addr) (l : List Opd) : Prop :=
  ∀ i x, l[i]? = some x → ∃ b o, a = some (Addr.mk b o none) ∧ Kept h0 w0 (some (Addr.mk b (o + i * 15) none)) 15 (opV x) ∧ Kept h0 w0 x.s.1 x.s.2.1 (bytesV x.it.val)

section
variable {h0 : Frag} {w0 w w' : World} {As : List HP} {a : Option Addr} {l : List Opd}
theorem Ops.read (ho : Ops h0 w0 a l) (H : St h0 w0 w As) {i : Nat} (hi : i < l.length) : ∃ b o, a = some (Addr.mk b o none) ∧ SpanAt w (Addr.mk b (o + i * 15) none) (opV l[i]) := by
  obtain ⟨b, o, ha, hk, _⟩ := ho i l[i] (List.getElem?_eq_getElem hi)
  exact ⟨b, o, ha, (hk.at H).2⟩
theorem Ops.val (ho : Ops h0 w0 a l) {i : Nat} (hi : i < l.length) : Kept h0 w0 l[i].s.1 l[i].s.2.1 (bytesV l[i].it.val) := by
  obtain ⟨b, o, ha, _, hk⟩ := ho i l[i] (List.getElem?_eq_getElem hi)
  exact hk
theorem Ops.len (ho : Ops h0 w0 a l) {i : Nat} (hi : i < l.length) : l[i].s.2.1 = l[i].it.val.length := by
  have := (ho.val hi).1
  rw [bytesV_length] at this
  exact this.symm

def opOk (x : Opd) : Bool := decide (x.it.key.size ≤ 300) && decide (x.it.val.length ≤ 3000)
def fewM (l : List Opd) : Bool := decide (l.length ≤ 80) && l.all opOk
theorem few_spec {l : List Opd} (h : fewM l = true) : l.length ≤ 80 ∧ ∀ x ∈ l, x.it.key.size ≤ 300 ∧ x.it.val.length ≤ 3000 := by
  unfold fewM at h
  simp only [Bool.and_eq_true, decide_eq_true_eq, List.all_eq_true] at h
  refine ⟨h.1, fun x hx => ?_⟩
  have := h.2 x hx
  simpa [opOk] using this

theorem few_sp {c : Nat} {K : Value → World → Prop} (ho : Ops h0 w0 a l) (H : St h0 w0 w As) (hK : ∀ w', St h0 w0 w' As → K (.bool (fewM l)) w') : Cl P f_butterylaw11_Few #[.slice a l.length c] w K := by
  apply cl_butterylaw11_Few
  unfold c_butterylaw11_Few
  refine br (fun hc => ?_) fun hc => ?_
  · have : fewM l = false := by
      unfold fewM
      rw [show decide (l.length ≤ 80) = false by simp at hc ⊢; omega]; rfl
    rw [this] at hK
    exact hK _ H
  have hlen : l.length ≤ 80 := by simp at hc; omega
  refine ⟨fun vs w' => ∃ i : Nat, i ≤ l.length ∧ vs = [.int .i64 i] ∧ (∀ j x, j < i → l[j]? = some x → opOk x = true) ∧ St h0 w0 w' As, fun vs _ => match vs with | [.int _ i] => l.length - i.toNat | _ => 0,
    ⟨0, by omega, rfl, (fun j x hj => absurd hj (by omega)), H⟩, ?_⟩
  rintro vs w4 ⟨i, hi, rfl, hb, H⟩
  refine ⟨i, rfl, br (fun hc => ?_) fun hc => ?_⟩
  · have hlt : i < l.length := by simp at hc; omega
    obtain ⟨b, o, ha, hs⟩ := ho.read H hlt
    have hl := ho.len hlt
    have bad : opOk l[i] = false → fewM l = false := fun hf => by
      have : ¬ (l.all opOk = true) := fun h => by
        rw [List.all_eq_true] at h
        rw [h l[i] (List.getElem_mem hlt)] at hf; cases hf
      unfold fewM
      rw [show l.all opOk = false by simpa using this, Bool.and_false]
    have k1 := hs 1 _ rfl
    have k2 := hs 2 _ rfl
    rw [add_mk] at k1 k2
    refine ⟨_, ha, by omega, by omega, l[i].it.key, by rw [add_mk, add_mk, add_mk, Int.toNat_natCast]; exact k1, br (fun h1 => ?_) fun h1 => ⟨_, ha, by omega, by omega, l[i].s.1, l[i].s.2.1, l[i].s.2.2, by rw [add_mk, add_mk, add_mk, Int.toNat_natCast]; exact k2, br (fun h2 => ?_) fun h2 => ?_⟩⟩
    · rw [bad (by unfold opOk; rw [show decide (l[i].it.key.size ≤ 300) = false by simp at h1 ⊢; omega]; rfl)] at hK
      exact hK _ H
    · rw [bad (by unfold opOk; rw [show decide (l[i].it.val.length ≤ 3000) = false by simp at h2 ⊢; omega, Bool.and_false])] at hK
      exact hK _ H
    · have ew : IntKind.i64.wrap ((i : Int) + 1) = ((i + 1 : Nat) : Int) := by rw [wrap_i64 (by omega) (by omega)]; omega
      rw [ew]
      refine ⟨⟨i + 1, hlt, rfl, fun j x hj hx => ?_, H⟩, by simp; omega⟩
      by_cases e : j = i
      · subst e
        rw [List.getElem?_eq_getElem hlt] at hx
        cases hx
        unfold opOk
        simp at h1 h2
        simp; omega
      · exact hb j x (by omega) hx
  · have hil : i = l.length := by simp at hc; omega
    have : fewM l = true := by
      unfold fewM
      rw [show decide (l.length ≤ 80) = true by simpa using hlen, Bool.true_and, List.all_eq_true]
      intro x hx
      obtain ⟨j, hj, rfl⟩ := List.getElem_of_mem hx
      exact hb j _ (by omega) (List.getElem?_eq_getElem hj)
    rw [this] at hK
    exact hK _ H

theorem rsize_sp (it : It) (s : Sl) (hs : s.2.1 = it.val.length) (hb : it.key.size < 2 ^ 60) (hv : it.val.length < 2 ^ 60) : Pu P f_butteryref10_Size #[.agg (itV it s).toArray] (.int .i64 (sizeM it)) := pu_of fun w h H => by
  apply cl_butteryref10_Size
  unfold c_butteryref10_Size
  intro b1 w2 e1 e2
  have H := H.newCells (cs := itV it s) e1 e2
  refine ⟨it.key, by rw [add_mk, H.cell m0]; rfl, s.1, s.2.1, s.2.2, by rw [add_mk, H.cell m0]; rfl, ?_⟩
  rw [wrap_i64 (n := 50 + (it.key.size : Int)) (by omega) (by omega), wrap_i64 (by omega) (by omega), hs]
  refine ⟨?_, H.drop⟩
  unfold sizeM
  congr 1
end
end Go.Bty
