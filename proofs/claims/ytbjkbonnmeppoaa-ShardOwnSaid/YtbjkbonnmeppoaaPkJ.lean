/- The chapter's example of a shard; lists of calls. -/
/- Lists of calls that came in: how they are read. -/
import Derived.Test.YtbjkbonnmeppoaaPkH
import Derived.Test.YtbjkbonnmeppoaaLawC
namespace Go.Bty
open Go
open Go.Proofs.Try renaming prog → P

def itK (k : ByteArray) : It := { It.zero with key := k }
def ev1 : Ev := ⟨1, 0, 0, 0⟩
def aw1 := (SM.new 1 128 1).store (itK ⟨#[97]⟩) ev1
def aw2 := aw1.1.store (itK ⟨#[98]⟩) ev1
def aw3 := aw2.1.store (itK ⟨#[99]⟩) ev1
def aw4 := (aw3.1.use ⟨#[99]⟩).use ⟨#[99]⟩
def aw5 := aw4.store (itK ⟨#[99]⟩) ev1

theorem aw1_eq : aw1.2 = 0 := by kernel_rfl
theorem aw2_eq : aw2.2 = 0 := by kernel_rfl
theorem aw2_used : aw2.1.used = 128 := by kernel_rfl
theorem aw3_eq : aw3.2 = 8 := by kernel_rfl
theorem aw5_eq : aw5.2 = 0 := by kernel_rfl
theorem aw5_drops : aw5.1.drops = [⟨#[97]⟩] := by kernel_rfl
theorem aw5_len : aw5.1.items.length = 2 := by kernel_rfl

theorem awake_sp : Pu P f_butterylaw11_awake #[] (.bool true) := pu_of fun w h H => by
  apply cl_butterylaw11_awake
  unfold c_butterylaw11_awake
  refine H.emp.callE (shard_new 1 128 1) fun p w2 H => ⟨_, rfl, br (fun hc => by simp [ad] at hc) fun _ => fun b4 w5 e4 e5 => ?_⟩
  have H := (H.newCells (cs := evV ⟨0, 0, 0, 0⟩) e4 e5)
  refine ⟨H.wr m0 (by simp [evV]), fun w6 e6 => ?_⟩
  have H : St h w w6 (cl b4 T_api_Env (evV ev1) :: _) := H.setSpan0 e6
  have H := H.swap
  have hk : ∀ {w' : World} {A : HP} {As : List HP}, KpOk h w w' A As (none : Option Addr) 0 (bytesV []) := kpNil
  refine ⟨ev1.now, ev1.seq, ev1.flush, ev1.flushSeq, H.spanAll m1, ?_⟩
  refine H.callKV hk (shard_store p 0 _ (itK ⟨#[97]⟩) (none, 0, 0) ev1 (by omega) rfl (by decide) (by decide)) fun w12 H => ⟨_, rfl, ?_⟩
  refine ⟨ev1.now, ev1.seq, ev1.flush, ev1.flushSeq, H.spanAll m1, ?_⟩
  refine H.callKV hk (shard_store p 2 aw1.1 (itK ⟨#[98]⟩) (none, 0, 0) ev1 (by omega) rfl (by decide) (by decide)) fun w19 H => ⟨_, rfl, ?_⟩
  refine H.callV (shard_used p 4 aw2.1) fun w22 H => ⟨_, rfl, ?_⟩
  refine ⟨ev1.now, ev1.seq, ev1.flush, ev1.flushSeq, H.spanAll m1, ?_⟩
  refine H.callKV hk (shard_store p 4 aw2.1 (itK ⟨#[99]⟩) (none, 0, 0) ev1 (by omega) rfl (by decide) (by decide)) fun w29 H => ⟨_, rfl, ?_⟩
  refine H.callV (shard_use p 6 aw3.1 ⟨#[99]⟩ (by omega) (by decide)) fun w32 H => ⟨rfl, ?_⟩
  refine H.callV (shard_use p 6 _ ⟨#[99]⟩ (by omega) (by decide)) fun w34 H => ⟨rfl, ?_⟩
  refine ⟨ev1.now, ev1.seq, ev1.flush, ev1.flushSeq, H.spanAll m1, ?_⟩
  refine H.callKV hk (shard_store p 6 aw4 (itK ⟨#[99]⟩) (none, 0, 0) ev1 (by omega) rfl (by decide) (by decide)) fun w40 H => ⟨_, rfl, ?_⟩
  refine H.callE (shard_drops p 8 aw5.1) fun d w43 H => ⟨d.1, d.2.1, d.2.2, rfl, ?_⟩
  have H := H.split
  have hrl := H.swap.rowLen
  rw [strs_length, aw5_drops] at hrl
  have hd1 : d.2.1 = 1 := by have := hrl.1; simpa using this.symm
  have e1 : ((SM.new 1 128 1).store (itK ⟨#[97]⟩) ev1).2 = 0 := aw1_eq
  have e2 : (aw1.1.store (itK ⟨#[98]⟩) ev1).2 = 0 := aw2_eq
  have e3 : (aw2.1.store (itK ⟨#[99]⟩) ev1).2 = 8 := aw3_eq
  have e5 : (aw4.store (itK ⟨#[99]⟩) ev1).2 = 0 := aw5_eq
  rw [e1, e2, e3, e5, aw2_used, hd1]
  simp only [beq_self_eq_true, cond_true]
  obtain ⟨a, ha⟩ := H.swap.rowSome (by rw [strs_length, aw5_drops]; simp)
  have hD : (strs aw5.1.drops)[0]? = some (.string ⟨#[97]⟩) := by
    rw [aw5_drops]
    simp [strs]
  have hcell := H.swap.rowCell ha (i := 0) (v := .string ⟨#[97]⟩) hD
  refine ⟨a, ha, by omega, by omega, ⟨#[97]⟩, hcell, ?_⟩
  rw [seq_eq]
  refine br (fun _ => ?_) fun hc => by simp at hc
  refine H.callV (shard_len p 8 _) fun w48 H => ⟨_, rfl, ?_⟩
  have e6 : ({ aw5.1 with drops := [] } : SM).items = aw5.1.items := by generalize aw5.1 = X; rfl
  rw [e6, aw5_len]
  exact ⟨rfl, H.drop.drop.drop⟩
end Go.Bty

namespace Go.Bty
open Go
open Go.Proofs.Try renaming prog → P

structure Opd where
  kind : Int
  it : It
  s : Sl
  e : Ev
abbrev opV (x : Opd) : List Value := .int .i64 x.kind :: (itV x.it x.s ++ evV x.e)

/-- Calls that came in, behind a. -/
def Ops (h0 : Frag) (w0 : World) (a : Option Addr) (l : List Opd) : Prop :=
  ∀ i x, l[i]? = some x → ∃ b o, a = some (Addr.mk b o none) ∧ Kept h0 w0 (some (Addr.mk b (o + i * 15) none)) 15 (opV x) ∧ Kept h0 w0 x.s.1 x.s.2.1 (bytesV x.it.val)

section
variable {h0 : Frag} {w0 w w' : World} {As : List HP} {a : Option Addr} {l : List Opd}
theorem Ops.read (ho : Ops h0 w0 a l) (H : St h0 w0 w As) {i : Nat} (hi : i < l.length) : ∃ b o, a = some (Addr.mk b o none) ∧ SpanAt w (Addr.mk b (o + i * 15) none) (opV l[i]) := by
  obtain ⟨b, o, ha, hk, _⟩ := ho i l[i] (List.getElem?_eq_getElem hi)
  exact ⟨b, o, ha, (hk.at H).2⟩
theorem Ops.val (ho : Ops h0 w0 a l) {i : Nat} (hi : i < l.length) : Kept h0 w0 l[i].s.1 l[i].s.2.1 (bytesV l[i].it.val) := by
  obtain ⟨b, o, ha, _, hk⟩ := ho i l[i] (List.getElem?_eq_getElem hi)
  exact hk
theorem Ops.len (ho : Ops h0 w0 a l) {i : Nat} (hi : i < l.length) : l[i].s.2.1 = l[i].it.val.length := by
  have := (ho.val hi).1
  rw [bytesV_length] at this
  exact this.symm

def opOk (x : Opd) : Bool := decide (x.it.key.size ≤ 300) && decide (x.it.val.length ≤ 3000)
def fewM (l : List Opd) : Bool := decide (l.length ≤ 80) && l.all opOk
theorem few_spec {l : List Opd} (h : fewM l = true) : l.length ≤ 80 ∧ ∀ x ∈ l, x.it.key.size ≤ 300 ∧ x.it.val.length ≤ 3000 := by
  unfold fewM at h
  simp only [Bool.and_eq_true, decide_eq_true_eq, List.all_eq_true] at h
  refine ⟨h.1, fun x hx => ?_⟩
  have := h.2 x hx
  simpa [opOk] using this

theorem few_sp {c : Nat} {K : Value → World → Prop} (ho : Ops h0 w0 a l) (H : St h0 w0 w As) (hK : ∀ w', St h0 w0 w' As → K (.bool (fewM l)) w') : Cl P f_butterylaw11_Few #[.slice a l.length c] w K := by
  apply cl_butterylaw11_Few
  unfold c_butterylaw11_Few
  refine br (fun hc => ?_) fun hc => ?_
  · have : fewM l = false := by
      unfold fewM
      rw [show decide (l.length ≤ 80) = false by simp at hc ⊢; omega]; rfl
    rw [this] at hK
    exact hK _ H
  have hlen : l.length ≤ 80 := by simp at hc; omega
  refine ⟨fun vs w' => ∃ i : Nat, i ≤ l.length ∧ vs = [.int .i64 i] ∧ (∀ j x, j < i → l[j]? = some x → opOk x = true) ∧ St h0 w0 w' As, fun vs _ => match vs with | [.int _ i] => l.length - i.toNat | _ => 0,
    ⟨0, by omega, rfl, (fun j x hj => absurd hj (by omega)), H⟩, ?_⟩
  rintro vs w4 ⟨i, hi, rfl, hb, H⟩
  refine ⟨i, rfl, br (fun hc => ?_) fun hc => ?_⟩
  · have hlt : i < l.length := by simp at hc; omega
    obtain ⟨b, o, ha, hs⟩ := ho.read H hlt
    have hl := ho.len hlt
    have bad : opOk l[i] = false → fewM l = false := fun hf => by
      have : ¬ (l.all opOk = true) := fun h => by
        rw [List.all_eq_true] at h
        rw [h l[i] (List.getElem_mem hlt)] at hf; cases hf
      unfold fewM
      rw [show l.all opOk = false by simpa using this, Bool.and_false]
    have k1 := hs 1 _ rfl
    have k2 := hs 2 _ rfl
    rw [add_mk] at k1 k2
    refine ⟨_, ha, by omega, by omega, l[i].it.key, by rw [add_mk, add_mk, add_mk, Int.toNat_natCast]; exact k1, br (fun h1 => ?_) fun h1 => ⟨_, ha, by omega, by omega, l[i].s.1, l[i].s.2.1, l[i].s.2.2, by rw [add_mk, add_mk, add_mk, Int.toNat_natCast]; exact k2, br (fun h2 => ?_) fun h2 => ?_⟩⟩
    · rw [bad (by unfold opOk; rw [show decide (l[i].it.key.size ≤ 300) = false by simp at h1 ⊢; omega]; rfl)] at hK
      exact hK _ H
    · rw [bad (by unfold opOk; rw [show decide (l[i].it.val.length ≤ 3000) = false by simp at h2 ⊢; omega, Bool.and_false])] at hK
      exact hK _ H
    · have ew : IntKind.i64.wrap ((i : Int) + 1) = ((i + 1 : Nat) : Int) := by rw [wrap_i64 (by omega) (by omega)]; omega
      rw [ew]
      refine ⟨⟨i + 1, hlt, rfl, fun j x hj hx => ?_, H⟩, by simp; omega⟩
      by_cases e : j = i
      · subst e
        rw [List.getElem?_eq_getElem hlt] at hx
        cases hx
        unfold opOk
        simp at h1 h2
        simp; omega
      · exact hb j x (by omega) hx
  · have hil : i = l.length := by simp at hc; omega
    have : fewM l = true := by
      unfold fewM
      rw [show decide (l.length ≤ 80) = true by simpa using hlen, Bool.true_and, List.all_eq_true]
      intro x hx
      obtain ⟨j, hj, rfl⟩ := List.getElem_of_mem hx
      exact hb j _ (by omega) (List.getElem?_eq_getElem hj)
    rw [this] at hK
    exact hK _ H

theorem rsize_sp (it : It) (s : Sl) (hs : s.2.1 = it.val.length) (hb : it.key.size < 2 ^ 60) (hv : it.val.length < 2 ^ 60) : Pu P f_butteryref10_Size #[.agg (itV it s).toArray] (.int .i64 (sizeM it)) := pu_of fun w h H => by
  apply cl_butteryref10_Size
  unfold c_butteryref10_Size
  intro b1 w2 e1 e2
  have H := H.newCells (cs := itV it s) e1 e2
  refine ⟨it.key, by rw [add_mk, H.cell m0]; rfl, s.1, s.2.1, s.2.2, by rw [add_mk, H.cell m0]; rfl, ?_⟩
  rw [wrap_i64 (n := 50 + (it.key.size : Int)) (by omega) (by omega), wrap_i64 (by omega) (by omega), hs]
  refine ⟨?_, H.drop⟩
  unfold sizeM
  congr 1
end
end Go.Bty
