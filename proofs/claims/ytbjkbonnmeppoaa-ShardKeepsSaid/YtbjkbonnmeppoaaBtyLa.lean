/- The chapter's example of a shard; lists of calls. -/
import Derived.Test.YtbjkbonnmeppoaaBtySg
import Derived.Test.YtbjkbonnmeppoaaLawC
namespace Go.Bty
open Go
open Go.Proofs.Try renaming prog → P

def itK (k : ByteArray) : It := { It.zero with key := k }
def ev1 : Ev := ⟨1, 0, 0, 0⟩
def aw1 := (SM.new 1 128 1).store (itK ⟨#[97]⟩) ev1
def aw2 := aw1.1.store (itK ⟨#[98]⟩) ev1
def aw3 := aw2.1.store (itK ⟨#[99]⟩) ev1
def aw4 := (aw3.1.use ⟨#[99]⟩).use ⟨#[99]⟩
def aw5 := aw4.store (itK ⟨#[99]⟩) ev1

theorem aw1_eq : aw1.2 = 0 := by kernel_rfl
theorem aw2_eq : aw2.2 = 0 := by kernel_rfl
theorem aw2_used : aw2.1.used = 128 := by kernel_rfl
theorem aw3_eq : aw3.2 = 8 := by kernel_rfl
theorem aw5_eq : aw5.2 = 0 := by kernel_rfl
theorem aw5_drops : aw5.1.drops = [⟨#[97]⟩] := by kernel_rfl
theorem aw5_len : aw5.1.items.length = 2 := by kernel_rfl

theorem awake_sp : Pu P f_butterylaw11_awake #[] (.bool true) := pu_of fun w h H => by
  apply cl_butterylaw11_awake
  unfold c_butterylaw11_awake
  refine H.emp.callE (shard_new 1 128 1) fun p w2 H => ⟨_, rfl, br (fun hc => by simp [ad] at hc) fun _ => fun b4 w5 e4 e5 => ?_⟩
  have H := (H.newCells (cs := evV ⟨0, 0, 0, 0⟩) e4 e5)
  refine ⟨H.wr m0 (by simp [evV]), fun w6 e6 => ?_⟩
  have H : St h w w6 (cl b4 T_api_Env (evV ev1) :: _) := H.setSpan0 e6
  have H := H.swap
  have hk : ∀ {w' : World} {A : HP} {As : List HP}, KpOk h w w' A As (none : Option Addr) 0 (bytesV []) := kpNil
  refine ⟨ev1.now, ev1.seq, ev1.flush, ev1.flushSeq, H.spanAll m1, ?_⟩
  refine H.callKV hk (shard_store p 0 _ (itK ⟨#[97]⟩) (none, 0, 0) ev1 (by omega) rfl (by decide) (by decide)) fun w12 H => ⟨_, rfl, ?_⟩
  refine ⟨ev1.now, ev1.seq, ev1.flush, ev1.flushSeq, H.spanAll m1, ?_⟩
  refine H.callKV hk (shard_store p 2 aw1.1 (itK ⟨#[98]⟩) (none, 0, 0) ev1 (by omega) rfl (by decide) (by decide)) fun w19 H => ⟨_, rfl, ?_⟩
  refine H.callV (shard_used p 4 aw2.1) fun w22 H => ⟨_, rfl, ?_⟩
  refine ⟨ev1.now, ev1.seq, ev1.flush, ev1.flushSeq, H.spanAll m1, ?_⟩
  refine H.callKV hk (shard_store p 4 aw2.1 (itK ⟨#[99]⟩) (none, 0, 0) ev1 (by omega) rfl (by decide) (by decide)) fun w29 H => ⟨_, rfl, ?_⟩
  refine H.callV (shard_use p 6 aw3.1 ⟨#[99]⟩ (by omega) (by decide)) fun w32 H => ⟨rfl, ?_⟩
  refine H.callV (shard_use p 6 _ ⟨#[99]⟩ (by omega) (by decide)) fun w34 H => ⟨rfl, ?_⟩
  refine ⟨ev1.now, ev1.seq, ev1.flush, ev1.flushSeq, H.spanAll m1, ?_⟩
  refine H.callKV hk (shard_store p 6 aw4 (itK ⟨#[99]⟩) (none, 0, 0) ev1 (by omega) rfl (by decide) (by decide)) fun w40 H => ⟨_, rfl, ?_⟩
  refine H.callE (shard_drops p 8 aw5.1) fun d w43 H => ⟨d.1, d.2.1, d.2.2, rfl, ?_⟩
  have H := H.split
  have hrl := H.swap.rowLen
  rw [strs_length, aw5_drops] at hrl
  have hd1 : d.2.1 = 1 := by have := hrl.1; simpa using this.symm
  have e1 : ((SM.new 1 128 1).store (itK ⟨#[97]⟩) ev1).2 = 0 := aw1_eq
  have e2 : (aw1.1.store (itK ⟨#[98]⟩) ev1).2 = 0 := aw2_eq
  have e3 : (aw2.1.store (itK ⟨#[99]⟩) ev1).2 = 8 := aw3_eq
  have e5 : (aw4.store (itK ⟨#[99]⟩) ev1).2 = 0 := aw5_eq
  rw [e1, e2, e3, e5, aw2_used, hd1]
  simp only [beq_self_eq_true, cond_true]
  obtain ⟨a, ha⟩ := H.swap.rowSome (by rw [strs_length, aw5_drops]; simp)
  have hD : (strs aw5.1.drops)[0]? = some (.string ⟨#[97]⟩) := by
    rw [aw5_drops]
    simp [strs]
  have hcell := H.swap.rowCell ha (i := 0) (v := .string ⟨#[97]⟩) hD
  refine ⟨a, ha, by omega, by omega, ⟨#[97]⟩, hcell, ?_⟩
  rw [seq_eq]
  refine br (fun _ => ?_) fun hc => by simp at hc
  refine H.callV (shard_len p 8 _) fun w48 H => ⟨_, rfl, ?_⟩
  have e6 : ({ aw5.1 with drops := [] } : SM).items = aw5.1.items := by generalize aw5.1 = X; rfl
  rw [e6, aw5_len]
  exact ⟨rfl, H.drop.drop.drop⟩
end Go.Bty
