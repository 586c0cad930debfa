/- Items: how they lie in memory; what is asked of one, and copies of one. -/
import Derived.Test.YtbjkbonnmeppoaaBtyKa
import Derived.Test.YtbjkbonnmeppoaaBtyMa
import Derived.Test.YtbjkbonnmeppoaaShardC
import Derived.Test.YtbjkbonnmeppoaaTableC
namespace Go.Bty
open Go
open Go.Proofs.Try renaming prog → P

abbrev itV (it : It) (s : Sl) : List Value := [.string it.key, .slice s.1 s.2.1 s.2.2, .int .u32 it.flags, .int .i64 it.exp, .int .u64 it.cas, .int .i64 it.sec, .int .u64 it.seq, .bool it.stale, .bool it.won, .bool it.seen]
abbrev evV (e : Ev) : List Value := [.int .i64 e.now, .int .u64 e.seq, .int .i64 e.flush, .int .u64 e.flushSeq]
/-- A row of bytes. -/
def BRow (s : Sl) (bs : List UInt8) : HP := Row T_uint8 1 s.1 s.2.1 s.2.2 (bytesV bs)
theorem bytesV_length (bs : List UInt8) : (bytesV bs).length = bs.length := by simp [bytesV]

section
variable {h0 : Frag} {w0 w w' : World} {As : List HP}

theorem clone_sp (a : Option Addr) (n c : Nat) (bs : List UInt8) (hn : n < 2 ^ 45) : SpK P f_slices_Clone_byte_byte #[.slice a n c] a n (bytesV bs) (fun _ => True) (fun v h => ∃ s : Sl, v = .slice s.1 s.2.1 s.2.2 ∧ BRow s bs h) := spK_of fun w h hk H => by
  apply cl_slices_Clone_byte_byte
  unfold c_slices_Clone_byte_byte
  have hl := hk.1
  rw [bytesV_length] at hl
  refine br (fun ha => ?_) fun ha => ?_
  · have ha : a = none := by simpa using ha
    have h0 : n = 0 := by
      rcases hk.2 with h | ⟨b, o, L, T, fr, h, _⟩
      · exact h
      · rw [ha] at h; cases h
    have : bs = [] := List.eq_nil_of_length_eq_zero (by omega)
    subst this
    exact (H.drop.rowNil (T := T_uint8) (sz := 1)).conv fun _ hs => ⟨(none, 0, 0), rfl, hs⟩
  · intro b1 w2 e1 e2
    have H := (H.drop.newCells (cs := []) e1 e2).rowMk (c := 0) (sz := 1) (n := 0) rfl (Nat.le_refl _)
    refine ⟨bytesV bs, by rw [Nat.mul_one]; exact hk.at H, ?_⟩
    refine H.rowAppend (bytesV_oneC bs) (by rw [bytesV_length]; omega) rfl (by omega) fun a' c' w' H => ?_
    exact H.conv fun _ hs => ⟨(a', 0 + n, c'), rfl, hs⟩

theorem size_sp (it : It) (s : Sl) (hs : s.2.1 = it.val.length) (hb : it.key.size < 2 ^ 60) (hv : it.val.length < 2 ^ 60) : Pu P f_item_Size #[.agg (itV it s).toArray] (.int .i64 (sizeM it)) := pu_of fun w h H => by
  apply cl_item_Size
  unfold c_item_Size
  intro b1 w2 e1 e2
  have H := H.newCells (cs := itV it s) e1 e2
  refine ⟨it.key, by rw [add_mk, H.cell m0]; rfl, s.1, s.2.1, s.2.2, by rw [add_mk, H.cell m0]; rfl, ?_⟩
  rw [wrap_i64 (n := 50 + (it.key.size : Int)) (by omega) (by omega), wrap_i64 (by omega) (by omega), hs]
  refine ⟨?_, H.drop⟩
  unfold sizeM
  congr 1

theorem live1_sp {it : It} {s : Sl} {b : Nat} {x y : Int} {K : Value → World → Prop} (H : St h0 w0 w (cl b T_api_Item (itV it s) :: As)) (hK : K (.bool (decide (it.sec < x) || (decide (it.sec = x) && decide (it.seq < y)))) w) :
    Cl P f_item_Live_1 #[.int .i64 x, .int .u64 y, .pointer (some (Addr.mk b 0 none))] w K := by
  apply cl_item_Live_1
  unfold c_item_Live_1
  refine ⟨it.sec, by rw [add_mk, H.cell m0]; rfl, br (fun h1 => ?_) fun h1 => ⟨it.sec, by rw [add_mk, H.cell m0]; rfl, br (fun h2 => ⟨it.seq, by rw [add_mk, H.cell m0]; rfl, ?_⟩) fun h2 => ?_⟩⟩
  · rw [h1] at hK; exact hK
  · have : it.sec = x := by simpa using h2
    rw [h1, show decide (it.sec = x) = true by simpa using this] at hK
    simpa using hK
  · have : ¬ it.sec = x := by simpa using h2
    rw [h1, show decide (it.sec = x) = false by simpa using this] at hK
    exact hK

theorem live_sp (it : It) (s : Sl) (e : Ev) : Pu P f_item_Live #[.agg (itV it s).toArray, .agg (evV e).toArray] (.bool (liveM it e)) := pu_of fun w h H => by
  apply cl_item_Live
  unfold c_item_Live
  intro b1 w2 e1 e2 b3 w4 e3 e4
  have H := ((H.newCells (cs := itV it s) e1 e2).newCells (cs := evV e) e3 e4).swap
  unfold liveM
  have second : ∀ {R : Value → World → Prop}, (R (.bool (if e.flush ≠ 0 ∧ e.flush ≤ e.now then !(decide (it.sec < e.flush) || (decide (it.sec = e.flush) && decide (it.seq < e.flushSeq))) else true)) w4) → 
      ∃ x16 : Int, World.cell? w4 (Addr.add (Addr.mk b3 0 none) 2) = some (.int .i64 x16) ∧ (bif (x16 != (0 : Int)) then ∃ x17 : Int, World.cell? w4 (Addr.add (Addr.mk b3 0 none) 2) = some (.int .i64 x17) ∧ ∃ x18 : Int, World.cell? w4 (Addr.add (Addr.mk b3 0 none) 0) = some (.int .i64 x18) ∧ 
 (bif (decide (x17 ≤ x18)) then
 ∃ x19 : Int, World.cell? w4 (Addr.add (Addr.mk b3 0 none) 2) = some (.int .i64 x19) ∧ ∃ x20 : Int, World.cell? w4 (Addr.add (Addr.mk b3 0 none) 3) = some (.int .u64 x20) ∧ true = true ∧ Cl P f_item_Live_1 #[(.int .i64 x19), (.int .u64 x20), (.pointer (some (Addr.mk b1 0 none)))] w4 (fun (u21 : Value) (w22 : World) => ∃ x23 : Bool, u21 = (.bool x23) ∧ 
 R (.bool (!x23)) w22) else
 R (.bool true) w4) else
 R (.bool true) w4) := fun {R} hR => by
    refine ⟨e.flush, by rw [add_mk, H.cell m1]; rfl, br (fun h1 => ⟨e.flush, by rw [add_mk, H.cell m1]; rfl, e.now, by rw [add_mk, H.cell m1]; rfl, br (fun h2 => ?_) fun h2 => ?_⟩) fun h1 => ?_⟩
    · refine ⟨e.flush, by rw [add_mk, H.cell m1]; rfl, e.flushSeq, by rw [add_mk, H.cell m1]; rfl, rfl, live1_sp H ⟨_, rfl, ?_⟩⟩
      rw [if_pos ⟨by simpa using h1, by simpa using h2⟩] at hR
      exact hR
    · rw [if_neg (fun hh => by simp at h2; omega)] at hR
      exact hR
    · rw [if_neg (fun hh => by simp at h1; exact hh.1 h1)] at hR
      exact hR
  refine ⟨it.exp, by rw [add_mk, H.cell m0]; rfl, br (fun h1 => ⟨it.exp, by rw [add_mk, H.cell m0]; rfl, e.now, by rw [add_mk, H.cell m1]; rfl, br (fun h2 => ?_) fun h2 => ?_⟩) fun h1 => ?_⟩
  · rw [if_pos ⟨by simpa using h1, by simpa using h2⟩]
    exact ⟨rfl, H.drop.drop⟩
  · rw [if_neg (fun hh => by simp at h2; omega)]
    refine second (R := fun u w' => u = _ ∧ St h w w' []) ?_
    exact ⟨rfl, H.drop.drop⟩
  · rw [if_neg (fun hh => by simp at h1; exact hh.1 h1)]
    refine second (R := fun u w' => u = _ ∧ St h w w' []) ?_
    exact ⟨rfl, H.drop.drop⟩

theorem owned_sp (it : It) (s : Sl) (hn : s.2.1 < 2 ^ 45) : SpK P f_shard_owned #[.agg (itV it s).toArray] s.1 s.2.1 (bytesV it.val) (fun _ => True) (fun v h => ∃ s' : Sl, v = .agg (itV it s').toArray ∧ BRow s' it.val h) := spK_of fun w h hk H => by
  apply cl_shard_owned
  unfold c_shard_owned
  intro b1 w2 e1 e2 b3 w4 e3 e4
  have H := ((H.newCells (cs := itV it s) e1 e2).newCells (cs := itV ⟨⟨#[]⟩, [], 0, 0, 0, 0, 0, false, false, false⟩ (none, 0, 0)) e3 e4).pull3
  refine ⟨s.1, s.2.1, s.2.2, by rw [add_mk, H.cell m2]; rfl, ?_⟩
  refine H.emp.callKE hk.pass (clone_sp s.1 s.2.1 s.2.2 it.val hn) fun s' w7 H => ⟨s'.1, s'.2.1, s'.2.2, rfl, ?_⟩
  -- [row, True, b3, b1]
  refine ⟨by rw [add_mk]; exact H.stOk m3 (by simp [itV]), fun w9 e9 => ?_⟩
  rw [add_mk] at e9
  have H := H.pull4.set e9
  refine ⟨it.key, s'.1, s'.2.1, s'.2.2, it.flags, it.exp, it.cas, it.sec, it.seq, it.stale, it.won, it.seen, H.spanAll m0, H.wr m3 (by simp [itV]), fun w20 e20 => ?_⟩
  have H := H.pull4.setSpan0 e20
  refine ⟨it.key, s'.1, s'.2.1, s'.2.2, it.flags, it.exp, it.cas, it.sec, it.seq, it.stale, it.won, it.seen, H.spanAll m0, ?_⟩
  exact (H.only m2).conv fun _ hs => ⟨s', rfl, hs⟩
end
end Go.Bty
