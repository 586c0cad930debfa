/- ShardOwn: what is handed in, and what is answered, is one's own. -/
import Derived.Test.YtbjkbonnmeppoaaPkL
namespace Go.Bty
open Go
open Go.Proofs.Try renaming prog → P

section
variable {h0 : Frag} {w0 w w' : World} {As : List HP}
/-- A row of bytes behind a slice, whatever they are. -/
def BAny (s : Sl) : HP := fun h => ∃ bs : List UInt8, BRow s bs h
theorem brow_set {s : Sl} {bs : List UInt8} {q : Addr} {i : Nat} {b : UInt8} (H : St h0 w0 w (BRow s bs :: As)) (hq : s.1 = some q) (hi : i < bs.length) (hw : w' = w.setCell (q.add i) (.int .u8 (b.toNat : Int))) : St h0 w0 w' (BRow s (bs.set i b) :: As) := by
  have H2 := St.rowSet (T := T_uint8) (sz := 1) H hq (by rw [bytesV_length]; exact hi) hw
  have e : (bytesV bs).set i (.int .u8 (b.toNat : Int)) = bytesV (bs.set i b) := by simp [bytesV, List.map_set]
  rw [e] at H2
  exact H2
theorem brow_len {s : Sl} {bs : List UInt8} (H : St h0 w0 w (BRow s bs :: As)) : s.2.1 = bs.length := by
  have := (H : St h0 w0 w (Row T_uint8 1 s.1 s.2.1 s.2.2 (bytesV bs) :: As)).rowLen
  rw [bytesV_length] at this
  omega

theorem own_walk {key : ByteArray} {a : Option Addr} {n c : Nat} {bs : List UInt8} {cb : UInt8} (hkp : Kept h0 w0 a n (bytesV bs)) (H : St h0 w0 w []) :
    Cl P f_butterylaw11_ShardOwn #[.string key, .slice a n c, .int .u8 (cb.toNat : Int)] w fun v w' => v = .bool true ∧ St h0 w0 w' [] := by
  apply cl_butterylaw11_ShardOwn
  unfold c_butterylaw11_ShardOwn
  refine H.pure awake_sp fun w4 H => ⟨true, rfl, ?_⟩
  refine H.emp.callE (shard_new _ _ _) fun p w10 H => ⟨_, rfl, ?_⟩
  have out : ∀ {w' : World} {As : List HP}, St h0 w0 w' As → St h0 w0 w' [] := fun H => let ⟨h, _, ho, hf⟩ := H; ⟨h, trivial, ho, hf⟩
  refine br (fun hc => by simp at hc) fun _ => br (fun hc => by simp [ad] at hc) fun _ => br (fun _ => br (fun _ => ⟨rfl, out H⟩) fun hc => by simp at hc) fun hk => br (fun _ => br (fun _ => ⟨rfl, out H⟩) fun hc => by simp at hc) fun hn => ?_
  have hks : key.size ≤ 250 := by simp at hk; omega
  have hns : n ≤ 1000 := by simp at hn; omega
  have hbl : bs.length = n := by
    have := hkp.1
    rw [bytesV_length] at this; exact this
  have wr1 : ∀ i : Nat, i < 2 ^ 40 → IntKind.i64.wrap ((i : Int) + 1) = ((i + 1 : Nat) : Int) := fun i h => by rw [wrap_i64 (by omega) (by omega)]; omega
  have H := H.rowNil (T := T_uint8) (sz := 1)
  refine ⟨bytesV bs, by rw [Nat.mul_one]; exact hkp.at H, ?_⟩
  refine H.rowAppend (bytesV_oneC bs) (by rw [bytesV_length, hbl, Nat.mul_one]) rfl (by omega) fun a8 c9 w10 H b11 w12 e11 e12 => ?_
  have H := H.newCells (cs := evV ⟨0, 0, 0, 0⟩) e11 e12
  refine ⟨H.wr m0 (by simp [evV]), fun w13 e13 => ?_⟩
  have H : St h0 w0 w13 (cl b11 T_api_Env (evV ev1) :: _) := H.setSpan0 e13
  refine ⟨ev1.now, ev1.seq, ev1.flush, ev1.flushSeq, H.spanAll m0, ?_⟩
  have en : 0 + n = bs.length := by omega
  rw [en] at H ⊢
  have H : St h0 w0 w13 [cl b11 T_api_Env (evV ev1), BRow (a8, bs.length, c9) bs, Shard p 0 none (SM.new 1 100000 3)] := H
  -- [ev, own, Shard]
  let it0 : It := { It.zero with key := key, val := bs }
  have hcls : clsM it0 < 6 := by
    have e5 : bytesZ ((5 : Nat) : Int) = 2048 := by kernel_rfl
    have := (classN_le (i := 5) (by omega) (sizeM it0)).1 (by
      rw [e5]
      have : sizeM it0 = 50 + key.size + bs.length := rfl
      omega)
    unfold clsM; omega
  have hst : (SM.new 1 100000 3).store it0 ev1 = ({ SM.new 1 100000 3 with items := [it0], tk := [key] }, 0) := by
    have hb := bytesN_range (clsM it0)
    have hfit : (SM.new 1 100000 3).fits (sizeM it0) (lessM none) = true := SM.fits_iff.2 ⟨hcls, Int.le_refl _, Int.le_refl _, by
      show (0 : Int) - 0 + bytesZ (clsM it0) ≤ 100000
      omega⟩
    unfold SM.store
    rw [if_neg (by omega)]
    have hf : (SM.new 1 100000 3).find it0.key ev1 = (SM.new 1 100000 3, none) := rfl
    simp only [hf]
    have hr : SM.room ((SM.new 1 100000 3).items.length + 1) (SM.new 1 100000 3) it0 none ev1 = (SM.new 1 100000 3, 0) := by
      unfold SM.room
      rw [if_pos hfit]
    rw [hr]
    rfl
  refine H.pull3.callKV (a := a8) (n := bs.length) (vs := bytesV bs) (kpRow (T := T_uint8) (c := c9) m1) (shard_store p 0 _ it0 (a8, bs.length, c9) ev1 (by omega) rfl (by show key.size < _; omega) (by show bs.length < _; omega)) fun w19 H => ⟨_, rfl, ?_⟩
  rw [hst] at H ⊢
  simp only at H ⊢
  generalize hm : ({ SM.new 1 100000 3 with items := [it0], tk := [key] } : SM) = m at *
  have hget : m.get key = some it0 := by
    rw [← hm]
    show getI [it0] key = _
    unfold getI
    rw [List.find?_cons]
    have : decide (it0.key = key) = true := decide_eq_true rfl
    rw [this]
  have hlive : liveM it0 ev1 = true := rfl
  have hfind : m.find key ev1 = (m, some it0) := by
    unfold SM.find
    rw [hget]
    simp only [hlive, if_true]
  have hitems : m.items = [it0] := by rw [← hm]
  have hall : m.all = [it0] := by
    unfold SM.all
    rw [hitems]
    exact (sortK_eq keyI (List.Perm.refl _) (List.pairwise_singleton ..) (by simp)).symm
  -- [Shard, ev, own]
  refine ⟨fun vs w' => ∃ (i : Nat) (xs : List UInt8), i ≤ bs.length ∧ xs.length = bs.length ∧ vs = [.int .i64 i] ∧ St h0 w0 w' [BRow (a8, bs.length, c9) xs, Shard p 2 none m, cl b11 T_api_Env (evV ev1)], fun vs _ => match vs with | [.int _ i] => bs.length - i.toNat | _ => 0,
    ⟨0, bs, by omega, rfl, rfl, H.pull3⟩, ?_⟩
  rintro vs w24 ⟨i, xs, hi, hxl, rfl, H⟩
  refine ⟨i, rfl, br (fun hc => ?_) fun hc => ?_⟩
  · have hlt : i < bs.length := by simp at hc; omega
    have HR : St h0 w0 w24 (Row T_uint8 1 a8 bs.length c9 (bytesV xs) :: _) := H
    obtain ⟨q, hq⟩ := HR.rowSome (by rw [bytesV_length]; omega)
    refine ⟨q, hq, by omega, by omega, by rw [Int.toNat_natCast, Nat.mul_one]; exact HR.rowOk hq (by rw [bytesV_length]; omega), fun w27 e27 => ?_⟩
    rw [Int.toNat_natCast, Nat.mul_one] at e27
    have H := brow_set H hq (by omega) e27
    rw [wr1 i (by omega)]
    exact ⟨⟨i + 1, _, hlt, by simp [hxl], rfl, H⟩, by simp; omega⟩
  have hib : i = bs.length := by simp at hc; omega
  subst hib
  -- the first look
  refine ⟨ev1.now, ev1.seq, ev1.flush, ev1.flushSeq, H.spanAll m2, ?_⟩
  refine H.swap.callE (shard_look p 2 m key ev1 (by omega) (by omega)) fun s w33 H => ?_
  have H := H.split
  rw [hfind] at H ⊢
  simp only [Option.getD_some, Option.isSome_some] at H ⊢
  have hs1 : s.2.1 = bs.length := brow_len H.swap
  refine ⟨it0.key, s.1, s.2.1, s.2.2, it0.flags, it0.exp, it0.cas, it0.sec, it0.seq, it0.stale, it0.won, it0.seen, true, rfl, fun b45 w46 e45 e46 => ?_⟩
  have H := H.newCells (cs := itV It.zero (none, 0, 0)) e45 e46
  refine ⟨H.wr m0 (by simp [itV]), fun w47 e47 => ?_⟩
  have H : St h0 w0 w47 [cl b45 T_api_Item (itV it0 s), Shard p 2 none m, BRow s bs, BRow (a8, bs.length, c9) xs, cl b11 T_api_Env (evV ev1)] := H.setSpan0 e47
  have hbv : ∀ {w' : World} {As : List HP}, St h0 w0 w' As → BytesAt w' a n bs := fun H => bytesAt (hkp.at H)
  have brw : ∀ {w' : World} {As : List HP} {s : Sl} {xs : List UInt8}, St h0 w0 w' (BRow s xs :: As) → BytesAt w' s.1 s.2.1 xs := fun H => bytesAt (by
    have := (H : St _ _ _ (Row T_uint8 1 _ _ _ (bytesV _) :: _)).rowAt
    rw [Nat.mul_one] at this; exact this)
  refine ⟨s.1, s.2.1, s.2.2, by rw [add_mk, H.cell m0]; rfl, bs, brw H.pull3, bs, hbv H, ?_⟩
  refine ⟨fun vs w' => ∃ (i : Nat) (ys : List UInt8), i ≤ bs.length ∧ ys.length = bs.length ∧ vs = [.int .i64 i] ∧ St h0 w0 w' [BRow s ys, cl b45 T_api_Item (itV it0 s), Shard p 2 none m, cl b11 T_api_Env (evV ev1)], fun vs _ => match vs with | [.int _ i] => bs.length - i.toNat | _ => 0,
    ⟨0, bs, by omega, rfl, rfl, H.pull4.drop.pull3⟩, ?_⟩
  rintro vs w54 ⟨i, ys, hi, hyl, rfl, H⟩
  refine ⟨i, rfl, s.1, s.2.1, s.2.2, by rw [add_mk, H.cell m1]; rfl, br (fun hc => ?_) fun hc => ?_⟩
  · have hlt : i < bs.length := by simp at hc; omega
    have HR : St h0 w0 w54 (Row T_uint8 1 s.1 s.2.1 s.2.2 (bytesV ys) :: _) := H
    obtain ⟨q, hq⟩ := HR.rowSome (by rw [bytesV_length]; omega)
    refine ⟨s.1, s.2.1, s.2.2, by rw [add_mk, H.cell m1]; rfl, q, hq, by omega, by omega, by rw [Int.toNat_natCast, Nat.mul_one]; exact HR.rowOk hq (by rw [bytesV_length]; omega), fun w27 e27 => ?_⟩
    rw [Int.toNat_natCast, Nat.mul_one] at e27
    have H := brow_set H hq (by omega) e27
    rw [wr1 i (by omega)]
    exact ⟨⟨i + 1, _, hlt, by simp [hyl], rfl, H⟩, by simp; omega⟩
  have H := H.drop.drop
  have hm5 : ((m.items.length : Nat) : Int) < 5 := by rw [hitems]; show ((1 : Nat) : Int) < 5; decide
  refine H.callE (law_all p 2 m 5 (by omega) hm5) fun x w61 H => ⟨_, _, _, rfl, fun w63 e63 => ?_⟩
  obtain ⟨sl, its⟩ := x
  obtain ⟨hmap, H⟩ := H.purOpen
  simp only at hmap H ⊢
  have H := H.drew e63
  rw [hall] at hmap
  obtain ⟨y, rfl, hy1⟩ : ∃ y, its = [y] ∧ y.1 = it0 := by
    cases its with
    | nil => simp at hmap
    | cons y t =>
      cases t with
      | nil => exact ⟨y, rfl, by simpa using hmap⟩
      | cons z t => simp at hmap
  obtain ⟨yit, ys1⟩ := y
  simp only at hy1
  subst hy1
  have H := H.split
  have hsn := ItemL_len H
  refine br (fun hc => by simp at hc) fun _ => br (fun hc => by simp at hc) fun _ => ?_
  rw [seq_bytes]
  refine br (fun hc => by simp at hc) fun _ => ?_
  rw [hsn]
  refine br (fun hc => by simp at hc) fun _ => ?_
  -- [its, Shard, ys, b45, ev ..]
  obtain ⟨q, hq, hsp⟩ := ItemL_item H (i := 0) (by simp)
  have hval1 := ItemL_val H (i := 0) (by simp)
  refine ⟨q, hq, by omega, by simp, ys1.1, ys1.2.1, ys1.2.2, hsp 1 _ rfl, bs, bytesAt hval1, bs, hbv H, ?_⟩
  rw [seq_bytes]
  refine br (fun hc => by simp at hc) fun _ => ?_
  -- the item's value is turned
  let R10 : HP := Row T_api_Item 10 sl.1 sl.2.1 sl.2.2 (itsV [(it0, ys1)])
  have H : St h0 w0 w63 (R10 :: SepL ([(it0, ys1)].map fun x => BRow x.2 x.1.val) :: _) := St.split H
  have H : St h0 w0 w63 (BRow ys1 bs :: R10 :: _) := St.split H.swap
  have hys : ys1.2.1 = bs.length := brow_len H
  have rd : ∀ {w' : World} {As : List HP}, St h0 w0 w' (R10 :: As) → SpanAt w' (Addr.add q (Int.toNat ((0 : Nat) : Int) * 10)) (itV it0 ys1) := fun {w' As} H j v hj => by
    have hj10 := (List.getElem?_eq_some_iff.1 hj).1
    have HR : St h0 w0 w' (Row T_api_Item 10 sl.1 sl.2.1 sl.2.2 (itsV [(it0, ys1)]) :: As) := H
    have := HR.rowCell hq (i := 0 * 10 + j) (v := v) (by rw [itsV_get (l := [(it0, ys1)]) (i := 0) (by simp) j hj10]; exact hj)
    rw [Nat.zero_mul, Nat.zero_add] at this
    exact this
  have H : St h0 w0 w63 [BRow ys1 bs, R10, Shard p 2 none m, cl b11 T_api_Env (evV ev1)] := H
  refine ⟨fun vs w' => ∃ (i : Nat) (zs : List UInt8), i ≤ bs.length ∧ zs.length = bs.length ∧ vs = [.int .i64 i] ∧ St h0 w0 w' [BRow ys1 zs, R10, Shard p 2 none m, cl b11 T_api_Env (evV ev1)], fun vs _ => match vs with | [.int _ i] => bs.length - i.toNat | _ => 0,
    ⟨0, bs, by omega, rfl, rfl, H⟩, ?_⟩
  rintro vs w71 ⟨i, zs, hi, hzl, rfl, H⟩
  refine ⟨i, rfl, q, hq, by omega, by simp, ys1.1, ys1.2.1, ys1.2.2, rd H.swap 1 _ rfl, br (fun hc => ?_) fun hc => ?_⟩
  · have hlt : i < bs.length := by simp at hc; omega
    have HR : St h0 w0 w71 (Row T_uint8 1 ys1.1 ys1.2.1 ys1.2.2 (bytesV zs) :: _) := H
    obtain ⟨q2, hq2⟩ := HR.rowSome (by rw [bytesV_length]; omega)
    refine ⟨q, hq, by omega, by simp, ys1.1, ys1.2.1, ys1.2.2, rd H.swap 1 _ rfl, q2, hq2, by omega, by omega, by rw [Int.toNat_natCast, Nat.mul_one]; exact HR.rowOk hq2 (by rw [bytesV_length]; omega), fun w27 e27 => ?_⟩
    rw [Int.toNat_natCast, Nat.mul_one] at e27
    have H := brow_set H hq2 (by omega) e27
    rw [wr1 i (by omega)]
    exact ⟨⟨i + 1, _, hlt, by simp [hzl], rfl, H⟩, by simp; omega⟩
  refine ⟨ev1.now, ev1.seq, ev1.flush, ev1.flushSeq, H.spanAll m3, ?_⟩
  refine H.pull3.callE (shard_look p 2 m key ev1 (by omega) (by omega)) fun s2 w84 H => ?_
  have H := H.split
  rw [hfind] at H ⊢
  simp only [Option.getD_some, Option.isSome_some] at H ⊢
  refine ⟨it0.key, s2.1, s2.2.1, s2.2.2, it0.flags, it0.exp, it0.cas, it0.sec, it0.seq, it0.stale, it0.won, it0.seen, true, rfl, fun b96 w97 e96 e97 => ?_⟩
  have H := H.newCells (cs := itV It.zero (none, 0, 0)) e96 e97
  refine ⟨H.wr m0 (by simp [itV]), fun w98 e98 => ?_⟩
  have H : St h0 w0 w98 (cl b96 T_api_Item (itV it0 s2) :: Shard p 2 none m :: BRow s2 bs :: _) := H.setSpan0 e98
  refine br (fun _ => ?_) fun hc => by simp at hc
  refine ⟨s2.1, s2.2.1, s2.2.2, by rw [add_mk, H.cell m0]; rfl, bs, brw H.pull3, bs, hbv H, ?_⟩
  rw [seq_bytes]
  exact ⟨by simp, out H⟩
theorem own_walk2 {key : ByteArray} {a : Option Addr} {n c : Nat} {bs : List UInt8} {x : Int} (hx : ∃ b : UInt8, x = (b.toNat : Int)) (hkp : Kept h0 w0 a n (bytesV bs)) (H : St h0 w0 w []) :
    Cl P f_butterylaw11_ShardOwn #[.string key, .slice a n c, .int .u8 x] w fun v w' => v = .bool true ∧ St h0 w0 w' [] := by
  obtain ⟨b, rfl⟩ := hx
  exact own_walk hkp H
end
end Go.Bty
