/- ShardBudget, walked. -/
import Derived.Test.YtbjkbonnmeppoaaBtyLg
namespace Go.Bty
open Go
open Go.Proofs.Try renaming prog → P

theorem strs_get {l : List ByteArray} {i : Nat} (h : i < l.length) : (strs l)[i]? = some (.string l[i]) := by simp [strs, h]
section
variable {h0 : Frag} {w0 w w' : World} {As : List HP} {a : Option Addr} {l : List Opd}
theorem budget_walk {c : Nat} {seed budget most : Int} (ho : Ops h0 w0 a l) (H : St h0 w0 w []) :
    Cl P f_butterylaw11_ShardBudget #[.int .u64 seed, .int .i64 budget, .int .i64 most, .slice a l.length c] w fun v w' => v = .bool true ∧ St h0 w0 w' [] := by
  apply cl_butterylaw11_ShardBudget
  unfold c_butterylaw11_ShardBudget
  refine H.pure awake_sp fun w4 H => ⟨true, rfl, ?_⟩
  refine few_sp ho H fun w7 H => ⟨_, rfl, ?_⟩
  refine H.emp.callE (shard_new _ _ _) fun p w10 H => ⟨_, rfl, ?_⟩
  have out : ∀ {w' : World} {As : List HP}, St h0 w0 w' As → St h0 w0 w' [] := fun H => let ⟨h, _, ho, hf⟩ := H; ⟨h, trivial, ho, hf⟩
  refine br (fun hc => by simp at hc) fun _ => br (fun _ => br (fun _ => ⟨rfl, out H⟩) fun hc => by simp at hc) fun hfew => br (fun hc => by simp [ad] at hc) fun _ => br (fun _ => br (fun _ => ⟨rfl, out H⟩) fun hc => by simp at hc) fun hbu => ?_
  have hfew' : fewM l = true := by simpa using hfew
  obtain ⟨hlen, hall⟩ := few_spec hfew'
  have hb0 : 0 ≤ budget := by simp at hbu; omega
  have wr1 : ∀ i : Nat, i < 2 ^ 40 → IntKind.i64.wrap ((i : Int) + 1) = ((i + 1 : Nat) : Int) := fun i h => by rw [wrap_i64 (by omega) (by omega)]; omega
  refine ⟨fun vs w' => ∃ (i : Nat) (m : SM), i ≤ l.length ∧ vs = [.int .i64 i] ∧ m.budget = budget ∧ m.used ≤ budget ∧ St h0 w0 w' [Shard p (2 * i) none m], fun vs _ => match vs with | [.int _ i] => l.length - i.toNat | _ => 0,
    ⟨0, SM.new seed budget most, by omega, rfl, rfl, hb0, H⟩, ?_⟩
  rintro vs w13 ⟨i, m, hi, rfl, hmb, hmu, H⟩
  refine ⟨i, rfl, br (fun hc => ?_) fun hc => ⟨rfl, out H⟩⟩
  have hlt : i < l.length := by simp at hc; omega
  have hbig := hall l[i] (List.getElem_mem hlt)
  obtain ⟨b, o, ha, hs⟩ := ho.read H hlt
  have hval := ho.val hlt
  have hl := ho.len hlt
  generalize l[i] = x at *
  -- every way out of the round
  have next : ∀ {w' : World} {As : List HP} (m' : SM), m'.budget = budget → m'.used ≤ budget → St h0 w0 w' (Shard p (2 * (i + 1)) none m' :: As) →
      (∃ (i' : Nat) (m : SM), i' ≤ l.length ∧ [Value.int .i64 (IntKind.i64.wrap ((i : Int) + 1))] = [.int .i64 i'] ∧ m.budget = budget ∧ m.used ≤ budget ∧ St h0 w0 w' [Shard p (2 * i') none m]) ∧
        (match [Value.int .i64 (IntKind.i64.wrap ((i : Int) + 1))] with | [.int _ i] => l.length - i.toNat | _ => 0) < l.length - Int.toNat (i : Int) := fun m' h1 h2 H => by
    rw [wr1 i (by omega)]
    exact ⟨⟨i + 1, m', hlt, rfl, h1, h2, H.only m0⟩, by simp; omega⟩
  refine ⟨_, ha, by omega, by omega, x.kind, x.it.key, x.s.1, x.s.2.1, x.s.2.2, x.it.flags, x.it.exp, x.it.cas, x.it.sec, x.it.seq, x.it.stale, x.it.won, x.it.seen, x.e.now, x.e.seq, x.e.flush, x.e.flushSeq, by rw [add_mk, Int.toNat_natCast]; exact hs, fun b31 w32 e31 e32 => ?_⟩
  have H := H.newCells (cs := opV ⟨0, It.zero, (none, 0, 0), ⟨0, 0, 0, 0⟩⟩) e31 e32
  refine ⟨H.wr m0 (by simp [opV, itV, evV]), fun w33 e33 => ?_⟩
  have H : St h0 w0 w33 (cl b31 T_butterylaw11_Op (opV x) :: _) := H.setSpan0 e33
  refine H.swap.callE (shard_drops p _ m) fun d w35 H => ⟨_, _, _, rfl, ?_⟩
  have H := H.split.swap.drop
  have hm1u : ({ m with drops := [] } : SM).used ≤ budget := hmu
  have hm1b : ({ m with drops := [] } : SM).budget = budget := hmb
  have hm1d : ({ m with drops := [] } : SM).drops = [] := rfl
  generalize ({ m with drops := [] } : SM) = m1' at *
  -- [Shard, op]
  refine ⟨fun vs w' => vs = [] ∧ ∃ mq : SM, mq.budget = budget ∧ mq.used ≤ budget ∧ mq.drops = [] ∧ St h0 w0 w' [Shard p (2 * i) none mq, cl b31 T_butterylaw11_Op (opV x)], ?_, ?_⟩
  · refine ⟨_, by rw [add_mk, H.cell m1]; rfl, br (fun hc => ?_) fun hc => ⟨rfl, m1', hm1b, hm1u, hm1d, H⟩⟩
    refine ⟨_, by rw [add_mk, add_mk, H.cell m1]; rfl, ?_⟩
    refine H.callV (shard_use p _ m1' x.it.key (by omega) (by omega)) fun w43 H => ⟨rfl, rfl, _, ?_, ?_, ?_, H⟩
    · rw [← hm1b]; unfold SM.use; simp only; split <;> rfl
    · have e : (m1'.use x.it.key).used = m1'.used := by unfold SM.use; simp only; split <;> rfl
      rw [e]; exact hm1u
    · have e : (m1'.use x.it.key).drops = m1'.drops := by unfold SM.use; simp only; split <;> rfl
      rw [e]; exact hm1d
  rintro vs w39 ⟨rfl, mq, hm2b, hm2u, hm2d, H⟩
  intro _
  refine ⟨_, by rw [add_mk, H.cell m1]; rfl, br (fun hc => next mq hm2b hm2u (H.shUp (by omega))) fun hkind => ?_⟩
  have spanIt : ∀ {w' : World} {As : List HP}, St h0 w0 w' As → cl b31 T_butterylaw11_Op (opV x) ∈ As → SpanAt w' (Addr.add (Addr.mk b31 0 none) 1) (itV x.it x.s) := fun H hm => by
    rw [add_mk]
    refine H.span hm fun j v hj => ?_
    rw [show 0 + 1 + j = j + 1 by omega]
    show ((itV x.it x.s) ++ evV x.e)[j]? = some v
    rw [List.getElem?_append_left (List.getElem?_eq_some_iff.1 hj).1]; exact hj
  have spanEv : ∀ {w' : World} {As : List HP}, St h0 w0 w' As → cl b31 T_butterylaw11_Op (opV x) ∈ As → SpanAt w' (Addr.add (Addr.mk b31 0 none) 11) (evV x.e) := fun H hm => by
    rw [add_mk]
    refine H.span hm fun j v hj => ?_
    rw [show 0 + 11 + j = (10 + j) + 1 by omega]
    show ((itV x.it x.s) ++ evV x.e)[10 + j]? = some v
    rw [List.getElem?_append_right (by show 10 ≤ 10 + j; omega)]
    show (evV x.e)[10 + j - 10]? = some v
    rw [Nat.add_sub_cancel_left]; exact hj
  have keyAt : ∀ {w' : World} {As : List HP}, St h0 w0 w' As → cl b31 T_butterylaw11_Op (opV x) ∈ As → World.cell? w' (Addr.add (Addr.add (Addr.mk b31 0 none) 1) 0) = some (.string x.it.key) := fun H hm => by
    rw [add_mk, add_mk, H.cell hm]; rfl
  refine ⟨x.it.key, x.s.1, x.s.2.1, x.s.2.2, x.it.flags, x.it.exp, x.it.cas, x.it.sec, x.it.seq, x.it.stale, x.it.won, x.it.seen, spanIt H m1, x.e.now, x.e.seq, x.e.flush, x.e.flushSeq, spanEv H m1, ?_⟩
  have hok2 := H.shOk
  obtain ⟨su, sb, sc, sin⟩ := store_pure (it := x.it) (e := x.e) hok2 (by rw [hm2b]; exact hm2u) hm2d
  rw [hm2b] at su sb
  refine H.callKV hval.pass (shard_store p (2 * i) mq x.it x.s x.e (by omega) hl (by omega) (by omega)) fun w60 H => ⟨_, rfl, ?_⟩
  generalize hr : mq.store x.it x.e = r at *
  obtain ⟨mr, z⟩ := r
  simp only at su sb sc sin H ⊢
  have nd3 := H.shDrops
  refine H.callE (shard_drops p _ mr) fun d3 w63 H => ⟨_, _, _, rfl, ?_⟩
  have H := H.split
  have hdl := H.swap.rowLen
  rw [strs_length] at hdl
  have hdn : d3.2.1 = mr.drops.length := by omega
  have hm4u : ({ mr with drops := [] } : SM).used ≤ budget := su
  have hm4b : ({ mr with drops := [] } : SM).budget = budget := sb
  have hm4i : z = 0 → x.it ∈ ({ mr with drops := [] } : SM).items := sin
  generalize hm4 : ({ mr with drops := [] } : SM) = m4' at *
  have nd4 := H.shDrops
  generalize hD : mr.drops = D at *
  have hDl : D.length < 2 ^ 40 := by omega
  -- [Shard, drops, op]
  refine ⟨fun vs w' => ∃ k : Nat, k ≤ D.length ∧ vs = [.bool ((D.take k).any fun q => decide (q = x.it.key)), .int .i64 k] ∧ St h0 w0 w' [Shard p (2 * i + 2) none m4', Row T_string 1 d3.1 d3.2.1 d3.2.2 (strs D), cl b31 T_butterylaw11_Op (opV x)], fun vs _ => match vs with | [_, .int _ k] => D.length - k.toNat | _ => 0,
    ⟨0, by omega, rfl, H⟩, ?_⟩
  rintro vs w68 ⟨k, hk, rfl, H⟩
  refine ⟨_, k, rfl, br (fun hc => ?_) fun hc => ?_⟩
  · have hkl : k < D.length := by simp at hc; omega
    intro w71 e71
    have H := H.drew e71
    rw [wr1 k (by omega)]
    have hany : ((D.take (k + 1)).any fun q => decide (q = x.it.key)) = (((D.take k).any fun q => decide (q = x.it.key)) || decide (D[k] = x.it.key)) := by
      rw [List.take_succ_eq_append_getElem hkl, List.any_append]; simp
    refine br (fun hb => ?_) fun hb => ?_
    · rw [hb] at hany
      exact ⟨⟨k + 1, hkl, by rw [hany]; rfl, H⟩, by simp; omega⟩
    · rw [hb, Bool.false_or] at hany
      obtain ⟨q, hq⟩ := H.swap.rowSome (by rw [strs_length]; omega)
      have hcell := H.swap.rowCell hq (strs_get hkl)
      refine ⟨q, hq, by omega, by omega, D[k], by rw [Int.toNat_natCast, Nat.mul_one]; exact hcell, _, keyAt H m2, ?_⟩
      rw [seq_eq]
      exact ⟨⟨k + 1, hkl, by rw [hany], H⟩, by simp; omega⟩
  have hkD : k = D.length := by simp at hc; omega
  subst hkD
  rw [List.take_length]
  generalize hF : (D.any fun q => decide (q = x.it.key)) = found
  refine H.callE (law_all p _ m4' 1000 (by omega) (by omega)) fun y w76 H => ⟨_, _, _, rfl, ?_⟩
  obtain ⟨sl, its⟩ := y
  obtain ⟨hmap, H⟩ := H.purOpen
  simp only at hmap H ⊢
  have H := H.split
  have hsn := ItemL_len H
  have hil : its.length = m4'.items.length := by
    have := congrArg List.length hmap
    rw [List.length_map] at this
    rw [this]; exact sortK_length keyI m4'.items
  -- [its, Shard, drops, op]
  refine ⟨fun vs w' => ∃ k : Nat, k ≤ its.length ∧ vs = [.bool ((its.take k).any fun q => decide (q.1 = x.it)), .int .i64 k] ∧ St h0 w0 w' [ItemL sl its, Shard p (2 * i + 2) none m4', Row T_string 1 d3.1 d3.2.1 d3.2.2 (strs D), cl b31 T_butterylaw11_Op (opV x)], fun vs _ => match vs with | [_, .int _ k] => its.length - k.toNat | _ => 0,
    ⟨0, by omega, rfl, H⟩, ?_⟩
  rintro vs w81 ⟨k, hk, rfl, H⟩
  refine ⟨_, k, rfl, br (fun hc => ?_) fun hc => ?_⟩
  · have hkl : k < its.length := by simp at hc; omega
    intro w84 e84
    have H := H.drew e84
    obtain ⟨q, hq, hsp⟩ := ItemL_item H hkl
    refine ⟨q, hq, by omega, by omega, its[k].1.key, its[k].2.1, its[k].2.2.1, its[k].2.2.2, its[k].1.flags, its[k].1.exp, its[k].1.cas, its[k].1.sec, its[k].1.seq, its[k].1.stale, its[k].1.won, its[k].1.seen, hsp, x.it.key, x.s.1, x.s.2.1, x.s.2.2, x.it.flags, x.it.exp, x.it.cas, x.it.sec, x.it.seq, x.it.stale, x.it.won, x.it.seen, spanIt H m3, ?_⟩
    refine same_sp (fun w' H => ItemL_val H hkl) (fun w' H => hval.at H) H fun w107 H => ⟨_, rfl, ?_⟩
    rw [wr1 k (by omega)]
    have hany : ((its.take (k + 1)).any fun q => decide (q.1 = x.it)) = (((its.take k).any fun q => decide (q.1 = x.it)) || decide (its[k].1 = x.it)) := by
      rw [List.take_succ_eq_append_getElem hkl, List.any_append]; simp
    refine br (fun hb => ?_) fun hb => ?_
    · rw [hb] at hany
      exact ⟨⟨k + 1, hkl, by rw [hany]; rfl, H⟩, by simp; omega⟩
    · rw [hb, Bool.false_or] at hany
      exact ⟨⟨k + 1, hkl, by rw [hany], H⟩, by simp; omega⟩
  have hki : k = its.length := by simp at hc; omega
  subst hki
  rw [List.take_length]
  have hhas : z = 0 → (its.any fun q => decide (q.1 = x.it)) = true := fun hz => by
    have hm := hm4i hz
    have hm2 : x.it ∈ m4'.all := (sortK_mem keyI).2 hm
    rw [← hmap] at hm2
    obtain ⟨y, hy, e⟩ := List.mem_map.1 hm2
    rw [List.any_eq_true]
    exact ⟨y, hy, by simpa using e⟩
  generalize (its.any fun q => decide (q.1 = x.it)) = has at *
  have hu4 := (usedL_le m4'.items).1
  have hu4' : m4'.used = usedL m4'.items := rfl
  have H := H.pull4.pull4.pull4
  refine ⟨fun vs w' => vs = [] ∧ St h0 w0 w' [Shard p (2 * i + 2) none m4', Row T_string 1 d3.1 d3.2.1 d3.2.2 (strs D), cl b31 T_butterylaw11_Op (opV x), ItemL sl its], ?_, ?_⟩
  · refine H.callV (shard_used p _ m4') fun w113 H => ⟨_, rfl, br (fun hc => by simp at hc; omega) fun _ => ?_⟩
    refine H.callV (shard_used p _ m4') fun w116 H => ⟨_, rfl, br (fun hc => by simp at hc; omega) fun _ => ?_⟩
    refine br (fun hz => br (fun hh => ?_) fun _ => ⟨rfl, H⟩) fun _ => ⟨rfl, H⟩
    rw [hhas (by simpa using hz)] at hh
    simp at hh
  rintro vs w111 ⟨rfl, H⟩
  intro _
  have fin := fun {w' : World} (H : St h0 w0 w' [Shard p (2 * i + 2) none m4', Row T_string 1 d3.1 d3.2.1 d3.2.2 (strs D), cl b31 T_butterylaw11_Op (opV x), ItemL sl its]) => next m4' hm4b hm4u (H.shUp (M := 2 * (i + 1)) (by omega))
  refine br (fun hz => br (fun hf => ?_) fun _ => fin H) fun _ => fin H
  refine ⟨x.it.key, x.s.1, x.s.2.1, x.s.2.2, x.it.flags, x.it.exp, x.it.cas, x.it.sec, x.it.seq, x.it.stale, x.it.won, x.it.seen, spanIt H m2, x.e.now, x.e.seq, x.e.flush, x.e.flushSeq, spanEv H m2, ?_⟩
  refine H.pure (live_sp x.it x.s x.e) fun w133 H => ⟨_, rfl, br (fun _ => ?_) fun _ => fin H⟩
  refine ⟨fun vs w' => ∃ k : Nat, k ≤ D.length ∧ vs = [.int .i64 ((D.take k).count x.it.key), .int .i64 k] ∧ St h0 w0 w' [Shard p (2 * i + 2) none m4', Row T_string 1 d3.1 d3.2.1 d3.2.2 (strs D), cl b31 T_butterylaw11_Op (opV x), ItemL sl its], fun vs _ => match vs with | [_, .int _ k] => D.length - k.toNat | _ => 0,
    ⟨0, by omega, rfl, H⟩, ?_⟩
  rintro vs w138 ⟨k, hk, rfl, H⟩
  refine ⟨_, k, rfl, br (fun hc => ?_) fun hc => ?_⟩
  · have hkl : k < D.length := by simp at hc; omega
    intro w141 e141
    have H := H.drew e141
    obtain ⟨q, hq⟩ := H.swap.rowSome (by rw [strs_length]; omega)
    have hcell := H.swap.rowCell hq (strs_get hkl)
    have hcl := List.count_le_length (a := x.it.key) (l := D.take k)
    rw [List.length_take] at hcl
    refine ⟨q, hq, by omega, by omega, D[k], by rw [Int.toNat_natCast, Nat.mul_one]; exact hcell, _, keyAt H m2, ?_⟩
    have hcount : (D.take (k + 1)).count x.it.key = (D.take k).count x.it.key + (if D[k] = x.it.key then 1 else 0) := by
      rw [List.take_succ_eq_append_getElem hkl, List.count_append, List.count_singleton]
      simp
    rw [seq_eq, wr1 k (by omega), wr1 ((D.take k).count x.it.key) (by omega)]
    refine br (fun he => ?_) fun he => ?_
    · rw [if_pos (by simpa using he)] at hcount
      exact ⟨⟨k + 1, hkl, by rw [hcount], H⟩, by simp; omega⟩
    · rw [if_neg (by simpa using he)] at hcount
      exact ⟨⟨k + 1, hkl, by rw [hcount]; rfl, H⟩, by simp; omega⟩
  have hkD : k = D.length := by simp at hc; omega
  subst hkD
  rw [List.take_length]
  refine br (fun hc => by simp at hc; omega) fun _ => fin H
end
end Go.Bty
