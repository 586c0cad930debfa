/- ShardLooks: a look at what lives changes nothing; what does not live is dropped, once. -/
/- ShardRemoves: what is taken out is gone, and nothing else is. -/
import Derived.Test.YtbjkbonnmeppoaaPkK
namespace Go.Bty
open Go
open Go.Proofs.Try renaming prog → P

theorem delI_len_eq {l : List It} {k : ByteArray} (hd : (l.map (·.key)).Nodup) (h : (getI l k).isSome = true) : (delI l k).length + 1 = l.length := by
  obtain ⟨it, hi⟩ := Option.isSome_iff_exists.1 h
  obtain ⟨hm, hk⟩ := getI_mem hi
  obtain ⟨a, b, rfl⟩ := List.append_of_mem hm
  rw [List.map_append, List.map_cons, List.nodup_append] at hd
  obtain ⟨_, h2, h3⟩ := hd
  rw [List.nodup_cons] at h2
  unfold delI
  rw [List.filter_append, List.filter_cons_of_neg (by simp [hk])]
  have e1 : a.filter (fun it => decide (it.key ≠ k)) = a := List.filter_eq_self.2 fun y hy => by
    simp only [decide_eq_true_eq]
    intro e
    exact h3 _ (List.mem_map.2 ⟨y, hy, rfl⟩) _ (List.mem_cons_self ..) (e.trans hk.symm)
  have e2 : b.filter (fun it => decide (it.key ≠ k)) = b := List.filter_eq_self.2 fun y hy => by
    simp only [decide_eq_true_eq]
    intro e
    exact h2.1 (List.mem_map.2 ⟨y, hy, e.trans hk.symm⟩)
  rw [e1, e2]
  simp; omega
theorem any_key {m : SM} {k : ByteArray} : (m.all.any fun it => decide (it.key = k)) = (m.get k).isSome := by
  rw [Bool.eq_iff_iff]
  unfold SM.get
  rw [getI_isSome, List.any_eq_true]
  constructor
  · rintro ⟨x, hx, he⟩
    exact List.mem_map.2 ⟨x, (sortK_mem keyI).1 hx, by simpa using he⟩
  · intro h
    obtain ⟨x, hx, he⟩ := List.mem_map.1 h
    exact ⟨x, (sortK_mem keyI).2 hx, by simpa using he⟩

/-- What two looks at a key come to. -/
theorem looks_pure {m : SM} {k : ByteArray} {e : Ev} (hok : SOk m) (hdr : m.drops = []) :
    let f := m.find k e
    let m3 : SM := { f.1 with drops := [] }
    let g := m3.find k e
    (f.2.isSome = true → (m.get k).isSome = true ∧ g.2.isSome = true ∧ f.1.drops = [] ∧ g.1.items.length = m.items.length) ∧
    (f.2.isSome = false → (m.get k).isSome = true → g.2.isSome = false ∧ f.1.drops = [k] ∧ g.1.items.length + 1 = m.items.length ∧ g.1.drops = []) ∧
    (f.2.isSome = false → (m.get k).isSome = false → g.2.isSome = false ∧ f.1.drops = [] ∧ g.1.items.length = m.items.length) := by
  intro f m3 g
  cases hg : m.get k with
  | none =>
    have hf : f = (m, none) := by
      show m.find k e = _
      unfold SM.find; rw [hg]
    have hm3 : m3 = m := by
      show ({ f.1 with drops := [] } : SM) = m
      rw [hf]
      obtain ⟨_, _, _, _, _, _, _⟩ := m
      simp only at hdr
      subst hdr; rfl
    have hgg : g = (m, none) := by
      show m3.find k e = _
      rw [hm3]; exact hf
    rw [hf, hgg]
    exact ⟨(fun h => by cases h), (fun _ h => by cases h), fun _ _ => ⟨rfl, hdr, rfl⟩⟩
  | some x =>
    obtain ⟨hxm, hxk⟩ := getI_mem hg
    by_cases hl : liveM x e = true
    · have hf : f = (m, some x) := by
        show m.find k e = _
        unfold SM.find; rw [hg]; simp [hl]
      have hm3 : m3 = m := by
        show ({ f.1 with drops := [] } : SM) = m
        rw [hf]
        obtain ⟨_, _, _, _, _, _, _⟩ := m
        simp only at hdr
        subst hdr; rfl
      have hgg : g = (m, some x) := by
        show m3.find k e = _
        rw [hm3]; exact hf
      rw [hf, hgg]
      exact ⟨fun _ => ⟨rfl, rfl, hdr, rfl⟩, (fun h => by cases h), (fun h => by cases h)⟩
    · have hf : f = (m.drop k, none) := by
        show m.find k e = _
        unfold SM.find; rw [hg]; simp [hl]
      have hgn : m3.get k = none := by
        show ({ f.1 with drops := [] } : SM).get k = none
        rw [hf]
        exact drop_get_self
      have hgg : g = (m3, none) := by
        show m3.find k e = _
        unfold SM.find; rw [hgn]
      have hlen : (m.drop k).items.length + 1 = m.items.length := by
        have e1 : (m.drop k).items = delI m.items k := m.rem_items k
        rw [e1]
        exact delI_len_eq hok.dist (by show (m.get k).isSome = true; rw [hg]; rfl)
      rw [hgg]
      have hm3i : m3.items = (m.drop k).items := by
        show ({ f.1 with drops := [] } : SM).items = _
        rw [hf]
      rw [hf]
      refine ⟨(fun h => by cases h), fun _ _ => ⟨rfl, ?_, by rw [hm3i]; exact hlen, rfl⟩, (fun _ h => by cases h)⟩
      show m.drops ++ [k] = [k]
      rw [hdr]; rfl

section
variable {h0 : Frag} {w0 w w' : World} {As : List HP} {a : Option Addr} {l : List Opd}
theorem looks_walk {c : Nat} {seed : Int} {k : ByteArray} {e : Ev} (ho : Ops h0 w0 a l) (hks : k.size < 2 ^ 60) (H : St h0 w0 w []) :
    Cl P f_butterylaw11_ShardLooks #[.int .u64 seed, .slice a l.length c, .string k, .agg (evV e).toArray] w fun v w' => v = .bool true ∧ St h0 w0 w' [] := by
  apply cl_butterylaw11_ShardLooks
  unfold c_butterylaw11_ShardLooks
  intro b1 w2 e1 e2
  have H := H.newCells (cs := evV e) e1 e2
  refine H.pure awake_sp fun w4 H => ⟨true, rfl, ?_⟩
  refine few_sp ho H fun w7 H => ⟨_, rfl, ?_⟩
  refine H.emp.callE (shard_new _ _ _) fun p w10 H => ⟨_, rfl, ?_⟩
  have out : ∀ {w' : World} {As : List HP}, St h0 w0 w' As → St h0 w0 w' [] := fun H => let ⟨h, _, ho, hf⟩ := H; ⟨h, trivial, ho, hf⟩
  refine br (fun hc => by simp at hc) fun _ => br (fun _ => br (fun _ => ⟨rfl, out H⟩) fun hc => by simp at hc) fun hfew => br (fun hc => by simp [ad] at hc) fun _ => br (fun _ => br (fun _ => ⟨rfl, out H⟩) fun hc => by simp at hc) fun h300 => ?_
  have hfew' : fewM l = true := by simpa using hfew
  obtain ⟨hlen, hall⟩ := few_spec hfew'
  refine ⟨fun vs w' => ∃ i : Nat, i ≤ l.length ∧ vs = [.int .i64 i] ∧ St h0 w0 w' [Shard p (2 * i) none (storesM (SM.new seed 3000 3) (l.take i)), cl b1 T_api_Env (evV e)], fun vs _ => match vs with | [.int _ i] => l.length - i.toNat | _ => 0,
    ⟨0, by omega, rfl, H⟩, ?_⟩
  rintro vs w15 ⟨i, hi, rfl, H⟩
  refine ⟨i, rfl, br (fun hc => ?_) fun hc => ?_⟩
  · have hlt : i < l.length := by simp at hc; omega
    have hbig := hall l[i] (List.getElem_mem hlt)
    intro w17 e17
    have H := H.drew e17
    obtain ⟨q, hq, _, h2, h3, _⟩ := ho.item H hlt
    refine ⟨q, hq, by omega, by omega, l[i].it.key, l[i].s.1, l[i].s.2.1, l[i].s.2.2, l[i].it.flags, l[i].it.exp, l[i].it.cas, l[i].it.sec, l[i].it.seq, l[i].it.stale, l[i].it.won, l[i].it.seen, h2, q, hq, by omega, by omega, l[i].e.now, l[i].e.seq, l[i].e.flush, l[i].e.flushSeq, h3, ?_⟩
    refine H.callKV (ho.val hlt).pass (shard_store p (2 * i) _ l[i].it l[i].s l[i].e (by omega) (ho.len hlt) (by omega) (by omega)) fun w35 H => ⟨_, rfl, ?_⟩
    have ew : IntKind.i64.wrap ((i : Int) + 1) = ((i + 1 : Nat) : Int) := by rw [wrap_i64 (by omega) (by omega)]; omega
    rw [ew]
    refine ⟨⟨i + 1, hlt, rfl, ?_⟩, by simp; omega⟩
    rw [stores_succ hlt]
    exact H
  have hil : i = l.length := by simp at hc; omega
  subst hil
  generalize storesM (SM.new seed 3000 3) (l.take l.length) = ms at H
  refine H.callE (shard_drops p _ ms) fun d w38 H => ⟨_, _, _, rfl, ?_⟩
  have H := H.split.swap.drop
  have hdr : ({ ms with drops := [] } : SM).drops = [] := rfl
  generalize ({ ms with drops := [] } : SM) = m at H hdr
  have hok := H.shOk
  have nd := H.shDrops
  refine H.callV (shard_len p _ m) fun w41 H => ⟨_, rfl, ?_⟩
  refine H.callE (law_all p _ m 1000 (by omega) (by omega)) fun x w44 H => ⟨_, _, _, rfl, ?_⟩
  obtain ⟨sl, its⟩ := x
  obtain ⟨hmap, H⟩ := H.purOpen
  simp only at hmap H ⊢
  have H := H.split
  have hrl := (St.split H).rowLen
  rw [itsV_length] at hrl
  have hsn : sl.2.1 = its.length := by omega
  have hil : its.length = m.items.length := by
    have := congrArg List.length hmap
    rw [List.length_map] at this
    rw [this]; exact sortK_length keyI m.items
  -- the loop over the items
  refine ⟨fun vs w' => ∃ i : Nat, i ≤ its.length ∧ vs = [.bool ((its.take i).any fun x => decide (x.1.key = k)), .int .i64 i] ∧ St h0 w0 w' [ItemL sl its, Shard p (2 * l.length) none m, cl b1 T_api_Env (evV e)], fun vs _ => match vs with | [_, .int _ i] => its.length - i.toNat | _ => 0,
    ⟨0, by omega, rfl, H⟩, ?_⟩
  rintro vs w49 ⟨i, hi, rfl, H⟩
  refine ⟨_, i, rfl, br (fun hc => ?_) fun hc => ?_⟩
  · have hlt : i < its.length := by simp at hc; omega
    have HR := St.split H
    obtain ⟨q, hq⟩ := HR.rowSome (by rw [itsV_length]; omega)
    have hrow := HR.rowAt
    rw [hq] at hrow
    have hspan : SpanAt w49 (Addr.add q (Int.toNat (i : Int) * 10)) (itV its[i].1 its[i].2) := fun j v hj => by
      have hj10 := (List.getElem?_eq_some_iff.1 hj).1
      have := hrow.2 (i * 10 + j) v (by rw [itsV_get hlt j hj10]; exact hj)
      rcases HR.rowOpen with ⟨h1, _⟩ | ⟨b, L, h1, _⟩
      · rw [hq] at h1; cases h1
      · rw [hq] at h1; cases h1
        rw [add_mk] at this
        rw [add_mk, add_mk, Int.toNat_natCast, Nat.add_assoc]
        exact this
    refine ⟨q, hq, by omega, by omega, its[i].1.key, its[i].2.1, its[i].2.2.1, its[i].2.2.2, its[i].1.flags, its[i].1.exp, its[i].1.cas, its[i].1.sec, its[i].1.seq, its[i].1.stale, its[i].1.won, its[i].1.seen, hspan, fun b63 w64 e63 e64 => ?_⟩
    have H := H.newCells (cs := itV It.zero (none, 0, 0)) e63 e64
    refine ⟨H.wr m0 (by simp [itV]), fun w65 e65 => ?_⟩
    have H : St h0 w0 w65 (cl b63 T_api_Item (itV its[i].1 its[i].2) :: _) := H.setSpan0 e65
    have ew : IntKind.i64.wrap ((i : Int) + 1) = ((i + 1 : Nat) : Int) := by rw [wrap_i64 (by omega) (by omega)]; omega
    rw [ew]
    have hany : ((its.take (i + 1)).any fun x => decide (x.1.key = k)) = (((its.take i).any fun x => decide (x.1.key = k)) || decide (its[i].1.key = k)) := by
      rw [List.take_succ_eq_append_getElem hlt, List.any_append]; simp
    refine br (fun hb => ?_) fun hb => ?_
    · rw [hb] at hany
      exact ⟨⟨i + 1, hlt, by rw [hany]; rfl, H.drop⟩, by simp; omega⟩
    · rw [hb, Bool.false_or] at hany
      refine ⟨_, by rw [add_mk, H.cell m0]; rfl, ?_⟩
      rw [seq_eq]
      exact ⟨⟨i + 1, hlt, by rw [hany], H.drop⟩, by simp; omega⟩
  have hil2 : i = its.length := by simp at hc; omega
  subst hil2
  have hthere : ((its.take its.length).any fun x => decide (x.1.key = k)) = (m.get k).isSome := by
    rw [List.take_length, ← any_key, ← hmap, List.any_map]
    rfl
  rw [hthere]
  obtain ⟨L1, L2, L3⟩ := looks_pure (k := k) (e := e) hok hdr
  have H := H.pull3.pull3
  refine ⟨e.now, e.seq, e.flush, e.flushSeq, H.spanAll m1, ?_⟩
  refine H.callE (shard_look p _ m k e (by omega) (by omega)) fun s w72 H => ?_
  have H := H.split
  simp only at L1 L2 L3
  generalize hF : m.find k e = F at *
  obtain ⟨m2, r⟩ := F
  simp only at H L1 L2 L3 ⊢
  generalize hz : r.getD It.zero = z at *
  refine ⟨z.key, s.1, s.2.1, s.2.2, z.flags, z.exp, z.cas, z.sec, z.seq, z.stale, z.won, z.seen, _, rfl, fun b84 w85 e84 e85 => ?_⟩
  have H := H.newCells (cs := itV It.zero (none, 0, 0)) e84 e85
  refine ⟨H.wr m0 (by simp [itV]), fun w86 e86 => ?_⟩
  have H := (H.setSpan0 e86).drop
  refine H.callE (shard_drops p _ m2) fun d2 w88 H => ⟨_, _, _, rfl, ?_⟩
  have H := H.split
  -- [Sh, drops, val, ev, its]
  refine ⟨e.now, e.seq, e.flush, e.flushSeq, H.spanAll m3, ?_⟩
  refine H.callE (shard_look p _ _ k e (by omega) (by omega)) fun s3 w95 H => ?_
  have H := H.split
  generalize hG : SM.find { m2 with drops := [] } k e = G at *
  obtain ⟨m4, r4⟩ := G
  simp only at H L1 L2 L3 ⊢
  generalize hz4 : r4.getD It.zero = z4 at *
  refine ⟨z4.key, s3.1, s3.2.1, s3.2.2, z4.flags, z4.exp, z4.cas, z4.sec, z4.seq, z4.stale, z4.won, z4.seen, _, rfl, fun b107 w108 e107 e108 => ?_⟩
  have H := H.newCells (cs := itV It.zero (none, 0, 0)) e107 e108
  refine ⟨H.wr m0 (by simp [itV]), fun w109 e109 => ?_⟩
  have H := (H.setSpan0 e109).drop
  -- [Sh, val, drops, val, ev, its]
  have hdl := (H.pull3).rowLen
  rw [strs_length] at hdl
  have nd4 := H.shDrops
  refine br (fun hr => ?_) fun hr => ?_
  · obtain ⟨q1, q2, q3, q4⟩ := L1 hr
    rw [q1, q2]
    rw [q3] at hdl
    have hd0 : d2.2.1 = 0 := by have := hdl.1; simp at this; omega
    refine br (fun _ => br (fun _ => br (fun _ => ?_) fun hc => ?_) fun hc => by simp at hc) fun hc => by simp at hc
    · refine H.callV (shard_len p _ m4) fun w111 H => ⟨_, rfl, ?_⟩
      rw [q4]
      exact ⟨by simp, out H⟩
    · rw [hd0] at hc; simp at hc
  · refine br (fun ht => ?_) fun ht => ?_
    · obtain ⟨q2, q3, q4, q5⟩ := L2 hr ht
      rw [q2]
      refine br (fun _ b113 w114 e113 e114 => ?_) fun hc => by simp at hc
      have H := H.newCells (cs := [.string k]) e113 e114
      -- [new, Sh, val, drops, val, ev, its]
      have hd1 : d2.2.1 = [k].length := by rw [q3] at hdl; have := hdl.1; simp at this ⊢; omega
      rw [hd1]
      refine same08_sp (la := [k]) (lb := [k]) (ca := d2.2.2) (cb := 1) (by simp) (fun w' H => ?_) (fun w' H => ?_) H fun w116 H => ⟨_, rfl, ?_⟩
      · have := H.pull4.rowAt
        rw [q3, Nat.mul_one, hd1] at this
        exact this
      · exact ⟨rfl, H.spanAll m0⟩
      refine br (fun _ => ?_) fun hc => by simp at hc
      refine H.swap.callV (shard_len p _ m4) fun w119 H => ⟨_, rfl, ?_⟩
      have ew : IntKind.i64.wrap ((m.items.length : Int) - 1) = (m4.items.length : Int) := by rw [wrap_i64 (by omega) (by omega)]; omega
      rw [ew]
      refine br (fun _ => ?_) fun hc => by simp at hc
      refine H.callE (shard_drops p _ m4) fun d5 w122 H => ⟨_, _, _, rfl, ?_⟩
      have H := H.split
      have hd5 := H.swap.rowLen
      rw [strs_length, q5] at hd5
      have hd50 : d5.2.1 = 0 := by have := hd5.1; simp at this; omega
      rw [hd50]
      exact ⟨rfl, out H⟩
    · obtain ⟨q2, q3, q4⟩ := L3 hr ht
      rw [q2]
      rw [q3] at hdl
      have hd0 : d2.2.1 = 0 := by have := hdl.1; simp at this; omega
      refine br (fun _ => br (fun _ => ?_) fun hc => ?_) fun hc => by simp at hc
      · refine H.callV (shard_len p _ m4) fun w111 H => ⟨_, rfl, ?_⟩
        rw [q4]
        exact ⟨by simp, out H⟩
      · rw [hd0] at hc; simp at hc
end
end Go.Bty

namespace Go.Bty
open Go
open Go.Proofs.Try renaming prog → P

theorem getI_of_mem {l : List It} {x : It} (hd : (l.map (·.key)).Nodup) (hx : x ∈ l) : getI l x.key = some x := by
  induction l with
  | nil => cases hx
  | cons y l ih =>
    rw [List.map_cons, List.nodup_cons] at hd
    unfold getI at *
    rw [List.find?_cons]
    rcases List.mem_cons.1 hx with rfl | hx
    · simp
    · have hne : ¬ y.key = x.key := fun e => hd.1 (by rw [e]; exact List.mem_map.2 ⟨x, hx, rfl⟩)
      simp only [decide_eq_false hne]
      exact ih hd.2 hx
theorem usedL_del {l : List It} {k : ByteArray} {x : It} (hd : (l.map (·.key)).Nodup) (h : getI l k = some x) : usedL (delI l k) = usedL l - bytesZ (clsM x) := by
  obtain ⟨hm, hk⟩ := getI_mem h
  obtain ⟨a, b, rfl⟩ := List.append_of_mem hm
  rw [List.map_append, List.map_cons, List.nodup_append] at hd
  obtain ⟨_, h2, h3⟩ := hd
  rw [List.nodup_cons] at h2
  have e1 : a.filter (fun it => decide (it.key ≠ k)) = a := List.filter_eq_self.2 fun y hy => by
    simp only [decide_eq_true_eq]
    intro e
    exact h3 _ (List.mem_map.2 ⟨y, hy, rfl⟩) _ (List.mem_cons_self ..) (e.trans hk.symm)
  have e2 : b.filter (fun it => decide (it.key ≠ k)) = b := List.filter_eq_self.2 fun y hy => by
    simp only [decide_eq_true_eq]
    intro e
    exact h2.1 (List.mem_map.2 ⟨y, hy, e.trans hk.symm⟩)
  have e3 : delI (a ++ x :: b) k = a ++ b := by
    unfold delI
    rw [List.filter_append, List.filter_cons_of_neg (by simp [hk]), e1, e2]
  rw [e3, usedL_append, usedL_append]
  have e4 : usedL (x :: b) = bytesZ (clsM x) + usedL b := rfl
  rw [e4]; omega
theorem all_del {m : SM} (hok : SOk m) (k : ByteArray) : (m.rem k).all = m.all.filter fun it => decide (it.key ≠ k) := by
  have hok2 := hok.rem k
  unfold SM.all
  symm
  have e : (m.rem k).items = delI m.items k := m.rem_items k
  rw [e]
  refine sortK_eq keyI ((sortK_perm keyI m.items).filter _) (List.Pairwise.filter _ (sortK_sorted keyI hok.dist)) ?_
  have := hok2.dist
  rw [e] at this
  exact this
theorem rem_get {m : SM} {k : ByteArray} : (m.rem k).get k = none := by
  unfold SM.get
  rw [m.rem_items]
  unfold getI delI
  rw [List.find?_eq_none]
  intro x hx
  have := (List.mem_filter.1 hx).2
  simpa using this
theorem rem_rem {m : SM} {k : ByteArray} : (m.rem k).rem k = m.rem k := by
  have := rem_get (m := m) (k := k)
  generalize m.rem k = q at *
  unfold SM.rem
  rw [this]

section
variable {h0 : Frag} {w0 w w' : World} {As : List HP} {a : Option Addr} {l : List Opd}
/-- An element of a list of items, read. -/
theorem ItemL_item {sl : Sl} {its : List (It × Sl)} (H : St h0 w0 w (ItemL sl its :: As)) {i : Nat} (hi : i < its.length) : ∃ q, sl.1 = some q ∧ SpanAt w (Addr.add q (Int.toNat (i : Int) * 10)) (itV its[i].1 its[i].2) := by
  have HR := St.split H
  obtain ⟨q, hq⟩ := HR.rowSome (by rw [itsV_length]; omega)
  have hrow := HR.rowAt
  rw [hq] at hrow
  refine ⟨q, hq, fun j v hj => ?_⟩
  have hj10 := (List.getElem?_eq_some_iff.1 hj).1
  have := hrow.2 (i * 10 + j) v (by rw [itsV_get hi j hj10]; exact hj)
  rcases HR.rowOpen with ⟨h1, _⟩ | ⟨b, L, h1, _⟩
  · rw [hq] at h1; cases h1
  · rw [hq] at h1; cases h1
    rw [add_mk] at this
    rw [add_mk, add_mk, Int.toNat_natCast, Nat.add_assoc]
    exact this
theorem ItemL_len {sl : Sl} {its : List (It × Sl)} (H : St h0 w0 w (ItemL sl its :: As)) : sl.2.1 = its.length := by
  have hrl := (St.split H).rowLen
  rw [itsV_length] at hrl
  omega
theorem ItemL_val {sl : Sl} {its : List (It × Sl)} (H : St h0 w0 w (ItemL sl its :: As)) {i : Nat} (hi : i < its.length) : RowAt w its[i].2.1 its[i].2.2.1 (bytesV its[i].1.val) := by
  have HR := St.split H
  obtain ⟨x, hx⟩ : ∃ x, its[i] = x := ⟨_, rfl⟩
  have hm : x ∈ its := by rw [← hx]; exact List.getElem_mem hi
  obtain ⟨u, v, rfl⟩ := List.append_of_mem hm
  have HV : St h0 w0 w (SepL ((u ++ x :: v).map fun x => BRow x.2 x.1.val) :: _) := HR.swap
  have HV2 := St.split HV
  rw [List.map_append, List.map_cons] at HV2
  have HV3 : St h0 w0 w (BRow x.2 x.1.val :: (u.map (fun x => BRow x.2 x.1.val) ++ v.map (fun x => BRow x.2 x.1.val)) ++ _) := HV2.perm (List.perm_middle.append_right _)
  have := (HV3 : St h0 w0 w (Row T_uint8 1 x.2.1 x.2.2.1 x.2.2.2 (bytesV x.1.val) :: _)).rowAt
  rw [hx, Nat.mul_one] at *
  exact this

theorem removes_walk {c : Nat} {seed : Int} {k : ByteArray} (ho : Ops h0 w0 a l) (hks : k.size < 2 ^ 60) (H : St h0 w0 w []) :
    Cl P f_butterylaw11_ShardRemoves #[.int .u64 seed, .slice a l.length c, .string k] w fun v w' => v = .bool true ∧ St h0 w0 w' [] := by
  apply cl_butterylaw11_ShardRemoves
  unfold c_butterylaw11_ShardRemoves
  refine H.pure awake_sp fun w4 H => ⟨true, rfl, ?_⟩
  refine few_sp ho H fun w7 H => ⟨_, rfl, ?_⟩
  refine H.emp.callE (shard_new _ _ _) fun p w10 H => ⟨_, rfl, ?_⟩
  have out : ∀ {w' : World} {As : List HP}, St h0 w0 w' As → St h0 w0 w' [] := fun H => let ⟨h, _, ho, hf⟩ := H; ⟨h, trivial, ho, hf⟩
  refine br (fun hc => by simp at hc) fun _ => br (fun _ => br (fun _ => ⟨rfl, out H⟩) fun hc => by simp at hc) fun hfew => br (fun hc => by simp [ad] at hc) fun _ => br (fun _ => br (fun _ => ⟨rfl, out H⟩) fun hc => by simp at hc) fun h300 => ?_
  have hfew' : fewM l = true := by simpa using hfew
  obtain ⟨hlen, hall⟩ := few_spec hfew'
  refine ⟨fun vs w' => ∃ i : Nat, i ≤ l.length ∧ vs = [.int .i64 i] ∧ St h0 w0 w' [Shard p (2 * i) none (storesM (SM.new seed 2000 3) (l.take i))], fun vs _ => match vs with | [.int _ i] => l.length - i.toNat | _ => 0,
    ⟨0, by omega, rfl, H⟩, ?_⟩
  rintro vs w15 ⟨i, hi, rfl, H⟩
  have wr1 : ∀ i : Nat, i < 2 ^ 40 → IntKind.i64.wrap ((i : Int) + 1) = ((i + 1 : Nat) : Int) := fun i h => by rw [wrap_i64 (by omega) (by omega)]; omega
  refine ⟨i, rfl, br (fun hc => ?_) fun hc => ?_⟩
  · have hlt : i < l.length := by simp at hc; omega
    have hbig := hall l[i] (List.getElem_mem hlt)
    intro w17 e17
    have H := H.drew e17
    obtain ⟨q, hq, _, h2, h3, _⟩ := ho.item H hlt
    refine ⟨q, hq, by omega, by omega, l[i].it.key, l[i].s.1, l[i].s.2.1, l[i].s.2.2, l[i].it.flags, l[i].it.exp, l[i].it.cas, l[i].it.sec, l[i].it.seq, l[i].it.stale, l[i].it.won, l[i].it.seen, h2, q, hq, by omega, by omega, l[i].e.now, l[i].e.seq, l[i].e.flush, l[i].e.flushSeq, h3, ?_⟩
    refine H.callKV (ho.val hlt).pass (shard_store p (2 * i) _ l[i].it l[i].s l[i].e (by omega) (ho.len hlt) (by omega) (by omega)) fun w35 H => ⟨_, rfl, ?_⟩
    rw [wr1 i (by omega)]
    refine ⟨⟨i + 1, hlt, rfl, ?_⟩, by simp; omega⟩
    rw [stores_succ hlt]
    exact H
  have hil : i = l.length := by simp at hc; omega
  subst hil
  generalize storesM (SM.new seed 2000 3) (l.take l.length) = ms at H
  refine H.callE (shard_drops p _ ms) fun d w38 H => ⟨_, _, _, rfl, ?_⟩
  have H := H.split.swap.drop
  have hdr : ({ ms with drops := [] } : SM).drops = [] := rfl
  generalize ({ ms with drops := [] } : SM) = m at H hdr
  have hok := H.shOk
  have nd := H.shDrops
  refine H.callE (law_all p _ m 1000 (by omega) (by omega)) fun x w39 H => ⟨_, _, _, rfl, ?_⟩
  obtain ⟨sl, its⟩ := x
  obtain ⟨hmap, H⟩ := H.purOpen
  simp only at hmap H ⊢
  have H := H.split
  have hsn := ItemL_len H
  have hil : its.length = m.items.length := by
    have := congrArg List.length hmap
    rw [List.length_map] at this
    rw [this]; exact sortK_length keyI m.items
  have hub := (usedL_le m.items)
  refine H.swap.callV (shard_used p _ m) fun w42 H => ⟨_, rfl, ?_⟩
  refine H.callV (shard_remove p _ none m k (by omega) (by omega) (fun y hy => by cases hy)) fun w45 H => ⟨_, rfl, ?_⟩
  refine H.callV (shard_remove p _ none (m.rem k) k (by omega) (by omega) (fun y hy => by cases hy)) fun w48 H => ⟨_, rfl, ?_⟩
  rw [rem_rem] at H
  have nd2 := H.shDrops
  refine H.callE (law_all p _ (m.rem k) 1000 (by omega) (by omega)) fun x w51 H => ⟨_, _, _, rfl, ?_⟩
  obtain ⟨sl2, its2⟩ := x
  obtain ⟨hmap2, H⟩ := H.purOpen
  simp only at hmap2 H ⊢
  have H := H.split
  have hsn2 := ItemL_len H
  rw [all_del hok, ← hmap, List.filter_map] at hmap2
  -- [its2, Sh, its]
  let flt : List (It × Sl) → List It := fun q => (q.filter fun x => decide (x.1.key ≠ k)).map (·.1)
  have hflt : its2.map (·.1) = flt its := hmap2
  have hfl2 : its2.length = (flt its).length := by rw [← hflt]; simp
  have hfle : its2.length ≤ its.length := by
    rw [hfl2]
    show ((its.filter _).map _).length ≤ _
    rw [List.length_map]
    exact List.length_filter_le ..
  let B : Int := bytesZ (clsM ((m.get k).getD It.zero))
  have hfs : ∀ i (h : i < its.length), flt (its.take (i + 1)) = flt (its.take i) ++ (if its[i].1.key = k then [] else [its[i].1]) := fun i h => by
    show ((its.take (i + 1)).filter _).map _ = _
    rw [List.take_succ_eq_append_getElem h, List.filter_append, List.map_append]
    congr 1
    by_cases e : its[i].1.key = k
    · rw [if_pos e, List.filter_cons_of_neg (by simp [e])]; rfl
    · rw [if_neg e, List.filter_cons_of_pos (by simpa using e)]; rfl
  refine ⟨fun vs w' => ∃ i : Nat, i ≤ its.length ∧ vs = [.int .i64 (flt (its.take i)).length, .int .i64 (if (its.take i).any (fun x => decide (x.1.key = k)) then B else 0), .int .i64 i] ∧ St h0 w0 w' [ItemL sl2 its2, Shard p (2 * l.length) none (m.rem k), ItemL sl its], fun vs _ => match vs with | [_, _, .int _ i] => its.length - i.toNat | _ => 0,
    ⟨0, by omega, rfl, H⟩, ?_⟩
  rintro vs w56 ⟨i, hi, rfl, H⟩
  refine ⟨_, _, i, rfl, br (fun hc => ?_) fun hc => ?_⟩
  · have hlt : i < its.length := by simp at hc; omega
    obtain ⟨q, hq, hsp⟩ := ItemL_item H.pull3 hlt
    have hmem : its[i].1 ∈ m.items := (sortK_mem keyI).1 (by
      show its[i].1 ∈ m.all
      rw [← hmap]; exact List.mem_map.2 ⟨its[i], List.getElem_mem hlt, rfl⟩)
    have hvl := (ItemL_val H.pull3 hlt).1
    rw [bytesV_length] at hvl
    have hsk := small_key (hok.cls _ hmem)
    have hany : ((its.take (i + 1)).any fun x => decide (x.1.key = k)) = (((its.take i).any fun x => decide (x.1.key = k)) || decide (its[i].1.key = k)) := by
      rw [List.take_succ_eq_append_getElem hlt, List.any_append]; simp
    have hcell : ∀ {w' : World}, SpanAt w' (Addr.add q (Int.toNat (i : Int) * 10)) (itV its[i].1 its[i].2) → w'.cell? (Addr.add (Addr.add q (Int.toNat (i : Int) * 10)) 0) = some (.string its[i].1.key) := fun h => h 0 _ rfl
    refine ⟨q, hq, by omega, by omega, _, hcell hsp, ?_⟩
    rw [seq_eq]
    refine br (fun he => ?_) fun he => ?_
    · have he : its[i].1.key = k := by simpa using he
      refine ⟨q, hq, by omega, by omega, its[i].1.key, its[i].2.1, its[i].2.2.1, its[i].2.2.2, its[i].1.flags, its[i].1.exp, its[i].1.cas, its[i].1.sec, its[i].1.seq, its[i].1.stale, its[i].1.won, its[i].1.seen, hsp, ?_⟩
      refine H.pure (size_sp its[i].1 its[i].2 (by omega) (by omega) (by omega)) fun w74 H => ⟨_, rfl, ?_⟩
      refine H.pure (class_sp _) fun w77 H => ⟨clsM its[i].1, 0, by rw [classV]; exact if_pos (hok.cls _ hmem), ?_⟩
      refine H.pure (bytes_sp _) fun w81 H => ⟨_, rfl, ?_⟩
      rw [wr1 i (by omega)]
      have hg : m.get k = some its[i].1 := by
        rw [← he]; exact getI_of_mem hok.dist hmem
      have hB : bytesZ (clsM its[i].1) = B := by
        show _ = bytesZ (clsM ((m.get k).getD It.zero))
        rw [hg]; rfl
      rw [hB]
      refine ⟨⟨i + 1, hlt, ?_, H⟩, by simp; omega⟩
      rw [hfs i hlt, if_pos he, List.append_nil, hany, show decide (its[i].1.key = k) = true by simpa using he, Bool.or_true, if_pos rfl]
    · have he : its[i].1.key ≠ k := by simpa using he
      intro w83 e83
      have H := H.drew e83
      have hpos : (flt (its.take i)).length < its2.length := by
        have e1 : its = its.take (i + 1) ++ its.drop (i + 1) := (List.take_append_drop _ _).symm
        have e2 : flt its = flt (its.take (i + 1)) ++ flt (its.drop (i + 1)) := by
          show ((its).filter _).map _ = _
          conv => lhs; rw [e1]
          rw [List.filter_append, List.map_append]
        rw [hfl2, e2, hfs i hlt, if_neg he]
        simp only [List.length_append, List.length_singleton]
        omega
      have hkey : its2[(flt (its.take i)).length].1.key = its[i].1.key := by
        have e1 : its = its.take (i + 1) ++ its.drop (i + 1) := (List.take_append_drop _ _).symm
        have e2 : flt its = flt (its.take (i + 1)) ++ flt (its.drop (i + 1)) := by
          show ((its).filter _).map _ = _
          conv => lhs; rw [e1]
          rw [List.filter_append, List.map_append]
        have e3 : (its2.map (·.1))[(flt (its.take i)).length]? = some its[i].1 := by
          rw [hflt, e2, hfs i hlt, if_neg he]
          simp
        rw [List.getElem?_map, List.getElem?_eq_getElem hpos] at e3
        simp only [Option.map_some, Option.some.injEq] at e3
        rw [e3]
      refine br (fun hc => by rw [hsn2] at hc; simp at hc; omega) fun _ => ?_
      obtain ⟨q2, hq2, hsp2⟩ := ItemL_item H hpos
      obtain ⟨q3, hq3, hsp3⟩ := ItemL_item H.pull3 hlt
      refine ⟨q2, hq2, by omega, by rw [hsn2]; omega, _, hsp2 0 _ rfl, q3, hq3, by omega, by omega, _, hsp3 0 _ rfl, ?_⟩
      rw [seq_eq, hkey]
      refine br (fun hc => by simp at hc) fun _ => ?_
      rw [wr1 i (by omega), wr1 (flt (its.take i)).length (by omega)]
      refine ⟨⟨i + 1, hlt, ?_, H⟩, by simp; omega⟩
      rw [hfs i hlt, if_neg he, hany, show decide (its[i].1.key = k) = false by simpa using he, Bool.or_false, List.length_append]
      rfl
  have hil2 : i = its.length := by simp at hc; omega
  subst hil2
  have hany : ((its.take its.length).any fun x => decide (x.1.key = k)) = (m.get k).isSome := by
    rw [List.take_length, ← any_key, ← hmap, List.any_map]
    rfl
  rw [hany, List.take_length, ← hfl2, hsn2]
  have hrg : ((m.rem k).get k).isSome = false := by rw [rem_get]; rfl
  rw [hrg]
  have hused : (m.rem k).used = m.used - (if (m.get k).isSome = true then B else 0) := by
    unfold SM.used
    rw [m.rem_items]
    cases hg : m.get k with
    | none =>
      have e : (m.rem k).items = m.items := by unfold SM.rem; rw [hg]
      rw [← m.rem_items, e]; simp
    | some x =>
      rw [usedL_del hok.dist hg]
      show _ = _ - B
      have : B = bytesZ (clsM x) := by
        show bytesZ (clsM ((m.get k).getD It.zero)) = _
        rw [hg]; rfl
      rw [this]
  have hBr := bytesN_range (clsM ((m.get k).getD It.zero))
  have hB0 : B = bytesZ (clsM ((m.get k).getD It.zero)) := rfl
  have hub2 : m.used = usedL m.items := rfl
  have hnd : m.items.length < 2 ^ 20 := by omega
  refine br (fun _ => br (fun _ => br (fun _ => ?_) fun hc => by simp at hc) fun hc => ?_) fun hc => by simp at hc
  · refine H.swap.callV (shard_used p _ (m.rem k)) fun w89 H => ⟨_, rfl, ?_⟩
    rw [wrap_i64 (by split <;> omega) (by split <;> omega), hused]
    refine br (fun _ => ?_) fun hc => by simp at hc
    refine H.callE (shard_drops p _ (m.rem k)) fun d5 w92 H => ⟨_, _, _, rfl, ?_⟩
    have H := H.split
    have hd5 := H.swap.rowLen
    rw [strs_length, SM.rem_drops, hdr] at hd5
    have hd50 : d5.2.1 = 0 := by have := hd5.1; simp at this; omega
    rw [hd50]
    exact ⟨rfl, out H⟩
  · exfalso
    cases hg : m.get k with
    | none => rw [hg] at hc; simp at hc
    | some x =>
      rw [hg] at hc
      have hx := (getI_mem hg).1
      have hpos : 0 < bytesZ (clsM x) := by
        have hcl := hok.cls x hx
        have h64 : (64 : Int) ≤ bytesZ (clsM x) := by
          rcases six hcl with h | h | h | h | h | h <;> rw [h] <;> decide
        omega
      have hB : B = bytesZ (clsM x) := by
        show bytesZ (clsM ((m.get k).getD It.zero)) = _
        rw [hg]; rfl
      rw [hB] at hc
      simp at hc
      omega
end
end Go.Bty
