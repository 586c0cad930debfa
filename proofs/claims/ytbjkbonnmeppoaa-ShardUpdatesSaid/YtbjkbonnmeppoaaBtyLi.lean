/- ShardUpdates: what an Update changes. -/
import Derived.Test.YtbjkbonnmeppoaaBtyLg
namespace Go.Bty
open Go
open Go.Proofs.Try renaming prog → P

def updF (e : Int) (it y : It) : It := if e = 0 ∧ y.key = it.key then it else y
theorem updates_pure {m : SM} {it : It} (hok : SOk m) :
    (m.update it).1.used = m.used ∧ (m.update it).1.all = m.all.map (updF (m.update it).2 it) ∧
    (∀ y ∈ m.items, y.key = it.key → ((m.update it).2 = 0 ↔ y.val.length = it.val.length)) := by
  have same : ∀ (e : Int), e ≠ 0 → m.all = m.all.map (updF e it) := fun e he => by
    symm
    conv => rhs; rw [← List.map_id m.all]
    apply List.map_congr_left
    intro y _
    unfold updF
    rw [if_neg (fun h => he h.1)]; rfl
  unfold SM.update
  cases hg : m.get it.key with
  | none =>
    refine ⟨rfl, same 6 (by decide), fun y hy hk => ?_⟩
    exfalso
    have : (m.get it.key).isSome = true := by
      unfold SM.get
      rw [getI_isSome, ← hk]
      exact List.mem_map.2 ⟨y, hy, rfl⟩
    rw [hg] at this; cases this
  | some x =>
    obtain ⟨hxm, hxk⟩ := getI_mem hg
    have huniq : ∀ y ∈ m.items, y.key = it.key → y = x := fun y hy hk => by
      have := getI_of_mem hok.dist hy
      rw [hk] at this
      have h2 : getI m.items it.key = some x := hg
      rw [h2] at this
      exact (Option.some.inj this).symm
    simp only
    by_cases hl : x.val.length ≠ it.val.length
    · rw [if_pos hl]
      refine ⟨rfl, same 1 (by decide), fun y hy hk => ?_⟩
      rw [huniq y hy hk]
      exact ⟨fun (h : (1 : Int) = 0) => absurd h (by decide), fun h => absurd h hl⟩
    · rw [if_neg hl]
      have hl : x.val.length = it.val.length := by omega
      obtain ⟨a, b, hab⟩ := List.append_of_mem hxm
      have hset : setI m.items it = a ++ it :: b := by
        have hd2 := hok.dist
        rw [hab] at hd2 ⊢
        exact setI_split hd2 hxk
      refine ⟨?_, ?_, fun y hy hk => ?_⟩
      · show usedL (setI m.items it) = usedL m.items
        rw [hset, hab, usedL_append, usedL_append]
        have e1 : usedL (it :: b) = bytesZ (clsM it) + usedL b := rfl
        have e2 : usedL (x :: b) = bytesZ (clsM x) + usedL b := rfl
        rw [e1, e2, clsM_update hxk hl]
      · have hf : setI m.items it = m.items.map (updF 0 it) := by
          unfold setI
          apply List.map_congr_left
          intro y _
          unfold updF
          by_cases h : y.key = it.key
          · rw [if_pos h, if_pos ⟨rfl, h⟩]
          · rw [if_neg h, if_neg fun hh => h hh.2]
        have hkey : ∀ y, (updF 0 it y).key = y.key := fun y => by
          unfold updF
          split
          · rename_i h; exact h.2.symm
          · rfl
        have hdm : ((setI m.items it).map keyI).Nodup := by
          rw [hf, List.map_map]
          have : (keyI ∘ updF 0 it) = keyI := funext hkey
          rw [this]; exact hok.dist
        show sortK keyI (setI m.items it) = _
        symm
        refine sortK_eq keyI ?_ ?_ hdm
        · rw [hf]; exact (sortK_perm keyI m.items).map _
        · rw [sortedK_map]
          have : (fun x => keyI (updF 0 it x)) = keyI := funext hkey
          rw [this]
          exact sortK_sorted keyI hok.dist
      · rw [huniq y hy hk]
        exact ⟨fun _ => hl, fun _ => rfl⟩

section
variable {h0 : Frag} {w0 w w' : World} {As : List HP} {a : Option Addr} {l : List Opd}
theorem updates_walk {c : Nat} {seed : Int} {it : It} {s : Sl} (ho : Ops h0 w0 a l) (hkp : Kept h0 w0 s.1 s.2.1 (bytesV it.val)) (H : St h0 w0 w []) :
    Cl P f_butterylaw11_ShardUpdates #[.int .u64 seed, .slice a l.length c, .agg (itV it s).toArray] w fun v w' => v = .bool true ∧ St h0 w0 w' [] := by
  apply cl_butterylaw11_ShardUpdates
  unfold c_butterylaw11_ShardUpdates
  intro b1 w2 e1 e2
  have H := H.newCells (cs := itV it s) e1 e2
  refine H.pure awake_sp fun w4 H => ⟨true, rfl, ?_⟩
  refine few_sp ho H fun w7 H => ⟨_, rfl, ?_⟩
  refine H.emp.callE (shard_new _ _ _) fun p w10 H => ⟨_, rfl, ?_⟩
  have out : ∀ {w' : World} {As : List HP}, St h0 w0 w' As → St h0 w0 w' [] := fun H => let ⟨h, _, ho, hf⟩ := H; ⟨h, trivial, ho, hf⟩
  have hsl : s.2.1 = it.val.length := by
    have := hkp.1
    rw [bytesV_length] at this; exact this.symm
  refine br (fun hc => by simp at hc) fun _ => br (fun _ => br (fun _ => ⟨rfl, out H⟩) fun hc => by simp at hc) fun hfew => br (fun hc => by simp [ad] at hc) fun _ => ?_
  refine ⟨it.key, by rw [add_mk, H.cell m1]; rfl, br (fun _ => br (fun _ => ⟨rfl, out H⟩) fun hc => by simp at hc) fun hk3 => ?_⟩
  refine ⟨s.1, s.2.1, s.2.2, by rw [add_mk, H.cell m1]; rfl, br (fun _ => br (fun _ => ⟨rfl, out H⟩) fun hc => by simp at hc) fun hv3 => ?_⟩
  have hfew' : fewM l = true := by simpa using hfew
  obtain ⟨hlen, hall⟩ := few_spec hfew'
  have hks : it.key.size ≤ 300 := by simp at hk3; omega
  have hvs : it.val.length ≤ 3000 := by simp at hv3; omega
  have wr1 : ∀ i : Nat, i < 2 ^ 40 → IntKind.i64.wrap ((i : Int) + 1) = ((i + 1 : Nat) : Int) := fun i h => by rw [wrap_i64 (by omega) (by omega)]; omega
  refine ⟨fun vs w' => ∃ i : Nat, i ≤ l.length ∧ vs = [.int .i64 i] ∧ St h0 w0 w' [Shard p (2 * i) none (storesM (SM.new seed 2000 3) (l.take i)), cl b1 T_api_Item (itV it s)], fun vs _ => match vs with | [.int _ i] => l.length - i.toNat | _ => 0,
    ⟨0, by omega, rfl, H⟩, ?_⟩
  rintro vs w15 ⟨i, hi, rfl, H⟩
  refine ⟨i, rfl, br (fun hc => ?_) fun hc => ?_⟩
  · have hlt : i < l.length := by simp at hc; omega
    have hbig := hall l[i] (List.getElem_mem hlt)
    intro w17 e17
    have H := H.drew e17
    obtain ⟨q, hq, _, h2, h3, _⟩ := ho.item H hlt
    refine ⟨q, hq, by omega, by omega, l[i].it.key, l[i].s.1, l[i].s.2.1, l[i].s.2.2, l[i].it.flags, l[i].it.exp, l[i].it.cas, l[i].it.sec, l[i].it.seq, l[i].it.stale, l[i].it.won, l[i].it.seen, h2, q, hq, by omega, by omega, l[i].e.now, l[i].e.seq, l[i].e.flush, l[i].e.flushSeq, h3, ?_⟩
    refine H.callKV (ho.val hlt).pass (shard_store p (2 * i) _ l[i].it l[i].s l[i].e (by omega) (ho.len hlt) (by omega) (by omega)) fun w35 H => ⟨_, rfl, ?_⟩
    rw [wr1 i (by omega)]
    refine ⟨⟨i + 1, hlt, rfl, ?_⟩, by simp; omega⟩
    rw [stores_succ hlt]
    exact H
  have hil : i = l.length := by simp at hc; omega
  subst hil
  generalize storesM (SM.new seed 2000 3) (l.take l.length) = m at H
  have hok := H.shOk
  have nd := H.shDrops
  refine H.callV (shard_used p _ m) fun w40 H => ⟨_, rfl, ?_⟩
  refine H.callE (law_all p _ m 1000 (by omega) (by omega)) fun x w43 H => ⟨_, _, _, rfl, ?_⟩
  obtain ⟨sl, its⟩ := x
  obtain ⟨hmap, H⟩ := H.purOpen
  simp only at hmap H ⊢
  have H := H.split
  have hsn := ItemL_len H
  have hal : m.all.length = m.items.length := sortK_length keyI m.items
  have hil : its.length = m.items.length := by
    have := congrArg List.length hmap
    rw [List.length_map, hal] at this
    exact this
  -- [its, Shard, b1]
  refine ⟨it.key, s.1, s.2.1, s.2.2, it.flags, it.exp, it.cas, it.sec, it.seq, it.stale, it.won, it.seen, H.spanAll m2, ?_⟩
  obtain ⟨u1, u2, u3⟩ := updates_pure (it := it) hok
  refine H.swap.callKV hkp.pass (shard_update p _ m it s (by omega) hsl (by omega)) fun w56 H => ⟨_, rfl, ?_⟩
  generalize hu : m.update it = u at *
  obtain ⟨mu, z⟩ := u
  simp only at H u1 u2 u3 ⊢
  have nd2 := H.shDrops
  have hal2 : mu.all.length = mu.items.length := sortK_length keyI mu.items
  have hlen2 : mu.items.length = m.items.length := by
    rw [← hal2, u2, List.length_map, hal]
  refine H.callE (law_all p _ mu 1000 (by omega) (by omega)) fun x w59 H => ⟨_, _, _, rfl, ?_⟩
  obtain ⟨sl2, its2⟩ := x
  obtain ⟨hmap2, H⟩ := H.purOpen
  simp only at hmap2 H ⊢
  have H := H.split
  have hsn2 := ItemL_len H
  have hil2 : its2.length = its.length := by
    have := congrArg List.length hmap2
    rw [List.length_map, hal2, hlen2] at this
    omega
  -- [its2, Shard, its, b1]
  refine H.swap.callV (shard_used p _ mu) fun w62 H => ⟨_, rfl, ?_⟩
  rw [u1, hsn, hsn2]
  refine br (fun hc => by simp at hc) fun _ => br (fun hc => by simp [hil2] at hc) fun _ => ?_
  -- [Shard, its2, its, b1]
  have hpt : ∀ i (h : i < its.length) (h2 : i < its2.length), its2[i].1 = updF z it its[i].1 ∧ its[i].1 ∈ m.items := fun i h h2 => by
    rw [u2, ← hmap, List.map_map] at hmap2
    have e1 : (its2.map (·.1))[i]? = some (updF z it its[i].1) := by
      rw [hmap2, List.getElem?_map, List.getElem?_eq_getElem h]; rfl
    rw [List.getElem?_map, List.getElem?_eq_getElem h2] at e1
    refine ⟨Option.some.inj e1, (sortK_mem keyI).1 (?_ : its[i].1 ∈ m.all)⟩
    rw [← hmap]
    exact List.mem_map.2 ⟨its[i], List.getElem_mem h, rfl⟩
  refine ⟨fun vs w' => ∃ i : Nat, i ≤ its2.length ∧ vs = [.int .i64 i] ∧ St h0 w0 w' [Shard p (2 * l.length) none mu, ItemL sl2 its2, ItemL sl its, cl b1 T_api_Item (itV it s)], fun vs _ => match vs with | [.int _ i] => its2.length - i.toNat | _ => 0,
    ⟨0, by omega, rfl, H⟩, ?_⟩
  rintro vs w67 ⟨i, hi, rfl, H⟩
  refine ⟨i, rfl, br (fun hc => ?_) fun hc => br (fun _ => ⟨by trivial, out H⟩) fun _ => ⟨by simp [hil2], out H⟩⟩
  have hlt2 : i < its2.length := by simp at hc; omega
  have hlt : i < its.length := by omega
  obtain ⟨hp1, hp2⟩ := hpt i hlt hlt2
  obtain ⟨q, hq, hsp⟩ := ItemL_item H.pull3 hlt
  refine ⟨q, hq, by omega, by omega, its[i].1.key, its[i].2.1, its[i].2.2.1, its[i].2.2.2, its[i].1.flags, its[i].1.exp, its[i].1.cas, its[i].1.sec, its[i].1.seq, its[i].1.stale, its[i].1.won, its[i].1.seen, hsp, fun b80 w81 e80 e81 => ?_⟩
  have H := H.newCells (cs := itV It.zero (none, 0, 0)) e80 e81
  refine ⟨H.wr m0 (by simp [itV]), fun w82 e82 => ?_⟩
  have H : St h0 w0 w82 (cl b80 T_api_Item (itV its[i].1 its[i].2) :: _) := H.setSpan0 e82
  -- [b80, Shard, its2, its, b1]
  let want : It × Sl := if z = 0 ∧ its[i].1.key = it.key then (it, s) else its[i]
  have hw1 : want.1 = its2[i].1 := by
    rw [hp1]
    show (if z = 0 ∧ its[i].1.key = it.key then (it, s) else its[i]).1 = updF z it its[i].1
    unfold updF
    split <;> rfl
  refine ⟨fun vs w' => vs = [] ∧ St h0 w0 w' [cl b80 T_api_Item (itV want.1 want.2), Shard p (2 * l.length) none mu, ItemL sl2 its2, ItemL sl its, cl b1 T_api_Item (itV it s)], ?_, ?_⟩
  · have keep : ¬ (z = 0 ∧ its[i].1.key = it.key) → want = its[i] := fun h => if_neg h
    refine br (fun hz => ⟨_, by rw [add_mk, H.cell m0]; rfl, _, by rw [add_mk, H.cell m4]; rfl, ?_⟩) fun hz => ⟨rfl, ?_⟩
    · rw [seq_eq]
      refine br (fun hk => ?_) fun hk => ⟨rfl, ?_⟩
      · refine ⟨it.key, s.1, s.2.1, s.2.2, it.flags, it.exp, it.cas, it.sec, it.seq, it.stale, it.won, it.seen, H.spanAll m4, H.wr m0 (by simp [itV]), fun w98 e98 => ⟨rfl, ?_⟩⟩
        have hwt : want = (it, s) := if_pos ⟨by simpa using hz, by simpa using hk⟩
        rw [hwt]
        exact H.setSpan0 e98
      · rw [keep (fun h => by simp at hk; exact hk h.2)]
        exact H
    · rw [keep (fun h => by simp at hz; exact hz h.1)]
      exact H
  rintro vs w85 ⟨rfl, H⟩
  intro _ w99 e99
  have H := H.drew e99
  obtain ⟨q2, hq2, hsp2⟩ := ItemL_item H.pull3 hlt2
  refine ⟨q2, hq2, by omega, by omega, its2[i].1.key, its2[i].2.1, its2[i].2.2.1, its2[i].2.2.2, its2[i].1.flags, its2[i].1.exp, its2[i].1.cas, its2[i].1.sec, its2[i].1.seq, its2[i].1.stale, its2[i].1.won, its2[i].1.seen, hsp2, want.1.key, want.2.1, want.2.2.1, want.2.2.2, want.1.flags, want.1.exp, want.1.cas, want.1.sec, want.1.seq, want.1.stale, want.1.won, want.1.seen, H.spanAll m0, ?_⟩
  refine same_sp (fun w' H => ItemL_val H.pull3 hlt2) (fun w' H => ?_) H fun w122 H => ⟨_, rfl, fun w124 e124 => ?_⟩
  · show RowAt w' want.2.1 want.2.2.1 (bytesV want.1.val)
    by_cases h : z = 0 ∧ its[i].1.key = it.key
    · have hwt : want = (it, s) := if_pos h
      rw [hwt]
      exact hkp.at H
    · have hwt : want = its[i] := if_neg h
      rw [hwt]
      exact ItemL_val H.pull4 hlt
  have H := H.drew e124
  refine br (fun hc => by rw [decide_eq_true hw1.symm] at hc; simp at hc) fun _ => ?_
  obtain ⟨q3, hq3, hsp3⟩ := ItemL_item H.pull3 hlt2
  obtain ⟨q4, hq4, hsp4⟩ := ItemL_item H.pull4 hlt
  have fin : ∀ {w' : World}, St h0 w0 w' [cl b80 T_api_Item (itV want.1 want.2), Shard p (2 * l.length) none mu, ItemL sl2 its2, ItemL sl its, cl b1 T_api_Item (itV it s)] →
      (∃ i' : Nat, i' ≤ its2.length ∧ [Value.int .i64 (IntKind.i64.wrap ((i : Int) + 1))] = [.int .i64 i'] ∧ St h0 w0 w' [Shard p (2 * l.length) none mu, ItemL sl2 its2, ItemL sl its, cl b1 T_api_Item (itV it s)]) ∧
        (match [Value.int .i64 (IntKind.i64.wrap ((i : Int) + 1))] with | [.int _ i] => its2.length - i.toNat | _ => 0) < its2.length - Int.toNat (i : Int) := fun H => by
    rw [wr1 i (by omega)]
    exact ⟨⟨i + 1, hlt2, rfl, H.drop⟩, by simp; omega⟩
  refine ⟨q3, hq3, by omega, by omega, _, hsp3 0 _ rfl, _, by rw [add_mk, H.cell m4]; rfl, ?_⟩
  rw [seq_eq]
  refine br (fun hk => ?_) fun _ => fin H
  have hk : its2[i].1.key = it.key := by simpa using hk
  have hk2 : its[i].1.key = it.key := by
    rw [hp1] at hk
    unfold updF at hk
    split at hk
    · rename_i h; exact h.2
    · exact hk
  have hvl := (ItemL_val H.pull4 hlt).1
  rw [bytesV_length] at hvl
  refine ⟨q4, hq4, by omega, by omega, its[i].2.1, its[i].2.2.1, its[i].2.2.2, hsp4 1 _ rfl, s.1, s.2.1, s.2.2, by rw [add_mk, H.cell m4]; rfl, br (fun hc => ?_) fun _ => fin H⟩
  exfalso
  have h3 := u3 its[i].1 hp2 hk2
  have : (z == 0) = (((its[i].2.2.1 : Nat) : Int) == ((s.2.1 : Nat) : Int)) := by
    rw [Bool.eq_iff_iff]
    simp only [beq_iff_eq]
    rw [h3, ← hvl, hsl]
    omega
  rw [this] at hc
  simp at hc
end
end Go.Bty
