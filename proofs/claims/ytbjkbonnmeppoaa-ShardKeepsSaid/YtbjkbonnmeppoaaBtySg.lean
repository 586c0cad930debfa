/- The shard: Look, Update. -/
import Derived.Test.YtbjkbonnmeppoaaBtySf
namespace Go.Bty
open Go
open Go.Proofs.Try renaming prog → P

def It.zero : It := ⟨⟨#[]⟩, [], 0, 0, 0, 0, 0, false, false, false⟩

section
variable {h0 : Frag} {w0 w w' : World} {As : List HP} {p N : Nat} {o : Option (It × Nat)} {m : SM}

theorem shard_look (p N : Nat) (m : SM) (k : ByteArray) (e : Ev) (hN : N < 2 ^ 31) (hk : k.size < 2 ^ 62) :
    Sp P f_shard_Shard_Look #[.pointer (ad p), .string k, .agg (evV e).toArray] (Shard p N none m)
      (fun v h => ∃ s : Sl, v = .tuple #[.agg (itV ((m.find k e).2.getD It.zero) s).toArray, .bool (m.find k e).2.isSome] ∧ SepL [Shard p N none (m.find k e).1, BRow s ((m.find k e).2.getD It.zero).val] h) := sp_of fun w h H => by
  apply cl_shard_Shard_Look
  unfold c_shard_Shard_Look
  intro b1 w2 e1 e2 b3 w4 e3 e4
  have H := ((H.newCells (cs := evV e) e1 e2).newCells (cs := itV It.zero (none, 0, 0)) e3 e4).pull3
  -- [Shard, new, ev]
  refine ⟨e.now, e.seq, e.flush, e.flushSeq, H.spanAll m2, ?_⟩
  refine H.call (shard_find p N m k e hN hk) fun v w10 H => ?_
  obtain ⟨_, hres, hback⟩ := H.opn
  rcases hres with ⟨hf2, rfl, hS⟩ | ⟨x, b, hf2, rfl, hS⟩
  · replace H := hback [_] (sepL_one hS)
    clear hback
    rw [hf2]
    refine ⟨_, rfl, br (fun _ => ?_) fun hc => by simp at hc⟩
    refine ⟨H.wr m1 (by simp [itV]), fun w12 e12 => ?_⟩
    have H : St h w w12 (cl b3 T_api_Item (itV It.zero (none, 0, 0)) :: [Shard p N none (m.find k e).1, cl b1 T_api_Env (evV e)]) := H.swap.setSpan0 e12
    refine ⟨It.zero.key, ((none, 0, 0) : Sl).1, ((none, 0, 0) : Sl).2.1, ((none, 0, 0) : Sl).2.2, It.zero.flags, It.zero.exp, It.zero.cas, It.zero.sec, It.zero.seq, It.zero.stale, It.zero.won, It.zero.seen, H.spanAll m0, ?_⟩
    have H := H.drop.rowNil (T := T_uint8) (sz := 1)
    exact ((St.join [_, _] (H.swap)).only m0).conv fun _ hs => ⟨(none, 0, 0), rfl, hs⟩
  · replace H := hback [_] (sepL_one hS)
    clear hback
    rw [hf2]
    refine ⟨_, rfl, br (fun hc => by simp [ad] at hc) fun _ => ?_⟩
    have hok := H.shOk
    obtain ⟨q, es, inn, N1, N2, seed, hi, H⟩ := H.shOpen
    obtain ⟨y, hym, hyx, hyb⟩ := hi.old _ rfl
    simp only at hyx hyb
    subst hyx hyb
    obtain ⟨l, r, rfl⟩ := List.append_of_mem hym
    have hsk := small_key (hi.ok.cls y.it (by rw [← hi.items]; simp))
    -- [cl, Tbl, Slab, Slru, Judge, Row, Ents, new, ev]
    have H := H.pull7
    have H := H.entsOut.entOpen
    -- [ent, val, Ents, cl, Tbl, Slab, Slru, Judge, Row, new, ev]
    have hvl := (H.swap : St h w w10 (Row T_uint8 1 y.s.1 y.s.2.1 y.s.2.2 (bytesV y.it.val) :: _)).rowLen
    rw [bytesV_length] at hvl
    refine ⟨_, rfl, y.it.key, y.s.1, y.s.2.1, y.s.2.2, y.it.flags, y.it.exp, y.it.cas, y.it.sec, y.it.seq, y.it.stale, y.it.won, y.it.seen, ?_, ?_⟩
    · rw [add_mk]
      refine H.span m0 fun i v hv => ?_
      rw [Nat.zero_add]
      unfold entCells
      rw [List.getElem?_append_left (List.getElem?_eq_some_iff.1 hv).1]
      exact hv
    refine H.emp.callKE (kpRow (T := T_uint8) (c := y.s.2.2) m1) (owned_sp y.it y.s (by omega)) fun s' w35 H => ⟨y.it.key, s'.1, s'.2.1, s'.2.2, y.it.flags, y.it.exp, y.it.cas, y.it.sec, y.it.seq, y.it.stale, y.it.won, y.it.seen, rfl, ?_⟩
    -- [copy, ent, val, Ents, cl, Tbl, Slab, Slru, Judge, Row, new, ev]
    refine ⟨H.wr m10 (by simp [itV]), fun w46 e46 => ?_⟩
    have H := H.pull10.pull10.pull10.pull10.pull10.pull10.pull10.pull10.pull10.pull11
    have H : St h w w46 (cl b3 T_api_Item (itV y.it s') :: _) := H.setSpan0 e46
    refine ⟨y.it.key, s'.1, s'.2.1, s'.2.2, y.it.flags, y.it.exp, y.it.cas, y.it.sec, y.it.seq, y.it.stale, y.it.won, y.it.seen, H.spanAll m0, ?_⟩
    have H := (St.entMk H.drop).entsIn
    have H := H.pull7.pull7.pull7.pull7.pull7.pull7
    have H := (St.shMk hi H).shWeak
    exact ((St.join [_, _] H).only m0).conv fun _ hs => ⟨s', rfl, hs⟩

theorem clsM_update {x it : It} (hk : x.key = it.key) (hl : x.val.length = it.val.length) : clsM it = clsM x := by
  unfold clsM sizeM
  rw [hk, hl]

/-- An entry gets another item of the same size. -/
theorem SInv.turn {l r : List En} {y : En} {inn : List (Int × Int)} {N1 N2 : Nat} {it : It} {s : Sl} (hi : SInv N o m (l ++ y :: r) inn N1 N2) (hk : y.it.key = it.key) (hl : y.it.val.length = it.val.length) :
    SInv N none { m with items := setI m.items it } (l ++ ⟨it, y.b, s, y.c⟩ :: r) inn N1 N2 := by
  have hd := hi.ok.dist
  have hitems : m.items = l.map (·.it) ++ y.it :: r.map (·.it) := by rw [← hi.items]; simp
  have hset : setI m.items it = l.map (·.it) ++ it :: r.map (·.it) := by
    rw [hitems] at hd ⊢
    exact setI_split hd hk
  have hkeys : (setI m.items it).map (·.key) = m.items.map (·.key) := by rw [hset, hitems]; simp [hk]
  have hlen : (setI m.items it).length = m.items.length := by simp [setI]
  have hcl := clsM_update hk hl
  have hym : y ∈ l ++ y :: r := by simp
  refine ⟨by simp only [hset]; simp, ⟨by simp only; rw [hkeys]; exact hd, by simp only; rw [hkeys]; exact hi.ok.keys, fun x hx => ?_⟩, ?_, fun x hx => ?_, hi.n1, by simp only [hlen]; exact hi.n2, by simp only [hlen]; exact hi.nd, fun y hy => by cases hy⟩
  · simp only at hx
    rw [hset] at hx
    rcases List.mem_append.1 hx with hx | hx
    · exact hi.ok.cls x (by rw [hitems]; exact List.mem_append.2 (.inl hx))
    · rcases List.mem_cons.1 hx with rfl | hx
      · rw [hcl]; exact hi.ok.cls y.it (by rw [hitems]; simp)
      · exact hi.ok.cls x (by rw [hitems]; exact List.mem_append.2 (.inr (List.mem_cons_of_mem _ hx)))
  · have := hi.chunks
    simpa using this
  · rcases List.mem_append.1 hx with hx | hx
    · exact hi.cls x (List.mem_append.2 (.inl hx))
    · rcases List.mem_cons.1 hx with rfl | hx
      · simp only; rw [hcl]; exact hi.cls y hym
      · exact hi.cls x (List.mem_append.2 (.inr (List.mem_cons_of_mem _ hx)))

theorem shard_update (p N : Nat) (m : SM) (it : It) (s : Sl) (hN : N < 2 ^ 31) (hs : s.2.1 = it.val.length) (hk : it.key.size < 2 ^ 60) :
    SpK P f_shard_Shard_Update #[.pointer (ad p), .agg (itV it s).toArray] s.1 s.2.1 (bytesV it.val) (Shard p N none m)
      (fun v h => v = .int .i64 (m.update it).2 ∧ Shard p N none (m.update it).1 h) := spK_of fun w h hkp H => by
  apply cl_shard_Shard_Update
  unfold c_shard_Shard_Update
  intro b1 w2 e1 e2 w3 e3
  have H := ((H.newCells (cs := itV it s) e1 e2).drew e3).swap
  obtain ⟨q, es, inn, N1, N2, seed, hi, H⟩ := H.shOpen
  have n1 := hi.n1
  have hgm : m.get it.key = (entOf es it.key).map (·.it) := by unfold SM.get; rw [← hi.items, getI_map]
  refine ⟨_, rfl, ad q.pt, by rw [add_mk, H.cell m0]; rfl, it.key, by rw [add_mk, H.cell m7]; rfl, ?_⟩
  refine H.swap.callV (table_get q.pt N1 seed (tabOf es) it.key (by omega) (by omega)) fun w6 H => ⟨_, _, rfl, ?_⟩
  rw [getL_tabOf]
  cases hg : entOf es it.key with
  | none =>
    have hu : m.update it = (m, 6) := by unfold SM.update; rw [hgm, hg]; rfl
    rw [hu]
    refine br (fun _ => ?_) fun hc => by simp at hc
    exact ((St.shMk hi H.swap).only m0).conv fun _ hs => ⟨rfl, hs⟩
  | some y =>
    obtain ⟨hym, hyk⟩ := entOf_some hg
    refine br (fun hc => by simp at hc) fun _ w11 e11 => ?_
    obtain ⟨l, r, rfl⟩ := List.append_of_mem hym
    have hgx : m.get it.key = some y.it := by rw [hgm, hg]; rfl
    have H := (H.drew e11).swap.pull7
    have H := H.entsOut.entOpen
    have hsk := small_key (hi.ok.cls y.it (by rw [← hi.items]; simp))
    -- [ent, val, Ents, cl, Tbl, Slab, Slru, Judge, Row, it]
    have hvl := (H.swap : St h w w11 (Row T_uint8 1 y.s.1 y.s.2.1 y.s.2.2 (bytesV y.it.val) :: _)).rowLen
    rw [bytesV_length] at hvl
    refine ⟨_, rfl, y.s.1, y.s.2.1, y.s.2.2, by rw [add_mk, add_mk, H.cell m0]; rfl, s.1, s.2.1, s.2.2, by rw [add_mk, H.cell m9]; rfl, br (fun hc => ?_) fun hc => ?_⟩
    · have hne : y.it.val.length ≠ it.val.length := by simp at hc; omega
      have hu : m.update it = (m, 1) := by unfold SM.update; rw [hgx]; exact if_pos hne
      rw [hu]
      have H := (St.entMk H).entsIn
      have H := H.pull7.pull7.pull7.pull7.pull7.pull7
      exact ((St.shMk (o := none) ⟨hi.items, hi.ok, hi.chunks, hi.cls, hi.n1, hi.n2, hi.nd, hi.old⟩ H).only m0).conv fun _ hs => ⟨rfl, hs⟩
    · have hel : y.it.val.length = it.val.length := by simp at hc; omega
      have hu : m.update it = ({ m with items := setI m.items it }, 0) := by unfold SM.update; rw [hgx]; exact if_neg (by simp [hel])
      rw [hu]
      refine ⟨it.key, s.1, s.2.1, s.2.2, it.flags, it.exp, it.cas, it.sec, it.seq, it.stale, it.won, it.seen, H.spanAll m9, ?_⟩
      refine H.emp.callKE hkp.pass (owned_sp it s (by omega)) fun s' w26 H => ⟨it.key, s'.1, s'.2.1, s'.2.2, it.flags, it.exp, it.cas, it.sec, it.seq, it.stale, it.won, it.seen, rfl, _, rfl, ?_⟩
      rw [add_mk]
      have H := H.swap
      refine ⟨H.wr m0 (by simp [itV, entCells]), fun w38 e38 => ?_⟩
      have H : St h w w38 (cl y.b T_shard_entry (itV it s' ++ [.int .i64 y.c.1, .int .i64 y.c.2]) :: _) := H.setSpan0 e38
      -- [ent, new, val, Ents, cl, Tbl, Slab, Slru, Judge, Row, it]
      have H := H.pull11.pull11.pull11.pull11.pull11.pull11.pull11.pull11.pull10.pull10
      have H := St.entsIn (l := l) (r := r) (x := ⟨it, y.b, s', y.c⟩) (St.entMk (x := ⟨it, y.b, s', y.c⟩) H)
      have H := H.pull7.pull7.pull7.pull7.pull7.pull7
      have htab : tabOf (l ++ y :: r) = tabOf (l ++ ⟨it, y.b, s', y.c⟩ :: r) := by simp [tabOf, hyk]
      rw [htab] at H
      exact ((St.shMk (p := p) (hi.turn (it := it) (s := s') hyk hel) H).only m0).conv fun _ hs => ⟨rfl, hs⟩
end
end Go.Bty
