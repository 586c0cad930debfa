/- The shard: Store, Look, Update. -/
import Derived.Test.YtbjkbonnmeppoaaBtySe
namespace Go.Bty
open Go
open Go.Proofs.Try renaming prog → P

theorem SM.fits_iff {m : SM} {a b : Int} : m.fits a b = true ↔ classN a < 6 ∧ 0 ≤ b ∧ b ≤ m.used ∧ m.used - b + bytesZ (classN a) ≤ m.budget := by
  unfold SM.fits
  simp only [decide_eq_true_eq]

section
variable {h0 : Frag} {w0 w w' : World} {As : List HP} {p N : Nat} {o : Option (It × Nat)} {m : SM}

theorem entSet {it it' : It} {s s' : Sl} {c : Int × Int} : setL (itV it s ++ [.int .i64 c.1, .int .i64 c.2]) (0 + 0) (itV it' s') = itV it' s' ++ [.int .i64 c.1, .int .i64 c.2] := rfl
theorem entSetC {it : It} {s : Sl} {c c' : Int × Int} : setL (itV it s ++ [.int .i64 c.1, .int .i64 c.2]) (0 + 10) [.int .i64 c'.1, .int .i64 c'.2] = itV it s ++ [.int .i64 c'.1, .int .i64 c'.2] := rfl

theorem shard_store (p N : Nat) (m : SM) (it : It) (s : Sl) (e : Ev) (hN : N + 2 < 2 ^ 31) (hs : s.2.1 = it.val.length) (hk : it.key.size < 2 ^ 60) (hv : it.val.length < 2 ^ 60) :
    SpK P f_shard_Shard_Store #[.pointer (ad p), .agg (itV it s).toArray, .agg (evV e).toArray] s.1 s.2.1 (bytesV it.val) (Shard p N none m)
      (fun v h => v = .int .i64 (m.store it e).2 ∧ Shard p (N + 2) none (m.store it e).1 h) := spK_of fun w h hkp H => by
  apply cl_shard_Shard_Store
  unfold c_shard_Shard_Store
  intro b1 w2 e1 e2 b3 w4 e3 e4
  have H := ((H.newCells (cs := itV it s) e1 e2).newCells (cs := evV e) e3 e4).pull3
  -- [Shard, ev, it]
  refine ⟨it.key, s.1, s.2.1, s.2.2, it.flags, it.exp, it.cas, it.sec, it.seq, it.stale, it.won, it.seen, H.spanAll m2, ?_⟩
  refine H.pure (size_sp it s hs hk hv) fun w16 H => ⟨_, rfl, ?_⟩
  refine H.pure (class_sp _) fun w19 H => ?_
  by_cases hc : clsM it < 6
  rotate_left
  · have hc6 : clsM it = 6 := by have := classN_le_six (sizeM it); unfold clsM at *; omega
    refine ⟨0, 4, by rw [classV]; exact if_neg hc, br (fun _ => ?_) fun hh => by simp at hh⟩
    have hst : m.store it e = (m, 4) := by unfold SM.store; rw [if_pos hc6]
    rw [hst]
    exact ((H.only m0).shUp (by omega)).conv fun _ hs => ⟨rfl, hs⟩
  have hsz := small_of hc
  have hsk := small_key hc
  have hc6 : ¬ clsM it = 6 := by omega
  refine ⟨clsM it, 0, by rw [classV]; exact if_pos hc, br (fun hh => by simp at hh) fun _ => ?_⟩
  refine ⟨it.key, by rw [add_mk, H.cell m2]; rfl, e.now, e.seq, e.flush, e.flushSeq, H.spanAll m1, ?_⟩
  have hst : m.store it e = (if (SM.room ((m.find it.key e).1.items.length + 1) (m.find it.key e).1 it (m.find it.key e).2 e).2 ≠ 0 then SM.room ((m.find it.key e).1.items.length + 1) (m.find it.key e).1 it (m.find it.key e).2 e else
      match (m.find it.key e).2 with
      | some _ => ({ (SM.room ((m.find it.key e).1.items.length + 1) (m.find it.key e).1 it (m.find it.key e).2 e).1 with items := setI (SM.room ((m.find it.key e).1.items.length + 1) (m.find it.key e).1 it (m.find it.key e).2 e).1.items it }, 0)
      | none => ({ (SM.room ((m.find it.key e).1.items.length + 1) (m.find it.key e).1 it (m.find it.key e).2 e).1 with items := (SM.room ((m.find it.key e).1.items.length + 1) (m.find it.key e).1 it (m.find it.key e).2 e).1.items ++ [it], tk := (SM.room ((m.find it.key e).1.items.length + 1) (m.find it.key e).1 it (m.find it.key e).2 e).1.tk ++ [it.key] }, 0)) := by
    unfold SM.store; rw [if_neg hc6]; rfl
  rw [hst]
  have hok := H.shOk
  refine H.call (shard_find p N m it.key e (by omega) (by omega)) fun v w28 H => ?_
  obtain ⟨_, hres, hback⟩ := H.opn
  rcases hres with ⟨hf2, rfl, hS⟩ | ⟨x, b, hf2, rfl, hS⟩
  · -- the key has nothing
    replace H := hback [_] (sepL_one hS)
    clear hback
    have hgn := find_none hf2
    generalize hmf : (m.find it.key e).1 = mf at *
    rw [hf2]
    refine ⟨_, rfl, it.key, s.1, s.2.1, s.2.2, it.flags, it.exp, it.cas, it.sec, it.seq, it.stale, it.won, it.seen, H.spanAll m2, e.now, e.seq, e.flush, e.flushSeq, H.spanAll m1, ?_⟩
    have hok1 := H.shOk
    refine H.callV (shard_room_none p N mf it s e (by omega) hs hk hv) fun w45 H => ⟨_, rfl, ?_⟩
    have hfit := room_fits (it := it) (o := none) (e := e) (mf.items.length + 1) hok1 (by omega)
    have hgn2 := room_get_none (it := it) (o := none) (e := e) (mf.items.length + 1) hgn
    generalize hr : SM.room (mf.items.length + 1) mf it none e = r at *
    obtain ⟨mr, z⟩ := r
    simp only at H hfit hgn2 ⊢
    refine br (fun hz => ?_) fun hz => ?_
    · rw [if_pos (by simpa using hz)]
      exact ((H.only m0).shUp (by omega)).conv fun _ hs => ⟨rfl, hs⟩
    have hz0 : z = 0 := by simpa using hz
    subst hz0
    rw [if_neg (by simp)]
    obtain ⟨_, _, _, hfit⟩ := SM.fits_iff.1 (hfit rfl)
    refine br (fun hh => by simp at hh) fun _ => ?_
    intro b104 w105 e104 e105 w106 e106
    have H := (H.newCells (cs := itV ⟨⟨#[]⟩, [], 0, 0, 0, 0, 0, false, false, false⟩ (none, 0, 0) ++ [.int .i64 (0, 0).1, .int .i64 (0, 0).2]) e104 e105).drew e106
    obtain ⟨q, es, inn, N1, N2, seed, hi, H⟩ := H.swap.shOpen
    have n1 := hi.n1
    have n2 := hi.n2
    have nd := hi.nd
    have hu := hi.used
    have hkm : it.key ∉ mr.items.map (·.key) := fun hm => by
      have := getI_isSome.2 hm
      unfold SM.get at hgn2
      rw [hgn2] at this; cases this
    have hke : it.key ∉ (tabOf es).map (·.1) := fun hm => hkm (by
      rw [← hi.items]
      simpa [tabOf] using hm)
    refine ⟨_, rfl, ad q.pt, by rw [add_mk, H.cell m0]; rfl, it.key, by rw [add_mk, H.cell m9]; rfl, ?_⟩
    refine H.swap.callV (table_put q.pt N1 seed (tabOf es) it.key (ad b104) (by omega) (by omega) hke) fun w111 H => ⟨rfl, fun w112 e112 => ?_⟩
    have H := H.drew e112
    refine ⟨_, rfl, ad q.pl, by rw [add_mk, H.cell m1]; rfl, it.key, by rw [add_mk, H.cell m9]; rfl, ?_⟩
    have hks : it.key ∉ mr.tk ++ mr.sk := fun hm => hkm (hi.ok.keys.mem_iff.1 hm)
    have hkl := hi.ok.keys.length_eq
    simp only [List.length_append, List.length_map] at hkl
    refine H.pull4.call (slru_add q.pl mr.most mr.tk mr.sk it.key (by omega)) fun v w117 H => ?_
    have hv1 : v = .int .i64 0 := H.facts fun _ hh => by
      rcases hh with ⟨h1, _⟩ | ⟨_, h2, _⟩
      · exact absurd h1 hks
      · exact h2
    replace H := H.conv (A' := Slru q.pl mr.most (mr.tk ++ [it.key]) mr.sk) fun _ hh => by
      rcases hh with ⟨h1, _⟩ | ⟨_, _, h3⟩
      · exact absurd h1 hks
      · exact h3
    -- [Slru, Tbl, cl, Slab, Judge, Row, Ents, new, ev, it]
    refine ⟨0, hv1, it.key, s.1, s.2.1, s.2.2, it.flags, it.exp, it.cas, it.sec, it.seq, it.stale, it.won, it.seen, H.spanAll m9, ?_⟩
    refine H.emp.callKE hkp.pass (owned_sp it s (by omega)) fun s' w130 H => ⟨it.key, s'.1, s'.2.1, s'.2.2, it.flags, it.exp, it.cas, it.sec, it.seq, it.stale, it.won, it.seen, rfl, _, rfl, ?_⟩
    -- [val, True, Slru, Tbl, cl, Slab, Judge, Row, Ents, new, ev, it]
    rw [add_mk]
    have H := H.pull9
    refine ⟨H.wr m0 (by simp [itV]), fun w142 e142 w143 e143 => ?_⟩
    have H := (H.setSpan0 e142).drew e143
    have H : St h w w143 (cl b104 T_shard_entry (itV it s' ++ [.int .i64 (0, 0).1, .int .i64 (0, 0).2]) :: _) := H
    refine ⟨_, rfl, ad q.ps, by rw [add_mk, H.cell m4]; rfl, it.key, s.1, s.2.1, s.2.2, it.flags, it.exp, it.cas, it.sec, it.seq, it.stale, it.won, it.seen, H.spanAll m10, ?_⟩
    refine H.pure (size_sp it s hs hk hv) fun w157 H => ⟨_, rfl, ⟨_, by rw [add_mk, H.cell m4]; rfl, rfl⟩, ?_⟩
    have H := H.pull6
    refine H.call (slab_take q.ps N2 mr.budget (sizeM it) inn (by omega) hc (by rw [hu]; simp only [lessM] at hfit; omega)) fun v w161 H => ?_
    obtain ⟨_, ⟨no, hno, rfl, hB⟩, hback⟩ := H.opn
    replace H := hback [_] (sepL_one hB)
    clear hback
    refine ⟨clsM it, no, 0, rfl, _, rfl, ?_⟩
    rw [add_mk]
    have H := H.swap
    refine ⟨H.wr m0 (by simp [itV]), fun w166 e166 => ?_⟩
    have H := H.setSpan0 e166
    have hsc := entSetC (it := it) (s := s') (c := (0, 0)) (c' := ((clsM it : Int), no))
    rw [hsc] at H
    -- [new, Slab, val, Slru, Tbl, cl, Judge, Row, Ents, ev, it]
    have H := H.pull9.pull4.pull3
    have H := (St.entMk (x := ⟨it, b104, s', ((clsM it : Int), no)⟩) H)
    have H := St.entsIn (l := es) (r := []) (x := ⟨it, b104, s', ((clsM it : Int), no)⟩) (by rw [List.append_nil]; exact H)
    have H := H.pull7.pull7.pull5.pull5.pull6.pull7
    have htab : tabOf es ++ [(it.key, ad b104)] = tabOf (es ++ [⟨it, b104, s', ((clsM it : Int), no)⟩]) := by simp [tabOf]
    rw [htab] at H
    refine ((St.shMk (p := p) (N := N + 2) (o := none) (m := { mr with items := mr.items ++ [it], tk := mr.tk ++ [it.key] }) ⟨by simp [hi.items], ⟨?_, ?_, fun y hy => ?_⟩, ?_, fun y hy => ?_, by omega, by simp; omega, by simp; omega, fun y hy => by cases hy⟩ H).only m0).conv fun _ hs => ⟨rfl, hs⟩
    · simp only [List.map_append, List.map_cons, List.map_nil]
      rw [List.nodup_append]
      exact ⟨hi.ok.dist, by simp, fun a ha b hb hab => by
        rw [List.mem_singleton] at hb
        rw [hab, hb] at ha
        exact hkm ha⟩
    · simp only [List.map_append, List.map_cons, List.map_nil]
      have h1 : (mr.tk ++ [it.key] ++ mr.sk).Perm (it.key :: (mr.tk ++ mr.sk)) := by
        rw [List.append_assoc]; exact List.perm_middle
      exact (h1.trans (hi.ok.keys.cons _)).trans (List.perm_append_comm (l₁ := [it.key]))
    · simp only at hy
      rcases List.mem_append.1 hy with hy | hy
      · exact hi.ok.cls y hy
      · rw [List.mem_singleton.1 hy]; exact hc
    · rw [List.map_append]
      exact (hi.chunks.cons _).trans (List.perm_append_comm (l₁ := [((clsM it : Int), no)]))
    · rcases List.mem_append.1 hy with hy | hy
      · exact hi.cls y hy
      · rw [List.mem_singleton.1 hy]
  · -- the key has an item
    replace H := hback [_] (sepL_one hS)
    clear hback
    obtain ⟨hm1, hgx, hxk, _⟩ := find_key (m' := (m.find it.key e).1) (it := x) (e := e) (k := it.key) (m := m) (by rw [← hf2])
    rw [hf2]
    rw [hm1] at H ⊢
    refine ⟨_, rfl, it.key, s.1, s.2.1, s.2.2, it.flags, it.exp, it.cas, it.sec, it.seq, it.stale, it.won, it.seen, H.spanAll m2, e.now, e.seq, e.flush, e.flushSeq, H.spanAll m1, ?_⟩
    refine H.callV (shard_room_some p N m it x s b e (by omega) hxk hs hk hv) fun w45 H => ⟨_, rfl, ?_⟩
    have hfit := room_fits (it := it) (o := some x) (e := e) (m.items.length + 1) hok (by omega)
    generalize hr : SM.room (m.items.length + 1) m it (some x) e = r at *
    obtain ⟨mr, z⟩ := r
    simp only at H hfit ⊢
    refine br (fun hz => ?_) fun hz => ?_
    · rw [if_pos (by simpa using hz)]
      exact (((H.only m0).shWeak).shUp (by omega)).conv fun _ hs => ⟨rfl, hs⟩
    have hz0 : z = 0 := by simpa using hz
    subst hz0
    rw [if_neg (by simp)]
    obtain ⟨_, _, hfu, hfit⟩ := SM.fits_iff.1 (hfit rfl)
    refine br (fun _ => ?_) fun hh => by simp [ad] at hh
    intro w47 e47
    obtain ⟨q, es, inn, N1, N2, seed, hi, H⟩ := (H.drew e47).shOpen
    have n1 := hi.n1
    have n2 := hi.n2
    have nd := hi.nd
    have hu := hi.used
    obtain ⟨y, hym, hyx, hyb⟩ := hi.old _ rfl
    simp only at hyx hyb
    subst hyx hyb
    obtain ⟨l, r, rfl⟩ := List.append_of_mem hym
    have hlen : mr.items.length = (l ++ r).length + 1 := by rw [← hi.items]; simp; omega
    have H := H.pull7
    have H := H.entsOut.entOpen
    -- [ent, val, Ents, cl, Tbl, Slab, Slru, Judge, Row, ev, it]
    refine ⟨_, rfl, ad q.ps, by rw [add_mk, H.cell m3]; rfl, _, rfl, y.c.1, y.c.2, ?_, ?_⟩
    · rw [add_mk]
      refine H.span m0 fun i v hv => ?_
      match i, hv with
      | 0, hv => exact hv
      | 1, hv => exact hv
    have hin : y.c ∈ inn := hi.chunks.mem_iff.2 (by simp)
    refine H.pull6.callV (slab_free q.ps N2 mr.budget inn y.c (by omega) hin) fun w54 H => ⟨_, rfl, ?_⟩
    -- [Slab, ent, val, Ents, cl, Tbl, Slru, Judge, Row, ev, it]
    refine ⟨it.key, s.1, s.2.1, s.2.2, it.flags, it.exp, it.cas, it.sec, it.seq, it.stale, it.won, it.seen, H.spanAll m10, ?_⟩
    refine H.emp.callKE hkp.pass (owned_sp it s (by omega)) fun s' w67 H => ⟨it.key, s'.1, s'.2.1, s'.2.2, it.flags, it.exp, it.cas, it.sec, it.seq, it.stale, it.won, it.seen, rfl, _, rfl, ?_⟩
    -- [new, True, Slab, ent, val, Ents, cl, Tbl, Slru, Judge, Row, ev, it]
    rw [add_mk]
    have H := H.pull12.pull12.pull12.pull12.pull12.pull12.pull12.pull12.pull10.pull10.pull11
    refine ⟨H.wr m0 (by simp [itV, entCells]), fun w79 e79 w80 e80 => ?_⟩
    have H := (H.setSpan0 e79).drew e80
    have hes : setL (entCells y) (0 + 0) (itV it s') = itV it s' ++ [.int .i64 y.c.1, .int .i64 y.c.2] := rfl
    rw [hes] at H
    refine ⟨_, rfl, ad q.ps, by rw [add_mk, H.cell m4]; rfl, it.key, s.1, s.2.1, s.2.2, it.flags, it.exp, it.cas, it.sec, it.seq, it.stale, it.won, it.seen, H.spanAll m10, ?_⟩
    refine H.pure (size_sp it s hs hk hv) fun w157 H => ⟨_, rfl, ⟨_, by rw [add_mk, H.cell m4]; rfl, rfl⟩, ?_⟩
    have H := H.pull3
    -- [Slab, ent, new, Ents, cl, Tbl, Slru, Judge, Row, ev, it, val]
    have hse : sumZ (inn.erase y.c) = mr.used - bytesZ (clsM y.it) := by
      rw [sumZ_erase hin, hu, hi.cls y hym]
    refine H.call (slab_take q.ps (N2 + 1) mr.budget (sizeM it) (inn.erase y.c) (by omega) hc (by rw [hse]; simp only [lessM] at hfit; omega)) fun v w161 H => ?_
    obtain ⟨_, ⟨no, hno, rfl, hB⟩, hback⟩ := H.opn
    replace H := hback [_] (sepL_one hB)
    clear hback
    refine ⟨clsM it, no, 0, rfl, _, rfl, ?_⟩
    rw [add_mk]
    have H := H.swap
    refine ⟨H.wr m0 (by simp [itV]), fun w166 e166 => ?_⟩
    have H := H.setSpan0 e166
    have hsc := entSetC (it := it) (s := s') (c := y.c) (c' := ((clsM it : Int), no))
    rw [hsc] at H
    have H := H.pull6.pull6.pull6.pull6.pull5
    have H := (St.entMk (x := ⟨it, y.b, s', ((clsM it : Int), no)⟩) H)
    have H := St.entsIn (l := l) (r := r) (x := ⟨it, y.b, s', ((clsM it : Int), no)⟩) H
    have H := H.pull7.pull7.pull7.pull7.pull7.pull7
    have htab : tabOf (l ++ y :: r) = tabOf (l ++ ⟨it, y.b, s', ((clsM it : Int), no)⟩ :: r) := by simp [tabOf, hxk]
    rw [htab] at H
    have hinn : (inn.erase y.c).Perm ((l ++ r).map (·.c)) := by
      refine (hi.chunks.erase y.c).trans ?_
      rw [List.map_append, List.map_cons]
      refine ((List.perm_middle (l₁ := l.map (·.c)) (a := y.c) (l₂ := r.map (·.c))).erase y.c).trans ?_
      rw [List.erase_cons_head, List.map_append]
    have hinv := hi.swap (it := it) (s := s') (c := ((clsM it : Int), no)) (inn' := ((clsM it : Int), no) :: inn.erase y.c) (N2' := N2 + 1 + 1) hxk rfl hc (hinn.cons _) (by omega)
    exact ((St.shMk (p := p) hinv H).only m0).conv fun _ hs => ⟨rfl, hs⟩
end
end Go.Bty
