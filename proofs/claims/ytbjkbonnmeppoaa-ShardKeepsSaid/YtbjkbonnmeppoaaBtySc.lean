/- The shard: dropping, finding, what is in use. -/
import Derived.Test.YtbjkbonnmeppoaaBtySb
namespace Go.Bty
open Go
open Go.Proofs.Try renaming prog → P

theorem strs_oneC (l : List ByteArray) : OneC (strs l) := fun u hu => by
  obtain ⟨b, _, rfl⟩ := List.mem_map.1 hu
  rfl
theorem strs_append (l q : List ByteArray) : strs (l ++ q) = strs l ++ strs q := List.map_append
theorem strs_length (l : List ByteArray) : (strs l).length = l.length := by simp [strs]

theorem getI_mem {l : List It} {k : ByteArray} {it : It} (h : getI l k = some it) : it ∈ l ∧ it.key = k :=
  ⟨List.mem_of_find?_eq_some h, by simpa using List.find?_some h⟩
theorem delI_len {l : List It} {k : ByteArray} (h : (getI l k).isSome = true) : (delI l k).length + 1 ≤ l.length := by
  obtain ⟨it, hi⟩ := Option.isSome_iff_exists.1 h
  obtain ⟨hm, hk⟩ := getI_mem hi
  obtain ⟨a, b, rfl⟩ := List.append_of_mem hm
  unfold delI
  rw [List.filter_append, List.filter_cons_of_neg (by simp [hk])]
  have h1 := List.length_filter_le (fun it : It => decide (it.key ≠ k)) a
  have h2 := List.length_filter_le (fun it : It => decide (it.key ≠ k)) b
  simp only [List.length_append, List.length_cons] at *
  omega

theorem SM.rem_drops (m : SM) (k : ByteArray) : (m.rem k).drops = m.drops := by
  unfold SM.rem; split <;> rfl
theorem SM.rem_budget (m : SM) (k : ByteArray) : (m.rem k).budget = m.budget := by
  unfold SM.rem; split <;> rfl
theorem SM.rem_most (m : SM) (k : ByteArray) : (m.rem k).most = m.most := by
  unfold SM.rem; split <;> rfl
theorem SM.rem_j (m : SM) (k : ByteArray) : (m.rem k).j = m.j := by
  unfold SM.rem; split <;> rfl
theorem SM.rem_items (m : SM) (k : ByteArray) : (m.rem k).items = delI m.items k := by
  unfold SM.rem
  split
  · rename_i h
    have : m.items.filter (fun it => decide (it.key ≠ k)) = m.items := List.filter_eq_self.2 fun it hi => by
      simp only [decide_eq_true_eq]
      intro e
      have := List.find?_eq_none.1 h it hi
      simp [e] at this
    exact this.symm
  · rfl

section
variable {h0 : Frag} {w0 w w' : World} {As : List HP} {p N : Nat} {o : Option (It × Nat)} {m : SM}
theorem St.shDrops (H : St h0 w0 w (Shard p N o m :: As)) : m.drops.length + m.items.length ≤ N := by
  obtain ⟨q, es, inn, N1, N2, seed, hi, H⟩ := H.shOpen
  exact hi.nd
theorem St.shOk (H : St h0 w0 w (Shard p N o m :: As)) : SOk m := by
  obtain ⟨q, es, inn, N1, N2, seed, hi, H⟩ := H.shOpen
  exact hi.ok

/-- A key that is there is dropped. -/
theorem shard_drop (p N : Nat) (o : Option (It × Nat)) (m : SM) (k : ByteArray) (hN : N < 2 ^ 31) (hg : (m.get k).isSome = true) (ho : ∀ y, o = some y → y.1.key ≠ k) :
    Sp P f_shard_Shard_drop #[.pointer (ad p), .string k] (Shard p N o m) (fun v h => v = .tuple #[] ∧ Shard p N o (m.drop k) h) := sp_of fun w h H => by
  apply cl_shard_Shard_drop
  unfold c_shard_Shard_drop
  have hok := H.shOk
  have nd0 := H.shDrops
  have hks := hok.get_small (hok.get_mem.1 hg)
  have hdl := delI_len hg
  refine H.callV (shard_remove p N o m k hN (by omega) ho) fun w2 H => ⟨_, rfl, ?_⟩
  obtain ⟨q, es, inn, N1, N2, seed, hi, H⟩ := H.shOpen
  have nd := hi.nd
  have hitems : es.map (·.it) = delI m.items k := by rw [hi.items, m.rem_items]
  refine ⟨_, rfl, q.d.1, q.d.2.1, q.d.2.2, by rw [add_mk, H.cell m0]; rfl, fun b6 w7 e6 e7 => ?_⟩
  have H := H.newCells (cs := [.string k]) e6 e7
  refine ⟨[.string k], ⟨rfl, H.spanAll m0⟩, ?_⟩
  have H := H.drop.pull6
  have hrl := H.rowLen
  rw [strs_length] at hrl
  have hdn : q.d.2.1 ≤ N := by omega
  refine H.rowAppend (by intro u hu; rw [List.mem_singleton.1 hu]; rfl) rfl rfl (by omega) fun a9 c10 w11 H => ?_
  refine ⟨_, rfl, by rw [add_mk]; exact H.stOk m1 (by simp [shCells]), fun w13 e13 => ?_⟩
  rw [add_mk] at e13
  have H := H.swap.set e13
  have H := H.pull6.pull6.pull6.pull6.pull5
  have e1 : strs (m.rem k).drops ++ [.string k] = strs (m.drops ++ [k]) := by rw [m.rem_drops, strs_append]; rfl
  rw [e1] at H
  refine (St.shMk (q := { q with d := (a9, q.d.2.1 + 1, c10) }) (m := m.drop k) ⟨hi.items, ⟨hi.ok.dist, hi.ok.keys, hi.ok.cls⟩, hi.chunks, hi.cls, hi.n1, hi.n2, ?_, hi.old⟩ H).conv fun _ hs => ⟨rfl, hs⟩
  have e2 : (m.drop k).items = delI m.items k := m.rem_items k
  have e3 : (m.drop k).drops = m.drops ++ [k] := rfl
  have := H.pull6.rowLen
  rw [m.rem_drops] at nd
  rw [e2, e3, List.length_append, List.length_singleton]
  rw [m.rem_items] at nd
  omega

theorem St.shWeak (H : St h0 w0 w (Shard p N o m :: As)) : St h0 w0 w (Shard p N none m :: As) := by
  obtain ⟨q, es, inn, N1, N2, seed, hi, H⟩ := H.shOpen
  exact St.shMk ⟨hi.items, hi.ok, hi.chunks, hi.cls, hi.n1, hi.n2, hi.nd, fun y hy => by cases hy⟩ H

/-- The entry of a key, if its item lives; what does not is dropped. -/
theorem shard_find (p N : Nat) (m : SM) (k : ByteArray) (e : Ev) (hN : N < 2 ^ 31) (hk : k.size < 2 ^ 62) :
    Sp P f_shard_Shard_find #[.pointer (ad p), .string k, .agg (evV e).toArray] (Shard p N none m)
      (fun v h => ((m.find k e).2 = none ∧ v = .pointer none ∧ Shard p N none (m.find k e).1 h) ∨ ∃ it b, (m.find k e).2 = some it ∧ v = .pointer (ad b) ∧ Shard p N (some (it, b)) (m.find k e).1 h) := sp_of fun w h H => by
  apply cl_shard_Shard_find
  unfold c_shard_Shard_find
  intro b1 w2 e1 e2
  obtain ⟨q, es, inn, N1, N2, seed, hi, H⟩ := H.shOpen
  have n1 := hi.n1
  have H := (H.newCells (cs := evV e) e1 e2)
  have hgm : m.get k = (entOf es k).map (·.it) := by unfold SM.get; rw [← hi.items, getI_map]
  refine ⟨_, rfl, ad q.pt, by rw [add_mk, H.cell m1]; rfl, ?_⟩
  refine H.pull3.callV (table_get q.pt N1 seed (tabOf es) k (by omega) hk) fun w6 H => ⟨_, _, rfl, ?_⟩
  rw [getL_tabOf]
  cases hg : entOf es k with
  | none =>
    have hf : m.find k e = (m, none) := by unfold SM.find; rw [hgm, hg]; rfl
    refine br (fun _ => ?_) fun hc => by simp at hc
    rw [hf]
    have H := (H.swap.drop).swap
    exact (St.shMk hi H).conv fun _ hs => .inl ⟨rfl, rfl, hs⟩
  | some x =>
    obtain ⟨hx, rfl⟩ := entOf_some hg
    have hgs : m.get x.it.key = some x.it := by rw [hgm, hg]; rfl
    refine br (fun hc => by simp at hc) fun _ => fun w9 e9 => ?_
    have H := H.drew e9
    -- [Tbl, ev, cl, Slab, Slru, Judge, Row, Ents]
    have H := H.pull3.pull3.pull8
    obtain ⟨l, r, rfl⟩ := List.append_of_mem hx
    have HE := H.entsOut.entOpen
    refine ⟨_, rfl, x.it.key, x.s.1, x.s.2.1, x.s.2.2, x.it.flags, x.it.exp, x.it.cas, x.it.sec, x.it.seq, x.it.stale, x.it.won, x.it.seen, ?_, e.now, e.seq, e.flush, e.flushSeq, ?_, ?_⟩
    · refine HE.span m0 fun i v hv => ?_
      rw [Nat.zero_add]
      unfold entCells
      rw [List.getElem?_append_left (List.getElem?_eq_some_iff.1 hv).1]
      exact hv
    · exact H.spanAll m1
    refine H.pure (live_sp x.it x.s e) fun w26 H => ⟨_, rfl, ?_⟩
    have HS := St.shMk (p := p) ⟨hi.items, hi.ok, hi.chunks, hi.cls, hi.n1, hi.n2, hi.nd, fun y (hy : some (x.it, x.b) = some y) => by cases hy; exact ⟨x, hx, rfl, rfl⟩⟩ (H.swap.drop.pull7.pull7.pull7.pull7.pull7.pull7)
    refine br (fun hc => ?_) fun hc => ?_
    · have hl : liveM x.it e = false := by simpa using hc
      have hf : m.find x.it.key e = (m.drop x.it.key, none) := by unfold SM.find; rw [hgs]; simp [hl]
      refine HS.shWeak.callV (shard_drop p N none m x.it.key hN (by rw [hgs]; rfl) (fun y hy => by cases hy)) fun w29 H => ⟨rfl, ?_⟩
      rw [hf]
      exact H.conv fun _ hs => .inl ⟨rfl, rfl, hs⟩
    · have hl : liveM x.it e = true := by simpa using hc
      have hf : m.find x.it.key e = (m, some x.it) := by unfold SM.find; rw [hgs]; simp [hl]
      rw [hf]
      exact HS.conv fun _ hs => .inr ⟨x.it, x.b, rfl, rfl, hs⟩

/-- What was dropped is handed over. -/
theorem shard_drops (p N : Nat) (m : SM) : Sp P f_shard_Shard_Drops #[.pointer (ad p)] (Shard p N none m)
    (fun v h => ∃ d : Sl, v = .slice d.1 d.2.1 d.2.2 ∧ SepL [Shard p N none { m with drops := [] }, Row T_string 1 d.1 d.2.1 d.2.2 (strs m.drops)] h) := sp_of fun w h H => by
  apply cl_shard_Shard_Drops
  unfold c_shard_Shard_Drops
  obtain ⟨q, es, inn, N1, N2, seed, hi, H⟩ := H.shOpen
  refine ⟨_, rfl, q.d.1, q.d.2.1, q.d.2.2, by rw [add_mk, H.cell m0]; rfl, _, rfl, by rw [add_mk]; exact H.stOk m0 (by simp [shCells]), fun w4 e4 => ?_⟩
  rw [add_mk] at e4
  have H := (H.set e4).rowNil (T := T_string) (sz := 1)
  have H := H.pull8.swap.pull7.pull7.pull7.pull7.pull7
  have nd := hi.nd
  have HS := St.shMk (p := p) (q := { q with d := (none, 0, 0) }) (m := { m with drops := [] }) ⟨hi.items, ⟨hi.ok.dist, hi.ok.keys, hi.ok.cls⟩, hi.chunks, hi.cls, hi.n1, hi.n2, by simp only [List.length_nil]; omega, hi.old⟩ H
  exact (St.join [_, _] HS).conv fun _ hs => ⟨q.d, rfl, hs⟩

theorem sumZ_perm {l q : List (Int × Int)} (h : l.Perm q) : sumZ l = sumZ q := by
  induction h with
  | nil => rfl
  | cons x _ ih => simp only [sumZ, ih]
  | swap x y l => simp only [sumZ]; omega
  | trans _ _ a b => exact a.trans b
theorem usedL_es {es : List En} (h : ∀ x ∈ es, x.c.1 = clsM x.it) : sumZ (es.map (·.c)) = usedL (es.map (·.it)) := by
  induction es with
  | nil => rfl
  | cons x es ih =>
    have := ih fun y hy => h y (List.mem_cons_of_mem _ hy)
    have hx := h x (List.mem_cons_self ..)
    simp only [List.map_cons, sumZ, usedL, List.foldr_cons] at *
    rw [this, hx]
theorem SInv.used {es : List En} {inn : List (Int × Int)} {N1 N2 : Nat} (h : SInv N o m es inn N1 N2) : sumZ inn = m.used := by
  rw [sumZ_perm h.chunks, usedL_es h.cls, h.items]; rfl

theorem shard_used (p N : Nat) (m : SM) : Sp P f_shard_Shard_Used #[.pointer (ad p)] (Shard p N none m) (fun v h => v = .int .i64 m.used ∧ Shard p N none m h) := sp_of fun w h H => by
  apply cl_shard_Shard_Used
  unfold c_shard_Shard_Used
  obtain ⟨q, es, inn, N1, N2, seed, hi, H⟩ := H.shOpen
  refine ⟨_, rfl, ad q.ps, by rw [add_mk, H.cell m0]; rfl, ?_⟩
  refine H.pull3.callV (slab_used q.ps N2 m.budget inn) fun w4 H => ⟨_, rfl, ?_⟩
  rw [hi.used]
  exact (St.shMk hi H.pull3.pull3).conv fun _ hs => ⟨rfl, hs⟩

theorem shard_len (p N : Nat) (m : SM) : Sp P f_shard_Shard_Len #[.pointer (ad p)] (Shard p N none m) (fun v h => v = .int .i64 m.items.length ∧ Shard p N none m h) := sp_of fun w h H => by
  apply cl_shard_Shard_Len
  unfold c_shard_Shard_Len
  obtain ⟨q, es, inn, N1, N2, seed, hi, H⟩ := H.shOpen
  refine ⟨_, rfl, ad q.pt, by rw [add_mk, H.cell m0]; rfl, ?_⟩
  refine H.swap.callV (table_len q.pt N1 seed (tabOf es)) fun w4 H => ⟨_, rfl, ?_⟩
  have e : (tabOf es).length = m.items.length := by rw [← hi.items]; simp [tabOf]
  rw [e]
  exact (St.shMk hi H.swap).conv fun _ hs => ⟨rfl, hs⟩

theorem shard_new (seed budget most : Int) : Sp P f_shard_New #[.int .u64 seed, .int .i64 budget, .int .i64 most] (fun _ => True) (fun v h => ∃ p, v = .pointer (ad p) ∧ Shard p 0 none (SM.new seed budget most) h) := sp_of fun w h H => by
  apply cl_shard_New
  unfold c_shard_New
  refine H.callE (table_new seed) fun pt w2 H => ⟨_, rfl, ?_⟩
  refine H.emp.callE (slab_new budget) fun ps w5 H => ⟨_, rfl, ?_⟩
  refine H.emp.callE (slru_new most) fun pl w8 H => ⟨_, rfl, ?_⟩
  refine H.emp.callE (tiny_new seed) fun pj w11 H => ⟨_, rfl, fun b13 w14 e13 e14 => ?_⟩
  have H := (H.newCells (cs := shCells ⟨pt, ps, pl, pj, (none, 0, 0)⟩) e13 e14)
  -- [cl, Judge, Slru, Slab, Tbl]
  have H := H.pull3.pull4.pull5.pull4
  have H := (St.join ([] : List HP) H).rowNil (T := T_string) (sz := 1)
  -- [Row, Ents, cl, Tbl, Slab, Slru, Judge]
  have H := H.pull7.pull7.pull7.pull7.pull7
  exact (St.shMk (q := ⟨pt, ps, pl, pj, (none, 0, 0)⟩) (es := []) (N := 0) (o := none) (m := SM.new seed budget most) ⟨rfl, ⟨List.nodup_nil, List.Perm.refl _, fun it hi => by cases hi⟩, List.Perm.refl _, (fun x hx => by cases hx), Nat.le_refl _, Nat.le_refl _, Nat.le_refl _, fun y hy => by cases hy⟩ H).conv fun _ hs => ⟨b13, rfl, hs⟩

theorem hitM_perm {most : Int} {tk sk : List ByteArray} {k : ByteArray} (hd : (tk ++ sk).Nodup) (hk : k ∈ tk ++ sk) : ((hitM most tk sk k).1 ++ (hitM most tk sk k).2).Perm (tk ++ sk) := by
  have h1 : (tk.erase k ++ (sk.erase k ++ [k])).Perm (tk ++ sk) := by
    rw [← List.append_assoc]
    rw [List.nodup_append] at hd
    rw [hd.1.erase_eq_filter, hd.2.1.erase_eq_filter, ← List.filter_append]
    have hn : (tk ++ sk).Nodup := List.nodup_append.2 hd
    rw [← hn.erase_eq_filter]
    exact (List.perm_append_comm (l₁ := (tk ++ sk).erase k) (l₂ := [k])).trans (List.perm_cons_erase hk).symm
  unfold hitM
  simp only
  split
  · rw [List.append_assoc, List.take_append_drop]; exact h1
  · exact h1

theorem shard_use (p N : Nat) (m : SM) (k : ByteArray) (hN : N < 2 ^ 31) (hk : k.size < 2 ^ 62) : Sp P f_shard_Shard_Use #[.pointer (ad p), .string k] (Shard p N none m) (fun v h => v = .tuple #[] ∧ Shard p N none (m.use k) h) := sp_of fun w h H => by
  apply cl_shard_Shard_Use
  unfold c_shard_Shard_Use
  obtain ⟨q, es, inn, N1, N2, seed, hi, H⟩ := H.shOpen
  have hkl := hi.ok.keys.length_eq
  have n2 := hi.n2
  simp only [List.length_append, List.length_map] at hkl
  have hnd := hi.ok.keys.nodup_iff.2 hi.ok.dist
  refine ⟨_, rfl, ad q.pj, by rw [add_mk, H.cell m0]; rfl, ?_⟩
  refine H.pull5.callV (tiny_touch q.pj m.j k hk) fun w4 H => ⟨rfl, _, rfl, ad q.pl, by rw [add_mk, H.cell m1]; rfl, ?_⟩
  refine H.pull5.call (slru_hit q.pl m.most m.tk m.sk k (by omega)) fun v w8 H => ?_
  obtain ⟨n, hn⟩ : ∃ n, v = .int .i64 n := H.facts fun _ hh => by
    rcases hh with ⟨_, h, _⟩ | ⟨_, h, _⟩
    · exact ⟨_, h⟩
    · exact ⟨_, h⟩
  refine ⟨n, hn, ?_⟩
  have H := H.pull5.pull5.pull5
  by_cases hm : k ∈ m.tk ++ m.sk
  · have H := H.pull4.conv (A' := Slru q.pl m.most (hitM m.most m.tk m.sk k).1 (hitM m.most m.tk m.sk k).2) fun _ hh => by
      rcases hh with ⟨h1, _⟩ | ⟨_, _, h3⟩
      · exact absurd hm h1
      · exact h3
    have e : m.use k = { m with j := touchM m.j k, tk := (hitM m.most m.tk m.sk k).1, sk := (hitM m.most m.tk m.sk k).2 } := by unfold SM.use; rw [if_pos hm]
    rw [e]
    exact (St.shMk (p := p) (m := { m with j := touchM m.j k, tk := (hitM m.most m.tk m.sk k).1, sk := (hitM m.most m.tk m.sk k).2 }) ⟨hi.items, ⟨hi.ok.dist, (hitM_perm hnd hm).trans hi.ok.keys, hi.ok.cls⟩, hi.chunks, hi.cls, hi.n1, hi.n2, hi.nd, hi.old⟩ H.pull4.pull4.pull4).conv fun _ hs => ⟨rfl, hs⟩
  · have H := H.pull4.conv (A' := Slru q.pl m.most m.tk m.sk) fun _ hh => by
      rcases hh with ⟨_, _, h3⟩ | ⟨h1, _⟩
      · exact h3
      · exact absurd h1 hm
    have e : m.use k = { m with j := touchM m.j k } := by unfold SM.use; rw [if_neg hm]
    rw [e]
    exact (St.shMk (p := p) (m := { m with j := touchM m.j k }) ⟨hi.items, ⟨hi.ok.dist, hi.ok.keys, hi.ok.cls⟩, hi.chunks, hi.cls, hi.n1, hi.n2, hi.nd, hi.old⟩ H.pull4.pull4.pull4).conv fun _ hs => ⟨rfl, hs⟩
end
end Go.Bty
