/- The shard: how it lies in memory. -/
import Derived.Test.YtbjkbonnmeppoaaBtySa
import Derived.Test.YtbjkbonnmeppoaaBtyZb
namespace Go.Bty
open Go
open Go.Proofs.Try renaming prog → P

/-- An entry: its item, its block, where its value lies, its chunk. -/
structure En where
  it : It
  b : Nat
  s : Sl
  c : Int × Int

def entCells (x : En) : List Value := itV x.it x.s ++ [.int .i64 x.c.1, .int .i64 x.c.2]
def entHP (x : En) : HP := SepL [cl x.b T_shard_entry (entCells x), BRow x.s x.it.val]
def Ents (es : List En) : HP := SepL (es.map entHP)
def tabOf (es : List En) : List Pr := es.map fun x => (x.it.key, ad x.b)
def strs (l : List ByteArray) : List Value := l.map .string
def entOf (es : List En) (k : ByteArray) : Option En := es.find? fun x => decide (x.it.key = k)
def delE (es : List En) (k : ByteArray) : List En := es.filter fun x => decide (x.it.key ≠ k)

theorem getL_tabOf (es : List En) (k : ByteArray) : getL (tabOf es) k = (entOf es k).map fun x => ad x.b := by
  unfold getL tabOf entOf
  rw [List.find?_map, Option.map_map]
  rfl
theorem getI_map (es : List En) (k : ByteArray) : getI (es.map (·.it)) k = (entOf es k).map (·.it) := by
  unfold getI entOf
  rw [List.find?_map]
  rfl
theorem delI_map (es : List En) (k : ByteArray) : delI (es.map (·.it)) k = (delE es k).map (·.it) := by
  unfold delI delE
  rw [List.filter_map]
  rfl
theorem tabOf_del (es : List En) (k : ByteArray) : ((tabOf es).filter fun y => decide (y.1 ≠ k)) = tabOf (delE es k) := by
  unfold tabOf delE
  rw [List.filter_map]
  rfl
theorem entOf_some {es : List En} {k : ByteArray} {x : En} (h : entOf es k = some x) : x ∈ es ∧ x.it.key = k :=
  ⟨List.mem_of_find?_eq_some h, by simpa using List.find?_some h⟩
theorem del_split {l r : List En} {x : En} (hd : ((l ++ x :: r).map (·.it.key)).Nodup) : delE (l ++ x :: r) x.it.key = l ++ r := by
  rw [List.map_append, List.map_cons, List.nodup_append] at hd
  obtain ⟨_, h2, h3⟩ := hd
  rw [List.nodup_cons] at h2
  unfold delE
  rw [List.filter_append, List.filter_cons_of_neg (by simp)]
  congr 1
  · rw [List.filter_eq_self]
    intro y hy
    simp only [decide_eq_true_eq]
    intro e
    exact h3 _ (List.mem_map.2 ⟨y, hy, rfl⟩) _ (List.mem_cons_self ..) e
  · rw [List.filter_eq_self]
    intro y hy
    simp only [decide_eq_true_eq]
    intro e
    exact h2.1 (List.mem_map.2 ⟨y, hy, e⟩)

structure SPl where
  pt : Nat
  ps : Nat
  pl : Nat
  pj : Nat
  d : Sl
def shCells (q : SPl) : List Value := [.pointer (ad q.pt), .pointer (ad q.ps), .pointer (ad q.pl), .pointer (ad q.pj), .slice q.d.1 q.d.2.1 q.d.2.2]

structure SInv (N : Nat) (o : Option (It × Nat)) (m : SM) (es : List En) (inn : List (Int × Int)) (N1 N2 : Nat) : Prop where
  items : es.map (·.it) = m.items
  ok : SOk m
  chunks : inn.Perm (es.map (·.c))
  cls : ∀ x ∈ es, x.c.1 = clsM x.it
  n1 : N1 ≤ N
  n2 : N2 + m.items.length ≤ N
  nd : m.drops.length + m.items.length ≤ N
  old : ∀ y, o = some y → ∃ x ∈ es, x.it = y.1 ∧ x.b = y.2

/-- A shard at block p; o: an entry that is known to be there, and where. -/
def Shard (p N : Nat) (o : Option (It × Nat)) (m : SM) : HP := fun h => ∃ (q : SPl) (es : List En) (inn : List (Int × Int)) (N1 N2 : Nat) (seed : Int), SInv N o m es inn N1 N2 ∧
  SepL [cl p T_shard_Shard (shCells q), Tbl q.pt N1 seed (tabOf es), Slab q.ps N2 m.budget inn, Slru q.pl m.most m.tk m.sk, Judge q.pj m.j, Row T_string 1 q.d.1 q.d.2.1 q.d.2.2 (strs m.drops), Ents es] h

theorem small_of {it : It} (h : clsM it < 6) : sizeM it ≤ 2048 := by
  unfold clsM at h
  have := (classN_le (i := 5) (by omega) (sizeM it)).2 (by omega)
  have e : bytesZ ((5 : Nat) : Int) = 2048 := by kernel_rfl
  rw [e] at this
  omega
theorem small_key {it : It} (h : clsM it < 6) : it.key.size ≤ 2048 ∧ it.val.length ≤ 2048 := by
  have := small_of h
  unfold sizeM at this
  omega

theorem SOk.get_small {m : SM} (h : SOk m) {k : ByteArray} (hk : k ∈ m.tk ++ m.sk) : k.size ≤ 2048 := by
  obtain ⟨it, hi, rfl⟩ := List.mem_map.1 (h.keys.mem_iff.1 hk)
  exact (small_key (h.cls _ hi)).1
theorem getI_isSome {l : List It} {k : ByteArray} : (getI l k).isSome = true ↔ k ∈ l.map (·.key) := by
  unfold getI
  rw [List.find?_isSome]
  simp
theorem SOk.get_mem {m : SM} (h : SOk m) {k : ByteArray} : (m.get k).isSome = true ↔ k ∈ m.tk ++ m.sk := by
  rw [h.keys.mem_iff]
  exact getI_isSome
theorem mapKey_del (l : List It) (k : ByteArray) : (delI l k).map (·.key) = (l.map (·.key)).filter (· != k) := by
  unfold delI
  rw [List.filter_map]
  congr 1
  apply List.filter_congr
  intro x _
  by_cases h : x.key = k
  · simp [h]
  · simp [h]

theorem SOk.rem {m : SM} (h : SOk m) (k : ByteArray) : SOk (m.rem k) := by
  unfold SM.rem
  split
  · exact h
  · have hnd := h.keys.nodup_iff.2 h.dist
    rw [List.nodup_append] at hnd
    refine ⟨?_, ?_, fun it hi => h.cls it ((List.mem_filter.1 hi).1)⟩
    · simp only
      rw [mapKey_del]
      exact List.Nodup.sublist List.filter_sublist h.dist
    · simp only
      rw [mapKey_del, hnd.1.erase_eq_filter, hnd.2.1.erase_eq_filter, ← List.filter_append]
      exact h.keys.filter _

section
variable {h0 : Frag} {w0 w w' : World} {As : List HP} {p N : Nat} {o : Option (It × Nat)} {m : SM}
theorem St.shOpen (H : St h0 w0 w (Shard p N o m :: As)) : ∃ (q : SPl) (es : List En) (inn : List (Int × Int)) (N1 N2 : Nat) (seed : Int), SInv N o m es inn N1 N2 ∧
    St h0 w0 w (cl p T_shard_Shard (shCells q) :: Tbl q.pt N1 seed (tabOf es) :: Slab q.ps N2 m.budget inn :: Slru q.pl m.most m.tk m.sk :: Judge q.pj m.j :: Row T_string 1 q.d.1 q.d.2.1 q.d.2.2 (strs m.drops) :: Ents es :: As) := by
  obtain ⟨h, ⟨q, es, inn, N1, N2, seed, h1, h2⟩, hk⟩ := H.opn
  exact ⟨q, es, inn, N1, N2, seed, h1, hk _ h2⟩
theorem St.shMk {q : SPl} {es : List En} {inn : List (Int × Int)} {N1 N2 : Nat} {seed : Int} (h1 : SInv N o m es inn N1 N2)
    (H : St h0 w0 w (cl p T_shard_Shard (shCells q) :: Tbl q.pt N1 seed (tabOf es) :: Slab q.ps N2 m.budget inn :: Slru q.pl m.most m.tk m.sk :: Judge q.pj m.j :: Row T_string 1 q.d.1 q.d.2.1 q.d.2.2 (strs m.drops) :: Ents es :: As)) : St h0 w0 w (Shard p N o m :: As) :=
  St.cls [_, _, _, _, _, _, _] H fun _ h => ⟨q, es, inn, N1, N2, seed, h1, h⟩
theorem St.entsOut {l r : List En} {x : En} (H : St h0 w0 w (Ents (l ++ x :: r) :: As)) : St h0 w0 w (entHP x :: Ents (l ++ r) :: As) := by
  have h1 := (St.split H).perm ((List.perm_middle.map entHP).append_right As)
  rw [List.map_cons, List.cons_append] at h1
  exact (St.join (Bs := (l ++ r).map entHP) (As := entHP x :: As) (h1.perm List.perm_middle.symm)).swap
theorem St.entsIn {l r : List En} {x : En} (H : St h0 w0 w (entHP x :: Ents (l ++ r) :: As)) : St h0 w0 w (Ents (l ++ x :: r) :: As) := by
  have h1 := (St.split H.swap).perm List.perm_middle
  exact St.join ((l ++ x :: r).map entHP) (h1.perm ((List.perm_middle.map entHP).symm.append_right As))
theorem St.entOpen {x : En} (H : St h0 w0 w (entHP x :: As)) : St h0 w0 w (cl x.b T_shard_entry (entCells x) :: BRow x.s x.it.val :: As) := St.split H
theorem St.entMk {x : En} (H : St h0 w0 w (cl x.b T_shard_entry (entCells x) :: BRow x.s x.it.val :: As)) : St h0 w0 w (entHP x :: As) := St.join [_, _] H

theorem SInv.es_nodup {es : List En} {inn : List (Int × Int)} {N1 N2 : Nat} (h : SInv N o m es inn N1 N2) : (es.map (·.it.key)).Nodup := by
  have := h.ok.dist
  rw [← h.items, List.map_map] at this
  exact this

/-- An item is taken out. -/
theorem shard_remove (p N : Nat) (o : Option (It × Nat)) (m : SM) (k : ByteArray) (hN : N < 2 ^ 31) (hk : k.size < 2 ^ 62) (ho : ∀ y, o = some y → y.1.key ≠ k) :
    Sp P f_shard_Shard_Remove #[.pointer (ad p), .string k] (Shard p N o m) (fun v h => v = .bool (m.get k).isSome ∧ Shard p N o (m.rem k) h) := sp_of fun w h H => by
  apply cl_shard_Shard_Remove
  unfold c_shard_Shard_Remove
  have HS := H
  obtain ⟨q, es, inn, N1, N2, seed, hi, H⟩ := H.shOpen
  have hgm : m.get k = (entOf es k).map (·.it) := by unfold SM.get; rw [← hi.items, getI_map]
  have n1 := hi.n1
  have n2 := hi.n2
  have nd := hi.nd
  refine ⟨_, rfl, ad q.pt, by rw [add_mk, H.cell m0]; rfl, ?_⟩
  refine H.swap.callV (table_get q.pt N1 seed (tabOf es) k (by omega) hk) fun w4 H => ⟨_, _, rfl, ?_⟩
  rw [getL_tabOf]
  cases hg : entOf es k with
  | none =>
    have e : m.rem k = m := by unfold SM.rem; rw [hgm, hg]; rfl
    have e2 : (m.get k).isSome = false := by rw [hgm, hg]; rfl
    refine br (fun hc => by simp at hc) fun _ => ?_
    rw [e, e2]
    exact (St.shMk hi H.swap).conv fun _ hs => ⟨rfl, hs⟩
  | some x =>
    obtain ⟨hx, rfl⟩ := entOf_some hg
    obtain ⟨l, r, rfl⟩ := List.append_of_mem hx
    have hdel := del_split hi.es_nodup
    have hgs : (m.get x.it.key).isSome = true := by rw [hgm, hg]; rfl
    have hmem := hi.ok.get_mem.1 hgs
    have hrem : m.rem x.it.key = { m with items := delI m.items x.it.key, tk := m.tk.erase x.it.key, sk := m.sk.erase x.it.key } := by
      unfold SM.rem
      rw [hgm, hg]; rfl
    have hlen : m.items.length = (l ++ r).length + 1 := by rw [← hi.items]; simp; omega
    have hkl : m.tk.length + m.sk.length = m.items.length := by
      have := hi.ok.keys.length_eq
      simpa using this
    refine br (fun _ => ?_) fun hc => by simp at hc
    refine ⟨_, rfl, ad q.pt, by rw [add_mk, H.cell m1]; rfl, ?_⟩
    refine H.callV (table_delete q.pt N1 seed (tabOf (l ++ x :: r)) x.it.key (by omega) hk) fun w10 H => ⟨_, rfl, fun w12 e12 => ?_⟩
    rw [tabOf_del, hdel] at H
    -- [Tbl, cl, Slab, Slru, Judge, Row, Ents]
    have H := (H.drew e12).pull7.entsOut.entOpen
    -- [ent, val, Ents, Tbl, cl, Slab, Slru, Judge, Row]
    refine ⟨_, rfl, ad q.ps, by rw [add_mk, H.cell m4]; rfl, _, rfl, x.c.1, x.c.2, ?_, ?_⟩
    · rw [add_mk]
      refine H.span m0 fun i v hv => ?_
      match i, hv with
      | 0, hv => exact hv
      | 1, hv => exact hv
    have hin : x.c ∈ inn := hi.chunks.mem_iff.2 (by simp)
    refine H.pull6.callV (slab_free q.ps N2 m.budget inn x.c (by omega) hin) fun w19 H => ⟨_, rfl, ?_⟩
    -- [Slab, ent, val, Ents, Tbl, cl, Slru, Judge, Row]
    refine ⟨_, rfl, ad q.pl, by rw [add_mk, H.cell m5]; rfl, ?_⟩
    refine H.pull7.call (slru_remove q.pl m.most m.tk m.sk x.it.key (by omega)) fun v w24 H => ?_
    have hv : v = .int .i64 0 := by
      refine H.facts fun _ hh => ?_
      rcases hh with ⟨h1, _⟩ | ⟨_, h2, _⟩
      · exact absurd hmem h1
      · exact h2
    replace H := H.conv (A' := Slru q.pl m.most (m.tk.erase x.it.key) (m.sk.erase x.it.key)) fun _ hh => by
      rcases hh with ⟨h1, _⟩ | ⟨_, _, h3⟩
      · exact absurd hmem h1
      · exact h3
    refine ⟨0, hv, ?_⟩
    -- [Slru, Slab, ent, val, Ents, Tbl, cl, Judge, Row]
    have H := H.pull3.drop.pull3.drop.pull5
    -- [cl, Slru, Slab, Ents, Tbl, Judge, Row]
    have H := H.pull7.pull7.pull4.pull5.pull7.pull6
    rw [hgs, hrem]
    refine (St.shMk ⟨?_, by have := hi.ok.rem x.it.key; rw [hrem] at this; exact this, ?_, fun y hy => hi.cls y ?_, n1, ?_, ?_, fun y hy => ?_⟩ H).conv fun _ hs => ⟨rfl, hs⟩
    · simp only
      rw [← hi.items, delI_map, hdel]
    · have := hi.chunks.erase x.c
      refine this.trans ?_
      rw [List.map_append, List.map_cons]
      refine ((List.perm_middle (l₁ := l.map (·.c)) (a := x.c) (l₂ := r.map (·.c))).erase x.c).trans ?_
      rw [List.erase_cons_head, List.map_append]
    · rcases List.mem_append.1 hy with hy | hy
      · exact List.mem_append.2 (.inl hy)
      · exact List.mem_append.2 (.inr (List.mem_cons_of_mem _ hy))
    · simp only
      rw [← hi.items, delI_map, hdel, List.length_map]; omega
    · simp only
      rw [← hi.items, delI_map, hdel, List.length_map]; omega
    · obtain ⟨z, hz, e1, e2⟩ := hi.old y hy
      refine ⟨z, ?_, e1, e2⟩
      have hne : z.it.key ≠ x.it.key := by rw [e1]; exact ho y hy
      rcases List.mem_append.1 hz with hz | hz
      · exact List.mem_append.2 (.inl hz)
      · rcases List.mem_cons.1 hz with rfl | hz
        · exact absurd rfl hne
        · exact List.mem_append.2 (.inr hz)
end
end Go.Bty
