/- The table: what a text has, given, got, taken away. -/
import Derived.Test.YtbjkbonnmeppoaaBtyZ
namespace Go.Bty
open Go
open Go.Proofs.Try renaming prog → P

structure TInv (N : Nat) (seed : Int) (t : TS) (l : List Pr) : Prop where
  ok : TOk t
  loc : LocOk seed t
  perm : (flat (t.ne + t.nn) t.bl).Perm l
  dist : (l.map (·.1)).Nodup
  len : l.length ≤ N
  nn : t.nn ≤ 8 + 2 * N
  ne : t.ne ≤ 8 + 2 * N

/-- A table at block p: its texts and what they have; at most N were ever there. -/
def Tbl (p N : Nat) (seed : Int) (l : List Pr) : HP := fun h => ∃ t, TInv N seed t l ∧ SepL (tabL p seed t l.length) h
def getL (l : List Pr) (k : ByteArray) : Option (Option Addr) := (l.find? fun x => decide (x.1 = k)).map (·.2)

theorem getL_iff {l : List Pr} (hd : (l.map (·.1)).Nodup) {k : ByteArray} {v : Option Addr} : getL l k = some v ↔ (k, v) ∈ l := by
  induction l with
  | nil => simp [getL]
  | cons x l ih =>
    rw [List.map_cons, List.nodup_cons] at hd
    have ih := ih hd.2
    unfold getL at ih ⊢
    rw [List.find?_cons]
    by_cases h : x.1 = k
    · subst h
      simp only [decide_true, Option.map_some, Option.some.injEq, List.mem_cons]
      constructor
      · rintro rfl; exact .inl rfl
      · rintro (h | h)
        · rw [← h]
        · exact absurd (List.mem_map.2 ⟨_, h, rfl⟩) hd.1
    · have hf : decide (x.1 = k) = false := by simpa using h
      simp only [hf]
      rw [ih, List.mem_cons]
      constructor
      · exact .inr
      · rintro (h' | h')
        · exact absurd (congrArg (·.1) h').symm h
        · exact h'
theorem getL_none {l : List Pr} {k : ByteArray} : getL l k = none ↔ k ∉ l.map (·.1) := by
  unfold getL
  rw [Option.map_eq_none_iff, List.find?_eq_none]
  simp only [decide_eq_true_eq, List.mem_map, not_exists, not_and]

theorem idx_some {l : List Pr} {k : ByteArray} {i : Nat} (h : idxZ l k = i) : ∃ v, l[i]? = some (k, v) := by
  unfold idxZ at h
  split at h
  · rename_i j hj
    have : j = i := by omega
    subst this
    rw [List.findIdx?_eq_some_iff_getElem] at hj
    obtain ⟨hlt, hp, _⟩ := hj
    exact ⟨l[j].2, by rw [List.getElem?_eq_getElem hlt]; congr 1; exact Prod.ext (by simpa using hp) rfl⟩
  · omega
theorem idx_neg {l : List Pr} {k : ByteArray} (h : idxZ l k < 0) : k ∉ l.map (·.1) := by
  unfold idxZ at h
  split at h
  · omega
  · rename_i hn
    rw [List.findIdx?_eq_none_iff] at hn
    intro hm
    obtain ⟨x, hx, e⟩ := List.mem_map.1 hm
    have := hn x hx
    simp [e] at this

section
variable {h0 : Frag} {w0 w : World} {As : List HP} {p N : Nat} {seed : Int} {l : List Pr}
theorem St.tblOpen (H : St h0 w0 w (Tbl p N seed l :: As)) : ∃ t, TInv N seed t l ∧ St h0 w0 w (cl p T_table_Table_p_shard_entry (tabCells seed t l.length) :: rowE t :: rowN t :: bag (t.ne + t.nn) (bRow t.bs t.bl) :: As) := by
  obtain ⟨h, ⟨t, h1, h2⟩, hk⟩ := H.opn
  exact ⟨t, h1, hk _ h2⟩
theorem St.tblMk {t : TS} (h1 : TInv N seed t l) (H : St h0 w0 w (cl p T_table_Table_p_shard_entry (tabCells seed t l.length) :: rowE t :: rowN t :: bag (t.ne + t.nn) (bRow t.bs t.bl) :: As)) : St h0 w0 w (Tbl p N seed l :: As) :=
  St.cls (tabL p seed t l.length) H fun _ h => ⟨t, h1, h⟩

/-- A text's bucket, and its place there. -/
theorem tab_find {t : TS} {k : ByteArray} {K : Value → World → Prop} (ht : TInv N seed t l) (hN : N < 2 ^ 32) (hk : k.size < 2 ^ 62)
    (H : St h0 w0 w (cl p T_table_Table_p_shard_entry (tabCells seed t l.length) :: rowE t :: rowN t :: bag (t.ne + t.nn) (bRow t.bs t.bl) :: As))
    (hK : ∀ (t' : TS) (a : Addr) (w' : World), TInv N seed t' l → IsAt t' (locN seed t' k) a →
      St h0 w0 w' (cl p T_table_Table_p_shard_entry (tabCells seed t' l.length) :: rowE t' :: rowN t' :: bag (t'.ne + t'.nn) (bRow t'.bs t'.bl) :: As) → K (.tuple #[.pointer (some a), .int .i64 (idxZ (t'.bl (locN seed t' k)) k)]) w') :
    Cl P f_table_Table_shard_entry_find #[.pointer (some (Addr.mk p 0 none)), .string k] w K := by
  apply cl_table_Table_shard_entry_find
  unfold c_table_Table_shard_entry_find
  intro b1 w2 e1 e2
  have H := (H.newCells (cs := [.string k]) e1 e2).push5
  have hlen := ht.perm.length_eq
  have hl := ht.len
  refine tab_step H ht.ok ht.loc (by omega) fun t' w4 k1 k2 k3 k4 k5 H => ⟨rfl, k, by rw [H.cell m4]; rfl, ?_⟩
  have ht' : TInv N seed t' l := ⟨k3, k4, by rw [k1, k2]; exact k5.trans ht.perm, ht.dist, ht.len, by rw [k2]; exact ht.nn, by rw [k1]; exact ht.ne⟩
  refine tab_of H k3 hk fun a w7 ha H => ⟨_, rfl, a, rfl, (t'.bs (locN seed t' k)).1, (t'.bs (locN seed t' k)).2.1, (t'.bs (locN seed t' k)).2.2, tab_cell H.push4 ha, ?_⟩
  have hj := locN_lt (seed := seed) (k := k) k3
  rw [← k1, ← k2] at H
  have H := H.pull4.bagOut hj
  -- [bRow, but, cl, rowE, rowN, b1]
  have H := H.pull6.swap
  refine idx_sp H (by have := flat_len t'.bl hj; have := ht'.perm.length_eq; omega) fun w12 H => ⟨_, rfl, ?_⟩
  have H := ((H.swap.drop.conv (A' := bRow t'.bs t'.bl (locN seed t' k)) fun _ hh => hh).bagIn hj fun i hi => rfl).push4
  exact hK t' a w12 ht' ha H

/-- What a text has. -/
theorem table_get (p N : Nat) (seed : Int) (l : List Pr) (k : ByteArray) (hN : N < 2 ^ 32) (hk : k.size < 2 ^ 62) : Sp P f_table_Table_shard_entry_Get #[.pointer (some (Addr.mk p 0 none)), .string k] (Tbl p N seed l)
    (fun v h => v = .tuple #[.pointer ((getL l k).getD none), .bool (getL l k).isSome] ∧ Tbl p N seed l h) := sp_of fun w h H => by
  apply cl_table_Table_shard_entry_Get
  unfold c_table_Table_shard_entry_Get
  obtain ⟨t, ht, H⟩ := H.tblOpen
  refine tab_find ht hN hk H fun t' a w2 ht' ha H => ⟨_, _, rfl, ?_⟩
  have hj := locN_lt (seed := seed) (k := k) ht'.ok
  have HT := H.tblMk ht'
  refine br (fun hc => ?_) fun hc => ?_
  · simp only [decide_eq_true_eq] at hc
    have hno := idx_neg hc
    have : getL l k = none := getL_none.2 fun hm => by
      obtain ⟨x, hx, rfl⟩ := List.mem_map.1 hm
      have hx' := ht'.perm.mem_iff.2 hx
      obtain ⟨j, hjl, hxj⟩ := mem_flat.1 hx'
      have := (ht'.loc j hjl x hxj).1
      rw [this] at hno
      exact hno (List.mem_map.2 ⟨x, hxj, rfl⟩)
    rw [this]
    exact HT.conv fun _ hs => ⟨rfl, hs⟩
  · simp only [decide_eq_false_iff_not] at hc
    obtain ⟨i, hi⟩ : ∃ i : Nat, idxZ (t'.bl (locN seed t' k)) k = i := ⟨(idxZ (t'.bl (locN seed t' k)) k).toNat, by omega⟩
    obtain ⟨v, hv⟩ := idx_some hi
    have hmem : (k, v) ∈ l := ht'.perm.mem_iff.1 (mem_flat.2 ⟨_, hj, List.mem_of_getElem? hv⟩)
    have hg := (getL_iff ht'.dist).2 hmem
    rw [hg, hi]
    have hlt := (List.getElem?_eq_some_iff.1 hv).1
    have hvv := (List.getElem?_eq_some_iff.1 hv).2
    have H2 := H.pull4.bagOut hj
    have hn : (t'.bs (locN seed t' k)).2.1 = (t'.bl (locN seed t' k)).length := by
      have := H2.rowLen.1
      rw [prs_length] at this; omega
    obtain ⟨b, hb, hsp⟩ := row_pair H2 hlt
    refine ⟨a, rfl, _, _, _, tab_cell H.push4 ha, b, hb, by omega, by omega, v, ?_, HT.conv fun _ hs => ⟨rfl, hs⟩⟩
    have := hsp 1 _ rfl
    rw [hvv] at this
    exact this

/-- The new row becomes the elder one. -/
def grown (t : TS) (b : Nat) : TS := { ae := t.an, ne := t.nn, ce := t.cn, an := some (Addr.mk b 0 none), nn := 2 * t.nn, cn := 2 * t.nn, left := t.nn, bs := fun j => if j < t.nn then t.bs (t.ne + j) else (none, 0, 0), bl := fun j => if j < t.nn then t.bl (t.ne + j) else [] }

theorem bag_shift {f : Nat → HP} {m n : Nat} (H : St h0 w0 w (bag (m + n) f :: As)) : St h0 w0 w (bag n (fun j => f (m + j)) :: As) := by
  have h1 := H.split
  rw [List.range_add, List.map_append, List.append_assoc] at h1
  have h3 := (St.join (Bs := (List.range m).map f) h1).drop
  rw [List.map_map] at h3
  exact St.join ((List.range n).map fun j => f (m + j)) h3
theorem nil_rows : ∀ (n : Nat) {As : List HP}, St h0 w0 w As → St h0 w0 w ((List.range n).map (fun _ => Row T_table_pair_p_shard_entry 2 none 0 0 []) ++ As)
  | 0, _, H => H
  | n + 1, As, H => by
    have h1 := nil_rows n H
    rw [List.range_succ, List.map_append, List.append_assoc]
    exact (h1.rowNil (T := T_table_pair_p_shard_entry) (sz := 2)).perm List.perm_middle.symm
theorem bag_grow {t : TS} {b : Nat} (H : St h0 w0 w (bag (t.ne + t.nn) (bRow t.bs t.bl) :: As)) : St h0 w0 w (bag ((grown t b).ne + (grown t b).nn) (bRow (grown t b).bs (grown t b).bl) :: As) := by
  have h1 := nil_rows (2 * t.nn) (bag_shift H)
  have h2 := (St.join (Bs := (List.range (2 * t.nn)).map fun _ => Row T_table_pair_p_shard_entry 2 none 0 0 []) h1).swap.glue
  have e : (List.range ((grown t b).ne + (grown t b).nn)).map (bRow (grown t b).bs (grown t b).bl) = (List.range t.nn).map (fun j => bRow t.bs t.bl (t.ne + j)) ++ (List.range (2 * t.nn)).map fun _ => Row T_table_pair_p_shard_entry 2 none 0 0 [] := by
    show (List.range (t.nn + 2 * t.nn)).map _ = _
    rw [List.range_add, List.map_append, List.map_map]
    congr 1
    · refine List.map_congr_left fun j hj => ?_
      simp only [bRow, grown, if_pos (List.mem_range.1 hj)]
    · refine List.map_congr_left fun j hj => ?_
      simp only [Function.comp, bRow, grown, if_neg (by omega : ¬ t.nn + j < t.nn), prs]
  unfold bag
  rw [e]
  exact h2

theorem grown_rowE {t : TS} {b : Nat} : rowE (grown t b) = rowN t := by
  unfold rowE rowN
  have : sls 0 t.nn (grown t b).bs = sls t.ne t.nn t.bs := by
    apply List.ext_getElem?
    intro i
    by_cases hi : i < t.nn
    · rw [sls_get hi, sls_get hi, Nat.zero_add]
      simp only [grown, if_pos hi]
    · rw [List.getElem?_eq_none (by rw [sls_length]; omega), List.getElem?_eq_none (by rw [sls_length]; omega)]
  show Row _ 1 t.an t.nn t.cn (sls 0 t.nn (grown t b).bs) = _
  rw [this]
theorem grown_rowN {t : TS} {b : Nat} (H : St h0 w0 w (cl b T_table_bucket_p_shard_entry (zc (2 * t.nn) [.slice none 0 0]) :: As)) : St h0 w0 w (rowN (grown t b) :: As) := by
  have hz : (zc (2 * t.nn) [Value.slice none 0 0]).length = 2 * t.nn * 1 := by rw [zc_length]; rfl
  have H := H.rowMk (c := 2 * t.nn) (sz := 1) (n := 2 * t.nn) hz (Nat.le_refl _)
  have e : (zc (2 * t.nn) [Value.slice none 0 0]).take (2 * t.nn * 1) = sls t.nn (2 * t.nn) (grown t b).bs := by
    rw [← hz, List.take_length]
    apply List.ext_getElem?
    intro i
    by_cases hi : i < 2 * t.nn
    · rw [sls_get hi, zc_get _ _ _ (by simp; omega)]
      have : i % [Value.slice none 0 0].length = 0 := by simp; omega
      rw [this]
      simp only [grown, if_neg (by omega : ¬ t.nn + i < t.nn)]
      rfl
    · rw [List.getElem?_eq_none (by rw [hz]; omega), List.getElem?_eq_none (by rw [sls_length]; omega)]
  rw [e] at H
  exact H
theorem grown_inv {t : TS} {b : Nat} (ht : TInv N seed t l) (hN : N < 2 ^ 32) (hl : t.left = 0) (hm : 2 * t.nn < l.length) : TInv N seed (grown t b) l := by
  have hlo : ∀ j, j < t.ne → t.bl j = [] := fun j hj => by
    cases hb : t.bl j with
    | nil => rfl
    | cons x q =>
      have h1 := (ht.loc j (by omega) x (by rw [hb]; exact List.mem_cons_self ..)).1
      unfold locN at h1
      rw [if_neg (by omega)] at h1
      omega
  have hpos := ht.ok.pos
  have hlen := ht.len
  refine ⟨⟨by show 1 ≤ 2 * t.nn; omega, by show 2 * t.nn < 2 ^ 34; omega, ht.ok.nn, Nat.le_refl _⟩, fun j hj x hx => ?_, ?_, ht.dist, ht.len, by show 2 * t.nn ≤ _; omega, ht.nn⟩
  · simp only [grown] at hx
    by_cases hjn : j < t.nn
    · rw [if_pos hjn] at hx
      obtain ⟨h1, h2⟩ := ht.loc (t.ne + j) (by omega) x hx
      refine ⟨?_, h2⟩
      unfold locN at h1 ⊢
      rw [if_neg (by omega)] at h1
      rw [if_pos ⟨by show 0 < t.nn; omega, by show t.nn - t.nn ≤ _; omega⟩]
      show belowN (hashZ seed x.1) t.nn = j
      omega
    · rw [if_neg hjn] at hx; cases hx
  · refine List.Perm.trans ?_ ht.perm
    have e1 : flat (t.ne + t.nn) t.bl = flat t.nn (fun j => t.bl (t.ne + j)) := by
      unfold flat
      rw [List.range_add, List.map_append, List.flatten_append, List.map_map]
      have : ((List.range t.ne).map t.bl).flatten = [] := by
        rw [List.flatten_eq_nil_iff]
        intro q hq
        obtain ⟨j, hj, rfl⟩ := List.mem_map.1 hq
        exact hlo j (List.mem_range.1 hj)
      rw [this]; rfl
    have e2 : flat ((grown t b).ne + (grown t b).nn) (grown t b).bl = flat t.nn (fun j => t.bl (t.ne + j)) := by
      show flat (t.nn + 2 * t.nn) _ = _
      unfold flat
      rw [List.range_add, List.map_append, List.flatten_append, List.map_map]
      have h2 : ((List.range (2 * t.nn)).map ((grown t b).bl ∘ fun x => t.nn + x)).flatten = [] := by
        rw [List.flatten_eq_nil_iff]
        intro q hq
        obtain ⟨j, hj, rfl⟩ := List.mem_map.1 hq
        simp only [Function.comp, grown, if_neg (by omega : ¬ t.nn + j < t.nn)]
      rw [h2, List.append_nil]
      congr 1
      refine List.map_congr_left fun j hj => ?_
      simp only [grown, if_pos (List.mem_range.1 hj)]
    rw [e1, e2]

theorem TInv.push {t : TS} {k : ByteArray} {v : Option Addr} {x : Sl} (ht : TInv N seed t l) (hk : k.size < 2 ^ 62) (hno : k ∉ l.map (·.1)) :
    TInv (N + 1) seed { t with bs := upd t.bs (locN seed t k) x, bl := upd t.bl (locN seed t k) (t.bl (locN seed t k) ++ [(k, v)]) } (l ++ [(k, v)]) := by
  have hj := locN_lt (seed := seed) (k := k) ht.ok
  have hlen := ht.len
  have hnn := ht.nn
  have hne := ht.ne
  refine ⟨⟨ht.ok.pos, ht.ok.nn, ht.ok.ne, ht.ok.left⟩, fun j hjl y hy => ?_, ?_, ?_, by simp; omega, by show t.nn ≤ _; omega, by show t.ne ≤ _; omega⟩
  · simp only at hy
    by_cases e : j = locN seed t k
    · rw [e, upd_same] at hy
      rcases List.mem_append.1 hy with hy | hy
      · rw [e]; exact ht.loc _ hj y hy
      · rw [List.mem_singleton.1 hy, e]; exact ⟨rfl, hk⟩
    · rw [upd_ne e] at hy
      exact ht.loc j hjl y hy
  · have p1 := flat_upd t.bl hj (t.bl (locN seed t k) ++ [(k, v)])
    have p2 := flat_at t.bl hj
    refine p1.trans (List.Perm.trans ?_ ((p2.symm.trans ht.perm).append_right [(k, v)]))
    rw [List.append_assoc, List.append_assoc]
    exact List.Perm.append_left _ List.perm_append_comm
  · rw [List.map_append, List.nodup_append]
    exact ⟨ht.dist, by simp, fun a ha b hb hab => by
      rw [List.map_cons, List.map_nil, List.mem_singleton] at hb
      rw [hab, hb] at ha
      exact hno ha⟩

/-- A text that is not there is given something. -/
theorem table_put (p N : Nat) (seed : Int) (l : List Pr) (k : ByteArray) (v : Option Addr) (hN : N + 1 < 2 ^ 32) (hk : k.size < 2 ^ 62) (hno : k ∉ l.map (·.1)) : Sp P f_table_Table_shard_entry_Put #[.pointer (some (Addr.mk p 0 none)), .string k, .pointer v] (Tbl p N seed l)
    (fun u h => u = .tuple #[] ∧ Tbl p (N + 1) seed (l ++ [(k, v)]) h) := sp_of fun w h H => by
  apply cl_table_Table_shard_entry_Put
  unfold c_table_Table_shard_entry_Put
  obtain ⟨t, ht, H⟩ := H.tblOpen
  refine tab_find ht (by omega) hk H fun t' a w2 ht' ha H => ⟨_, _, rfl, ?_⟩
  have hj := locN_lt (seed := seed) (k := k) ht'.ok
  have hinv := fun x => ht'.push (v := v) (x := x) hk hno
  have hlen := ht'.len
  have hnn := ht'.nn
  generalize hJ : locN seed t' k = J at *
  refine br (fun hc => ?_) fun hc => ?_
  · simp only [decide_eq_true_eq] at hc
    obtain ⟨i, hi⟩ : ∃ i : Nat, idxZ (t'.bl J) k = i := ⟨(idxZ (t'.bl J) k).toNat, by omega⟩
    obtain ⟨v', hv⟩ := idx_some hi
    exact absurd (List.mem_map.2 ⟨_, ht'.perm.mem_iff.1 (mem_flat.2 ⟨_, hj, List.mem_of_getElem? hv⟩), rfl⟩) hno
  · refine ⟨a, rfl, _, _, _, tab_cell H.push4 ha, fun b33 w34 e33 e34 => ?_⟩
    have H := H.newCells (cs := [.string k, .pointer v]) e33 e34
    refine ⟨[.string k, .pointer v], ⟨rfl, H.spanAll m0⟩, ?_⟩
    have H := ((H.drop.pull4).bagOut hj).pull3.push5
    -- [bRow, but, rowE, rowN, cl]
    have hn : (t'.bs J).2.1 = (t'.bl J).length := by
      have := H.rowLen.1
      rw [prs_length] at this; omega
    have hbl : (t'.bl J).length ≤ N := by have := flat_len t'.bl hj; have := ht'.perm.length_eq; omega
    refine H.rowAppend (sz := 2) (fun u hu => by
      rcases List.mem_cons.1 hu with rfl | hu
      · rfl
      · rw [List.mem_singleton.1 hu]; rfl) rfl rfl (by omega) fun a36 c37 w38 H => ?_
    refine ⟨a, rfl, tab_ok H.pull3.pull4.swap ha, fun w40 e40 => ?_⟩
    have H := (tab_push (x := (k, v)) hj ha H e40).pull4
    have hinv := hinv (a36, (t'.bs J).2.1 + 1, c37)
    generalize ht2 : ({ t' with bs := upd t'.bs J (a36, (t'.bs J).2.1 + 1, c37), bl := upd t'.bl J (t'.bl J ++ [(k, v)]) } : TS) = t2 at *
    have f1 : t2.ne = t'.ne := by rw [← ht2]
    have f2 : t2.nn = t'.nn := by rw [← ht2]
    have f3 : tabCells seed t' l.length = tabCells seed t2 l.length := by rw [← ht2]; rfl
    have f4 : bRow (upd t'.bs J (a36, (t'.bs J).2.1 + 1, c37)) (upd t'.bl J (t'.bl J ++ [(k, v)])) = bRow t2.bs t2.bl := by rw [← ht2]
    rw [f3, f4, ← f1, ← f2] at H
    refine ⟨_, rfl, l.length, by rw [add_mk, H.cell m0]; rfl, _, rfl, by rw [add_mk]; exact H.stOk m0 (by simp [tabCells]), fun w44 e44 w45 e45 => ?_⟩
    have ew : IntKind.i64.wrap ((l.length : Int) + 1) = (((l ++ [(k, v)]).length : Nat) : Int) := by rw [wrap_i64 (by omega) (by omega)]; simp
    rw [add_mk, ew] at e44
    have H := (H.set e44).drew e45
    have H : St h w w45 [cl p T_table_Table_p_shard_entry (tabCells seed t2 (l ++ [(k, v)]).length), rowE t2, rowN t2, bag (t2.ne + t2.nn) (bRow t2.bs t2.bl)] := H
    have fin := fun {w' : World} (H : St h w w' [cl p T_table_Table_p_shard_entry (tabCells seed t2 (l ++ [(k, v)]).length), rowE t2, rowN t2, bag (t2.ne + t2.nn) (bRow t2.bs t2.bl)]) =>
      (St.tblMk hinv H).conv fun _ hs => (⟨rfl, hs⟩ : Value.tuple #[] = .tuple #[] ∧ Tbl p (N + 1) seed (l ++ [(k, v)]) _)
    have h2nn : t2.nn ≤ 8 + 2 * (N + 1) := hinv.nn
    have ew2 : IntKind.i64.wrap ((2 : Int) * (t2.nn : Int)) = ((2 * t2.nn : Nat) : Int) := by rw [wrap_i64 (by omega) (by omega)]; omega
    refine ⟨_, rfl, _, by rw [add_mk, H.cell m0]; rfl, _, rfl, t2.an, t2.nn, t2.cn, by rw [add_mk, H.cell m0]; rfl, ?_⟩
    rw [ew2]
    refine br (fun hc1 => ?_) fun _ => fin H
    refine ⟨_, rfl, t2.left, by rw [add_mk, H.cell m0]; rfl, br (fun hc2 => ?_) fun _ => fin H⟩
    simp only [decide_eq_true_eq] at hc1
    have hl0 : t2.left = 0 := by
      have : (t2.left : Int) = 0 := by simpa using hc2
      omega
    intro w52 e52
    have H := H.drew e52
    refine ⟨_, rfl, t2.an, t2.nn, t2.cn, by rw [add_mk, H.cell m0]; rfl, _, rfl, t2.an, t2.nn, t2.cn, by rw [add_mk, H.cell m0]; rfl, _, rfl, by rw [add_mk]; exact H.stOk m0 (by simp [tabCells]), fun w58 e58 => ?_⟩
    rw [add_mk] at e58
    have H := H.set e58
    refine ⟨_, rfl, by rw [add_mk]; exact H.stOk m0 (by simp [tabCells]), fun w60 e60 => ?_⟩
    rw [add_mk] at e60
    have H := H.set e60
    refine ⟨_, rfl, t2.an, t2.nn, t2.cn, by rw [add_mk, H.cell m0]; rfl, ?_⟩
    rw [ew2]
    refine ⟨by omega, by omega, by omega, fun b63 w64 e63 e64 => ?_⟩
    rw [Int.toNat_natCast] at e64
    have H := H.newCells (b := b63) (cs := zc (2 * t2.nn) [.slice none 0 0]) e63 e64
    have H := grown_rowN H
    -- [rowN', cl, rowE, rowN, bag]
    refine ⟨_, rfl, by rw [add_mk]; exact H.stOk m1 (by simp [tabCells]), fun w66 e66 => ?_⟩
    rw [add_mk, Int.toNat_natCast] at e66
    have H := H.swap.set e66
    -- [cl', rowN', rowE, rowN, bag]
    have H := bag_grow (b := b63) H.pull5
    -- [bag', cl', rowN', rowE, rowN]
    have H := H.pull4.drop.pull4
    -- [rowN, bag', cl', rowN']
    rw [← grown_rowE (b := b63)] at H
    have hg := grown_inv (b := b63) hinv hN hl0 (by omega)
    exact (St.tblMk hg H.pull3.pull4.push3).conv fun _ hs => ⟨rfl, hs⟩

theorem table_new (seed : Int) : Sp P f_table_New_shard_entry #[.int .u64 seed] (fun _ => True) (fun v h => ∃ p, v = .pointer (some (Addr.mk p 0 none)) ∧ Tbl p 0 seed [] h) := sp_of fun w h H => by
  apply cl_table_New_shard_entry
  unfold c_table_New_shard_entry
  refine ⟨by omega, by omega, by omega, fun b1 w2 e1 e2 b3 w4 e3 e4 => ?_⟩
  have H := H.drop.newCells (b := b1) (cs := zc 8 [.slice none 0 0]) e1 e2
  let t : TS := ⟨none, 0, 0, some (Addr.mk b1 0 none), 8, 8, 0, fun _ => (none, 0, 0), fun _ => []⟩
  have H := H.rowMk (c := 8) (sz := 1) (n := 8) rfl (Nat.le_refl _)
  have H := H.newCells (b := b3) (cs := tabCells seed t 0) e3 e4
  -- [cl, rowN]
  have H := (nil_rows 8 (H.swap.rowNil (T := T_table_bucket_p_shard_entry) (sz := 1)))
  have H : St h w w4 [bag (t.ne + t.nn) (bRow t.bs t.bl), rowE t, rowN t, cl b3 T_table_Table_p_shard_entry (tabCells seed t 0)] := St.join ((List.range (t.ne + t.nn)).map (bRow t.bs t.bl)) H
  have hf : flat (t.ne + t.nn) t.bl = [] := rfl
  have hinv : TInv 0 seed t [] := ⟨⟨by show 1 ≤ 8; omega, by show 8 < 2 ^ 34; omega, by show 0 < 2 ^ 34; omega, Nat.le_refl _⟩, (fun j hj x hx => by cases hx), by rw [hf], List.nodup_nil, Nat.le_refl _, by show 8 ≤ _; omega, by show 0 ≤ _; omega⟩
  exact (St.tblMk hinv H.push4.pull3).conv fun _ hs => ⟨b3, rfl, hs⟩
end
end Go.Bty
