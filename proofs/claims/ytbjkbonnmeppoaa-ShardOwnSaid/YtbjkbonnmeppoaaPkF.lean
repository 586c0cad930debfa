/- The table: texts and what they have, in buckets of an elder and a new row. -/
/- The table: what a text has, given, got, taken away. -/
/- The table: a text is taken away. -/
import Derived.Test.YtbjkbonnmeppoaaPkE
import Derived.Test.YtbjkbonnmeppoaaPkD
import Derived.Test.YtbjkbonnmeppoaaBtyR
import Derived.Test.YtbjkbonnmeppoaaTableC
namespace Go.Bty
open Go
open Go.Proofs.Try renaming prog → P

abbrev Pr := ByteArray × Option Addr
def prs : List Pr → List Value
  | [] => []
  | x :: l => .string x.1 :: .pointer x.2 :: prs l
theorem prs_append (l q : List Pr) : prs (l ++ q) = prs l ++ prs q := by
  induction l with
  | nil => rfl
  | cons x l ih => simp only [List.cons_append, prs, ih]
theorem prs_length (l : List Pr) : (prs l).length = l.length * 2 := by
  induction l with
  | nil => rfl
  | cons x l ih => simp only [prs, List.length_cons, ih]; omega
theorem prs_get : ∀ (l : List Pr) (i : Nat) (x : Pr), l[i]? = some x → (prs l)[i * 2]? = some (.string x.1) ∧ (prs l)[i * 2 + 1]? = some (.pointer x.2)
  | [], i, x, h => by simp at h
  | y :: l, 0, x, h => by cases h; exact ⟨rfl, rfl⟩
  | y :: l, i + 1, x, h => by
    have := prs_get l i x (by simpa using h)
    rw [show (i + 1) * 2 = i * 2 + 2 by omega]
    exact this

/-- A table's places. -/
structure TS where
  ae : Option Addr
  ne : Nat
  ce : Nat
  an : Option Addr
  nn : Nat
  cn : Nat
  left : Nat
  bs : Nat → Sl
  bl : Nat → List Pr

def slV (x : Sl) : Value := .slice x.1 x.2.1 x.2.2
def sls (off n : Nat) (bs : Nat → Sl) : List Value := (List.range n).map fun i => slV (bs (off + i))
theorem sls_length (off n : Nat) (bs : Nat → Sl) : (sls off n bs).length = n := by simp [sls]
theorem sls_get {off n : Nat} {bs : Nat → Sl} {i : Nat} (hi : i < n) : (sls off n bs)[i]? = some (slV (bs (off + i))) := by
  rw [sls, List.getElem?_map, List.getElem?_range hi]; rfl
theorem sls_set {off n : Nat} {bs : Nat → Sl} {i : Nat} (x : Sl) : (sls off n bs).set i (slV x) = sls off n (upd bs (off + i) x) := by
  apply List.ext_getElem?
  intro j
  rw [List.getElem?_set]
  by_cases hj : j < n
  · rw [sls_get hj, sls_get hj, sls_length]
    split
    · rename_i e; subst e; rw [if_pos hj, upd_same]
    · rename_i e; rw [upd_ne (by omega)]
  · have h1 : (sls off n bs)[j]? = none := List.getElem?_eq_none (by rw [sls_length]; omega)
    have h2 : (sls off n (upd bs (off + i) x))[j]? = none := List.getElem?_eq_none (by rw [sls_length]; omega)
    rw [h1, h2, sls_length]
    split
    · rw [if_neg (by omega)]
    · rfl
theorem sls_other {off n : Nat} {bs : Nat → Sl} {j : Nat} (x : Sl) (h : j < off ∨ off + n ≤ j) : sls off n (upd bs j x) = sls off n bs := by
  apply List.ext_getElem?
  intro i
  by_cases hi : i < n
  · rw [sls_get hi, sls_get hi, upd_ne (by omega)]
  · rw [List.getElem?_eq_none (by rw [sls_length]; omega), List.getElem?_eq_none (by rw [sls_length]; omega)]

def bRow (bs : Nat → Sl) (bl : Nat → List Pr) (j : Nat) : HP := Row T_table_pair_p_shard_entry 2 (bs j).1 (bs j).2.1 (bs j).2.2 (prs (bl j))
def tabCells (seed : Int) (t : TS) (many : Nat) : List Value := [.int .u64 seed, .slice t.ae t.ne t.ce, .slice t.an t.nn t.cn, .int .i64 t.left, .int .i64 many]
def rowE (t : TS) : HP := Row T_table_bucket_p_shard_entry 1 t.ae t.ne t.ce (sls 0 t.ne t.bs)
def rowN (t : TS) : HP := Row T_table_bucket_p_shard_entry 1 t.an t.nn t.cn (sls t.ne t.nn t.bs)
/-- Where bucket j stands. -/
def IsAt (t : TS) (j : Nat) (a : Addr) : Prop := (j < t.ne ∧ ∃ b, t.ae = some b ∧ a = b.add j) ∨ (t.ne ≤ j ∧ j < t.ne + t.nn ∧ ∃ b, t.an = some b ∧ a = b.add (j - t.ne))

section
variable {h0 : Frag} {w0 w w' : World} {As : List HP} {p : Nat} {seed : Int} {t : TS} {many j : Nat} {a : Addr}

theorem tab_cell (H : St h0 w0 w (rowE t :: rowN t :: As)) (ha : IsAt t j a) : w.cell? a = some (slV (t.bs j)) := by
  rcases ha with ⟨hj, b, hb, rfl⟩ | ⟨h1, h2, b, hb, rfl⟩
  · have := H.rowCell hb (sls_get (off := 0) (bs := t.bs) hj)
    rw [Nat.zero_add] at this
    exact this
  · have := H.swap.rowCell hb (sls_get (off := t.ne) (bs := t.bs) (i := j - t.ne) (n := t.nn) (by omega))
    rw [show t.ne + (j - t.ne) = j by omega] at this
    exact this
theorem tab_ok (H : St h0 w0 w (rowE t :: rowN t :: As)) (ha : IsAt t j a) : (∃ u, w.cell? a = some u) ∧ w.frozen? a = false := by
  rcases ha with ⟨hj, b, hb, rfl⟩ | ⟨h1, h2, b, hb, rfl⟩
  · exact H.rowOk hb (by rw [sls_length]; exact hj)
  · exact H.swap.rowOk hb (by rw [sls_length]; omega)
theorem tab_set (H : St h0 w0 w (rowE t :: rowN t :: As)) (ha : IsAt t j a) (x : Sl) (hw : w' = w.setCell a (slV x)) : St h0 w0 w' (rowE { t with bs := upd t.bs j x } :: rowN { t with bs := upd t.bs j x } :: As) := by
  rcases ha with ⟨hj, b, hb, rfl⟩ | ⟨h1, h2, b, hb, rfl⟩
  · have H := H.rowSet hb (i := j) (v := slV x) (by rw [sls_length]; exact hj) hw
    rw [sls_set, Nat.zero_add] at H
    unfold rowE rowN
    simp only
    rw [sls_other (off := t.ne) x (.inl hj)]
    exact H
  · have H := H.swap.rowSet hb (i := j - t.ne) (v := slV x) (by rw [sls_length]; omega) hw
    rw [sls_set, show t.ne + (j - t.ne) = j by omega] at H
    unfold rowE rowN
    simp only
    rw [sls_other (off := 0) x (.inr (by omega))]
    exact H.swap

/-- The bucket of a text. -/
def locN (seed : Int) (t : TS) (k : ByteArray) : Nat := if 0 < t.left ∧ t.ne - t.left ≤ belowN (hashZ seed k) t.ne then belowN (hashZ seed k) t.ne else t.ne + belowN (hashZ seed k) t.nn

structure TOk (t : TS) : Prop where
  pos : 1 ≤ t.nn
  nn : t.nn < 2 ^ 34
  ne : t.ne < 2 ^ 34
  left : t.left ≤ t.ne

theorem tab_of {k : ByteArray} {K : Value → World → Prop} (H : St h0 w0 w (cl p T_table_Table_p_shard_entry (tabCells seed t many) :: rowE t :: rowN t :: As)) (ht : TOk t) (hk : k.size < 2 ^ 62)
    (hK : ∀ a w', IsAt t (locN seed t k) a → St h0 w0 w' (cl p T_table_Table_p_shard_entry (tabCells seed t many) :: rowE t :: rowN t :: As) → K (.pointer (some a)) w') :
    Cl P f_table_Table_shard_entry_of #[.pointer (some (Addr.mk p 0 none)), .string k] w K := by
  have hr := hash_range seed k
  have hpos := ht.pos
  have h34 := ht.nn
  have h35 := ht.ne
  have hle := ht.left
  apply cl_table_Table_shard_entry_of
  unfold c_table_Table_shard_entry_of
  have hbn : belowN (hashZ seed k) t.nn < t.nn := Nat.mod_lt _ (by omega)
  have pn : Pu P f_hash_Below #[.int .u64 (hashZ seed k), .int .i64 t.nn] (.int .i64 (belowN (hashZ seed k) t.nn)) := by
    have := below_sp (hashZ seed k) t.nn (by omega)
    rw [below_eq hr.1 hpos (by omega)] at this
    exact this
  have nowAt : ∀ {w'}, St h0 w0 w' (cl p T_table_Table_p_shard_entry (tabCells seed t many) :: rowE t :: rowN t :: As) → ∃ b, t.an = some b := fun H => H.pull3.rowSome (by rw [sls_length]; omega)
  refine ⟨_, rfl, seed, by rw [add_mk, H.cell m0]; rfl, ?_⟩
  refine H.pure (hash_sp _ _ hk) fun w4 H => ⟨_, rfl, _, rfl, t.ae, t.ne, t.ce, by rw [add_mk, H.cell m0]; rfl, ?_⟩
  refine H.pure (below_sp _ _ (by omega)) fun w9 H => ⟨_, rfl, fun w11 e11 => ?_⟩
  have H := H.drew e11
  refine ⟨_, rfl, t.left, by rw [add_mk, H.cell m0]; rfl, br (fun hc => ?_) fun hc => ?_⟩
  · simp only [decide_eq_true_eq] at hc
    have hl0 : 0 < t.left := by omega
    have hbe : belowZ (hashZ seed k) t.ne = (belowN (hashZ seed k) t.ne : Int) := below_eq hr.1 (by omega) (by omega)
    have hbl : belowN (hashZ seed k) t.ne < t.ne := Nat.mod_lt _ (by omega)
    have ew : IntKind.i64.wrap ((t.ne : Int) - t.left) = ((t.ne - t.left : Nat) : Int) := by rw [wrap_i64 (by omega) (by omega)]; omega
    refine ⟨_, rfl, t.ae, t.ne, t.ce, by rw [add_mk, H.cell m0]; rfl, _, rfl, t.left, by rw [add_mk, H.cell m0]; rfl, ?_⟩
    rw [hbe, ew]
    refine br (fun hc2 => ?_) fun hc2 => ?_
    · simp only [decide_eq_true_eq] at hc2
      obtain ⟨b, hb⟩ := H.swap.rowSome (by rw [sls_length]; omega)
      refine ⟨_, rfl, t.ae, t.ne, t.ce, by rw [add_mk, H.cell m0]; rfl, b, hb, by omega, by omega, hK _ _ ?_ H⟩
      have : locN seed t k = belowN (hashZ seed k) t.ne := if_pos ⟨hl0, by omega⟩
      rw [this, Int.toNat_natCast, Nat.mul_one]
      exact .inl ⟨hbl, b, hb, rfl⟩
    · simp only [decide_eq_false_iff_not] at hc2
      intro w21 e21
      have H := H.drew e21
      refine ⟨_, rfl, t.an, t.nn, t.cn, by rw [add_mk, H.cell m0]; rfl, _, rfl, t.an, t.nn, t.cn, by rw [add_mk, H.cell m0]; rfl, ?_⟩
      refine H.pure pn fun w27 H => ⟨_, rfl, ⟨_, _, _, by rw [add_mk, H.cell m0]; rfl, rfl⟩, ?_⟩
      obtain ⟨b, hb⟩ := nowAt H
      refine ⟨b, hb, by omega, by omega, hK _ _ ?_ H⟩
      have : locN seed t k = t.ne + belowN (hashZ seed k) t.nn := if_neg (fun h => hc2 (by omega))
      rw [this, Int.toNat_natCast, Nat.mul_one]
      exact .inr ⟨by omega, by omega, b, hb, by rw [Nat.add_sub_cancel_left]⟩
  · simp only [decide_eq_false_iff_not] at hc
    intro w31 e31
    have H := H.drew e31
    refine ⟨_, rfl, t.an, t.nn, t.cn, by rw [add_mk, H.cell m0]; rfl, _, rfl, t.an, t.nn, t.cn, by rw [add_mk, H.cell m0]; rfl, ?_⟩
    refine H.pure pn fun w27 H => ⟨_, rfl, ⟨_, _, _, by rw [add_mk, H.cell m0]; rfl, rfl⟩, ?_⟩
    obtain ⟨b, hb⟩ := nowAt H
    refine ⟨b, hb, by omega, by omega, hK _ _ ?_ H⟩
    have : locN seed t k = t.ne + belowN (hashZ seed k) t.nn := if_neg (fun h => by omega)
    rw [this, Int.toNat_natCast, Nat.mul_one]
    exact .inr ⟨by omega, by omega, b, hb, by rw [Nat.add_sub_cancel_left]⟩

/-- The place of a text in a bucket: -1, if it is not there. -/
def idxZ (l : List Pr) (k : ByteArray) : Int := match l.findIdx? fun x => decide (x.1 = k) with
  | some i => i
  | none => -1

theorem idx_sp {x : Sl} {l : List Pr} {k : ByteArray} {b : Nat} {K : Value → World → Prop} (H : St h0 w0 w (Row T_table_pair_p_shard_entry 2 x.1 x.2.1 x.2.2 (prs l) :: cl b T_string [.string k] :: As)) (hl : l.length < 2 ^ 60)
    (hK : ∀ w', St h0 w0 w' (Row T_table_pair_p_shard_entry 2 x.1 x.2.1 x.2.2 (prs l) :: cl b T_string [.string k] :: As) → K (.int .i64 (idxZ l k)) w') :
    Cl P f_slices_IndexFunc_table_bucket_shard_entry_table_pair_shard_entry #[.slice x.1 x.2.1 x.2.2, .func (.func f_table_Table_shard_entry_find_1) #[] #[.pointer (some (Addr.mk b 0 none))]] w K := by
  have hn : x.2.1 = l.length := by
    have := H.rowLen.1
    rw [prs_length] at this; omega
  apply cl_slices_IndexFunc_table_bucket_shard_entry_table_pair_shard_entry
  unfold c_slices_IndexFunc_table_bucket_shard_entry_table_pair_shard_entry
  refine ⟨fun vs w' => ∃ i : Nat, i ≤ l.length ∧ vs = [.int .i64 i] ∧ (∀ j y, j < i → l[j]? = some y → y.1 ≠ k) ∧ St h0 w0 w' (Row T_table_pair_p_shard_entry 2 x.1 x.2.1 x.2.2 (prs l) :: cl b T_string [.string k] :: As),
    fun vs _ => match vs with | [.int _ i] => l.length - i.toNat | _ => 0, ⟨0, by omega, rfl, (fun j y hj => absurd hj (by omega)), H⟩, ?_⟩
  rintro vs w4 ⟨i, hi, rfl, hb, H⟩
  refine ⟨i, rfl, br (fun hc => ?_) fun hc => ?_⟩
  · simp only [decide_eq_true_eq] at hc
    have hlt : i < l.length := by omega
    obtain ⟨a, ha⟩ := H.rowSome (by rw [prs_length]; omega)
    obtain ⟨g1, g2⟩ := prs_get l i l[i] (List.getElem?_eq_getElem hlt)
    refine ⟨a, ha, by omega, by omega, l[i].1, l[i].2, ?_, ?_⟩
    · intro j v hj
      have hadd : ∀ q, Addr.add (Addr.add a (Int.toNat (i : Int) * 2)) q = Addr.add a (i * 2 + q) := fun q => by
        rcases H.rowOpen with ⟨h1, _⟩ | ⟨b', l', h1, _⟩
        · rw [ha] at h1; cases h1
        · rw [ha] at h1; cases h1
          rw [add_mk, add_mk, add_mk, Int.toNat_natCast, Nat.add_assoc]
      rw [hadd]
      match j, hj with
      | 0, hj => cases hj; exact H.rowCell ha g1
      | 1, hj => cases hj; exact H.rowCell ha g2
    · refine ⟨by kernel_rfl, ?_⟩
      refine cl_table_Table_shard_entry_find_1 (R := _) ?_
      unfold c_table_Table_shard_entry_find_1
      intro c1 w2 e1 e2
      have H := H.newCells (cs := [.string l[i].1, .pointer l[i].2]) e1 e2
      refine ⟨l[i].1, by rw [add_mk, H.cell m0]; rfl, k, by rw [H.cell m2]; rfl, _, rfl, ?_⟩
      rw [seq_eq]
      refine br (fun hq => ?_) fun hq => ?_
      · have hq : l[i].1 = k := by simpa using hq
        refine cast ?_ (hK _ H.drop)
        have : l.findIdx? (fun x => decide (x.1 = k)) = some i := by
          rw [List.findIdx?_eq_some_iff_getElem]
          refine ⟨hlt, by simpa using hq, fun j hj => ?_⟩
          simpa using hb j l[j] hj (List.getElem?_eq_getElem (by omega))
        unfold idxZ
        rw [this]
      · have hq : l[i].1 ≠ k := by simpa using hq
        have ew : IntKind.i64.wrap ((i : Int) + 1) = ((i + 1 : Nat) : Int) := by rw [wrap_i64 (by omega) (by omega)]; omega
        rw [ew]
        refine ⟨⟨i + 1, hlt, rfl, fun j y hj hy => ?_, H.drop⟩, by simp; omega⟩
        by_cases e : j = i
        · subst e; rw [List.getElem?_eq_getElem hlt] at hy; cases hy; exact hq
        · exact hb j y (by omega) hy
  · simp only [decide_eq_false_iff_not] at hc
    have : l.findIdx? (fun x => decide (x.1 = k)) = none := by
      rw [List.findIdx?_eq_none_iff]
      intro y hy
      obtain ⟨j, hj⟩ := List.getElem?_of_mem hy
      have := (List.getElem?_eq_some_iff.1 hj).1
      simpa using hb j y (by omega) hj
    refine cast ?_ (hK _ H)
    unfold idxZ
    rw [this]

def flat (n : Nat) (f : Nat → List Pr) : List Pr := ((List.range n).map f).flatten
theorem flat_at (f : Nat → List Pr) {n i : Nat} (hi : i < n) : (flat n f).Perm (f i ++ (((List.range n).erase i).map f).flatten) := by
  have := ((List.perm_cons_erase (List.mem_range.2 hi)).map f).flatten
  simpa [flat] using this
theorem flat_upd (f : Nat → List Pr) {n i : Nat} (hi : i < n) (l : List Pr) : (flat n (upd f i l)).Perm (l ++ (((List.range n).erase i).map f).flatten) := by
  have h1 := flat_at (upd f i l) hi
  rw [upd_same] at h1
  have e : ((List.range n).erase i).map (upd f i l) = ((List.range n).erase i).map f := List.map_congr_left fun j hj => upd_ne (by
    intro e; subst e
    exact absurd hj (List.Nodup.not_mem_erase List.nodup_range))
  rw [e] at h1
  exact h1
theorem mem_flat {f : Nat → List Pr} {n : Nat} {x : Pr} : x ∈ flat n f ↔ ∃ j, j < n ∧ x ∈ f j := by
  simp only [flat, List.mem_flatten, List.mem_map, List.mem_range]
  constructor
  · rintro ⟨l, ⟨j, hj, rfl⟩, hx⟩; exact ⟨j, hj, hx⟩
  · rintro ⟨j, hj, hx⟩; exact ⟨_, ⟨j, hj, rfl⟩, hx⟩
theorem flat_len (f : Nat → List Pr) {n i : Nat} (hi : i < n) : (f i).length ≤ (flat n f).length := by
  rw [(flat_at f hi).length_eq, List.length_append]; omega

def LocOk (seed : Int) (t : TS) : Prop := ∀ j, j < t.ne + t.nn → ∀ x ∈ t.bl j, locN seed t x.1 = j ∧ x.1.size < 2 ^ 62
def tabL (p : Nat) (seed : Int) (t : TS) (many : Nat) : List HP := [cl p T_table_Table_p_shard_entry (tabCells seed t many), rowE t, rowN t, bag (t.ne + t.nn) (bRow t.bs t.bl)]

theorem locN_lt {k : ByteArray} (ht : TOk t) : locN seed t k < t.ne + t.nn := by
  have h1 : belowN (hashZ seed k) t.nn < t.nn := Nat.mod_lt _ ht.pos
  unfold locN
  split
  · rename_i h
    have : belowN (hashZ seed k) t.ne < t.ne := Nat.mod_lt _ (by have := ht.left; omega)
    omega
  · omega

/-- A bucket gets one more pair. -/
theorem tab_push {x : Pr} {a' : Option Addr} {c' : Nat} (hj : j < t.ne + t.nn) (ha : IsAt t j a)
    (H : St h0 w0 w (Row T_table_pair_p_shard_entry 2 a' ((t.bs j).2.1 + 1) c' (prs (t.bl j) ++ [.string x.1, .pointer x.2]) :: bagBut (t.ne + t.nn) (bRow t.bs t.bl) j :: rowE t :: rowN t :: As)) (hw : w' = w.setCell a (.slice a' ((t.bs j).2.1 + 1) c')) :
    St h0 w0 w' (rowE { t with bs := upd t.bs j (a', (t.bs j).2.1 + 1, c'), bl := upd t.bl j (t.bl j ++ [x]) } :: rowN { t with bs := upd t.bs j (a', (t.bs j).2.1 + 1, c'), bl := upd t.bl j (t.bl j ++ [x]) } ::
      bag (t.ne + t.nn) (bRow (upd t.bs j (a', (t.bs j).2.1 + 1, c')) (upd t.bl j (t.bl j ++ [x]))) :: As) := by
  have H2 := H.conv (A' := bRow (upd t.bs j (a', (t.bs j).2.1 + 1, c')) (upd t.bl j (t.bl j ++ [x])) j) fun _ hh => by
    simp only [bRow, upd_same, prs_append, prs]; exact hh
  have H3 := H2.bagIn hj fun i hi => by simp only [bRow, upd_ne hi]
  exact (tab_set (t := t) H3.push3 ha (a', (t.bs j).2.1 + 1, c') hw)

theorem row_pair {x : Sl} {l : List Pr} {i : Nat} (H : St h0 w0 w (Row T_table_pair_p_shard_entry 2 x.1 x.2.1 x.2.2 (prs l) :: As)) (hi : i < l.length) : ∃ a, x.1 = some a ∧ SpanAt w (Addr.add a (Int.toNat (i : Int) * 2)) [.string l[i].1, .pointer l[i].2] := by
  obtain ⟨a, ha⟩ := H.rowSome (by rw [prs_length]; omega)
  obtain ⟨g1, g2⟩ := prs_get l i l[i] (List.getElem?_eq_getElem hi)
  refine ⟨a, ha, fun j v hj => ?_⟩
  have hadd : ∀ q, Addr.add (Addr.add a (Int.toNat (i : Int) * 2)) q = Addr.add a (i * 2 + q) := fun q => by
    rcases H.rowOpen with ⟨h1, _⟩ | ⟨b', l', h1, _⟩
    · rw [ha] at h1; cases h1
    · rw [ha] at h1; cases h1
      rw [add_mk, add_mk, add_mk, Int.toNat_natCast, Nat.add_assoc]
  rw [hadd]
  match j, hj with
  | 0, hj => cases hj; exact H.rowCell ha g1
  | 1, hj => cases hj; exact H.rowCell ha g2

/-- One of the elder buckets is moved, if some are left. -/
theorem tab_step {K : Value → World → Prop} (H : St h0 w0 w (cl p T_table_Table_p_shard_entry (tabCells seed t many) :: rowE t :: rowN t :: bag (t.ne + t.nn) (bRow t.bs t.bl) :: As)) (ht : TOk t) (hlo : LocOk seed t) (hlen : (flat (t.ne + t.nn) t.bl).length < 2 ^ 34)
    (hK : ∀ (t' : TS) (w' : World), t'.ne = t.ne → t'.nn = t.nn → TOk t' → LocOk seed t' → (flat (t.ne + t.nn) t'.bl).Perm (flat (t.ne + t.nn) t.bl) →
      St h0 w0 w' (cl p T_table_Table_p_shard_entry (tabCells seed t' many) :: rowE t' :: rowN t' :: bag (t.ne + t.nn) (bRow t'.bs t'.bl) :: As) → K (.tuple #[]) w') :
    Cl P f_table_Table_shard_entry_step #[.pointer (some (Addr.mk p 0 none))] w K := by
  have hpos := ht.pos
  have h34 := ht.nn
  have h35 := ht.ne
  have hle := ht.left
  apply cl_table_Table_shard_entry_step
  unfold c_table_Table_shard_entry_step
  refine ⟨_, rfl, t.left, by rw [add_mk, H.cell m0]; rfl, br (fun hc => ?_) fun hc => ?_⟩
  · exact hK t w rfl rfl ht hlo (List.Perm.refl _) H
  · have hl0 : 0 < t.left := by
      have : (t.left : Int) ≠ 0 := by simpa using hc
      omega
    intro w3 e3
    have H := H.drew e3
    have ew : IntKind.i64.wrap ((t.ne : Int) - t.left) = ((t.ne - t.left : Nat) : Int) := by rw [wrap_i64 (by omega) (by omega)]; omega
    obtain ⟨b, hb⟩ := H.swap.rowSome (by rw [sls_length]; omega)
    have hat : t.ne - t.left < t.ne := by omega
    have hatn : t.ne - t.left < t.ne + t.nn := by omega
    have isat : IsAt t (t.ne - t.left) (b.add (t.ne - t.left)) := .inl ⟨hat, b, hb, rfl⟩
    refine ⟨_, rfl, t.ae, t.ne, t.ce, by rw [add_mk, H.cell m0]; rfl, _, rfl, t.left, by rw [add_mk, H.cell m0]; rfl, _, rfl, t.ae, t.ne, t.ce, by rw [add_mk, H.cell m0]; rfl, b, hb, ?_⟩
    rw [ew, Int.toNat_natCast, Nat.mul_one]
    refine ⟨by omega, by omega, (t.bs (t.ne - t.left)).1, (t.bs (t.ne - t.left)).2.1, (t.bs (t.ne - t.left)).2.2, tab_cell H.push4 isat, ?_⟩
    refine ⟨_, rfl, t.ae, t.ne, t.ce, by rw [add_mk, H.cell m0]; rfl, b, hb, by omega, by omega, tab_ok H.push4 isat, fun w15 e15 => ?_⟩
    have H := (tab_set H.push4 isat (none, 0, 0) e15).pull4
    refine ⟨_, rfl, t.left, by rw [add_mk, H.cell m0]; rfl, _, rfl, by rw [add_mk]; exact H.stOk m0 (by simp [tabCells]), fun w19 e19 => ?_⟩
    have ewl : IntKind.i64.wrap ((t.left : Int) - 1) = ((t.left - 1 : Nat) : Int) := by rw [wrap_i64 (by omega) (by omega)]; omega
    rw [add_mk, ewl] at e19
    have H := H.set e19
    generalize hA : t.ne - t.left = A at *
    have H := ((H.pull4.bagOut hatn).push5).rowNil (T := T_table_pair_p_shard_entry) (sz := 2)
    have H := H.conv (A' := bRow (upd t.bs A (none, 0, 0)) (upd t.bl A []) A) fun _ hh => by simp only [bRow, upd_same, prs]; exact hh
    have H := (H.bagIn hatn fun i hi => by simp only [bRow, upd_ne hi]).push4
    -- [cl, rowE, rowN, bag, moved]
    have hM : ∀ x ∈ t.bl A, locN seed t x.1 = A ∧ x.1.size < 2 ^ 62 := hlo A hatn
    have hMl : (t.bl A).length < 2 ^ 34 := Nat.lt_of_le_of_lt (flat_len t.bl hatn) hlen
    -- the loop
    refine ⟨fun vs w' => ∃ (i : Nat) (t' : TS), i ≤ (t.bl A).length ∧ vs = [.int .i64 i] ∧ t'.ne = t.ne ∧ t'.nn = t.nn ∧ t'.left = t.left - 1 ∧ LocOk seed t' ∧ (flat (t.ne + t.nn) t'.bl).Perm (flat (t.ne + t.nn) (upd t.bl A []) ++ (t.bl A).take i) ∧
      St h0 w0 w' (cl p T_table_Table_p_shard_entry (tabCells seed t' many) :: rowE t' :: rowN t' :: bag (t.ne + t.nn) (bRow t'.bs t'.bl) :: bRow t.bs t.bl A :: As),
      fun vs _ => match vs with | [.int _ i] => (t.bl A).length - i.toNat | _ => 0, ?_, ?_⟩
    · refine ⟨0, { t with left := t.left - 1, bs := upd t.bs A (none, 0, 0), bl := upd t.bl A [] }, by omega, rfl, rfl, rfl, rfl, ?_, by rw [List.take_zero, List.append_nil], H⟩
      intro j hj x hx
      simp only at hx hj
      by_cases e : j = A
      · subst e; rw [upd_same] at hx; cases hx
      · rw [upd_ne e] at hx
        obtain ⟨g1, g2⟩ := hlo j hj x hx
        refine ⟨?_, g2⟩
        unfold locN at g1 ⊢
        simp only
        by_cases hcond : 0 < t.left ∧ t.ne - t.left ≤ belowN (hashZ seed x.1) t.ne
        · rw [if_pos hcond] at g1
          have : belowN (hashZ seed x.1) t.ne < t.ne := Nat.mod_lt _ (by omega)
          rw [if_pos ⟨by omega, by omega⟩]; exact g1
        · rw [if_neg hcond] at g1
          rw [if_neg (fun h => hcond ⟨hl0, by omega⟩)]; exact g1
    · rintro vs w23 ⟨i, t', hi, rfl, k1, k2, k3, k4, k5, H⟩
      have hn : (t.bs A).2.1 = (t.bl A).length := by
        have := H.pull5.rowLen.1
        rw [prs_length] at this; omega
      refine ⟨i, rfl, br (fun hc2 => ?_) fun hc2 => ?_⟩
      · simp only [decide_eq_true_eq] at hc2
        have hlt : i < (t.bl A).length := by omega
        obtain ⟨a25, ha25, hsp⟩ := row_pair H.pull5 hlt
        generalize hx : (t.bl A)[i] = x at *
        have hxm : x ∈ t.bl A := by rw [← hx]; exact List.getElem_mem hlt
        obtain ⟨hxl, hxs⟩ := hM x hxm
        have hr := hash_range seed x.1
        have hbn : belowN (hashZ seed x.1) t'.nn < t'.nn := Nat.mod_lt _ (by omega)
        have hj : t'.ne + belowN (hashZ seed x.1) t'.nn < t'.ne + t'.nn := by omega
        have hloc : locN seed t' x.1 = t'.ne + belowN (hashZ seed x.1) t'.nn := by
          unfold locN at hxl ⊢
          refine if_neg fun h => ?_
          rw [k1, k3] at h
          split at hxl
          · omega
          · omega
        refine ⟨a25, ha25, by omega, by omega, x.1, x.2, hsp, fun b28 w29 e28 e29 => ?_⟩
        have H := H.newCells (cs := [.string ⟨#[]⟩, .pointer none]) e28 e29
        refine ⟨H.wr m0 (by simp), fun w30 e30 w31 e31 => ?_⟩
        have H := (H.setSpan0 e30).drew e31
        refine ⟨_, rfl, t'.an, t'.nn, t'.cn, by rw [add_mk, H.cell m1]; rfl, _, rfl, seed, by rw [add_mk, H.cell m1]; rfl, x.1, by rw [add_mk, H.cell m0]; rfl, _, rfl, t'.an, t'.nn, t'.cn, by rw [add_mk, H.cell m1]; rfl, ?_⟩
        refine H.pure (hash_sp _ _ hxs) fun w40 H => ⟨_, rfl, ⟨_, _, _, by rw [add_mk, H.cell m1]; rfl, rfl⟩, ⟨_, _, _, by rw [add_mk, H.cell m1]; rfl, rfl⟩, ?_⟩
        have pn : Pu P f_hash_Below #[.int .u64 (hashZ seed x.1), .int .i64 t'.nn] (.int .i64 (belowN (hashZ seed x.1) t'.nn)) := by
          have := below_sp (hashZ seed x.1) t'.nn (by omega)
          rw [below_eq hr.1 (by omega) (by omega)] at this
          exact this
        refine H.pure pn fun w45 H => ⟨_, rfl, ⟨_, _, _, by rw [add_mk, H.cell m1]; rfl, rfl⟩, ?_⟩
        obtain ⟨b', hb'⟩ := H.pull4.rowSome (by rw [sls_length]; omega)
        have isj : IsAt t' (t'.ne + belowN (hashZ seed x.1) t'.nn) (b'.add (belowN (hashZ seed x.1) t'.nn)) := .inr ⟨by omega, hj, b', hb', by rw [Nat.add_sub_cancel_left]⟩
        generalize hJ : t'.ne + belowN (hashZ seed x.1) t'.nn = J at *
        refine ⟨b', hb', by omega, by omega, fun w49 e49 => ?_⟩
        have H := H.drew e49
        rw [Int.toNat_natCast, Nat.mul_one]
        -- [b28, cl, rowE, rowN, bag, moved]
        refine ⟨_, rfl, (t'.bs J).1, (t'.bs J).2.1, (t'.bs J).2.2, tab_cell H.pull3.pull4.swap isj, x.1, x.2, H.spanAll m0, fun b54 w55 e54 e55 => ?_⟩
        have H := H.newCells (cs := [.string x.1, .pointer x.2]) e54 e55
        refine ⟨⟨_, _, _, tab_cell H.pull4.pull5.swap isj, rfl⟩, [.string x.1, .pointer x.2], ⟨rfl, H.spanAll m0⟩, ?_⟩
        have hnn : t.ne + t.nn = t'.ne + t'.nn := by rw [k1, k2]
        have H := H.drop.drop.pull4
        rw [hnn] at H
        have H := (H.bagOut hj).pull3.push5
        have hJn : (t'.bs J).2.1 = (t'.bl J).length := by
          have := H.rowLen.1
          rw [prs_length] at this; omega
        have hJl : (t'.bl J).length < 2 ^ 36 := by
          have q1 := flat_len t'.bl hj
          have q2 := k5.length_eq
          have q3 := (flat_upd t.bl hatn []).length_eq
          have q4 := (flat_at t.bl hatn).length_eq
          simp only [List.length_append, List.length_take, List.length_nil] at q2 q3 q4
          rw [hnn] at q2 q3 q4 hlen
          omega
        refine H.rowAppend (sz := 2) (fun u hu => by
          rcases List.mem_cons.1 hu with rfl | hu
          · rfl
          · rw [List.mem_singleton.1 hu]; rfl) rfl rfl (by omega) fun a58 c59 w60 H => ?_
        refine ⟨_, rfl, tab_ok H.pull3.pull4.swap isj, fun w62 e62 => ?_⟩
        have H := (tab_push hj isj H e62).pull4
        have ewi : IntKind.i64.wrap ((i : Int) + 1) = ((i + 1 : Nat) : Int) := by rw [wrap_i64 (by omega) (by omega)]; omega
        rw [ewi]
        refine ⟨⟨i + 1, { t' with bs := upd t'.bs J (a58, (t'.bs J).2.1 + 1, c59), bl := upd t'.bl J (t'.bl J ++ [x]) }, hlt, rfl, k1, k2, k3, fun j' hj' y hy => ?_, ?_, ?_⟩, by simp; omega⟩
        · simp only at hy hj'
          by_cases e : j' = J
          · subst e
            rw [upd_same] at hy
            rcases List.mem_append.1 hy with hy | hy
            · exact k4 j' hj' y hy
            · rw [List.mem_singleton.1 hy]; exact ⟨hloc, hxs⟩
          · rw [upd_ne e] at hy
            exact k4 j' hj' y hy
        · simp only
          rw [hnn]
          rw [hnn] at k5
          have p1 := flat_upd t'.bl hj (t'.bl J ++ [x])
          have p2 := flat_at t'.bl hj
          have p3 : ((t'.bl J ++ [x]) ++ (((List.range (t'.ne + t'.nn)).erase J).map t'.bl).flatten).Perm (flat (t'.ne + t'.nn) t'.bl ++ [x]) := by
            refine List.Perm.trans ?_ (p2.symm.append_right [x])
            rw [List.append_assoc, List.append_assoc]
            exact List.Perm.append_left _ List.perm_append_comm
          have p4 := (p1.trans p3).trans (k5.append_right [x])
          rw [List.append_assoc, ← hx, ← List.take_succ_eq_append_getElem hlt, hx] at p4
          exact p4
        · rw [hnn]; exact H
      · simp only [decide_eq_false_iff_not] at hc2
        have hil : i = (t.bl A).length := by omega
        subst hil
        refine hK t' w23 k1 k2 ⟨by rw [k2]; exact hpos, by rw [k2]; exact h34, by rw [k1]; exact h35, by rw [k1, k3]; omega⟩ k4 ?_ H.pull5.drop
        rw [List.take_length] at k5
        have p1 := flat_upd t.bl hatn []
        have p2 := flat_at t.bl hatn
        rw [List.nil_append] at p1
        exact k5.trans (((p1.append_right _).trans List.perm_append_comm).trans p2.symm)
end
end Go.Bty

namespace Go.Bty
open Go
open Go.Proofs.Try renaming prog → P

structure TInv (N : Nat) (seed : Int) (t : TS) (l : List Pr) : Prop where
  ok : TOk t
  loc : LocOk seed t
  perm : (flat (t.ne + t.nn) t.bl).Perm l
  dist : (l.map (·.1)).Nodup
  len : l.length ≤ N
  nn : t.nn ≤ 8 + 2 * N
  ne : t.ne ≤ 8 + 2 * N

/-- A table at block p: its texts and what they have; at most N were ever there. -/
def Tbl (p N : Nat) (seed : Int) (l : List Pr) : HP := fun h => ∃ t, TInv N seed t l ∧ SepL (tabL p seed t l.length) h
def getL (l : List Pr) (k : ByteArray) : Option (Option Addr) := (l.find? fun x => decide (x.1 = k)).map (·.2)

theorem getL_iff {l : List Pr} (hd : (l.map (·.1)).Nodup) {k : ByteArray} {v : Option Addr} : getL l k = some v ↔ (k, v) ∈ l := by
  induction l with
  | nil => simp [getL]
  | cons x l ih =>
    rw [List.map_cons, List.nodup_cons] at hd
    have ih := ih hd.2
    unfold getL at ih ⊢
    rw [List.find?_cons]
    by_cases h : x.1 = k
    · subst h
      simp only [decide_true, Option.map_some, Option.some.injEq, List.mem_cons]
      constructor
      · rintro rfl; exact .inl rfl
      · rintro (h | h)
        · rw [← h]
        · exact absurd (List.mem_map.2 ⟨_, h, rfl⟩) hd.1
    · have hf : decide (x.1 = k) = false := by simpa using h
      simp only [hf]
      rw [ih, List.mem_cons]
      constructor
      · exact .inr
      · rintro (h' | h')
        · exact absurd (congrArg (·.1) h').symm h
        · exact h'
theorem getL_none {l : List Pr} {k : ByteArray} : getL l k = none ↔ k ∉ l.map (·.1) := by
  unfold getL
  rw [Option.map_eq_none_iff, List.find?_eq_none]
  simp only [decide_eq_true_eq, List.mem_map, not_exists, not_and]

theorem idx_some {l : List Pr} {k : ByteArray} {i : Nat} (h : idxZ l k = i) : ∃ v, l[i]? = some (k, v) := by
  unfold idxZ at h
  split at h
  · rename_i j hj
    have : j = i := by omega
    subst this
    rw [List.findIdx?_eq_some_iff_getElem] at hj
    obtain ⟨hlt, hp, _⟩ := hj
    exact ⟨l[j].2, by rw [List.getElem?_eq_getElem hlt]; congr 1; exact Prod.ext (by simpa using hp) rfl⟩
  · omega
theorem idx_neg {l : List Pr} {k : ByteArray} (h : idxZ l k < 0) : k ∉ l.map (·.1) := by
  unfold idxZ at h
  split at h
  · omega
  · rename_i hn
    rw [List.findIdx?_eq_none_iff] at hn
    intro hm
    obtain ⟨x, hx, e⟩ := List.mem_map.1 hm
    have := hn x hx
    simp [e] at this

section
variable {h0 : Frag} {w0 w : World} {As : List HP} {p N : Nat} {seed : Int} {l : List Pr}
theorem St.tblOpen (H : St h0 w0 w (Tbl p N seed l :: As)) : ∃ t, TInv N seed t l ∧ St h0 w0 w (cl p T_table_Table_p_shard_entry (tabCells seed t l.length) :: rowE t :: rowN t :: bag (t.ne + t.nn) (bRow t.bs t.bl) :: As) := by
  obtain ⟨h, ⟨t, h1, h2⟩, hk⟩ := H.opn
  exact ⟨t, h1, hk _ h2⟩
theorem St.tblMk {t : TS} (h1 : TInv N seed t l) (H : St h0 w0 w (cl p T_table_Table_p_shard_entry (tabCells seed t l.length) :: rowE t :: rowN t :: bag (t.ne + t.nn) (bRow t.bs t.bl) :: As)) : St h0 w0 w (Tbl p N seed l :: As) :=
  St.cls (tabL p seed t l.length) H fun _ h => ⟨t, h1, h⟩

/-- A text's bucket, and its place there. -/
theorem tab_find {t : TS} {k : ByteArray} {K : Value → World → Prop} (ht : TInv N seed t l) (hN : N < 2 ^ 32) (hk : k.size < 2 ^ 62)
    (H : St h0 w0 w (cl p T_table_Table_p_shard_entry (tabCells seed t l.length) :: rowE t :: rowN t :: bag (t.ne + t.nn) (bRow t.bs t.bl) :: As))
    (hK : ∀ (t' : TS) (a : Addr) (w' : World), TInv N seed t' l → IsAt t' (locN seed t' k) a →
      St h0 w0 w' (cl p T_table_Table_p_shard_entry (tabCells seed t' l.length) :: rowE t' :: rowN t' :: bag (t'.ne + t'.nn) (bRow t'.bs t'.bl) :: As) → K (.tuple #[.pointer (some a), .int .i64 (idxZ (t'.bl (locN seed t' k)) k)]) w') :
    Cl P f_table_Table_shard_entry_find #[.pointer (some (Addr.mk p 0 none)), .string k] w K := by
  apply cl_table_Table_shard_entry_find
  unfold c_table_Table_shard_entry_find
  intro b1 w2 e1 e2
  have H := (H.newCells (cs := [.string k]) e1 e2).push5
  have hlen := ht.perm.length_eq
  have hl := ht.len
  refine tab_step H ht.ok ht.loc (by omega) fun t' w4 k1 k2 k3 k4 k5 H => ⟨rfl, k, by rw [H.cell m4]; rfl, ?_⟩
  have ht' : TInv N seed t' l := ⟨k3, k4, by rw [k1, k2]; exact k5.trans ht.perm, ht.dist, ht.len, by rw [k2]; exact ht.nn, by rw [k1]; exact ht.ne⟩
  refine tab_of H k3 hk fun a w7 ha H => ⟨_, rfl, a, rfl, (t'.bs (locN seed t' k)).1, (t'.bs (locN seed t' k)).2.1, (t'.bs (locN seed t' k)).2.2, tab_cell H.push4 ha, ?_⟩
  have hj := locN_lt (seed := seed) (k := k) k3
  rw [← k1, ← k2] at H
  have H := H.pull4.bagOut hj
  -- [bRow, but, cl, rowE, rowN, b1]
  have H := H.pull6.swap
  refine idx_sp H (by have := flat_len t'.bl hj; have := ht'.perm.length_eq; omega) fun w12 H => ⟨_, rfl, ?_⟩
  have H := ((H.swap.drop.conv (A' := bRow t'.bs t'.bl (locN seed t' k)) fun _ hh => hh).bagIn hj fun i hi => rfl).push4
  exact hK t' a w12 ht' ha H

/-- What a text has. -/
theorem table_get (p N : Nat) (seed : Int) (l : List Pr) (k : ByteArray) (hN : N < 2 ^ 32) (hk : k.size < 2 ^ 62) : Sp P f_table_Table_shard_entry_Get #[.pointer (some (Addr.mk p 0 none)), .string k] (Tbl p N seed l)
    (fun v h => v = .tuple #[.pointer ((getL l k).getD none), .bool (getL l k).isSome] ∧ Tbl p N seed l h) := sp_of fun w h H => by
  apply cl_table_Table_shard_entry_Get
  unfold c_table_Table_shard_entry_Get
  obtain ⟨t, ht, H⟩ := H.tblOpen
  refine tab_find ht hN hk H fun t' a w2 ht' ha H => ⟨_, _, rfl, ?_⟩
  have hj := locN_lt (seed := seed) (k := k) ht'.ok
  have HT := H.tblMk ht'
  refine br (fun hc => ?_) fun hc => ?_
  · simp only [decide_eq_true_eq] at hc
    have hno := idx_neg hc
    have : getL l k = none := getL_none.2 fun hm => by
      obtain ⟨x, hx, rfl⟩ := List.mem_map.1 hm
      have hx' := ht'.perm.mem_iff.2 hx
      obtain ⟨j, hjl, hxj⟩ := mem_flat.1 hx'
      have := (ht'.loc j hjl x hxj).1
      rw [this] at hno
      exact hno (List.mem_map.2 ⟨x, hxj, rfl⟩)
    rw [this]
    exact HT.conv fun _ hs => ⟨rfl, hs⟩
  · simp only [decide_eq_false_iff_not] at hc
    obtain ⟨i, hi⟩ : ∃ i : Nat, idxZ (t'.bl (locN seed t' k)) k = i := ⟨(idxZ (t'.bl (locN seed t' k)) k).toNat, by omega⟩
    obtain ⟨v, hv⟩ := idx_some hi
    have hmem : (k, v) ∈ l := ht'.perm.mem_iff.1 (mem_flat.2 ⟨_, hj, List.mem_of_getElem? hv⟩)
    have hg := (getL_iff ht'.dist).2 hmem
    rw [hg, hi]
    have hlt := (List.getElem?_eq_some_iff.1 hv).1
    have hvv := (List.getElem?_eq_some_iff.1 hv).2
    have H2 := H.pull4.bagOut hj
    have hn : (t'.bs (locN seed t' k)).2.1 = (t'.bl (locN seed t' k)).length := by
      have := H2.rowLen.1
      rw [prs_length] at this; omega
    obtain ⟨b, hb, hsp⟩ := row_pair H2 hlt
    refine ⟨a, rfl, _, _, _, tab_cell H.push4 ha, b, hb, by omega, by omega, v, ?_, HT.conv fun _ hs => ⟨rfl, hs⟩⟩
    have := hsp 1 _ rfl
    rw [hvv] at this
    exact this

/-- The new row becomes the elder one. -/
def grown (t : TS) (b : Nat) : TS := { ae := t.an, ne := t.nn, ce := t.cn, an := some (Addr.mk b 0 none), nn := 2 * t.nn, cn := 2 * t.nn, left := t.nn, bs := fun j => if j < t.nn then t.bs (t.ne + j) else (none, 0, 0), bl := fun j => if j < t.nn then t.bl (t.ne + j) else [] }

theorem bag_shift {f : Nat → HP} {m n : Nat} (H : St h0 w0 w (bag (m + n) f :: As)) : St h0 w0 w (bag n (fun j => f (m + j)) :: As) := by
  have h1 := H.split
  rw [List.range_add, List.map_append, List.append_assoc] at h1
  have h3 := (St.join (Bs := (List.range m).map f) h1).drop
  rw [List.map_map] at h3
  exact St.join ((List.range n).map fun j => f (m + j)) h3
theorem nil_rows : ∀ (n : Nat) {As : List HP}, St h0 w0 w As → St h0 w0 w ((List.range n).map (fun _ => Row T_table_pair_p_shard_entry 2 none 0 0 []) ++ As)
  | 0, _, H => H
  | n + 1, As, H => by
    have h1 := nil_rows n H
    rw [List.range_succ, List.map_append, List.append_assoc]
    exact (h1.rowNil (T := T_table_pair_p_shard_entry) (sz := 2)).perm List.perm_middle.symm
theorem bag_grow {t : TS} {b : Nat} (H : St h0 w0 w (bag (t.ne + t.nn) (bRow t.bs t.bl) :: As)) : St h0 w0 w (bag ((grown t b).ne + (grown t b).nn) (bRow (grown t b).bs (grown t b).bl) :: As) := by
  have h1 := nil_rows (2 * t.nn) (bag_shift H)
  have h2 := (St.join (Bs := (List.range (2 * t.nn)).map fun _ => Row T_table_pair_p_shard_entry 2 none 0 0 []) h1).swap.glue
  have e : (List.range ((grown t b).ne + (grown t b).nn)).map (bRow (grown t b).bs (grown t b).bl) = (List.range t.nn).map (fun j => bRow t.bs t.bl (t.ne + j)) ++ (List.range (2 * t.nn)).map fun _ => Row T_table_pair_p_shard_entry 2 none 0 0 [] := by
    show (List.range (t.nn + 2 * t.nn)).map _ = _
    rw [List.range_add, List.map_append, List.map_map]
    congr 1
    · refine List.map_congr_left fun j hj => ?_
      simp only [bRow, grown, if_pos (List.mem_range.1 hj)]
    · refine List.map_congr_left fun j hj => ?_
      simp only [Function.comp, bRow, grown, if_neg (by omega : ¬ t.nn + j < t.nn), prs]
  unfold bag
  rw [e]
  exact h2

theorem grown_rowE {t : TS} {b : Nat} : rowE (grown t b) = rowN t := by
  unfold rowE rowN
  have : sls 0 t.nn (grown t b).bs = sls t.ne t.nn t.bs := by
    apply List.ext_getElem?
    intro i
    by_cases hi : i < t.nn
    · rw [sls_get hi, sls_get hi, Nat.zero_add]
      simp only [grown, if_pos hi]
    · rw [List.getElem?_eq_none (by rw [sls_length]; omega), List.getElem?_eq_none (by rw [sls_length]; omega)]
  show Row _ 1 t.an t.nn t.cn (sls 0 t.nn (grown t b).bs) = _
  rw [this]
theorem grown_rowN {t : TS} {b : Nat} (H : St h0 w0 w (cl b T_table_bucket_p_shard_entry (zc (2 * t.nn) [.slice none 0 0]) :: As)) : St h0 w0 w (rowN (grown t b) :: As) := by
  have hz : (zc (2 * t.nn) [Value.slice none 0 0]).length = 2 * t.nn * 1 := by rw [zc_length]; rfl
  have H := H.rowMk (c := 2 * t.nn) (sz := 1) (n := 2 * t.nn) hz (Nat.le_refl _)
  have e : (zc (2 * t.nn) [Value.slice none 0 0]).take (2 * t.nn * 1) = sls t.nn (2 * t.nn) (grown t b).bs := by
    rw [← hz, List.take_length]
    apply List.ext_getElem?
    intro i
    by_cases hi : i < 2 * t.nn
    · rw [sls_get hi, zc_get _ _ _ (by simp; omega)]
      have : i % [Value.slice none 0 0].length = 0 := by simp; omega
      rw [this]
      simp only [grown, if_neg (by omega : ¬ t.nn + i < t.nn)]
      rfl
    · rw [List.getElem?_eq_none (by rw [hz]; omega), List.getElem?_eq_none (by rw [sls_length]; omega)]
  rw [e] at H
  exact H
theorem grown_inv {t : TS} {b : Nat} (ht : TInv N seed t l) (hN : N < 2 ^ 32) (hl : t.left = 0) (hm : 2 * t.nn < l.length) : TInv N seed (grown t b) l := by
  have hlo : ∀ j, j < t.ne → t.bl j = [] := fun j hj => by
    cases hb : t.bl j with
    | nil => rfl
    | cons x q =>
      have h1 := (ht.loc j (by omega) x (by rw [hb]; exact List.mem_cons_self ..)).1
      unfold locN at h1
      rw [if_neg (by omega)] at h1
      omega
  have hpos := ht.ok.pos
  have hlen := ht.len
  refine ⟨⟨by show 1 ≤ 2 * t.nn; omega, by show 2 * t.nn < 2 ^ 34; omega, ht.ok.nn, Nat.le_refl _⟩, fun j hj x hx => ?_, ?_, ht.dist, ht.len, by show 2 * t.nn ≤ _; omega, ht.nn⟩
  · simp only [grown] at hx
    by_cases hjn : j < t.nn
    · rw [if_pos hjn] at hx
      obtain ⟨h1, h2⟩ := ht.loc (t.ne + j) (by omega) x hx
      refine ⟨?_, h2⟩
      unfold locN at h1 ⊢
      rw [if_neg (by omega)] at h1
      rw [if_pos ⟨by show 0 < t.nn; omega, by show t.nn - t.nn ≤ _; omega⟩]
      show belowN (hashZ seed x.1) t.nn = j
      omega
    · rw [if_neg hjn] at hx; cases hx
  · refine List.Perm.trans ?_ ht.perm
    have e1 : flat (t.ne + t.nn) t.bl = flat t.nn (fun j => t.bl (t.ne + j)) := by
      unfold flat
      rw [List.range_add, List.map_append, List.flatten_append, List.map_map]
      have : ((List.range t.ne).map t.bl).flatten = [] := by
        rw [List.flatten_eq_nil_iff]
        intro q hq
        obtain ⟨j, hj, rfl⟩ := List.mem_map.1 hq
        exact hlo j (List.mem_range.1 hj)
      rw [this]; rfl
    have e2 : flat ((grown t b).ne + (grown t b).nn) (grown t b).bl = flat t.nn (fun j => t.bl (t.ne + j)) := by
      show flat (t.nn + 2 * t.nn) _ = _
      unfold flat
      rw [List.range_add, List.map_append, List.flatten_append, List.map_map]
      have h2 : ((List.range (2 * t.nn)).map ((grown t b).bl ∘ fun x => t.nn + x)).flatten = [] := by
        rw [List.flatten_eq_nil_iff]
        intro q hq
        obtain ⟨j, hj, rfl⟩ := List.mem_map.1 hq
        simp only [Function.comp, grown, if_neg (by omega : ¬ t.nn + j < t.nn)]
      rw [h2, List.append_nil]
      congr 1
      refine List.map_congr_left fun j hj => ?_
      simp only [grown, if_pos (List.mem_range.1 hj)]
    rw [e1, e2]

theorem TInv.push {t : TS} {k : ByteArray} {v : Option Addr} {x : Sl} (ht : TInv N seed t l) (hk : k.size < 2 ^ 62) (hno : k ∉ l.map (·.1)) :
    TInv (N + 1) seed { t with bs := upd t.bs (locN seed t k) x, bl := upd t.bl (locN seed t k) (t.bl (locN seed t k) ++ [(k, v)]) } (l ++ [(k, v)]) := by
  have hj := locN_lt (seed := seed) (k := k) ht.ok
  have hlen := ht.len
  have hnn := ht.nn
  have hne := ht.ne
  refine ⟨⟨ht.ok.pos, ht.ok.nn, ht.ok.ne, ht.ok.left⟩, fun j hjl y hy => ?_, ?_, ?_, by simp; omega, by show t.nn ≤ _; omega, by show t.ne ≤ _; omega⟩
  · simp only at hy
    by_cases e : j = locN seed t k
    · rw [e, upd_same] at hy
      rcases List.mem_append.1 hy with hy | hy
      · rw [e]; exact ht.loc _ hj y hy
      · rw [List.mem_singleton.1 hy, e]; exact ⟨rfl, hk⟩
    · rw [upd_ne e] at hy
      exact ht.loc j hjl y hy
  · have p1 := flat_upd t.bl hj (t.bl (locN seed t k) ++ [(k, v)])
    have p2 := flat_at t.bl hj
    refine p1.trans (List.Perm.trans ?_ ((p2.symm.trans ht.perm).append_right [(k, v)]))
    rw [List.append_assoc, List.append_assoc]
    exact List.Perm.append_left _ List.perm_append_comm
  · rw [List.map_append, List.nodup_append]
    exact ⟨ht.dist, by simp, fun a ha b hb hab => by
      rw [List.map_cons, List.map_nil, List.mem_singleton] at hb
      rw [hab, hb] at ha
      exact hno ha⟩

/-- A text that is not there is given something. -/
theorem table_put (p N : Nat) (seed : Int) (l : List Pr) (k : ByteArray) (v : Option Addr) (hN : N + 1 < 2 ^ 32) (hk : k.size < 2 ^ 62) (hno : k ∉ l.map (·.1)) : Sp P f_table_Table_shard_entry_Put #[.pointer (some (Addr.mk p 0 none)), .string k, .pointer v] (Tbl p N seed l)
    (fun u h => u = .tuple #[] ∧ Tbl p (N + 1) seed (l ++ [(k, v)]) h) := sp_of fun w h H => by
  apply cl_table_Table_shard_entry_Put
  unfold c_table_Table_shard_entry_Put
  obtain ⟨t, ht, H⟩ := H.tblOpen
  refine tab_find ht (by omega) hk H fun t' a w2 ht' ha H => ⟨_, _, rfl, ?_⟩
  have hj := locN_lt (seed := seed) (k := k) ht'.ok
  have hinv := fun x => ht'.push (v := v) (x := x) hk hno
  have hlen := ht'.len
  have hnn := ht'.nn
  generalize hJ : locN seed t' k = J at *
  refine br (fun hc => ?_) fun hc => ?_
  · simp only [decide_eq_true_eq] at hc
    obtain ⟨i, hi⟩ : ∃ i : Nat, idxZ (t'.bl J) k = i := ⟨(idxZ (t'.bl J) k).toNat, by omega⟩
    obtain ⟨v', hv⟩ := idx_some hi
    exact absurd (List.mem_map.2 ⟨_, ht'.perm.mem_iff.1 (mem_flat.2 ⟨_, hj, List.mem_of_getElem? hv⟩), rfl⟩) hno
  · refine ⟨a, rfl, _, _, _, tab_cell H.push4 ha, fun b33 w34 e33 e34 => ?_⟩
    have H := H.newCells (cs := [.string k, .pointer v]) e33 e34
    refine ⟨[.string k, .pointer v], ⟨rfl, H.spanAll m0⟩, ?_⟩
    have H := ((H.drop.pull4).bagOut hj).pull3.push5
    -- [bRow, but, rowE, rowN, cl]
    have hn : (t'.bs J).2.1 = (t'.bl J).length := by
      have := H.rowLen.1
      rw [prs_length] at this; omega
    have hbl : (t'.bl J).length ≤ N := by have := flat_len t'.bl hj; have := ht'.perm.length_eq; omega
    refine H.rowAppend (sz := 2) (fun u hu => by
      rcases List.mem_cons.1 hu with rfl | hu
      · rfl
      · rw [List.mem_singleton.1 hu]; rfl) rfl rfl (by omega) fun a36 c37 w38 H => ?_
    refine ⟨a, rfl, tab_ok H.pull3.pull4.swap ha, fun w40 e40 => ?_⟩
    have H := (tab_push (x := (k, v)) hj ha H e40).pull4
    have hinv := hinv (a36, (t'.bs J).2.1 + 1, c37)
    generalize ht2 : ({ t' with bs := upd t'.bs J (a36, (t'.bs J).2.1 + 1, c37), bl := upd t'.bl J (t'.bl J ++ [(k, v)]) } : TS) = t2 at *
    have f1 : t2.ne = t'.ne := by rw [← ht2]
    have f2 : t2.nn = t'.nn := by rw [← ht2]
    have f3 : tabCells seed t' l.length = tabCells seed t2 l.length := by rw [← ht2]; rfl
    have f4 : bRow (upd t'.bs J (a36, (t'.bs J).2.1 + 1, c37)) (upd t'.bl J (t'.bl J ++ [(k, v)])) = bRow t2.bs t2.bl := by rw [← ht2]
    rw [f3, f4, ← f1, ← f2] at H
    refine ⟨_, rfl, l.length, by rw [add_mk, H.cell m0]; rfl, _, rfl, by rw [add_mk]; exact H.stOk m0 (by simp [tabCells]), fun w44 e44 w45 e45 => ?_⟩
    have ew : IntKind.i64.wrap ((l.length : Int) + 1) = (((l ++ [(k, v)]).length : Nat) : Int) := by rw [wrap_i64 (by omega) (by omega)]; simp
    rw [add_mk, ew] at e44
    have H := (H.set e44).drew e45
    have H : St h w w45 [cl p T_table_Table_p_shard_entry (tabCells seed t2 (l ++ [(k, v)]).length), rowE t2, rowN t2, bag (t2.ne + t2.nn) (bRow t2.bs t2.bl)] := H
    have fin := fun {w' : World} (H : St h w w' [cl p T_table_Table_p_shard_entry (tabCells seed t2 (l ++ [(k, v)]).length), rowE t2, rowN t2, bag (t2.ne + t2.nn) (bRow t2.bs t2.bl)]) =>
      (St.tblMk hinv H).conv fun _ hs => (⟨rfl, hs⟩ : Value.tuple #[] = .tuple #[] ∧ Tbl p (N + 1) seed (l ++ [(k, v)]) _)
    have h2nn : t2.nn ≤ 8 + 2 * (N + 1) := hinv.nn
    have ew2 : IntKind.i64.wrap ((2 : Int) * (t2.nn : Int)) = ((2 * t2.nn : Nat) : Int) := by rw [wrap_i64 (by omega) (by omega)]; omega
    refine ⟨_, rfl, _, by rw [add_mk, H.cell m0]; rfl, _, rfl, t2.an, t2.nn, t2.cn, by rw [add_mk, H.cell m0]; rfl, ?_⟩
    rw [ew2]
    refine br (fun hc1 => ?_) fun _ => fin H
    refine ⟨_, rfl, t2.left, by rw [add_mk, H.cell m0]; rfl, br (fun hc2 => ?_) fun _ => fin H⟩
    simp only [decide_eq_true_eq] at hc1
    have hl0 : t2.left = 0 := by
      have : (t2.left : Int) = 0 := by simpa using hc2
      omega
    intro w52 e52
    have H := H.drew e52
    refine ⟨_, rfl, t2.an, t2.nn, t2.cn, by rw [add_mk, H.cell m0]; rfl, _, rfl, t2.an, t2.nn, t2.cn, by rw [add_mk, H.cell m0]; rfl, _, rfl, by rw [add_mk]; exact H.stOk m0 (by simp [tabCells]), fun w58 e58 => ?_⟩
    rw [add_mk] at e58
    have H := H.set e58
    refine ⟨_, rfl, by rw [add_mk]; exact H.stOk m0 (by simp [tabCells]), fun w60 e60 => ?_⟩
    rw [add_mk] at e60
    have H := H.set e60
    refine ⟨_, rfl, t2.an, t2.nn, t2.cn, by rw [add_mk, H.cell m0]; rfl, ?_⟩
    rw [ew2]
    refine ⟨by omega, by omega, by omega, fun b63 w64 e63 e64 => ?_⟩
    rw [Int.toNat_natCast] at e64
    have H := H.newCells (b := b63) (cs := zc (2 * t2.nn) [.slice none 0 0]) e63 e64
    have H := grown_rowN H
    -- [rowN', cl, rowE, rowN, bag]
    refine ⟨_, rfl, by rw [add_mk]; exact H.stOk m1 (by simp [tabCells]), fun w66 e66 => ?_⟩
    rw [add_mk, Int.toNat_natCast] at e66
    have H := H.swap.set e66
    -- [cl', rowN', rowE, rowN, bag]
    have H := bag_grow (b := b63) H.pull5
    -- [bag', cl', rowN', rowE, rowN]
    have H := H.pull4.drop.pull4
    -- [rowN, bag', cl', rowN']
    rw [← grown_rowE (b := b63)] at H
    have hg := grown_inv (b := b63) hinv hN hl0 (by omega)
    exact (St.tblMk hg H.pull3.pull4.push3).conv fun _ hs => ⟨rfl, hs⟩

theorem table_new (seed : Int) : Sp P f_table_New_shard_entry #[.int .u64 seed] (fun _ => True) (fun v h => ∃ p, v = .pointer (some (Addr.mk p 0 none)) ∧ Tbl p 0 seed [] h) := sp_of fun w h H => by
  apply cl_table_New_shard_entry
  unfold c_table_New_shard_entry
  refine ⟨by omega, by omega, by omega, fun b1 w2 e1 e2 b3 w4 e3 e4 => ?_⟩
  have H := H.drop.newCells (b := b1) (cs := zc 8 [.slice none 0 0]) e1 e2
  let t : TS := ⟨none, 0, 0, some (Addr.mk b1 0 none), 8, 8, 0, fun _ => (none, 0, 0), fun _ => []⟩
  have H := H.rowMk (c := 8) (sz := 1) (n := 8) rfl (Nat.le_refl _)
  have H := H.newCells (b := b3) (cs := tabCells seed t 0) e3 e4
  -- [cl, rowN]
  have H := (nil_rows 8 (H.swap.rowNil (T := T_table_bucket_p_shard_entry) (sz := 1)))
  have H : St h w w4 [bag (t.ne + t.nn) (bRow t.bs t.bl), rowE t, rowN t, cl b3 T_table_Table_p_shard_entry (tabCells seed t 0)] := St.join ((List.range (t.ne + t.nn)).map (bRow t.bs t.bl)) H
  have hf : flat (t.ne + t.nn) t.bl = [] := rfl
  have hinv : TInv 0 seed t [] := ⟨⟨by show 1 ≤ 8; omega, by show 8 < 2 ^ 34; omega, by show 0 < 2 ^ 34; omega, Nat.le_refl _⟩, (fun j hj x hx => by cases hx), by rw [hf], List.nodup_nil, Nat.le_refl _, by show 8 ≤ _; omega, by show 0 ≤ _; omega⟩
  exact (St.tblMk hinv H.push4.pull3).conv fun _ hs => ⟨b3, rfl, hs⟩
end
end Go.Bty

namespace Go.Bty
open Go
open Go.Proofs.Try renaming prog → P

section
variable {h0 : Frag} {w0 w : World} {As : List HP}
theorem offA_add {b m l sz : Nat} (h : l ≤ m) : ∃ q, offA (some (Addr.mk b 0 none)) m l sz = some (Addr.mk b q none) ∧ (m ≠ l → q = l * sz) := by
  unfold offA
  split
  · exact ⟨0, rfl, fun h => absurd ‹m = l› h⟩
  · exact ⟨l * sz, by simp [add_mk], fun _ => rfl⟩

theorem prs_oneC : ∀ (l : List Pr), OneC (prs l)
  | [], u, hu => by cases hu
  | x :: l, u, hu => by
    rcases List.mem_cons.1 hu with rfl | hu
    · rfl
    · rcases List.mem_cons.1 hu with rfl | hu
      · rfl
      · exact prs_oneC l u hu

theorem perm_eraseIdx {α : Type} {l : List α} {i : Nat} (h : i < l.length) : l.Perm (l[i] :: l.eraseIdx i) := by
  rw [List.eraseIdx_eq_take_drop_succ]
  have e : l.take i ++ l[i] :: l.drop (i + 1) = l := by rw [List.getElem_cons_drop, List.take_append_drop]
  have h2 : (l.take i ++ l[i] :: l.drop (i + 1)).Perm (l[i] :: (l.take i ++ l.drop (i + 1))) := List.perm_middle
  rw [e] at h2
  exact h2

theorem del_sp {x : Sl} {l : List Pr} {i : Nat} {K : Value → World → Prop} (H : St h0 w0 w (Row T_table_pair_p_shard_entry 2 x.1 x.2.1 x.2.2 (prs l) :: As)) (hi : i < l.length) (hl : l.length < 2 ^ 40)
    (hK : ∀ w' (x' : Sl), St h0 w0 w' (Row T_table_pair_p_shard_entry 2 x'.1 x'.2.1 x'.2.2 (prs (l.eraseIdx i)) :: As) → K (.slice x'.1 x'.2.1 x'.2.2) w') :
    Cl P f_slices_Delete_table_bucket_shard_entry_table_pair_shard_entry #[.slice x.1 x.2.1 x.2.2, .int .i64 i, .int .i64 (i + 1 : Nat)] w K := by
  have hrl := H.rowLen
  have hn : x.2.1 = l.length := by have := hrl.1; rw [prs_length] at this; omega
  have hle := hrl.2
  rcases H.rowOpen with ⟨_, _, h0', _⟩ | ⟨b, L, ea, hL, ht, _, HB⟩
  · omega
  apply cl_slices_Delete_table_bucket_shard_entry_table_pair_shard_entry
  unfold c_slices_Delete_table_bucket_shard_entry_table_pair_shard_entry
  rw [hn] at *
  rw [ea] at *
  have e2 : Int.toNat ((i + 1 : Nat) : Int) = i + 1 := Int.toNat_natCast _
  have e3 : Int.toNat ((i : Nat) : Int) = i := Int.toNat_natCast _
  have e4 : Int.toNat ((l.length : Nat) : Int) = l.length := Int.toNat_natCast _
  rw [e2, e3, e4]
  refine ⟨by omega, by omega, by omega, by omega, by omega, by omega, br (fun h => ?_) fun _ => ?_⟩
  · exfalso
    have : (i : Int) = (i + 1 : Nat) := by simpa using h
    omega
  intro w1 ew1
  have HB := HB.drew ew1
  obtain ⟨q, hq, hq2⟩ := offA_add (b := b) (m := x.2.2) (l := i + 1) (sz := 2) (by omega)
  have htl : l.length * 2 ≤ L.length := by rw [hL]; omega
  refine ⟨by omega, by omega, by omega, by omega, prs (l.drop (i + 1)), ⟨by rw [prs_length, List.length_drop], ?_⟩, ?_⟩
  · rw [hq]
    refine HB.span m0 fun j v hj => ?_
    by_cases hm : x.2.2 = i + 1
    · have : l.drop (i + 1) = [] := List.drop_eq_nil_of_le (by omega)
      rw [this] at hj; cases hj
    · rw [hq2 hm]
      have e5 : prs l = prs (l.take (i + 1)) ++ prs (l.drop (i + 1)) := by rw [← prs_append, List.take_append_drop]
      have e6 : (prs l)[(i + 1) * 2 + j]? = some v := by
        rw [e5, List.getElem?_append_right (by rw [prs_length, List.length_take]; omega), prs_length, List.length_take]
        rw [show (i + 1) * 2 + j - min (i + 1) l.length * 2 = j by omega]
        exact hj
      rw [← ht, List.getElem?_take] at e6
      split at e6
      · exact e6
      · cases e6
  · have hk1 : i - 0 + (l.length - (i + 1)) = l.length - 1 := by omega
    rw [hk1, offA_zero, Nat.sub_zero, Nat.sub_zero]
    have hyl : (prs (l.drop (i + 1))).length = (l.length - (i + 1)) * 2 := by rw [prs_length, List.length_drop]
    refine ⟨prs_oneC _, fun _ _ => ⟨_, rfl, ?_⟩, fun h => absurd h (by omega), fun a3 c4 w5 hA => ?_⟩
    · rw [add_mk]
      exact HB.wr m0 (by rw [hyl]; omega)
    · rcases hA with ⟨hc, rfl, rfl, rfl⟩ | ⟨hc, _⟩
      · have HB2 := St.setSpan0 (w' := appSet (some (Addr.mk b 0 none)) i 2 (prs (l.drop (i + 1))) w1) (o := 0 + i * 2) (vs := prs (l.drop (i + 1))) HB (by simp only [appSet, add_mk])
        have hoff : offA (some (Addr.mk b 0 none)) x.2.2 (Int.toNat ((l.length - 1 : Nat) : Int)) 2 = some (Addr.mk b ((l.length - 1) * 2) none) := by
          rw [Int.toNat_natCast]
          unfold offA
          rw [if_neg (by omega)]
          simp [add_mk]
        have hL1 : (setL L (0 + i * 2) (prs (l.drop (i + 1)))).length = x.2.2 * 2 := by rw [setL_length, hL]
        have e8 : Int.toNat ((l.length - 1 : Nat) : Int) = l.length - 1 := Int.toNat_natCast _
        rw [hoff, e8]
        refine ⟨by omega, by omega, by omega, by omega, fun _ => ⟨_, rfl, HB2.wr m0 (by rw [hL1]; omega)⟩, fun w6 e6 => ?_⟩
        have HB3 := HB2.setSpan0 (o := (l.length - 1) * 2) (vs := zc (l.length - (l.length - 1)) [.string ⟨#[]⟩, .pointer none]) e6
        have H4 := HB3.rowMk (c := x.2.2) (sz := 2) (n := l.length - 1) (by rw [setL_length, hL1]) (by omega)
        have hz : (zc (l.length - (l.length - 1)) [Value.string ⟨#[]⟩, .pointer none]).length = 2 := by rw [zc_length, show l.length - (l.length - 1) = 1 by omega]; rfl
        have e9 : (setL (setL L (0 + i * 2) (prs (l.drop (i + 1)))) ((l.length - 1) * 2) (zc (l.length - (l.length - 1)) [.string ⟨#[]⟩, .pointer none])).take ((l.length - 1) * 2) = prs (l.eraseIdx i) := by
          have hfit1 : (l.length - 1) * 2 + (zc (l.length - (l.length - 1)) [Value.string ⟨#[]⟩, .pointer none]).length ≤ (setL L (0 + i * 2) (prs (l.drop (i + 1)))).length := by rw [hz, hL1]; omega
          rw [setL_eq _ _ _ hfit1, List.append_assoc, List.take_append_of_le_length (by rw [List.length_take, hL1]; omega), List.take_take, Nat.min_self]
          have hfit2 : 0 + i * 2 + (prs (l.drop (i + 1))).length ≤ L.length := by rw [hyl]; omega
          have hl0 : (L.take (0 + i * 2)).length = i * 2 := by rw [List.length_take]; omega
          rw [setL_eq _ _ _ hfit2]
          have hh : (L.take (0 + i * 2) ++ prs (l.drop (i + 1))).length = (l.length - 1) * 2 := by rw [List.length_append, hl0, hyl]; omega
          rw [← hh, List.take_left, List.eraseIdx_eq_take_drop_succ, prs_append]
          congr 1
          have e10 : L.take (0 + i * 2) = (prs l).take (i * 2) := by
            rw [← ht, List.take_take, Nat.zero_add, Nat.min_eq_left (by omega)]
          rw [e10, show prs l = prs (l.take i) ++ prs (l.drop i) by rw [← prs_append, List.take_append_drop]]
          have : (prs (l.take i)).length = i * 2 := by rw [prs_length, List.length_take]; omega
          rw [← this, List.take_left]
        rw [e9] at H4
        exact hK _ (some (Addr.mk b 0 none), l.length - 1, x.2.2) H4
      · omega

/-- A bucket is laid anew. -/
theorem tab_lay {t : TS} {j : Nat} {a : Addr} {w' : World} {x : Sl} {q : List Pr} (hj : j < t.ne + t.nn) (ha : IsAt t j a)
    (H : St h0 w0 w (Row T_table_pair_p_shard_entry 2 x.1 x.2.1 x.2.2 (prs q) :: bagBut (t.ne + t.nn) (bRow t.bs t.bl) j :: rowE t :: rowN t :: As)) (hw : w' = w.setCell a (slV x)) :
    St h0 w0 w' (rowE { t with bs := upd t.bs j x, bl := upd t.bl j q } :: rowN { t with bs := upd t.bs j x, bl := upd t.bl j q } :: bag (t.ne + t.nn) (bRow (upd t.bs j x) (upd t.bl j q)) :: As) := by
  have H2 := H.conv (A' := bRow (upd t.bs j x) (upd t.bl j q) j) fun _ hh => by
    simp only [bRow, upd_same]; exact hh
  have H3 := H2.bagIn hj fun i hi => by simp only [bRow, upd_ne hi]
  exact tab_set (t := t) H3.push3 ha x hw

/-- A bucket loses a pair. -/
theorem tab_cut {N : Nat} {seed : Int} {l : List Pr} {t : TS} {k : ByteArray} {i : Nat} {v : Option Addr} {x : Sl} (ht : TInv N seed t l) (hi : (t.bl (locN seed t k))[i]? = some (k, v)) :
    TInv N seed { t with bs := upd t.bs (locN seed t k) x, bl := upd t.bl (locN seed t k) ((t.bl (locN seed t k)).eraseIdx i) } (l.filter fun y => decide (y.1 ≠ k)) ∧ (l.filter fun y => decide (y.1 ≠ k)).length + 1 = l.length := by
  have hj := locN_lt (seed := seed) (k := k) ht.ok
  generalize hJ : locN seed t k = J at *
  have hmem : (k, v) ∈ l := ht.perm.mem_iff.1 (mem_flat.2 ⟨_, hj, List.mem_of_getElem? hi⟩)
  have p1 := flat_upd t.bl hj ((t.bl J).eraseIdx i)
  have p2 := flat_at t.bl hj
  have hlt := (List.getElem?_eq_some_iff.1 hi).1
  have hge := (List.getElem?_eq_some_iff.1 hi).2
  have p3 : (t.bl J).Perm ((k, v) :: (t.bl J).eraseIdx i) := by
    rw [← hge]; exact perm_eraseIdx hlt
  have p4 : ((k, v) :: flat (t.ne + t.nn) (upd t.bl J ((t.bl J).eraseIdx i))).Perm l :=
    ((p1.cons (k, v)).trans ((p3.append_right _).symm)).trans (p2.symm.trans ht.perm)
  have hd : ((((k, v) :: flat (t.ne + t.nn) (upd t.bl J ((t.bl J).eraseIdx i))) : List Pr).map (·.1)).Nodup := (p4.map (·.1)).nodup_iff.2 ht.dist
  rw [List.map_cons, List.nodup_cons] at hd
  have p5 : (flat (t.ne + t.nn) (upd t.bl J ((t.bl J).eraseIdx i))).Perm (l.filter fun y => decide (y.1 ≠ k)) := by
    have := p4.filter fun y => decide (y.1 ≠ k)
    rw [List.filter_cons_of_neg (by simp)] at this
    rw [List.filter_eq_self.2 ?_] at this
    · exact this
    · intro a ha
      simp only [decide_eq_true_eq]
      intro e
      exact hd.1 (List.mem_map.2 ⟨a, ha, e⟩)
  have hlen : (l.filter fun y => decide (y.1 ≠ k)).length + 1 = l.length := by
    rw [← p5.length_eq, ← p4.length_eq]; rfl
  refine ⟨⟨⟨ht.ok.pos, ht.ok.nn, ht.ok.ne, ht.ok.left⟩, fun j hjl y hy => ?_, p5, ?_, by have := ht.len; omega, ht.nn, ht.ne⟩, hlen⟩
  · simp only at hy
    by_cases e : j = J
    · rw [e, upd_same] at hy
      rw [e]; exact ht.loc _ hj y (List.mem_of_mem_eraseIdx hy)
    · rw [upd_ne e] at hy
      exact ht.loc j hjl y hy
  · exact List.Nodup.sublist (List.Sublist.map _ List.filter_sublist) ht.dist

theorem table_delete (p N : Nat) (seed : Int) (l : List Pr) (k : ByteArray) (hN : N < 2 ^ 32) (hk : k.size < 2 ^ 62) : Sp P f_table_Table_shard_entry_Delete #[.pointer (some (Addr.mk p 0 none)), .string k] (Tbl p N seed l)
    (fun u h => u = .bool (getL l k).isSome ∧ Tbl p N seed (l.filter fun y => decide (y.1 ≠ k)) h) := sp_of fun w h H => by
  apply cl_table_Table_shard_entry_Delete
  unfold c_table_Table_shard_entry_Delete
  obtain ⟨t, ht, H⟩ := H.tblOpen
  refine tab_find ht hN hk H fun t' a w2 ht' ha H => ⟨_, _, rfl, ?_⟩
  have hj := locN_lt (seed := seed) (k := k) ht'.ok
  have hlen := ht'.len
  refine br (fun hc => ?_) fun hc => ?_
  · have hc' : idxZ (t'.bl (locN seed t' k)) k ≥ 0 := by simpa using hc
    obtain ⟨i, hi⟩ : ∃ i : Nat, idxZ (t'.bl (locN seed t' k)) k = i := ⟨(idxZ (t'.bl (locN seed t' k)) k).toNat, by omega⟩
    obtain ⟨v, hv⟩ := idx_some hi
    have hmem : (k, v) ∈ l := ht'.perm.mem_iff.1 (mem_flat.2 ⟨_, hj, List.mem_of_getElem? hv⟩)
    have hg := (getL_iff ht'.dist).2 hmem
    have hlt := (List.getElem?_eq_some_iff.1 hv).1
    have hcut := fun x => tab_cut (x := x) ht' hv
    rw [hi, hg]
    generalize hJ : locN seed t' k = J at *
    refine ⟨a, rfl, _, _, _, tab_cell H.push4 ha, ?_⟩
    have hbl : (t'.bl J).length ≤ N := by have := flat_len t'.bl hj; have := ht'.perm.length_eq; omega
    have ew : IntKind.i64.wrap ((i : Int) + 1) = ((i + 1 : Nat) : Int) := by rw [wrap_i64 (by omega) (by omega)]; omega
    rw [ew]
    refine del_sp (x := t'.bs J) (l := t'.bl J) (H.pull4.bagOut hj) hlt (by omega) fun w8 x H => ⟨_, _, _, rfl, a, rfl, ?_⟩
    -- [row, but, cl, rowE, rowN]
    obtain ⟨hinv, hlen2⟩ := hcut x
    refine ⟨tab_ok (H.pull4.pull5.swap) ha, fun w11 e11 => ?_⟩
    have H := (tab_lay hj ha H.pull3.push5 e11).pull4
    generalize ht2 : ({ t' with bs := upd t'.bs J x, bl := upd t'.bl J ((t'.bl J).eraseIdx i) } : TS) = t2 at *
    have f1 : t2.ne = t'.ne := by rw [← ht2]
    have f2 : t2.nn = t'.nn := by rw [← ht2]
    have f3 : tabCells seed t' l.length = tabCells seed t2 l.length := by rw [← ht2]; rfl
    have f4 : bRow (upd t'.bs J x) (upd t'.bl J ((t'.bl J).eraseIdx i)) = bRow t2.bs t2.bl := by rw [← ht2]
    rw [f3, f4, ← f1, ← f2] at H
    refine ⟨_, rfl, l.length, by rw [add_mk, H.cell m0]; rfl, _, rfl, by rw [add_mk]; exact H.stOk m0 (by simp [tabCells]), fun w15 e15 => ?_⟩
    have ew : IntKind.i64.wrap ((l.length : Int) - 1) = (((l.filter fun y => decide (y.1 ≠ k)).length : Nat) : Int) := by rw [wrap_i64 (by omega) (by omega)]; omega
    rw [add_mk, ew] at e15
    have H := H.set e15
    exact (St.tblMk hinv H).conv fun _ hs => ⟨by rw [show decide ((i : Int) ≥ 0) = true by simp]; rfl, hs⟩
  · have hc' : idxZ (t'.bl (locN seed t' k)) k < 0 := by simpa using hc
    have hno := idx_neg hc'
    have hkl : k ∉ l.map (·.1) := fun hm => by
      obtain ⟨x, hx, rfl⟩ := List.mem_map.1 hm
      obtain ⟨j, hjl, hxj⟩ := mem_flat.1 (ht'.perm.mem_iff.2 hx)
      have := (ht'.loc j hjl x hxj).1
      rw [this] at hno
      exact hno (List.mem_map.2 ⟨x, hxj, rfl⟩)
    have hgl : getL l k = none := getL_none.2 hkl
    have hfl : (l.filter fun y => decide (y.1 ≠ k)) = l := List.filter_eq_self.2 fun y hy => by
      simp only [decide_eq_true_eq]
      intro e; exact hkl (List.mem_map.2 ⟨y, hy, e⟩)
    rw [hgl, hfl]
    exact (H.tblMk ht').conv fun _ hs => ⟨by rw [hc]; rfl, hs⟩

theorem table_len (p N : Nat) (seed : Int) (l : List Pr) : Sp P f_table_Table_shard_entry_Len #[.pointer (some (Addr.mk p 0 none))] (Tbl p N seed l) (fun u h => u = .int .i64 l.length ∧ Tbl p N seed l h) := sp_of fun w h H => by
  apply cl_table_Table_shard_entry_Len
  unfold c_table_Table_shard_entry_Len
  obtain ⟨t, ht, H⟩ := H.tblOpen
  exact ⟨_, rfl, l.length, by rw [add_mk, H.cell m0]; rfl, (H.tblMk ht).conv fun _ hs => ⟨rfl, hs⟩⟩
end
end Go.Bty
