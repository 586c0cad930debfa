/- The table: texts and what they have, in buckets of an elder and a new row. -/
import Derived.Test.YtbjkbonnmeppoaaBtyX
import Derived.Test.YtbjkbonnmeppoaaBtyV
import Derived.Test.YtbjkbonnmeppoaaBtyR
import Derived.Test.YtbjkbonnmeppoaaTableC
namespace Go.Bty
open Go
open Go.Proofs.Try renaming prog → P

abbrev Pr := ByteArray × Option Addr
def prs : List Pr → List Value
  | [] => []
  | x :: l => .string x.1 :: .pointer x.2 :: prs l
theorem prs_append (l q : List Pr) : prs (l ++ q) = prs l ++ prs q := by
  induction l with
  | nil => rfl
  | cons x l ih => simp only [List.cons_append, prs, ih]
theorem prs_length (l : List Pr) : (prs l).length = l.length * 2 := by
  induction l with
  | nil => rfl
  | cons x l ih => simp only [prs, List.length_cons, ih]; omega
theorem prs_get : ∀ (l : List Pr) (i : Nat) (x : Pr), l[i]? = some x → (prs l)[i * 2]? = some (.string x.1) ∧ (prs l)[i * 2 + 1]? = some (.pointer x.2)
  | [], i, x, h => by simp at h
  | y :: l, 0, x, h => by cases h; exact ⟨rfl, rfl⟩
  | y :: l, i + 1, x, h => by
    have := prs_get l i x (by simpa using h)
    rw [show (i + 1) * 2 = i * 2 + 2 by omega]
    exact this

/-- A table's places. -/
structure TS where
  ae : Option Addr
  ne : Nat
  ce : Nat
  an : Option Addr
  nn : Nat
  cn : Nat
  left : Nat
  bs : Nat → Sl
  bl : Nat → List Pr

def slV (x : Sl) : Value := .slice x.1 x.2.1 x.2.2
def sls (off n : Nat) (bs : Nat → Sl) : List Value := (List.range n).map fun i => slV (bs (off + i))
theorem sls_length (off n : Nat) (bs : Nat → Sl) : (sls off n bs).length = n := by simp [sls]
theorem sls_get {off n : Nat} {bs : Nat → Sl} {i : Nat} (hi : i < n) : (sls off n bs)[i]? = some (slV (bs (off + i))) := by
  rw [sls, List.getElem?_map, List.getElem?_range hi]; rfl
theorem sls_set {off n : Nat} {bs : Nat → Sl} {i : Nat} (x : Sl) : (sls off n bs).set i (slV x) = sls off n (upd bs (off + i) x) := by
  apply List.ext_getElem?
  intro j
  rw [List.getElem?_set]
  by_cases hj : j < n
  · rw [sls_get hj, sls_get hj, sls_length]
    split
    · rename_i e; subst e; rw [if_pos hj, upd_same]
    · rename_i e; rw [upd_ne (by omega)]
  · have h1 : (sls off n bs)[j]? = none := List.getElem?_eq_none (by rw [sls_length]; omega)
    have h2 : (sls off n (upd bs (off + i) x))[j]? = none := List.getElem?_eq_none (by rw [sls_length]; omega)
    rw [h1, h2, sls_length]
    split
    · rw [if_neg (by omega)]
    · rfl
theorem sls_other {off n : Nat} {bs : Nat → Sl} {j : Nat} (x : Sl) (h : j < off ∨ off + n ≤ j) : sls off n (upd bs j x) = sls off n bs := by
  apply List.ext_getElem?
  intro i
  by_cases hi : i < n
  · rw [sls_get hi, sls_get hi, upd_ne (by omega)]
  · rw [List.getElem?_eq_none (by rw [sls_length]; omega), List.getElem?_eq_none (by rw [sls_length]; omega)]

def bRow (bs : Nat → Sl) (bl : Nat → List Pr) (j : Nat) : HP := Row T_table_pair_p_shard_entry 2 (bs j).1 (bs j).2.1 (bs j).2.2 (prs (bl j))
def tabCells (seed : Int) (t : TS) (many : Nat) : List Value := [.int .u64 seed, .slice t.ae t.ne t.ce, .slice t.an t.nn t.cn, .int .i64 t.left, .int .i64 many]
def rowE (t : TS) : HP := Row T_table_bucket_p_shard_entry 1 t.ae t.ne t.ce (sls 0 t.ne t.bs)
def rowN (t : TS) : HP := Row T_table_bucket_p_shard_entry 1 t.an t.nn t.cn (sls t.ne t.nn t.bs)
/-- Where bucket j stands. -/
def IsAt (t : TS) (j : Nat) (a : Addr) : Prop := (j < t.ne ∧ ∃ b, t.ae = some b ∧ a = b.add j) ∨ (t.ne ≤ j ∧ j < t.ne + t.nn ∧ ∃ b, t.an = some b ∧ a = b.add (j - t.ne))

section
variable {h0 : Frag} {w0 w w' : World} {As : List HP} {p : Nat} {seed : Int} {t : TS} {many j : Nat} {a : Addr}

theorem tab_cell (H : St h0 w0 w (rowE t :: rowN t :: As)) (ha : IsAt t j a) : w.cell? a = some (slV (t.bs j)) := by
  rcases ha with ⟨hj, b, hb, rfl⟩ | ⟨h1, h2, b, hb, rfl⟩
  · have := H.rowCell hb (sls_get (off := 0) (bs := t.bs) hj)
    rw [Nat.zero_add] at this
    exact this
  · have := H.swap.rowCell hb (sls_get (off := t.ne) (bs := t.bs) (i := j - t.ne) (n := t.nn) (by omega))
    rw [show t.ne + (j - t.ne) = j by omega] at this
    exact this
theorem tab_ok (H : St h0 w0 w (rowE t :: rowN t :: As)) (ha : IsAt t j a) : (∃ u, w.cell? a = some u) ∧ w.frozen? a = false := by
  rcases ha with ⟨hj, b, hb, rfl⟩ | ⟨h1, h2, b, hb, rfl⟩
  · exact H.rowOk hb (by rw [sls_length]; exact hj)
  · exact H.swap.rowOk hb (by rw [sls_length]; omega)
theorem tab_set (H : St h0 w0 w (rowE t :: rowN t :: As)) (ha : IsAt t j a) (x : Sl) (hw : w' = w.setCell a (slV x)) : St h0 w0 w' (rowE { t with bs := upd t.bs j x } :: rowN { t with bs := upd t.bs j x } :: As) := by
  rcases ha with ⟨hj, b, hb, rfl⟩ | ⟨h1, h2, b, hb, rfl⟩
  · have H := H.rowSet hb (i := j) (v := slV x) (by rw [sls_length]; exact hj) hw
    rw [sls_set, Nat.zero_add] at H
    unfold rowE rowN
    simp only
    rw [sls_other (off := t.ne) x (.inl hj)]
    exact H
  · have H := H.swap.rowSet hb (i := j - t.ne) (v := slV x) (by rw [sls_length]; omega) hw
    rw [sls_set, show t.ne + (j - t.ne) = j by omega] at H
    unfold rowE rowN
    simp only
    rw [sls_other (off := 0) x (.inr (by omega))]
    exact H.swap

/-- The bucket of a text. -/
def locN (seed : Int) (t : TS) (k : ByteArray) : Nat := if 0 < t.left ∧ t.ne - t.left ≤ belowN (hashZ seed k) t.ne then belowN (hashZ seed k) t.ne else t.ne + belowN (hashZ seed k) t.nn

structure TOk (t : TS) : Prop where
  pos : 1 ≤ t.nn
  nn : t.nn < 2 ^ 34
  ne : t.ne < 2 ^ 34
  left : t.left ≤ t.ne

theorem tab_of {k : ByteArray} {K : Value → World → Prop} (H : St h0 w0 w (cl p T_table_Table_p_shard_entry (tabCells seed t many) :: rowE t :: rowN t :: As)) (ht : TOk t) (hk : k.size < 2 ^ 62)
    (hK : ∀ a w', IsAt t (locN seed t k) a → St h0 w0 w' (cl p T_table_Table_p_shard_entry (tabCells seed t many) :: rowE t :: rowN t :: As) → K (.pointer (some a)) w') :
    Cl P f_table_Table_shard_entry_of #[.pointer (some (Addr.mk p 0 none)), .string k] w K := by
  have hr := hash_range seed k
  have hpos := ht.pos
  have h34 := ht.nn
  have h35 := ht.ne
  have hle := ht.left
  apply cl_table_Table_shard_entry_of
  unfold c_table_Table_shard_entry_of
  have hbn : belowN (hashZ seed k) t.nn < t.nn := Nat.mod_lt _ (by omega)
  have pn : Pu P f_hash_Below #[.int .u64 (hashZ seed k), .int .i64 t.nn] (.int .i64 (belowN (hashZ seed k) t.nn)) := by
    have := below_sp (hashZ seed k) t.nn (by omega)
    rw [below_eq hr.1 hpos (by omega)] at this
    exact this
  have nowAt : ∀ {w'}, St h0 w0 w' (cl p T_table_Table_p_shard_entry (tabCells seed t many) :: rowE t :: rowN t :: As) → ∃ b, t.an = some b := fun H => H.pull3.rowSome (by rw [sls_length]; omega)
  refine ⟨_, rfl, seed, by rw [add_mk, H.cell m0]; rfl, ?_⟩
  refine H.pure (hash_sp _ _ hk) fun w4 H => ⟨_, rfl, _, rfl, t.ae, t.ne, t.ce, by rw [add_mk, H.cell m0]; rfl, ?_⟩
  refine H.pure (below_sp _ _ (by omega)) fun w9 H => ⟨_, rfl, fun w11 e11 => ?_⟩
  have H := H.drew e11
  refine ⟨_, rfl, t.left, by rw [add_mk, H.cell m0]; rfl, br (fun hc => ?_) fun hc => ?_⟩
  · simp only [decide_eq_true_eq] at hc
    have hl0 : 0 < t.left := by omega
    have hbe : belowZ (hashZ seed k) t.ne = (belowN (hashZ seed k) t.ne : Int) := below_eq hr.1 (by omega) (by omega)
    have hbl : belowN (hashZ seed k) t.ne < t.ne := Nat.mod_lt _ (by omega)
    have ew : IntKind.i64.wrap ((t.ne : Int) - t.left) = ((t.ne - t.left : Nat) : Int) := by rw [wrap_i64 (by omega) (by omega)]; omega
    refine ⟨_, rfl, t.ae, t.ne, t.ce, by rw [add_mk, H.cell m0]; rfl, _, rfl, t.left, by rw [add_mk, H.cell m0]; rfl, ?_⟩
    rw [hbe, ew]
    refine br (fun hc2 => ?_) fun hc2 => ?_
    · simp only [decide_eq_true_eq] at hc2
      obtain ⟨b, hb⟩ := H.swap.rowSome (by rw [sls_length]; omega)
      refine ⟨_, rfl, t.ae, t.ne, t.ce, by rw [add_mk, H.cell m0]; rfl, b, hb, by omega, by omega, hK _ _ ?_ H⟩
      have : locN seed t k = belowN (hashZ seed k) t.ne := if_pos ⟨hl0, by omega⟩
      rw [this, Int.toNat_natCast, Nat.mul_one]
      exact .inl ⟨hbl, b, hb, rfl⟩
    · simp only [decide_eq_false_iff_not] at hc2
      intro w21 e21
      have H := H.drew e21
      refine ⟨_, rfl, t.an, t.nn, t.cn, by rw [add_mk, H.cell m0]; rfl, _, rfl, t.an, t.nn, t.cn, by rw [add_mk, H.cell m0]; rfl, ?_⟩
      refine H.pure pn fun w27 H => ⟨_, rfl, ⟨_, _, _, by rw [add_mk, H.cell m0]; rfl, rfl⟩, ?_⟩
      obtain ⟨b, hb⟩ := nowAt H
      refine ⟨b, hb, by omega, by omega, hK _ _ ?_ H⟩
      have : locN seed t k = t.ne + belowN (hashZ seed k) t.nn := if_neg (fun h => hc2 (by omega))
      rw [this, Int.toNat_natCast, Nat.mul_one]
      exact .inr ⟨by omega, by omega, b, hb, by rw [Nat.add_sub_cancel_left]⟩
  · simp only [decide_eq_false_iff_not] at hc
    intro w31 e31
    have H := H.drew e31
    refine ⟨_, rfl, t.an, t.nn, t.cn, by rw [add_mk, H.cell m0]; rfl, _, rfl, t.an, t.nn, t.cn, by rw [add_mk, H.cell m0]; rfl, ?_⟩
    refine H.pure pn fun w27 H => ⟨_, rfl, ⟨_, _, _, by rw [add_mk, H.cell m0]; rfl, rfl⟩, ?_⟩
    obtain ⟨b, hb⟩ := nowAt H
    refine ⟨b, hb, by omega, by omega, hK _ _ ?_ H⟩
    have : locN seed t k = t.ne + belowN (hashZ seed k) t.nn := if_neg (fun h => by omega)
    rw [this, Int.toNat_natCast, Nat.mul_one]
    exact .inr ⟨by omega, by omega, b, hb, by rw [Nat.add_sub_cancel_left]⟩

/-- The place of a text in a bucket: -1, if it is not there. -/
def idxZ (l : List Pr) (k : ByteArray) : Int := match l.findIdx? fun x => decide (x.1 = k) with
  | some i => i
  | none => -1

theorem idx_sp {x : Sl} {l : List Pr} {k : ByteArray} {b : Nat} {K : Value → World → Prop} (H : St h0 w0 w (Row T_table_pair_p_shard_entry 2 x.1 x.2.1 x.2.2 (prs l) :: cl b T_string [.string k] :: As)) (hl : l.length < 2 ^ 60)
    (hK : ∀ w', St h0 w0 w' (Row T_table_pair_p_shard_entry 2 x.1 x.2.1 x.2.2 (prs l) :: cl b T_string [.string k] :: As) → K (.int .i64 (idxZ l k)) w') :
    Cl P f_slices_IndexFunc_table_bucket_shard_entry_table_pair_shard_entry #[.slice x.1 x.2.1 x.2.2, .func (.func f_table_Table_shard_entry_find_1) #[] #[.pointer (some (Addr.mk b 0 none))]] w K := by
  have hn : x.2.1 = l.length := by
    have := H.rowLen.1
    rw [prs_length] at this; omega
  apply cl_slices_IndexFunc_table_bucket_shard_entry_table_pair_shard_entry
  unfold c_slices_IndexFunc_table_bucket_shard_entry_table_pair_shard_entry
  refine ⟨fun vs w' => ∃ i : Nat, i ≤ l.length ∧ vs = [.int .i64 i] ∧ (∀ j y, j < i → l[j]? = some y → y.1 ≠ k) ∧ St h0 w0 w' (Row T_table_pair_p_shard_entry 2 x.1 x.2.1 x.2.2 (prs l) :: cl b T_string [.string k] :: As),
    fun vs _ => match vs with | [.int _ i] => l.length - i.toNat | _ => 0, ⟨0, by omega, rfl, (fun j y hj => absurd hj (by omega)), H⟩, ?_⟩
  rintro vs w4 ⟨i, hi, rfl, hb, H⟩
  refine ⟨i, rfl, br (fun hc => ?_) fun hc => ?_⟩
  · simp only [decide_eq_true_eq] at hc
    have hlt : i < l.length := by omega
    obtain ⟨a, ha⟩ := H.rowSome (by rw [prs_length]; omega)
    obtain ⟨g1, g2⟩ := prs_get l i l[i] (List.getElem?_eq_getElem hlt)
    refine ⟨a, ha, by omega, by omega, l[i].1, l[i].2, ?_, ?_⟩
    · intro j v hj
      have hadd : ∀ q, Addr.add (Addr.add a (Int.toNat (i : Int) * 2)) q = Addr.add a (i * 2 + q) := fun q => by
        rcases H.rowOpen with ⟨h1, _⟩ | ⟨b', l', h1, _⟩
        · rw [ha] at h1; cases h1
        · rw [ha] at h1; cases h1
          rw [add_mk, add_mk, add_mk, Int.toNat_natCast, Nat.add_assoc]
      rw [hadd]
      match j, hj with
      | 0, hj => cases hj; exact H.rowCell ha g1
      | 1, hj => cases hj; exact H.rowCell ha g2
    · refine ⟨by kernel_rfl, ?_⟩
      refine cl_table_Table_shard_entry_find_1 (R := _) ?_
      unfold c_table_Table_shard_entry_find_1
      intro c1 w2 e1 e2
      have H := H.newCells (cs := [.string l[i].1, .pointer l[i].2]) e1 e2
      refine ⟨l[i].1, by rw [add_mk, H.cell m0]; rfl, k, by rw [H.cell m2]; rfl, _, rfl, ?_⟩
      rw [seq_eq]
      refine br (fun hq => ?_) fun hq => ?_
      · have hq : l[i].1 = k := by simpa using hq
        refine cast ?_ (hK _ H.drop)
        have : l.findIdx? (fun x => decide (x.1 = k)) = some i := by
          rw [List.findIdx?_eq_some_iff_getElem]
          refine ⟨hlt, by simpa using hq, fun j hj => ?_⟩
          simpa using hb j l[j] hj (List.getElem?_eq_getElem (by omega))
        unfold idxZ
        rw [this]
      · have hq : l[i].1 ≠ k := by simpa using hq
        have ew : IntKind.i64.wrap ((i : Int) + 1) = ((i + 1 : Nat) : Int) := by rw [wrap_i64 (by omega) (by omega)]; omega
        rw [ew]
        refine ⟨⟨i + 1, hlt, rfl, fun j y hj hy => ?_, H.drop⟩, by simp; omega⟩
        by_cases e : j = i
        · subst e; rw [List.getElem?_eq_getElem hlt] at hy; cases hy; exact hq
        · exact hb j y (by omega) hy
  · simp only [decide_eq_false_iff_not] at hc
    have : l.findIdx? (fun x => decide (x.1 = k)) = none := by
      rw [List.findIdx?_eq_none_iff]
      intro y hy
      obtain ⟨j, hj⟩ := List.getElem?_of_mem hy
      have := (List.getElem?_eq_some_iff.1 hj).1
      simpa using hb j y (by omega) hj
    refine cast ?_ (hK _ H)
    unfold idxZ
    rw [this]

def flat (n : Nat) (f : Nat → List Pr) : List Pr := ((List.range n).map f).flatten
theorem flat_at (f : Nat → List Pr) {n i : Nat} (hi : i < n) : (flat n f).Perm (f i ++ (((List.range n).erase i).map f).flatten) := by
  have := ((List.perm_cons_erase (List.mem_range.2 hi)).map f).flatten
  simpa [flat] using this
theorem flat_upd (f : Nat → List Pr) {n i : Nat} (hi : i < n) (l : List Pr) : (flat n (upd f i l)).Perm (l ++ (((List.range n).erase i).map f).flatten) := by
  have h1 := flat_at (upd f i l) hi
  rw [upd_same] at h1
  have e : ((List.range n).erase i).map (upd f i l) = ((List.range n).erase i).map f := List.map_congr_left fun j hj => upd_ne (by
    intro e; subst e
    exact absurd hj (List.Nodup.not_mem_erase List.nodup_range))
  rw [e] at h1
  exact h1
theorem mem_flat {f : Nat → List Pr} {n : Nat} {x : Pr} : x ∈ flat n f ↔ ∃ j, j < n ∧ x ∈ f j := by
  simp only [flat, List.mem_flatten, List.mem_map, List.mem_range]
  constructor
  · rintro ⟨l, ⟨j, hj, rfl⟩, hx⟩; exact ⟨j, hj, hx⟩
  · rintro ⟨j, hj, hx⟩; exact ⟨_, ⟨j, hj, rfl⟩, hx⟩
theorem flat_len (f : Nat → List Pr) {n i : Nat} (hi : i < n) : (f i).length ≤ (flat n f).length := by
  rw [(flat_at f hi).length_eq, List.length_append]; omega

def LocOk (seed : Int) (t : TS) : Prop := ∀ j, j < t.ne + t.nn → ∀ x ∈ t.bl j, locN seed t x.1 = j ∧ x.1.size < 2 ^ 62
def tabL (p : Nat) (seed : Int) (t : TS) (many : Nat) : List HP := [cl p T_table_Table_p_shard_entry (tabCells seed t many), rowE t, rowN t, bag (t.ne + t.nn) (bRow t.bs t.bl)]

theorem locN_lt {k : ByteArray} (ht : TOk t) : locN seed t k < t.ne + t.nn := by
  have h1 : belowN (hashZ seed k) t.nn < t.nn := Nat.mod_lt _ ht.pos
  unfold locN
  split
  · rename_i h
    have : belowN (hashZ seed k) t.ne < t.ne := Nat.mod_lt _ (by have := ht.left; omega)
    omega
  · omega

/-- A bucket gets one more pair. -/
theorem tab_push {x : Pr} {a' : Option Addr} {c' : Nat} (hj : j < t.ne + t.nn) (ha : IsAt t j a)
    (H : St h0 w0 w (Row T_table_pair_p_shard_entry 2 a' ((t.bs j).2.1 + 1) c' (prs (t.bl j) ++ [.string x.1, .pointer x.2]) :: bagBut (t.ne + t.nn) (bRow t.bs t.bl) j :: rowE t :: rowN t :: As)) (hw : w' = w.setCell a (.slice a' ((t.bs j).2.1 + 1) c')) :
    St h0 w0 w' (rowE { t with bs := upd t.bs j (a', (t.bs j).2.1 + 1, c'), bl := upd t.bl j (t.bl j ++ [x]) } :: rowN { t with bs := upd t.bs j (a', (t.bs j).2.1 + 1, c'), bl := upd t.bl j (t.bl j ++ [x]) } ::
      bag (t.ne + t.nn) (bRow (upd t.bs j (a', (t.bs j).2.1 + 1, c')) (upd t.bl j (t.bl j ++ [x]))) :: As) := by
  have H2 := H.conv (A' := bRow (upd t.bs j (a', (t.bs j).2.1 + 1, c')) (upd t.bl j (t.bl j ++ [x])) j) fun _ hh => by
    simp only [bRow, upd_same, prs_append, prs]; exact hh
  have H3 := H2.bagIn hj fun i hi => by simp only [bRow, upd_ne hi]
  exact (tab_set (t := t) H3.push3 ha (a', (t.bs j).2.1 + 1, c') hw)

theorem row_pair {x : Sl} {l : List Pr} {i : Nat} (H : St h0 w0 w (Row T_table_pair_p_shard_entry 2 x.1 x.2.1 x.2.2 (prs l) :: As)) (hi : i < l.length) : ∃ a, x.1 = some a ∧ SpanAt w (Addr.add a (Int.toNat (i : Int) * 2)) [.string l[i].1, .pointer l[i].2] := by
  obtain ⟨a, ha⟩ := H.rowSome (by rw [prs_length]; omega)
  obtain ⟨g1, g2⟩ := prs_get l i l[i] (List.getElem?_eq_getElem hi)
  refine ⟨a, ha, fun j v hj => ?_⟩
  have hadd : ∀ q, Addr.add (Addr.add a (Int.toNat (i : Int) * 2)) q = Addr.add a (i * 2 + q) := fun q => by
    rcases H.rowOpen with ⟨h1, _⟩ | ⟨b', l', h1, _⟩
    · rw [ha] at h1; cases h1
    · rw [ha] at h1; cases h1
      rw [add_mk, add_mk, add_mk, Int.toNat_natCast, Nat.add_assoc]
  rw [hadd]
  match j, hj with
  | 0, hj => cases hj; exact H.rowCell ha g1
  | 1, hj => cases hj; exact H.rowCell ha g2

/-- One of the elder buckets is moved, if some are left. -/
theorem tab_step {K : Value → World → Prop} (H : St h0 w0 w (cl p T_table_Table_p_shard_entry (tabCells seed t many) :: rowE t :: rowN t :: bag (t.ne + t.nn) (bRow t.bs t.bl) :: As)) (ht : TOk t) (hlo : LocOk seed t) (hlen : (flat (t.ne + t.nn) t.bl).length < 2 ^ 34)
    (hK : ∀ (t' : TS) (w' : World), t'.ne = t.ne → t'.nn = t.nn → TOk t' → LocOk seed t' → (flat (t.ne + t.nn) t'.bl).Perm (flat (t.ne + t.nn) t.bl) →
      St h0 w0 w' (cl p T_table_Table_p_shard_entry (tabCells seed t' many) :: rowE t' :: rowN t' :: bag (t.ne + t.nn) (bRow t'.bs t'.bl) :: As) → K (.tuple #[]) w') :
    Cl P f_table_Table_shard_entry_step #[.pointer (some (Addr.mk p 0 none))] w K := by
  have hpos := ht.pos
  have h34 := ht.nn
  have h35 := ht.ne
  have hle := ht.left
  apply cl_table_Table_shard_entry_step
  unfold c_table_Table_shard_entry_step
  refine ⟨_, rfl, t.left, by rw [add_mk, H.cell m0]; rfl, br (fun hc => ?_) fun hc => ?_⟩
  · exact hK t w rfl rfl ht hlo (List.Perm.refl _) H
  · have hl0 : 0 < t.left := by
      have : (t.left : Int) ≠ 0 := by simpa using hc
      omega
    intro w3 e3
    have H := H.drew e3
    have ew : IntKind.i64.wrap ((t.ne : Int) - t.left) = ((t.ne - t.left : Nat) : Int) := by rw [wrap_i64 (by omega) (by omega)]; omega
    obtain ⟨b, hb⟩ := H.swap.rowSome (by rw [sls_length]; omega)
    have hat : t.ne - t.left < t.ne := by omega
    have hatn : t.ne - t.left < t.ne + t.nn := by omega
    have isat : IsAt t (t.ne - t.left) (b.add (t.ne - t.left)) := .inl ⟨hat, b, hb, rfl⟩
    refine ⟨_, rfl, t.ae, t.ne, t.ce, by rw [add_mk, H.cell m0]; rfl, _, rfl, t.left, by rw [add_mk, H.cell m0]; rfl, _, rfl, t.ae, t.ne, t.ce, by rw [add_mk, H.cell m0]; rfl, b, hb, ?_⟩
    rw [ew, Int.toNat_natCast, Nat.mul_one]
    refine ⟨by omega, by omega, (t.bs (t.ne - t.left)).1, (t.bs (t.ne - t.left)).2.1, (t.bs (t.ne - t.left)).2.2, tab_cell H.push4 isat, ?_⟩
    refine ⟨_, rfl, t.ae, t.ne, t.ce, by rw [add_mk, H.cell m0]; rfl, b, hb, by omega, by omega, tab_ok H.push4 isat, fun w15 e15 => ?_⟩
    have H := (tab_set H.push4 isat (none, 0, 0) e15).pull4
    refine ⟨_, rfl, t.left, by rw [add_mk, H.cell m0]; rfl, _, rfl, by rw [add_mk]; exact H.stOk m0 (by simp [tabCells]), fun w19 e19 => ?_⟩
    have ewl : IntKind.i64.wrap ((t.left : Int) - 1) = ((t.left - 1 : Nat) : Int) := by rw [wrap_i64 (by omega) (by omega)]; omega
    rw [add_mk, ewl] at e19
    have H := H.set e19
    generalize hA : t.ne - t.left = A at *
    have H := ((H.pull4.bagOut hatn).push5).rowNil (T := T_table_pair_p_shard_entry) (sz := 2)
    have H := H.conv (A' := bRow (upd t.bs A (none, 0, 0)) (upd t.bl A []) A) fun _ hh => by simp only [bRow, upd_same, prs]; exact hh
    have H := (H.bagIn hatn fun i hi => by simp only [bRow, upd_ne hi]).push4
    -- [cl, rowE, rowN, bag, moved]
    have hM : ∀ x ∈ t.bl A, locN seed t x.1 = A ∧ x.1.size < 2 ^ 62 := hlo A hatn
    have hMl : (t.bl A).length < 2 ^ 34 := Nat.lt_of_le_of_lt (flat_len t.bl hatn) hlen
    -- the loop
    refine ⟨fun vs w' => ∃ (i : Nat) (t' : TS), i ≤ (t.bl A).length ∧ vs = [.int .i64 i] ∧ t'.ne = t.ne ∧ t'.nn = t.nn ∧ t'.left = t.left - 1 ∧ LocOk seed t' ∧ (flat (t.ne + t.nn) t'.bl).Perm (flat (t.ne + t.nn) (upd t.bl A []) ++ (t.bl A).take i) ∧
      St h0 w0 w' (cl p T_table_Table_p_shard_entry (tabCells seed t' many) :: rowE t' :: rowN t' :: bag (t.ne + t.nn) (bRow t'.bs t'.bl) :: bRow t.bs t.bl A :: As),
      fun vs _ => match vs with | [.int _ i] => (t.bl A).length - i.toNat | _ => 0, ?_, ?_⟩
    · refine ⟨0, { t with left := t.left - 1, bs := upd t.bs A (none, 0, 0), bl := upd t.bl A [] }, by omega, rfl, rfl, rfl, rfl, ?_, by rw [List.take_zero, List.append_nil], H⟩
      intro j hj x hx
      simp only at hx hj
      by_cases e : j = A
      · subst e; rw [upd_same] at hx; cases hx
      · rw [upd_ne e] at hx
        obtain ⟨g1, g2⟩ := hlo j hj x hx
        refine ⟨?_, g2⟩
        unfold locN at g1 ⊢
        simp only
        by_cases hcond : 0 < t.left ∧ t.ne - t.left ≤ belowN (hashZ seed x.1) t.ne
        · rw [if_pos hcond] at g1
          have : belowN (hashZ seed x.1) t.ne < t.ne := Nat.mod_lt _ (by omega)
          rw [if_pos ⟨by omega, by omega⟩]; exact g1
        · rw [if_neg hcond] at g1
          rw [if_neg (fun h => hcond ⟨hl0, by omega⟩)]; exact g1
    · rintro vs w23 ⟨i, t', hi, rfl, k1, k2, k3, k4, k5, H⟩
      have hn : (t.bs A).2.1 = (t.bl A).length := by
        have := H.pull5.rowLen.1
        rw [prs_length] at this; omega
      refine ⟨i, rfl, br (fun hc2 => ?_) fun hc2 => ?_⟩
      · simp only [decide_eq_true_eq] at hc2
        have hlt : i < (t.bl A).length := by omega
        obtain ⟨a25, ha25, hsp⟩ := row_pair H.pull5 hlt
        generalize hx : (t.bl A)[i] = x at *
        have hxm : x ∈ t.bl A := by rw [← hx]; exact List.getElem_mem hlt
        obtain ⟨hxl, hxs⟩ := hM x hxm
        have hr := hash_range seed x.1
        have hbn : belowN (hashZ seed x.1) t'.nn < t'.nn := Nat.mod_lt _ (by omega)
        have hj : t'.ne + belowN (hashZ seed x.1) t'.nn < t'.ne + t'.nn := by omega
        have hloc : locN seed t' x.1 = t'.ne + belowN (hashZ seed x.1) t'.nn := by
          unfold locN at hxl ⊢
          refine if_neg fun h => ?_
          rw [k1, k3] at h
          split at hxl
          · omega
          · omega
        refine ⟨a25, ha25, by omega, by omega, x.1, x.2, hsp, fun b28 w29 e28 e29 => ?_⟩
        have H := H.newCells (cs := [.string ⟨#[]⟩, .pointer none]) e28 e29
        refine ⟨H.wr m0 (by simp), fun w30 e30 w31 e31 => ?_⟩
        have H := (H.setSpan0 e30).drew e31
        refine ⟨_, rfl, t'.an, t'.nn, t'.cn, by rw [add_mk, H.cell m1]; rfl, _, rfl, seed, by rw [add_mk, H.cell m1]; rfl, x.1, by rw [add_mk, H.cell m0]; rfl, _, rfl, t'.an, t'.nn, t'.cn, by rw [add_mk, H.cell m1]; rfl, ?_⟩
        refine H.pure (hash_sp _ _ hxs) fun w40 H => ⟨_, rfl, ⟨_, _, _, by rw [add_mk, H.cell m1]; rfl, rfl⟩, ⟨_, _, _, by rw [add_mk, H.cell m1]; rfl, rfl⟩, ?_⟩
        have pn : Pu P f_hash_Below #[.int .u64 (hashZ seed x.1), .int .i64 t'.nn] (.int .i64 (belowN (hashZ seed x.1) t'.nn)) := by
          have := below_sp (hashZ seed x.1) t'.nn (by omega)
          rw [below_eq hr.1 (by omega) (by omega)] at this
          exact this
        refine H.pure pn fun w45 H => ⟨_, rfl, ⟨_, _, _, by rw [add_mk, H.cell m1]; rfl, rfl⟩, ?_⟩
        obtain ⟨b', hb'⟩ := H.pull4.rowSome (by rw [sls_length]; omega)
        have isj : IsAt t' (t'.ne + belowN (hashZ seed x.1) t'.nn) (b'.add (belowN (hashZ seed x.1) t'.nn)) := .inr ⟨by omega, hj, b', hb', by rw [Nat.add_sub_cancel_left]⟩
        generalize hJ : t'.ne + belowN (hashZ seed x.1) t'.nn = J at *
        refine ⟨b', hb', by omega, by omega, fun w49 e49 => ?_⟩
        have H := H.drew e49
        rw [Int.toNat_natCast, Nat.mul_one]
        -- [b28, cl, rowE, rowN, bag, moved]
        refine ⟨_, rfl, (t'.bs J).1, (t'.bs J).2.1, (t'.bs J).2.2, tab_cell H.pull3.pull4.swap isj, x.1, x.2, H.spanAll m0, fun b54 w55 e54 e55 => ?_⟩
        have H := H.newCells (cs := [.string x.1, .pointer x.2]) e54 e55
        refine ⟨⟨_, _, _, tab_cell H.pull4.pull5.swap isj, rfl⟩, [.string x.1, .pointer x.2], ⟨rfl, H.spanAll m0⟩, ?_⟩
        have hnn : t.ne + t.nn = t'.ne + t'.nn := by rw [k1, k2]
        have H := H.drop.drop.pull4
        rw [hnn] at H
        have H := (H.bagOut hj).pull3.push5
        have hJn : (t'.bs J).2.1 = (t'.bl J).length := by
          have := H.rowLen.1
          rw [prs_length] at this; omega
        have hJl : (t'.bl J).length < 2 ^ 36 := by
          have q1 := flat_len t'.bl hj
          have q2 := k5.length_eq
          have q3 := (flat_upd t.bl hatn []).length_eq
          have q4 := (flat_at t.bl hatn).length_eq
          simp only [List.length_append, List.length_take, List.length_nil] at q2 q3 q4
          rw [hnn] at q2 q3 q4 hlen
          omega
        refine H.rowAppend (sz := 2) (fun u hu => by
          rcases List.mem_cons.1 hu with rfl | hu
          · rfl
          · rw [List.mem_singleton.1 hu]; rfl) rfl rfl (by omega) fun a58 c59 w60 H => ?_
        refine ⟨_, rfl, tab_ok H.pull3.pull4.swap isj, fun w62 e62 => ?_⟩
        have H := (tab_push hj isj H e62).pull4
        have ewi : IntKind.i64.wrap ((i : Int) + 1) = ((i + 1 : Nat) : Int) := by rw [wrap_i64 (by omega) (by omega)]; omega
        rw [ewi]
        refine ⟨⟨i + 1, { t' with bs := upd t'.bs J (a58, (t'.bs J).2.1 + 1, c59), bl := upd t'.bl J (t'.bl J ++ [x]) }, hlt, rfl, k1, k2, k3, fun j' hj' y hy => ?_, ?_, ?_⟩, by simp; omega⟩
        · simp only at hy hj'
          by_cases e : j' = J
          · subst e
            rw [upd_same] at hy
            rcases List.mem_append.1 hy with hy | hy
            · exact k4 j' hj' y hy
            · rw [List.mem_singleton.1 hy]; exact ⟨hloc, hxs⟩
          · rw [upd_ne e] at hy
            exact k4 j' hj' y hy
        · simp only
          rw [hnn]
          rw [hnn] at k5
          have p1 := flat_upd t'.bl hj (t'.bl J ++ [x])
          have p2 := flat_at t'.bl hj
          have p3 : ((t'.bl J ++ [x]) ++ (((List.range (t'.ne + t'.nn)).erase J).map t'.bl).flatten).Perm (flat (t'.ne + t'.nn) t'.bl ++ [x]) := by
            refine List.Perm.trans ?_ (p2.symm.append_right [x])
            rw [List.append_assoc, List.append_assoc]
            exact List.Perm.append_left _ List.perm_append_comm
          have p4 := (p1.trans p3).trans (k5.append_right [x])
          rw [List.append_assoc, ← hx, ← List.take_succ_eq_append_getElem hlt, hx] at p4
          exact p4
        · rw [hnn]; exact H
      · simp only [decide_eq_false_iff_not] at hc2
        have hil : i = (t.bl A).length := by omega
        subst hil
        refine hK t' w23 k1 k2 ⟨by rw [k2]; exact hpos, by rw [k2]; exact h34, by rw [k1]; exact h35, by rw [k1, k3]; omega⟩ k4 ?_ H.pull5.drop
        rw [List.take_length] at k5
        have p1 := flat_upd t.bl hatn []
        have p2 := flat_at t.bl hatn
        rw [List.nil_append] at p1
        exact k5.trans (((p1.append_right _).trans List.perm_append_comm).trans p2.symm)
end
end Go.Bty
