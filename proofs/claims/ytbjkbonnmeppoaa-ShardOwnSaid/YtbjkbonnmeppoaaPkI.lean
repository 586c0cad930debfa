/- The table: all its pairs behind one slice. -/
/- Lists sorted by texts. -/
/- The table: its pairs, sorted. -/
/- The table: all its pairs, one by one, by rising texts. -/
import Derived.Test.YtbjkbonnmeppoaaPkH
import Derived.Test.YtbjkbonnmeppoaaBtySl
import Derived.Lib.Bytealg
namespace Go.Bty
open Go
open Go.Proofs.Try renaming prog → P

section
variable {h0 : Frag} {w0 w : World} {As : List HP}
theorem rowShrink {T : TypeId} {sz n k c : Nat} {a : Option Addr} {vs : List Value} (H : St h0 w0 w (Row T sz a n c vs :: As)) (hk : k ≤ n) : St h0 w0 w (Row T sz a k c (vs.take (k * sz)) :: As) := by
  have hl := H.rowLen
  rcases H.rowOpen with ⟨rfl, rfl, rfl, rfl⟩ | ⟨b, l, rfl, hL, ht, hn, HB⟩
  · have : k = 0 := by omega
    subst this
    rw [Nat.zero_mul, List.take_zero]
    exact H
  · have h2 := HB.rowMk (c := c) (sz := sz) (n := k) hL (by omega)
    have : vs.take (k * sz) = l.take (k * sz) := by
      rw [← ht, List.take_take, Nat.min_eq_left (Nat.mul_le_mul_right _ hk)]
    rw [this]; exact h2

theorem grow_sp {z : Nat} {K : Value → World → Prop} (H : St h0 w0 w As) (hz : z < 2 ^ 40)
    (hK : ∀ w' a c, St h0 w0 w' (Row T_table_bucket_p_shard_entry 1 a 0 c [] :: As) → K (.slice a 0 c) w') :
    Cl P f_slices_Grow_table_bucket_shard_entry_table_bucket_shard_entry #[.slice none 0 0, .int .i64 z] w K := by
  apply cl_slices_Grow_table_bucket_shard_entry_table_bucket_shard_entry
  unfold c_slices_Grow_table_bucket_shard_entry_table_bucket_shard_entry
  have e1 : IntKind.i64.wrap (((0 : Nat) : Int) - ((0 : Nat) : Int)) = 0 := by rw [wrap_i64 (by omega) (by omega)]; omega
  have e2 : IntKind.i64.wrap ((z : Int) - 0) = z := by rw [wrap_i64 (by omega) (by omega)]; omega
  rw [e1, e2]
  refine br (fun hc => by simp at hc; omega) fun _ => br (fun hc => ?_) fun hc => ?_
  · have H := H.rowNil (T := T_table_bucket_p_shard_entry) (sz := 1)
    refine ⟨by omega, by omega, by omega, by omega, by rw [Int.toNat_natCast]; show ((0 - 0 + z : Nat) : Int) ≤ 9223372036854775807; omega, ?_⟩
    rw [Int.toNat_natCast, offA_zero]
    refine H.rowAppend (sz := 1) (fun u hu => by
      unfold zc at hu
      obtain ⟨l, hl, hu⟩ := List.mem_flatten.1 hu
      rw [(List.mem_replicate.1 hl).2] at hu
      rw [List.mem_singleton.1 hu]; rfl) (by rw [zc_length]; rfl) rfl (by omega) fun a' c' w' H => ?_
    refine ⟨by omega, by omega, ?_⟩
    rw [offA_zero]
    have H := rowShrink H (k := 0) (by omega)
    rw [Nat.zero_mul, List.take_zero] at H
    exact hK _ _ _ H
  · exact hK _ _ _ (H.rowNil (T := T_table_bucket_p_shard_entry) (sz := 1))

theorem sls_append {off n m : Nat} {bs : Nat → Sl} : sls off n bs ++ sls (off + n) m bs = sls off (n + m) bs := by
  unfold sls
  rw [List.range_add, List.map_append, List.map_map]
  congr 1
  apply List.map_congr_left
  intro i _
  simp [Nat.add_assoc]
theorem sls_oneC {off n : Nat} {bs : Nat → Sl} : OneC (sls off n bs) := fun u hu => by
  obtain ⟨i, _, rfl⟩ := List.mem_map.1 hu
  rfl

/-- Both rows of buckets, one behind the other. -/
theorem tab_concat {t : TS} {b : Nat} {K : Value → World → Prop} (ht : TOk t)
    (H : St h0 w0 w (cl b T_s_table_bucket_p_shard_entry [.slice t.ae t.ne t.ce, .slice t.an t.nn t.cn] :: rowE t :: rowN t :: As))
    (hK : ∀ w' a c, St h0 w0 w' (Row T_table_bucket_p_shard_entry 1 a (t.ne + t.nn) c (sls 0 (t.ne + t.nn) t.bs) :: rowE t :: rowN t :: As) → K (.slice a (t.ne + t.nn) c) w') :
    Cl P f_slices_Concat_table_bucket_shard_entry_table_bucket_shard_entry #[.slice (some (Addr.mk b 0 none)) 2 2] w K := by
  have h34 := ht.nn
  have h35 := ht.ne
  apply cl_slices_Concat_table_bucket_shard_entry_table_bucket_shard_entry
  unfold c_slices_Concat_table_bucket_shard_entry_table_bucket_shard_entry
  let sz : Nat → Nat := fun i => if i = 0 then 0 else if i = 1 then t.ne else t.ne + t.nn
  refine ⟨fun vs w' => ∃ i : Nat, i ≤ 2 ∧ vs = [.int .i64 (sz i), .int .i64 i] ∧ St h0 w0 w' (cl b T_s_table_bucket_p_shard_entry [.slice t.ae t.ne t.ce, .slice t.an t.nn t.cn] :: rowE t :: rowN t :: As),
    fun vs _ => match vs with | [_, .int _ i] => 2 - i.toNat | _ => 0, ⟨0, by omega, rfl, H⟩, ?_⟩
  rintro vs w4 ⟨i, hi, rfl, H⟩
  refine ⟨_, _, rfl, br (fun hc => ?_) fun hc => ?_⟩
  · have hi2 : i < 2 := by simp at hc; omega
    rcases (by omega : i = 0 ∨ i = 1) with rfl | rfl
    · refine ⟨_, rfl, by omega, by omega, t.ae, t.ne, t.ce, by rw [add_mk, H.cell m0]; rfl, ?_⟩
      have e : IntKind.i64.wrap (((sz 0 : Nat) : Int) + (t.ne : Int)) = ((sz 1 : Nat) : Int) := by
        show IntKind.i64.wrap (((0 : Nat) : Int) + (t.ne : Int)) = ((t.ne : Nat) : Int)
        rw [wrap_i64 (by omega) (by omega)]; omega
      rw [e]
      refine br (fun hc => by simp at hc; omega) fun _ => ⟨⟨1, by omega, rfl, H⟩, by show 2 - Int.toNat ((1 : Nat) : Int) < 2 - Int.toNat ((0 : Nat) : Int); decide⟩
    · refine ⟨_, rfl, by omega, by omega, t.an, t.nn, t.cn, by rw [add_mk, H.cell m0]; rfl, ?_⟩
      have e : IntKind.i64.wrap (((sz 1 : Nat) : Int) + (t.nn : Int)) = ((sz 2 : Nat) : Int) := by
        show IntKind.i64.wrap (((t.ne : Nat) : Int) + (t.nn : Int)) = ((t.ne + t.nn : Nat) : Int)
        rw [wrap_i64 (by omega) (by omega)]; omega
      rw [e]
      refine br (fun hc => by simp at hc; omega) fun _ => ⟨⟨2, by omega, rfl, H⟩, by show 2 - Int.toNat ((2 : Nat) : Int) < 2 - Int.toNat ((1 : Nat) : Int); decide⟩
  · have hi2 : i = 2 := by simp at hc; omega
    subst hi2
    have e2 : sz 2 = t.ne + t.nn := rfl
    rw [e2]
    refine grow_sp H (by omega) fun w10 a11 c11 H => ⟨_, _, _, rfl, ?_⟩
    refine ⟨fun vs w' => ∃ (i : Nat) (a : Option Addr) (c : Nat), i ≤ 2 ∧ vs = [.slice a (sz i) c, .int .i64 i] ∧ St h0 w0 w' (Row T_table_bucket_p_shard_entry 1 a (sz i) c (sls 0 (sz i) t.bs) :: cl b T_s_table_bucket_p_shard_entry [.slice t.ae t.ne t.ce, .slice t.an t.nn t.cn] :: rowE t :: rowN t :: As),
      fun vs _ => match vs with | [_, .int _ i] => 2 - i.toNat | _ => 0, ⟨0, a11, c11, by omega, rfl, H⟩, ?_⟩
    rintro vs w15 ⟨i, a, c, hi, rfl, H⟩
    refine ⟨_, _, _, _, rfl, br (fun hc => ?_) fun hc => ?_⟩
    · have hi2 : i < 2 := by simp at hc; omega
      have room : (2 * (sz i + 2 ^ 35) + 192) * 24 ≤ 2 ^ 48 := by
        have : sz i ≤ 2 ^ 35 := by simp only [sz]; split <;> (try split) <;> omega
        omega
      rcases (by omega : i = 0 ∨ i = 1) with rfl | rfl
      · refine ⟨_, rfl, by omega, by omega, t.ae, t.ne, t.ce, by rw [add_mk, H.cell m1]; rfl, sls 0 t.ne t.bs, (H.pull3 : St h0 w0 w15 (Row _ 1 t.ae t.ne t.ce (sls 0 t.ne t.bs) :: _)).rowAt, ?_⟩
        refine H.rowAppend sls_oneC (by rw [sls_length, Nat.mul_one]) rfl (Nat.le_trans (Nat.mul_le_mul_right _ (by omega)) room) fun a' c' w' H => ?_
        have e : sls 0 (sz 0) t.bs ++ sls 0 t.ne t.bs = sls 0 (sz 1) t.bs := rfl
        rw [e] at H
        have en : sz 0 + t.ne = sz 1 := Nat.zero_add _
        rw [en] at H ⊢
        exact ⟨⟨1, a', c', by omega, rfl, H⟩, by show 2 - Int.toNat ((1 : Nat) : Int) < 2 - Int.toNat ((0 : Nat) : Int); decide⟩
      · refine ⟨_, rfl, by omega, by omega, t.an, t.nn, t.cn, by rw [add_mk, H.cell m1]; rfl, sls t.ne t.nn t.bs, (H.pull4 : St h0 w0 w15 (Row _ 1 t.an t.nn t.cn (sls t.ne t.nn t.bs) :: _)).rowAt, ?_⟩
        refine H.rowAppend sls_oneC (by rw [sls_length, Nat.mul_one]) rfl (Nat.le_trans (Nat.mul_le_mul_right _ (by omega)) room) fun a' c' w' H => ?_
        have e : sls 0 (sz 1) t.bs ++ sls t.ne t.nn t.bs = sls 0 (sz 2) t.bs := by
          show sls 0 t.ne t.bs ++ sls t.ne t.nn t.bs = sls 0 (t.ne + t.nn) t.bs
          rw [← sls_append, Nat.zero_add]
        rw [e] at H
        have en : sz 1 + t.nn = sz 2 := rfl
        rw [en] at H ⊢
        exact ⟨⟨2, a', c', by omega, rfl, H⟩, by show 2 - Int.toNat ((2 : Nat) : Int) < 2 - Int.toNat ((1 : Nat) : Int); decide⟩
    · have hi2 : i = 2 := by simp at hc; omega
      subst hi2
      exact hK _ _ _ H.swap.drop
end
end Go.Bty

namespace Go.Bty
open Go

/-- One text is ahead of another. -/
def bLt (a b : ByteArray) : Prop := a.data.toList < b.data.toList
instance (a b : ByteArray) : Decidable (bLt a b) := inferInstanceAs (Decidable (a.data.toList < b.data.toList))
theorem ba_ext {a b : ByteArray} (h : a.data.toList = b.data.toList) : a = b := by
  obtain ⟨a⟩ := a; obtain ⟨b⟩ := b
  congr 1
  exact Array.toList_inj.1 h
theorem bLt_irrefl (a : ByteArray) : ¬ bLt a a := List.lt_irrefl _
theorem bLt_trans {a b c : ByteArray} (h1 : bLt a b) (h2 : bLt b c) : bLt a c := List.lt_trans h1 h2
theorem bLt_asymm {a b : ByteArray} (h1 : bLt a b) : ¬ bLt b a := fun h2 => bLt_irrefl a (bLt_trans h1 h2)
theorem bLt_tri (a b : ByteArray) : bLt a b ∨ a = b ∨ bLt b a := by
  by_cases h1 : bLt a b
  · exact .inl h1
  · by_cases h2 : bLt b a
    · exact .inr (.inr h2)
    · exact .inr (.inl (ba_ext (List.le_antisymm (List.not_lt.1 h2) (List.not_lt.1 h1))))

section
variable {α : Type} (key : α → ByteArray)
def SortedK (l : List α) : Prop := l.Pairwise fun x y => bLt (key x) (key y)
def sortK (l : List α) : List α := l.mergeSort fun x y => decide (¬ bLt (key y) (key x))
theorem sortK_perm (l : List α) : (sortK key l).Perm l := List.mergeSort_perm ..
theorem sortedK_of {l : List α} (h : l.Pairwise fun x y => ¬ bLt (key y) (key x)) (hd : (l.map key).Nodup) : SortedK key l := by
  induction l with
  | nil => exact List.Pairwise.nil
  | cons x l ih =>
    rw [List.pairwise_cons] at h
    rw [List.map_cons, List.nodup_cons] at hd
    refine List.pairwise_cons.2 ⟨fun y hy => ?_, ih h.2 hd.2⟩
    rcases bLt_tri (key x) (key y) with h1 | h1 | h1
    · exact h1
    · exact absurd (List.mem_map.2 ⟨y, hy, h1.symm⟩) hd.1
    · exact absurd h1 (h.1 y hy)
theorem sortK_sorted {l : List α} (hd : (l.map key).Nodup) : SortedK key (sortK key l) := by
  refine sortedK_of key ?_ (((sortK_perm key l).map key).nodup_iff.2 hd)
  have := List.pairwise_mergeSort (le := fun x y : α => decide (¬ bLt (key y) (key x))) (fun a b c h1 h2 => by
    simp only [decide_eq_true_eq] at *
    intro h
    rcases bLt_tri (key a) (key b) with h3 | h3 | h3
    · exact h2 (bLt_trans h h3)
    · rw [← h3] at h2; exact h2 h
    · exact h1 h3) (fun a b => by
    simp only [Bool.or_eq_true, decide_eq_true_eq]
    by_cases h : bLt (key b) (key a)
    · exact .inr (bLt_asymm h)
    · exact .inl h) l
  exact this.imp fun h => by simpa using h
theorem sorted_uniq : ∀ {l q : List α}, l.Perm q → SortedK key l → SortedK key q → l = q
  | [], q, p, _, _ => (List.perm_nil.1 p.symm).symm
  | x :: l, [], p, _, _ => by simp at p
  | x :: l, y :: q, p, h1, h2 => by
    rw [SortedK, List.pairwise_cons] at h1 h2
    have hx : x ∈ y :: q := p.mem_iff.1 (List.mem_cons_self ..)
    have hy : y ∈ x :: l := p.mem_iff.2 (List.mem_cons_self ..)
    have e : x = y := by
      rcases List.mem_cons.1 hx with h | h
      · exact h
      · rcases List.mem_cons.1 hy with h' | h'
        · exact h'.symm
        · exact absurd (h1.1 y h') (bLt_asymm (h2.1 x h))
    subst e
    congr 1
    exact sorted_uniq (List.perm_cons x |>.1 p) h1.2 h2.2
theorem sortK_eq {l q : List α} (p : q.Perm l) (h : SortedK key q) (hd : (l.map key).Nodup) : q = sortK key l :=
  sorted_uniq key (p.trans (sortK_perm key l).symm) h (sortK_sorted key hd)
theorem sortK_length (l : List α) : (sortK key l).length = l.length := (sortK_perm key l).length_eq
theorem sortK_mem {l : List α} {x : α} : x ∈ sortK key l ↔ x ∈ l := (sortK_perm key l).mem_iff
theorem sortedK_map {β : Type} {f : β → α} {l : List β} : SortedK key (l.map f) ↔ SortedK (fun x => key (f x)) l := by
  unfold SortedK
  rw [List.pairwise_map]
theorem sortK_map {β : Type} (f : β → α) (l : List β) (hd : (l.map fun x => key (f x)).Nodup) : sortK key (l.map f) = (sortK (fun x => key (f x)) l).map f := by
  symm
  refine sortK_eq key ((sortK_perm _ l).map f) ?_ (by rw [List.map_map]; exact hd)
  rw [sortedK_map]
  exact sortK_sorted (fun x => key (f x)) hd
end
end Go.Bty

namespace Go.Bty
open Go
open Go.Proofs.Try renaming prog → P

theorem flat_succ (f : Nat → List Pr) (n : Nat) : flat (n + 1) f = flat n f ++ f n := by
  unfold flat
  rw [List.range_succ, List.map_append, List.flatten_append]
  simp
abbrev keyP : Pr → ByteArray := fun x => x.1

theorem cmp_neg : ∀ (a b : List UInt8), Lib.compareBytes a b < 0 ↔ a < b
  | [], [] => by simp [Lib.compareBytes]
  | [], _ :: _ => by simp [Lib.compareBytes]
  | _ :: _, [] => by simp [Lib.compareBytes]
  | x :: a, y :: b => by
    have ih := cmp_neg a b
    unfold Lib.compareBytes
    rw [List.cons_lt_cons_iff]
    by_cases h1 : x < y
    · simp [h1]
    · rw [if_neg h1]
      by_cases h2 : y < x
      · rw [if_pos h2]
        have hne : x ≠ y := fun e => by subst e; exact UInt8.lt_irrefl _ h2
        simp [h1, hne]
      · rw [if_neg h2, ih]
        have he : x = y := UInt8.le_antisymm (UInt8.not_lt.1 h2) (UInt8.not_lt.1 h1)
        simp [he]

def cfP (x y : Pr) : Int := Lib.compareBytes x.1.data.toList y.1.data.toList
theorem ltOf_iff {x y : Pr} : Proofs.ltOf cfP x y = true ↔ bLt x.1 y.1 := by
  unfold Proofs.ltOf cfP
  rw [decide_eq_true_eq, cmp_neg]; exact Iff.rfl
theorem ltOf_false {x y : Pr} : Proofs.ltOf cfP x y = false ↔ ¬ bLt x.1 y.1 := by
  rw [← ltOf_iff]; simp
theorem swoP : Sort.SWO (Proofs.ltOf cfP) where
  irrefl x := ltOf_false.2 (bLt_irrefl _)
  trans x y z h1 h2 := ltOf_iff.2 (bLt_trans (ltOf_iff.1 h1) (ltOf_iff.1 h2))
  ntrans x y z h1 h2 := by
    rw [ltOf_false] at *
    intro h
    rcases bLt_tri x.1 y.1 with h3 | h3 | h3
    · exact h1 h3
    · rw [h3] at h; exact h2 h
    · exact h2 (bLt_trans h3 h)

section
variable {h0 : Frag} {w0 w w' : World} {As : List HP}
theorem St.grown (H : St h0 w0 w As) (os : Array Obj) : St h0 w0 (Sort.grow w os) As := by
  obtain ⟨h, hs, ho, hf⟩ := H
  refine ⟨h, hs, fun b o hb => ?_, hf.trans ⟨by simp [Sort.grow], fun b hb _ => ?_, fun b o hb => .inl ⟨o, hb⟩, rfl, rfl, rfl⟩⟩
  · have hlt := ho.lt hb
    show (w.heap ++ os)[b]? = some o
    rw [Array.getElem?_append_left hlt]; exact ho b o hb
  · show (w.heap ++ os)[b]? = w.heap[b]?
    rw [Array.getElem?_append_left hb]
theorem St.ahead (H : St h0 w0 w As) (n : Nat) : St h0 w0 (Sort.ahead w n) As := by
  obtain ⟨h, hs, ho, hf⟩ := H
  exact ⟨h, hs, ho, hf.trans ⟨Nat.le_refl _, fun _ _ _ => rfl, fun _ o hb => .inl ⟨o, hb⟩, rfl, rfl, rfl⟩⟩
theorem St.mapped {b : Nat} {T : TypeId} {l l' : List Value} {f : Array Value → Array Value} (H : St h0 w0 w (cl b T l :: As)) (hf : f l.toArray = l'.toArray) : St h0 w0 (Sort.mapBlock w b f) (cl b T l' :: As) := by
  have hb := H.heap m0
  refine St.turn H ?_ rfl rfl rfl
  have hlt := (Array.getElem?_eq_some_iff.1 hb).1
  apply Array.ext_getElem?
  intro j
  show (w.heap.modify b (Sort.onCells f))[j]? = _
  rw [Array.getElem?_modify, Array.getElem?_setIfInBounds]
  split
  · rename_i e
    subst e
    rw [hb]
    simp only [Option.map_some, Sort.onCells, hf, hlt, if_true]
  · rfl

def encP (x : Pr) : List Value := [.string x.1, .pointer x.2]
theorem flatK_prs (d : Array Pr) : Sort.flatK encP 2 d = (prs d.toList).toArray := by
  apply Array.ext
  · simp [Sort.size_flatK, prs_length]
  · intro i h1 h2
    have h1' : i < d.size * 2 := by simpa using h1
    have e := Sort.get_flatK encP 2 d i h1'
    rw [getElem!_pos _ i h1] at e
    rw [e]
    have hq : i / 2 < d.size := by omega
    have hd : d[i / 2]! = d[i / 2] := getElem!_pos d (i / 2) hq
    obtain ⟨g1, g2⟩ := prs_get d.toList (i / 2) d[i / 2] (by rw [List.getElem?_eq_getElem (by simpa using hq)]; simp)
    have hi2 : i < (prs d.toList).length := by rw [prs_length]; simpa using h1'
    have goal : (prs d.toList)[i]? = some ((encP d[i / 2])[i % 2]!) := by
      rcases (by omega : i % 2 = 0 ∨ i % 2 = 1) with hm | hm
      · have : i = i / 2 * 2 := by omega
        rw [hm]
        conv => lhs; rw [this]
        rw [g1]; rfl
      · have : i = i / 2 * 2 + 1 := by omega
        rw [hm]
        conv => lhs; rw [this]
        rw [g2]; rfl
    rw [List.getElem?_eq_getElem hi2] at goal
    rw [hd]
    simpa using (Option.some.inj goal).symm

/-- The comparison that the sort is given. -/
theorem cmp_sp (x y : Pr) (W : World) : Cl P f_table_Table_shard_entry_sorted_1 #[.agg (encP x).toArray, .agg (encP y).toArray] W fun v w' => v = .int .i64 (cfP x y) ∧ ∃ q os', w' = Sort.grow (W.drewN q) os' := by
  apply cl_table_Table_shard_entry_sorted_1
  unfold c_table_Table_shard_entry_sorted_1
  intro b1 w2 e1 e2 b3 w4 e3 e4
  have H0 : St (fun _ => none) W W [] := ⟨fun _ => none, trivial, (fun b o h => by cases h), Fr.refl _ _⟩
  have H := (H0.newCells (cs := encP x) e1 e2).newCells (cs := encP y) e3 e4
  refine ⟨_, by rw [add_mk, H.cell m1]; rfl, _, by rw [add_mk, H.cell m0]; rfl, ?_⟩
  apply cl_strings_Compare
  unfold c_strings_Compare
  apply cl_internal_bytealg_CompareString
  unfold c_internal_bytealg_CompareString
  refine ⟨.int .i64 (cfP x y), ?_, _, rfl, _, rfl, _, rfl, rfl, 0, #[.cells #[.string x.1, .pointer x.2] T_table_pair_p_shard_entry, .cells #[.string y.1, .pointer y.2] T_table_pair_p_shard_entry], ?_⟩
  · rw [run_cmp, Lib.run_compareString]; rfl
  · rw [e4, e2, Sort.alloc_eq_grow, Sort.alloc_eq_grow, Sort.grow_grow]
    rfl

theorem sort_sp {a : Option Addr} {n c : Nat} {l : List Pr} {K : Value → World → Prop} (hd : (l.map keyP).Nodup) (hl : l.length < 2 ^ 60) (H : St h0 w0 w (Row T_table_pair_p_shard_entry 2 a n c (prs l) :: As))
    (hK : ∀ w', St h0 w0 w' (Row T_table_pair_p_shard_entry 2 a n c (prs (sortK keyP l)) :: As) → K (.tuple #[]) w') :
    Cl P f_slices_SortFunc_table_pair_shard_entry_table_pair_shard_entry #[.slice a n c, .func (.func f_table_Table_shard_entry_sorted_1) #[] #[]] w K := by
  have hrl := H.rowLen
  rw [prs_length] at hrl
  have hn : n = l.length := by omega
  subst hn
  rcases H.rowOpen with ⟨rfl, rfl, h0', hp⟩ | ⟨b, L, rfl, hL, ht, hn, HB⟩
  · have hnil : l = [] := List.eq_nil_of_length_eq_zero h0'
    subst hnil
    refine CallsIn.mono (callsIn_wide.2 (Proofs.AnyF.slices_SortFunc_none sortLays none 0 (.func (.func f_table_Table_shard_entry_sorted_1) #[] #[]) w)) ?_
    rintro e w' ⟨rfl, rfl⟩
    have hs0 : sortK keyP [] = [] := List.eq_nil_of_length_eq_zero (by rw [sortK_length]; rfl)
    rw [hs0] at hK
    exact ⟨_, rfl, hK _ H⟩
  · have hll : (prs l).length ≤ L.length := by rw [prs_length, hL]; omega
    have hH : Sort.HoldsK encP 2 w b 0 l.toArray := by
      intro j hj
      rw [Sort.size_flatK] at hj
      have hj2 : j < (prs l).length := by rw [prs_length]; simpa using hj
      refine ⟨?_, HB.frozen m0 _⟩
      rw [Nat.zero_add, HB.cell m0]
      have e1 : L[j]? = (prs l)[j]? := by
        rw [← ht, List.getElem?_take, if_pos (by rw [prs_length] at hj2; exact hj2)]
      rw [e1, flatK_prs]
      rw [getElem!_pos _ j (by simpa using hj2)]
      simp [List.getElem?_eq_getElem hj2]
    have hcmp : Proofs.CmpLays P f_table_Table_shard_entry_sorted_1 #[] encP 2 cfP b 0 l.toArray.size w := fun m os dk hs x y => by
      refine callsIn_wide.1 (CallsIn.mono (cmp_sp x y _) ?_)
      rintro e w' ⟨v, rfl, rfl, q, os', hw⟩
      exact ⟨rfl, q, os', hw⟩
    have eg : ∀ args w, (callFunc f_table_Table_shard_entry_sorted_1 args).run P w = .ok (.enter f_table_Table_shard_entry_sorted_1 args) w := fun args w => callFunc_enter (by kernel_rfl) w
    have hsize : l.toArray.size = l.length := by simp
    have hmain := Proofs.AnyQ.slices_SortFunc sortLays 2 sortAgg sortSize encP (fun _ => rfl) (fun x v hv => by
      simp only [encP, List.mem_cons, List.not_mem_nil, or_false] at hv
      rcases hv with rfl | rfl <;> rfl) cfP swoP f_table_Table_shard_entry_sorted_1 #[] b 0 c l.toArray w eg hcmp hH (Array.getElem?_eq_some_iff.1 (HB.heap m0)).1 (by rw [hsize]; omega)
    rw [hsize] at hmain
    refine CallsIn.mono (callsIn_wide.2 hmain) ?_
    rintro e w' ⟨rfl, d', m, os, hperm, hsort, rfl⟩
    refine ⟨_, rfl, hK _ ?_⟩
    obtain ⟨hds, _, hpp⟩ := hperm
    rw [hsize] at hds
    have hpl : d'.toList.Perm l := by
      have e1 : d'.extract 0 l.length = d' := by rw [← hds]; simp
      have e2 : l.toArray.extract 0 l.length = l.toArray := by simp
      rw [e1, e2] at hpp
      simpa using hpp
    have hd' : (d'.toList.map keyP).Nodup := (hpl.map keyP).nodup_iff.2 hd
    have hsk : SortedK keyP d'.toList := by
      refine sortedK_of keyP ?_ hd'
      rw [List.pairwise_iff_getElem]
      intro i j hi hj hij
      have hi' : i < d'.size := by simpa using hi
      have hj' : j < d'.size := by simpa using hj
      have := hsort i j (Nat.zero_le _) hij (by omega)
      rw [getElem!_pos d' i hi', getElem!_pos d' j hj'] at this
      have := ltOf_false.1 this
      simpa using this
    have hq : d'.toList = sortK keyP l := sortK_eq keyP hpl hsk hd
    have hpq : (prs (sortK keyP l)).length = l.length * 2 := by rw [prs_length, sortK_length]
    -- the world
    have HW : St h0 w0 (Proofs.sortWorldK encP 2 w b 0 m d' os) (cl b T_table_pair_p_shard_entry (prs (sortK keyP l) ++ L.drop (l.length * 2)) :: As) := by
      unfold Proofs.sortWorldK Sort.putRowK Sort.putRow
      refine ((HB.ahead m).mapped ?_).grown os
      rw [flatK_prs, hq]
      apply Array.ext
      · simp [Sort.putCells, hpq]
        rw [prs_length] at hll
        omega
      · intro i h1 h2
        simp only [Sort.putCells, Array.getElem_mapIdx, List.getElem_toArray, Nat.zero_le, Nat.zero_add, true_and, Nat.sub_zero, id]
        by_cases hi : i < l.length * 2
        · rw [if_pos (by simp [hpq, hi]), List.getElem_append_left (by rw [hpq]; exact hi)]
          rw [getElem!_pos _ i (by simp [hpq, hi])]
          simp
        · rw [if_neg (by simp [hpq]; omega), List.getElem_append_right (by rw [hpq]; omega)]
          simp only [List.getElem_drop, hpq]
          congr 1
          omega
    have H3 := HW.rowMk (c := c) (sz := 2) (n := l.length) (by rw [List.length_append, hpq, List.length_drop, hL]; omega) hn
    rw [← hpq, List.take_left] at H3
    exact H3
end
end Go.Bty

namespace Go.Bty
open Go
open Go.Proofs.Try renaming prog → P

section
variable {h0 : Frag} {w0 w w' : World} {As : List HP}

theorem table_sorted (p N : Nat) (seed : Int) (l : List Pr) (hN : N < 2 ^ 32) : Sp P f_table_Table_shard_entry_sorted #[.pointer (some (Addr.mk p 0 none))] (Tbl p N seed l)
    (fun v h => ∃ s : Sl, v = .slice s.1 s.2.1 s.2.2 ∧ SepL [Row T_table_pair_p_shard_entry 2 s.1 s.2.1 s.2.2 (prs (sortK keyP l)), Tbl p N seed l] h) := sp_of fun w h H => by
  apply cl_table_Table_shard_entry_sorted
  unfold c_table_Table_shard_entry_sorted
  obtain ⟨t, ht, H⟩ := H.tblOpen
  intro w1 e1
  have H := H.drew e1
  refine ⟨_, rfl, t.ae, t.ne, t.ce, by rw [add_mk, H.cell m0]; rfl, _, rfl, t.an, t.nn, t.cn, by rw [add_mk, H.cell m0]; rfl, fun b6 w7 e6 e7 => ?_⟩
  have H := H.newCells (cs := [.slice t.ae t.ne t.ce, .slice t.an t.nn t.cn]) e6 e7
  -- [new, cl, rowE, rowN, bag]
  refine tab_concat ht.ok (H.pull4.pull4.pull3) fun w9 a10 c10 H => ⟨_, _, _, rfl, ?_⟩
  -- [cat, rowE, rowN, cl, bag]
  have H := H.rowNil (T := T_table_pair_p_shard_entry) (sz := 2)
  have hlen := ht.perm.length_eq
  have hll := ht.len
  have hnn := ht.nn
  have hne := ht.ne
  have flat_le : ∀ i, i ≤ t.ne + t.nn → (flat i t.bl).length ≤ l.length := fun i hi => by
    rw [← hlen]
    have e : t.ne + t.nn = i + (t.ne + t.nn - i) := by omega
    rw [e]
    unfold flat
    rw [List.range_add, List.map_append, List.flatten_append, List.length_append]
    omega
  refine ⟨fun vs w' => ∃ (i : Nat) (a : Option Addr) (c : Nat), i ≤ t.ne + t.nn ∧ vs = [.slice a (flat i t.bl).length c, .int .i64 i] ∧
      St h w w' [Row T_table_pair_p_shard_entry 2 a (flat i t.bl).length c (prs (flat i t.bl)), Row T_table_bucket_p_shard_entry 1 a10 (t.ne + t.nn) c10 (sls 0 (t.ne + t.nn) t.bs), rowE t, rowN t, cl p T_table_Table_p_shard_entry (tabCells seed t l.length), bag (t.ne + t.nn) (bRow t.bs t.bl)],
    fun vs _ => match vs with | [_, .int _ i] => (t.ne + t.nn) - i.toNat | _ => 0, ⟨0, none, 0, by omega, rfl, H⟩, ?_⟩
  rintro vs w14 ⟨i, a, c, hi, rfl, H⟩
  refine ⟨_, _, _, _, rfl, br (fun hc => ?_) fun hc => ?_⟩
  · have hlt : i < t.ne + t.nn := by simp at hc; omega
    obtain ⟨a17, ha17⟩ := H.swap.rowSome (by rw [sls_length]; omega)
    have hcell := H.swap.rowCell ha17 (sls_get (off := 0) (bs := t.bs) hlt)
    rw [Nat.zero_add] at hcell
    have hrow : RowAt w14 (t.bs i).1 ((t.bs i).2.1 * 2) (prs (t.bl i)) := ((H.pull6.bagOut hlt) : St h w w14 (Row T_table_pair_p_shard_entry 2 (t.bs i).1 (t.bs i).2.1 (t.bs i).2.2 (prs (t.bl i)) :: _)).rowAt
    have hbn : (t.bs i).2.1 = (t.bl i).length := by
      have := hrow.1
      rw [prs_length] at this; omega
    have hsucc := flat_succ t.bl i
    have hle := flat_le (i + 1) hlt
    rw [hsucc, List.length_append] at hle
    refine ⟨a17, ha17, by omega, by omega, (t.bs i).1, (t.bs i).2.1, (t.bs i).2.2, by rw [Int.toNat_natCast, Nat.mul_one]; exact hcell, prs (t.bl i), hrow, ?_⟩
    refine H.rowAppend (prs_oneC _) (by rw [prs_length, hbn]) rfl (by omega) fun a20 c21 w22 H => ?_
    have ew : IntKind.i64.wrap ((i : Int) + 1) = ((i + 1 : Nat) : Int) := by rw [wrap_i64 (by omega) (by omega)]; omega
    rw [ew]
    have e1 : (flat i t.bl).length + (t.bs i).2.1 = (flat (i + 1) t.bl).length := by rw [hsucc, List.length_append, hbn]
    rw [← prs_append, ← hsucc, e1] at H
    rw [e1]
    refine ⟨⟨i + 1, a20, c21, hlt, rfl, H⟩, by simp; omega⟩
  · have hil : i = t.ne + t.nn := by simp at hc; omega
    subst hil
    have hd : ((flat (t.ne + t.nn) t.bl).map keyP).Nodup := (ht.perm.map keyP).nodup_iff.2 ht.dist
    refine sort_sp hd (by omega) H fun w24 H => ⟨rfl, ?_⟩
    have e : sortK keyP (flat (t.ne + t.nn) t.bl) = sortK keyP l := sortK_eq keyP ((sortK_perm keyP _).trans ht.perm) (sortK_sorted keyP hd) ht.dist
    rw [e] at H
    -- [res, cat, rowE, rowN, cl, bag]
    have H := H.pull6.pull5.pull5.pull6
    have H := (H.tblMk ht).swap
    exact ((St.join [_, _] H).only m0).conv fun _ hs => ⟨(a, _, c), rfl, hs⟩

/-- All pairs, one by one, each handed to y. -/
theorem table_all1 {y : Value} {X : Nat → HP} {Z : HP} {b p N : Nat} {seed : Int} {l : List Pr} {K : Value → World → Prop} (hN : N < 2 ^ 32)
    (hy : ∀ i x h0 w0 w As K, (sortK keyP l)[i]? = some x → St h0 w0 w (X i :: As) → (∀ w', St h0 w0 w' (X (i + 1) :: As) → K (.bool true) w') → (∀ w', St h0 w0 w' (Z :: As) → K (.bool false) w') → FvCall P y [.string x.1, .pointer x.2] w K)
    (H : St h0 w0 w (X 0 :: cl b T_p_table_Table_p_shard_entry [.pointer (some (Addr.mk p 0 none))] :: Tbl p N seed l :: As))
    (hK1 : ∀ w', St h0 w0 w' (X l.length :: cl b T_p_table_Table_p_shard_entry [.pointer (some (Addr.mk p 0 none))] :: Tbl p N seed l :: As) → K (.tuple #[]) w')
    (hK2 : ∀ w', St h0 w0 w' (Z :: cl b T_p_table_Table_p_shard_entry [.pointer (some (Addr.mk p 0 none))] :: Tbl p N seed l :: As) → K (.tuple #[]) w') :
    Cl P f_table_Table_shard_entry_All_1 #[y, .pointer (some (Addr.mk b 0 none))] w K := by
  apply cl_table_Table_shard_entry_All_1
  unfold c_table_Table_shard_entry_All_1
  have hll : l.length ≤ N := by
    obtain ⟨t, ht, _⟩ := H.pull3.tblOpen
    exact ht.len
  refine ⟨_, by rw [H.cell m1]; rfl, ?_⟩
  refine H.pull3.callE (table_sorted p N seed l hN) fun s w3 H => ⟨_, _, _, rfl, ?_⟩
  have H := H.split
  have hsl := H.rowLen
  rw [prs_length, sortK_length] at hsl
  have hn : s.2.1 = l.length := by omega
  rw [hn] at H ⊢
  -- [res, Tbl, X, box]
  have H := H.pull4.swap.pull4
  refine ⟨fun vs w' => ∃ i : Nat, i ≤ l.length ∧ vs = [.int .i64 i] ∧ St h0 w0 w' (X i :: Row T_table_pair_p_shard_entry 2 s.1 l.length s.2.2 (prs (sortK keyP l)) :: cl b T_p_table_Table_p_shard_entry [.pointer (some (Addr.mk p 0 none))] :: Tbl p N seed l :: As),
    fun vs _ => match vs with | [.int _ i] => l.length - i.toNat | _ => 0, ⟨0, by omega, rfl, H⟩, ?_⟩
  rintro vs w8 ⟨i, hi, rfl, H⟩
  refine ⟨i, rfl, br (fun hc => ?_) fun hc => ?_⟩
  · have hlt : i < l.length := by simp at hc; omega
    have hlt2 : i < (sortK keyP l).length := by rw [sortK_length]; exact hlt
    obtain ⟨a, ha, hsp⟩ := row_pair (x := (s.1, l.length, s.2.2)) H.swap hlt2
    refine ⟨a, ha, by omega, by omega, _, _, hsp, fun b13 w14 e13 e14 => ?_⟩
    have H := H.newCells (cs := [.string ⟨#[]⟩, .pointer none]) e13 e14
    refine ⟨H.wr m0 (by simp), fun w15 e15 => ?_⟩
    have H : St h0 w0 w15 (cl b13 T_table_pair_p_shard_entry [.string (sortK keyP l)[i].1, .pointer (sortK keyP l)[i].2] :: _) := H.setSpan0 e15
    refine ⟨_, by rw [add_mk, H.cell m0]; rfl, _, by rw [add_mk, H.cell m0]; rfl, ?_⟩
    have ew : IntKind.i64.wrap ((i : Int) + 1) = ((i + 1 : Nat) : Int) := by rw [wrap_i64 (by omega) (by omega)]; omega
    refine hy i _ _ _ _ _ _ (List.getElem?_eq_getElem hlt2) H.drop (fun w' H => ⟨true, rfl, br (fun hc => by simp at hc) fun _ => ?_⟩) (fun w' H => ⟨false, rfl, br (fun _ => ?_) fun hc => by simp at hc⟩)
    · rw [ew]
      exact ⟨⟨i + 1, hlt, rfl, H⟩, by simp; omega⟩
    · exact hK2 _ (H.swap.drop)
  · have hil : i = l.length := by simp at hc; omega
    subst hil
    exact hK1 _ (H.swap.drop)
end
end Go.Bty
