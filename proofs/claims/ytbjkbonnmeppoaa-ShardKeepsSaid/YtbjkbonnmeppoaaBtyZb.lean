/- The table: a text is taken away. -/
import Derived.Test.YtbjkbonnmeppoaaBtyZa
namespace Go.Bty
open Go
open Go.Proofs.Try renaming prog → P

section
variable {h0 : Frag} {w0 w : World} {As : List HP}
theorem offA_add {b m l sz : Nat} (h : l ≤ m) : ∃ q, offA (some (Addr.mk b 0 none)) m l sz = some (Addr.mk b q none) ∧ (m ≠ l → q = l * sz) := by
  unfold offA
  split
  · exact ⟨0, rfl, fun h => absurd ‹m = l› h⟩
  · exact ⟨l * sz, by simp [add_mk], fun _ => rfl⟩

theorem prs_oneC : ∀ (l : List Pr), OneC (prs l)
  | [], u, hu => by cases hu
  | x :: l, u, hu => by
    rcases List.mem_cons.1 hu with rfl | hu
    · rfl
    · rcases List.mem_cons.1 hu with rfl | hu
      · rfl
      · exact prs_oneC l u hu

theorem perm_eraseIdx {α : Type} {l : List α} {i : Nat} (h : i < l.length) : l.Perm (l[i] :: l.eraseIdx i) := by
  rw [List.eraseIdx_eq_take_drop_succ]
  have e : l.take i ++ l[i] :: l.drop (i + 1) = l := by rw [List.getElem_cons_drop, List.take_append_drop]
  have h2 : (l.take i ++ l[i] :: l.drop (i + 1)).Perm (l[i] :: (l.take i ++ l.drop (i + 1))) := List.perm_middle
  rw [e] at h2
  exact h2

theorem del_sp {x : Sl} {l : List Pr} {i : Nat} {K : Value → World → Prop} (H : St h0 w0 w (Row T_table_pair_p_shard_entry 2 x.1 x.2.1 x.2.2 (prs l) :: As)) (hi : i < l.length) (hl : l.length < 2 ^ 40)
    (hK : ∀ w' (x' : Sl), St h0 w0 w' (Row T_table_pair_p_shard_entry 2 x'.1 x'.2.1 x'.2.2 (prs (l.eraseIdx i)) :: As) → K (.slice x'.1 x'.2.1 x'.2.2) w') :
    Cl P f_slices_Delete_table_bucket_shard_entry_table_pair_shard_entry #[.slice x.1 x.2.1 x.2.2, .int .i64 i, .int .i64 (i + 1 : Nat)] w K := by
  have hrl := H.rowLen
  have hn : x.2.1 = l.length := by have := hrl.1; rw [prs_length] at this; omega
  have hle := hrl.2
  rcases H.rowOpen with ⟨_, _, h0', _⟩ | ⟨b, L, ea, hL, ht, _, HB⟩
  · omega
  apply cl_slices_Delete_table_bucket_shard_entry_table_pair_shard_entry
  unfold c_slices_Delete_table_bucket_shard_entry_table_pair_shard_entry
  rw [hn] at *
  rw [ea] at *
  have e2 : Int.toNat ((i + 1 : Nat) : Int) = i + 1 := Int.toNat_natCast _
  have e3 : Int.toNat ((i : Nat) : Int) = i := Int.toNat_natCast _
  have e4 : Int.toNat ((l.length : Nat) : Int) = l.length := Int.toNat_natCast _
  rw [e2, e3, e4]
  refine ⟨by omega, by omega, by omega, by omega, by omega, by omega, br (fun h => ?_) fun _ => ?_⟩
  · exfalso
    have : (i : Int) = (i + 1 : Nat) := by simpa using h
    omega
  intro w1 ew1
  have HB := HB.drew ew1
  obtain ⟨q, hq, hq2⟩ := offA_add (b := b) (m := x.2.2) (l := i + 1) (sz := 2) (by omega)
  have htl : l.length * 2 ≤ L.length := by rw [hL]; omega
  refine ⟨by omega, by omega, by omega, by omega, prs (l.drop (i + 1)), ⟨by rw [prs_length, List.length_drop], ?_⟩, ?_⟩
  · rw [hq]
    refine HB.span m0 fun j v hj => ?_
    by_cases hm : x.2.2 = i + 1
    · have : l.drop (i + 1) = [] := List.drop_eq_nil_of_le (by omega)
      rw [this] at hj; cases hj
    · rw [hq2 hm]
      have e5 : prs l = prs (l.take (i + 1)) ++ prs (l.drop (i + 1)) := by rw [← prs_append, List.take_append_drop]
      have e6 : (prs l)[(i + 1) * 2 + j]? = some v := by
        rw [e5, List.getElem?_append_right (by rw [prs_length, List.length_take]; omega), prs_length, List.length_take]
        rw [show (i + 1) * 2 + j - min (i + 1) l.length * 2 = j by omega]
        exact hj
      rw [← ht, List.getElem?_take] at e6
      split at e6
      · exact e6
      · cases e6
  · have hk1 : i - 0 + (l.length - (i + 1)) = l.length - 1 := by omega
    rw [hk1, offA_zero, Nat.sub_zero, Nat.sub_zero]
    have hyl : (prs (l.drop (i + 1))).length = (l.length - (i + 1)) * 2 := by rw [prs_length, List.length_drop]
    refine ⟨prs_oneC _, fun _ _ => ⟨_, rfl, ?_⟩, fun h => absurd h (by omega), fun a3 c4 w5 hA => ?_⟩
    · rw [add_mk]
      exact HB.wr m0 (by rw [hyl]; omega)
    · rcases hA with ⟨hc, rfl, rfl, rfl⟩ | ⟨hc, _⟩
      · have HB2 := St.setSpan0 (w' := appSet (some (Addr.mk b 0 none)) i 2 (prs (l.drop (i + 1))) w1) (o := 0 + i * 2) (vs := prs (l.drop (i + 1))) HB (by simp only [appSet, add_mk])
        have hoff : offA (some (Addr.mk b 0 none)) x.2.2 (Int.toNat ((l.length - 1 : Nat) : Int)) 2 = some (Addr.mk b ((l.length - 1) * 2) none) := by
          rw [Int.toNat_natCast]
          unfold offA
          rw [if_neg (by omega)]
          simp [add_mk]
        have hL1 : (setL L (0 + i * 2) (prs (l.drop (i + 1)))).length = x.2.2 * 2 := by rw [setL_length, hL]
        have e8 : Int.toNat ((l.length - 1 : Nat) : Int) = l.length - 1 := Int.toNat_natCast _
        rw [hoff, e8]
        refine ⟨by omega, by omega, by omega, by omega, fun _ => ⟨_, rfl, HB2.wr m0 (by rw [hL1]; omega)⟩, fun w6 e6 => ?_⟩
        have HB3 := HB2.setSpan0 (o := (l.length - 1) * 2) (vs := zc (l.length - (l.length - 1)) [.string ⟨#[]⟩, .pointer none]) e6
        have H4 := HB3.rowMk (c := x.2.2) (sz := 2) (n := l.length - 1) (by rw [setL_length, hL1]) (by omega)
        have hz : (zc (l.length - (l.length - 1)) [Value.string ⟨#[]⟩, .pointer none]).length = 2 := by rw [zc_length, show l.length - (l.length - 1) = 1 by omega]; rfl
        have e9 : (setL (setL L (0 + i * 2) (prs (l.drop (i + 1)))) ((l.length - 1) * 2) (zc (l.length - (l.length - 1)) [.string ⟨#[]⟩, .pointer none])).take ((l.length - 1) * 2) = prs (l.eraseIdx i) := by
          have hfit1 : (l.length - 1) * 2 + (zc (l.length - (l.length - 1)) [Value.string ⟨#[]⟩, .pointer none]).length ≤ (setL L (0 + i * 2) (prs (l.drop (i + 1)))).length := by rw [hz, hL1]; omega
          rw [setL_eq _ _ _ hfit1, List.append_assoc, List.take_append_of_le_length (by rw [List.length_take, hL1]; omega), List.take_take, Nat.min_self]
          have hfit2 : 0 + i * 2 + (prs (l.drop (i + 1))).length ≤ L.length := by rw [hyl]; omega
          have hl0 : (L.take (0 + i * 2)).length = i * 2 := by rw [List.length_take]; omega
          rw [setL_eq _ _ _ hfit2]
          have hh : (L.take (0 + i * 2) ++ prs (l.drop (i + 1))).length = (l.length - 1) * 2 := by rw [List.length_append, hl0, hyl]; omega
          rw [← hh, List.take_left, List.eraseIdx_eq_take_drop_succ, prs_append]
          congr 1
          have e10 : L.take (0 + i * 2) = (prs l).take (i * 2) := by
            rw [← ht, List.take_take, Nat.zero_add, Nat.min_eq_left (by omega)]
          rw [e10, show prs l = prs (l.take i) ++ prs (l.drop i) by rw [← prs_append, List.take_append_drop]]
          have : (prs (l.take i)).length = i * 2 := by rw [prs_length, List.length_take]; omega
          rw [← this, List.take_left]
        rw [e9] at H4
        exact hK _ (some (Addr.mk b 0 none), l.length - 1, x.2.2) H4
      · omega

/-- A bucket is laid anew. -/
theorem tab_lay {t : TS} {j : Nat} {a : Addr} {w' : World} {x : Sl} {q : List Pr} (hj : j < t.ne + t.nn) (ha : IsAt t j a)
    (H : St h0 w0 w (Row T_table_pair_p_shard_entry 2 x.1 x.2.1 x.2.2 (prs q) :: bagBut (t.ne + t.nn) (bRow t.bs t.bl) j :: rowE t :: rowN t :: As)) (hw : w' = w.setCell a (slV x)) :
    St h0 w0 w' (rowE { t with bs := upd t.bs j x, bl := upd t.bl j q } :: rowN { t with bs := upd t.bs j x, bl := upd t.bl j q } :: bag (t.ne + t.nn) (bRow (upd t.bs j x) (upd t.bl j q)) :: As) := by
  have H2 := H.conv (A' := bRow (upd t.bs j x) (upd t.bl j q) j) fun _ hh => by
    simp only [bRow, upd_same]; exact hh
  have H3 := H2.bagIn hj fun i hi => by simp only [bRow, upd_ne hi]
  exact tab_set (t := t) H3.push3 ha x hw

/-- A bucket loses a pair. -/
theorem tab_cut {N : Nat} {seed : Int} {l : List Pr} {t : TS} {k : ByteArray} {i : Nat} {v : Option Addr} {x : Sl} (ht : TInv N seed t l) (hi : (t.bl (locN seed t k))[i]? = some (k, v)) :
    TInv N seed { t with bs := upd t.bs (locN seed t k) x, bl := upd t.bl (locN seed t k) ((t.bl (locN seed t k)).eraseIdx i) } (l.filter fun y => decide (y.1 ≠ k)) ∧ (l.filter fun y => decide (y.1 ≠ k)).length + 1 = l.length := by
  have hj := locN_lt (seed := seed) (k := k) ht.ok
  generalize hJ : locN seed t k = J at *
  have hmem : (k, v) ∈ l := ht.perm.mem_iff.1 (mem_flat.2 ⟨_, hj, List.mem_of_getElem? hi⟩)
  have p1 := flat_upd t.bl hj ((t.bl J).eraseIdx i)
  have p2 := flat_at t.bl hj
  have hlt := (List.getElem?_eq_some_iff.1 hi).1
  have hge := (List.getElem?_eq_some_iff.1 hi).2
  have p3 : (t.bl J).Perm ((k, v) :: (t.bl J).eraseIdx i) := by
    rw [← hge]; exact perm_eraseIdx hlt
  have p4 : ((k, v) :: flat (t.ne + t.nn) (upd t.bl J ((t.bl J).eraseIdx i))).Perm l :=
    ((p1.cons (k, v)).trans ((p3.append_right _).symm)).trans (p2.symm.trans ht.perm)
  have hd : ((((k, v) :: flat (t.ne + t.nn) (upd t.bl J ((t.bl J).eraseIdx i))) : List Pr).map (·.1)).Nodup := (p4.map (·.1)).nodup_iff.2 ht.dist
  rw [List.map_cons, List.nodup_cons] at hd
  have p5 : (flat (t.ne + t.nn) (upd t.bl J ((t.bl J).eraseIdx i))).Perm (l.filter fun y => decide (y.1 ≠ k)) := by
    have := p4.filter fun y => decide (y.1 ≠ k)
    rw [List.filter_cons_of_neg (by simp)] at this
    rw [List.filter_eq_self.2 ?_] at this
    · exact this
    · intro a ha
      simp only [decide_eq_true_eq]
      intro e
      exact hd.1 (List.mem_map.2 ⟨a, ha, e⟩)
  have hlen : (l.filter fun y => decide (y.1 ≠ k)).length + 1 = l.length := by
    rw [← p5.length_eq, ← p4.length_eq]; rfl
  refine ⟨⟨⟨ht.ok.pos, ht.ok.nn, ht.ok.ne, ht.ok.left⟩, fun j hjl y hy => ?_, p5, ?_, by have := ht.len; omega, ht.nn, ht.ne⟩, hlen⟩
  · simp only at hy
    by_cases e : j = J
    · rw [e, upd_same] at hy
      rw [e]; exact ht.loc _ hj y (List.mem_of_mem_eraseIdx hy)
    · rw [upd_ne e] at hy
      exact ht.loc j hjl y hy
  · exact List.Nodup.sublist (List.Sublist.map _ List.filter_sublist) ht.dist

theorem table_delete (p N : Nat) (seed : Int) (l : List Pr) (k : ByteArray) (hN : N < 2 ^ 32) (hk : k.size < 2 ^ 62) : Sp P f_table_Table_shard_entry_Delete #[.pointer (some (Addr.mk p 0 none)), .string k] (Tbl p N seed l)
    (fun u h => u = .bool (getL l k).isSome ∧ Tbl p N seed (l.filter fun y => decide (y.1 ≠ k)) h) := sp_of fun w h H => by
  apply cl_table_Table_shard_entry_Delete
  unfold c_table_Table_shard_entry_Delete
  obtain ⟨t, ht, H⟩ := H.tblOpen
  refine tab_find ht hN hk H fun t' a w2 ht' ha H => ⟨_, _, rfl, ?_⟩
  have hj := locN_lt (seed := seed) (k := k) ht'.ok
  have hlen := ht'.len
  refine br (fun hc => ?_) fun hc => ?_
  · have hc' : idxZ (t'.bl (locN seed t' k)) k ≥ 0 := by simpa using hc
    obtain ⟨i, hi⟩ : ∃ i : Nat, idxZ (t'.bl (locN seed t' k)) k = i := ⟨(idxZ (t'.bl (locN seed t' k)) k).toNat, by omega⟩
    obtain ⟨v, hv⟩ := idx_some hi
    have hmem : (k, v) ∈ l := ht'.perm.mem_iff.1 (mem_flat.2 ⟨_, hj, List.mem_of_getElem? hv⟩)
    have hg := (getL_iff ht'.dist).2 hmem
    have hlt := (List.getElem?_eq_some_iff.1 hv).1
    have hcut := fun x => tab_cut (x := x) ht' hv
    rw [hi, hg]
    generalize hJ : locN seed t' k = J at *
    refine ⟨a, rfl, _, _, _, tab_cell H.push4 ha, ?_⟩
    have hbl : (t'.bl J).length ≤ N := by have := flat_len t'.bl hj; have := ht'.perm.length_eq; omega
    have ew : IntKind.i64.wrap ((i : Int) + 1) = ((i + 1 : Nat) : Int) := by rw [wrap_i64 (by omega) (by omega)]; omega
    rw [ew]
    refine del_sp (x := t'.bs J) (l := t'.bl J) (H.pull4.bagOut hj) hlt (by omega) fun w8 x H => ⟨_, _, _, rfl, a, rfl, ?_⟩
    -- [row, but, cl, rowE, rowN]
    obtain ⟨hinv, hlen2⟩ := hcut x
    refine ⟨tab_ok (H.pull4.pull5.swap) ha, fun w11 e11 => ?_⟩
    have H := (tab_lay hj ha H.pull3.push5 e11).pull4
    generalize ht2 : ({ t' with bs := upd t'.bs J x, bl := upd t'.bl J ((t'.bl J).eraseIdx i) } : TS) = t2 at *
    have f1 : t2.ne = t'.ne := by rw [← ht2]
    have f2 : t2.nn = t'.nn := by rw [← ht2]
    have f3 : tabCells seed t' l.length = tabCells seed t2 l.length := by rw [← ht2]; rfl
    have f4 : bRow (upd t'.bs J x) (upd t'.bl J ((t'.bl J).eraseIdx i)) = bRow t2.bs t2.bl := by rw [← ht2]
    rw [f3, f4, ← f1, ← f2] at H
    refine ⟨_, rfl, l.length, by rw [add_mk, H.cell m0]; rfl, _, rfl, by rw [add_mk]; exact H.stOk m0 (by simp [tabCells]), fun w15 e15 => ?_⟩
    have ew : IntKind.i64.wrap ((l.length : Int) - 1) = (((l.filter fun y => decide (y.1 ≠ k)).length : Nat) : Int) := by rw [wrap_i64 (by omega) (by omega)]; omega
    rw [add_mk, ew] at e15
    have H := H.set e15
    exact (St.tblMk hinv H).conv fun _ hs => ⟨by rw [show decide ((i : Int) ≥ 0) = true by simp]; rfl, hs⟩
  · have hc' : idxZ (t'.bl (locN seed t' k)) k < 0 := by simpa using hc
    have hno := idx_neg hc'
    have hkl : k ∉ l.map (·.1) := fun hm => by
      obtain ⟨x, hx, rfl⟩ := List.mem_map.1 hm
      obtain ⟨j, hjl, hxj⟩ := mem_flat.1 (ht'.perm.mem_iff.2 hx)
      have := (ht'.loc j hjl x hxj).1
      rw [this] at hno
      exact hno (List.mem_map.2 ⟨x, hxj, rfl⟩)
    have hgl : getL l k = none := getL_none.2 hkl
    have hfl : (l.filter fun y => decide (y.1 ≠ k)) = l := List.filter_eq_self.2 fun y hy => by
      simp only [decide_eq_true_eq]
      intro e; exact hkl (List.mem_map.2 ⟨y, hy, e⟩)
    rw [hgl, hfl]
    exact (H.tblMk ht').conv fun _ hs => ⟨by rw [hc]; rfl, hs⟩

theorem table_len (p N : Nat) (seed : Int) (l : List Pr) : Sp P f_table_Table_shard_entry_Len #[.pointer (some (Addr.mk p 0 none))] (Tbl p N seed l) (fun u h => u = .int .i64 l.length ∧ Tbl p N seed l h) := sp_of fun w h H => by
  apply cl_table_Table_shard_entry_Len
  unfold c_table_Table_shard_entry_Len
  obtain ⟨t, ht, H⟩ := H.tblOpen
  exact ⟨_, rfl, l.length, by rw [add_mk, H.cell m0]; rfl, (H.tblMk ht).conv fun _ hs => ⟨rfl, hs⟩⟩
end
end Go.Bty
