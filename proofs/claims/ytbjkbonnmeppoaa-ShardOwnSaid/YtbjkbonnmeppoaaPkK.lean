/- The shard: all its items, one by one, by rising keys. -/
/- The shard: all its items as a list. -/
/- What the laws of the shard use: comparisons, and a shard behind some stores. -/
import Derived.Test.YtbjkbonnmeppoaaPkI
import Derived.Test.YtbjkbonnmeppoaaPkJ
namespace Go.Bty
open Go
open Go.Proofs.Try renaming prog → P

abbrev keyI : It → ByteArray := fun it => it.key
abbrev keyE : En → ByteArray := fun x => x.it.key
/-- A shard's items, by rising keys. -/
def SM.all (m : SM) : List It := sortK keyI m.items

theorem sortP_tab {es : List En} (hd : (es.map keyE).Nodup) : sortK keyP (tabOf es) = tabOf (sortK keyE es) := by
  unfold tabOf
  exact sortK_map keyP (fun x : En => ((x.it.key, ad x.b) : Pr)) es hd
theorem sortI_es {es : List En} (hd : (es.map keyE).Nodup) : sortK keyI (es.map (·.it)) = (sortK keyE es).map (·.it) :=
  sortK_map keyI (fun x : En => x.it) es hd

section
variable {h0 : Frag} {w0 w w' : World} {As : List HP} {p N : Nat} {o : Option (It × Nat)} {m : SM}

theorem shard_all {a : Option Addr} {K : Value → World → Prop} (H : St h0 w0 w As) (hK : ∀ b w', St h0 w0 w' (cl b T_p_shard_Shard [.pointer a] :: As) → K (.func (.func f_shard_Shard_All_1) #[] #[.pointer (some (Addr.mk b 0 none))]) w') :
    Cl P f_shard_Shard_All #[.pointer a] w K := by
  apply cl_shard_Shard_All
  unfold c_shard_Shard_All
  intro b1 w2 e1 e2
  exact hK b1 w2 (H.newCells e1 e2)
theorem table_all {a : Option Addr} {K : Value → World → Prop} (H : St h0 w0 w As) (hK : ∀ b w', St h0 w0 w' (cl b T_p_table_Table_p_shard_entry [.pointer a] :: As) → K (.func (.func f_table_Table_shard_entry_All_1) #[] #[.pointer (some (Addr.mk b 0 none))]) w') :
    Cl P f_table_Table_shard_entry_All #[.pointer a] w K := by
  apply cl_table_Table_shard_entry_All
  unfold c_table_Table_shard_entry_All
  intro b1 w2 e1 e2
  exact hK b1 w2 (H.newCells e1 e2)

/-- All items, copied, one by one, each handed to y. -/
theorem shard_all1 {y : Value} {X : Nat → HP} {Z : HP} {b : Nat} {K : Value → World → Prop} (hyc : y.cells = #[y]) (hN : N < 2 ^ 31)
    (hy : ∀ i it s h0 w0 w As K, m.all[i]? = some it → s.2.1 = it.val.length → St h0 w0 w (X i :: BRow s it.val :: As) → (∀ w', St h0 w0 w' (X (i + 1) :: As) → K (.bool true) w') → (∀ w', St h0 w0 w' (Z :: As) → K (.bool false) w') → FvCall P y [.agg (itV it s).toArray] w K)
    (H : St h0 w0 w (X 0 :: cl b T_p_shard_Shard [.pointer (ad p)] :: Shard p N none m :: As))
    (hK1 : ∀ w', St h0 w0 w' (X m.items.length :: Shard p N none m :: As) → K (.tuple #[]) w')
    (hK2 : ∀ w', St h0 w0 w' (Z :: Shard p N none m :: As) → K (.tuple #[]) w') :
    Cl P f_shard_Shard_All_1 #[y, .pointer (some (Addr.mk b 0 none))] w K := by
  apply cl_shard_Shard_All_1
  unfold c_shard_Shard_All_1
  intro b1 w2 e1 e2
  rw [hyc] at e2
  have H := H.newCells (cs := [y]) e1 e2
  -- [yb, X, box, Shard]
  obtain ⟨q, es, inn, N1, N2, seed, hi, H⟩ := (H.pull4).shOpen
  have n1 := hi.n1
  have hd : (es.map keyE).Nodup := hi.es_nodup
  -- [cl, Tbl, Slab, Slru, Judge, Row, Ents, yb, X, box]
  refine ⟨_, by rw [H.cell m9]; rfl, _, rfl, ad q.pt, by rw [add_mk, H.cell m0]; rfl, ?_⟩
  refine table_all H fun b6 w7 H => ⟨_, rfl, ?_⟩
  refine ⟨by kernel_rfl, fun Lp lp D l w12 eD el ew hLp hst hpe hLs HY => ?_⟩
  have H := (H.alloc (b := D) (o := .deferred (some [])) eD rfl).alloc (b := l) (o := .loop lp) (by rw [el, World.size_alloc]) ew
  -- [lp, D, tb, cl, Tbl, Slab, Slru, Judge, Row, Ents, yb, X, box]
  let C : HP → List HP := fun X => [cl b1 T_func_api_Item_bool [y], X, cl p T_shard_Shard (shCells q), Slab q.ps N2 m.budget inn, Slru q.pl m.most m.tk m.sk, Judge q.pj m.j, Row T_string 1 q.d.1 q.d.2.1 q.d.2.2 (strs m.drops), Ents es]
  let X' : Nat → HP := fun i => LpX l D Lp (C (X i))
  let Z' : HP := LpZ l D Lp .ret (C Z)
  have H0 : St h0 w0 w12 (X' 0 :: cl b6 T_p_table_Table_p_shard_entry [.pointer (some (Addr.mk q.pt 0 none))] :: Tbl q.pt N1 seed (tabOf es) :: cl b T_p_shard_Shard [.pointer (ad p)] :: As) :=
    St.lpxMk (C (X 0)) hLp hst hpe (H.pull10.pull10.pull10.pull10.pull10.pull9.pull12.pull12.pull10.pull10)
  refine table_all1 (Z := Z') (by omega) ?_ H0 ?_ ?_
  · intro i x h0 w0 w As K hx H K1 K2
    rw [sortP_tab hd] at hx
    obtain ⟨en, hen, rfl⟩ : ∃ en, (sortK keyE es)[i]? = some en ∧ (en.it.key, ad en.b) = x := by
      unfold tabOf at hx
      rw [List.getElem?_map] at hx
      simpa using hx
    have hmem : en ∈ es := (sortK_mem keyE).1 (List.mem_of_getElem? hen)
    have hai : m.all[i]? = some en.it := by
      unfold SM.all
      rw [← hi.items, sortI_es hd, List.getElem?_map, hen]; rfl
    obtain ⟨lp, q1, q2, q3, H⟩ := H.lpx
    refine ⟨rfl, HY w lp _ K q1 (H.get m0) q2 rfl ⟨_, _, rfl, lp, H.get m0, q2, fun W2 e2 => ?_⟩⟩
    intro w24 e24
    have H := (H.putObj e2).drew e24
    -- [lp, D, yb, X, cl, Slab, Slru, Judge, Row, Ents]
    obtain ⟨el, er, rfl⟩ := List.append_of_mem hmem
    have H : St h0 w0 w24 (pt l _ :: pt D _ :: cl b1 T_func_api_Item_bool [y] :: X i :: cl p T_shard_Shard (shCells q) :: Slab q.ps N2 m.budget inn :: Slru q.pl m.most m.tk m.sk :: Judge q.pj m.j :: Row T_string 1 q.d.1 q.d.2.1 q.d.2.2 (strs m.drops) :: Ents (el ++ en :: er) :: As) := H
    have H := (H.pull10).entsOut.entOpen
    -- [ent, val, Ents, lp, D, yb, X, cl, Slab, Slru, Judge, Row]
    have hvl := (H.swap : St h0 w0 w24 (Row T_uint8 1 en.s.1 en.s.2.1 en.s.2.2 (bytesV en.it.val) :: _)).rowLen
    rw [bytesV_length] at hvl
    have hsk := small_key (hi.ok.cls en.it (by rw [← hi.items]; simp))
    refine ⟨y, by rw [H.cell m5]; rfl, _, rfl, en.it.key, en.s.1, en.s.2.1, en.s.2.2, en.it.flags, en.it.exp, en.it.cas, en.it.sec, en.it.seq, en.it.stale, en.it.won, en.it.seen, ?_, ?_⟩
    · rw [add_mk]
      refine H.span m0 fun i v hv => ?_
      rw [Nat.zero_add]
      unfold entCells
      rw [List.getElem?_append_left (List.getElem?_eq_some_iff.1 hv).1]
      exact hv
    refine H.emp.callKE (kpRow (T := T_uint8) (c := en.s.2.2) m1) (owned_sp en.it en.s (by omega)) fun s' w38 H => ⟨en.it.key, s'.1, s'.2.1, s'.2.2, en.it.flags, en.it.exp, en.it.cas, en.it.sec, en.it.seq, en.it.stale, en.it.won, en.it.seen, rfl, ⟨y, by rw [H.cell m6]; rfl, rfl⟩, ?_⟩
    -- [copy, ent, val, Ents, lp, D, yb, X, cl, Slab, Slru, Judge, Row]
    have hcl := (H : St h0 w0 w38 (Row T_uint8 1 s'.1 s'.2.1 s'.2.2 (bytesV en.it.val) :: _)).rowLen
    rw [bytesV_length] at hcl
    have H := H.pull8
    refine hy i en.it s' _ _ _ _ _ hai (by omega) H (fun w51 H => ⟨true, rfl, br (fun hc => by simp at hc) fun _ => ?_⟩) (fun w51 H => ⟨false, rfl, br (fun _ => ?_) fun hc => by simp at hc⟩)
    · -- [X, ent, val, Ents, lp, D, yb, cl, Slab, Slru, Judge, Row]
      have H := (St.entMk (x := en) (H.pull4.pull4.pull4)).entsIn
      have H := H.pull10.pull10.pull10.pull10.pull10.pull7.pull10.pull10.pull10
      refine ⟨_, H.get m0, fun w56 e56 => ?_⟩
      have H := H.putObj e56
      exact K1 _ (St.lpxMk (C (X (i + 1))) (hLs _ _ _ (hLs _ _ _ q1)) rfl rfl H)
    · have H := (St.entMk (x := en) (H.pull4.pull4.pull4)).entsIn
      have H := H.pull10.pull10.pull10.pull10.pull10.pull7.pull10.pull10.pull10
      refine ⟨_, H.get m0, fun w56 e56 => ?_⟩
      have H := H.putObj e56
      exact K2 _ (St.lpzMk (C Z) (hLs _ _ _ (hLs _ _ _ q1)) rfl rfl H)
  · intro w58 H
    have e : (tabOf es).length = m.items.length := by rw [← hi.items]; simp [tabOf]
    rw [e] at H
    obtain ⟨lp, q1, q2, q3, H⟩ := H.lpx
    refine ⟨lp, H.get m0, by rw [q2]; simp, fun w59 e59 => ?_⟩
    have H := H.putObj e59
    rw [q3, pendR_none]
    refine ⟨H.get m1, fun w61 e61 => ?_⟩
    have H := H.swap.putObj e61
    -- [D, lp, yb, X, cl, Slab, Slru, Judge, Row, Ents, tb, Tbl, box]
    have H := H.drop.drop.drop.pull7.pull7.pull7.pull7.pull7.pull9.pull8
    have H := (St.shMk hi H).swap
    -- [X, Shard, tb, box]
    exact hK1 _ (H.pull3.drop.pull3.drop)
  · intro w58 H
    obtain ⟨lp, q1, q2, q3, H⟩ := H.lpz
    refine ⟨lp, H.get m0, by rw [q2]; simp, fun w59 e59 => ?_⟩
    have H := H.putObj e59
    rw [q3, pendR_ret]
    refine ⟨H.get m1, fun w61 e61 => ?_⟩
    have H := H.swap.putObj e61
    have H := H.drop.drop.drop.pull7.pull7.pull7.pull7.pull7.pull9.pull8
    have H := (St.shMk hi H).swap
    exact hK2 _ (H.pull3.drop.pull3.drop)
end
end Go.Bty

namespace Go.Bty
open Go
open Go.Proofs.Try renaming prog → P

def itsV (l : List (It × Sl)) : List Value := l.flatMap fun x => itV x.1 x.2
def ItemL (s : Sl) (l : List (It × Sl)) : HP := SepL [Row T_api_Item 10 s.1 s.2.1 s.2.2 (itsV l), SepL (l.map fun x => BRow x.2 x.1.val)]
theorem itsV_length (l : List (It × Sl)) : (itsV l).length = l.length * 10 := by
  induction l with
  | nil => rfl
  | cons x l ih =>
    unfold itsV at *
    rw [List.flatMap_cons, List.length_append, ih, List.length_cons]
    show 10 + l.length * 10 = (l.length + 1) * 10
    omega
theorem itsV_append (l q : List (It × Sl)) : itsV (l ++ q) = itsV l ++ itsV q := by unfold itsV; rw [List.flatMap_append]
theorem itsV_get {l : List (It × Sl)} {i : Nat} (h : i < l.length) (j : Nat) (hj : j < 10) : (itsV l)[i * 10 + j]? = (itV l[i].1 l[i].2)[j]? := by
  induction l generalizing i with
  | nil => simp at h
  | cons x l ih =>
    have e : itsV (x :: l) = itV x.1 x.2 ++ itsV l := rfl
    rw [e]
    cases i with
    | zero =>
      rw [List.getElem?_append_left (by show 0 * 10 + j < 10; omega)]
      simp
    | succ i =>
      rw [List.getElem?_append_right (by show 10 ≤ (i + 1) * 10 + j; omega)]
      have : (i + 1) * 10 + j - (itV x.1 x.2).length = i * 10 + j := by show (i + 1) * 10 + j - 10 = _; omega
      rw [this, ih (by simpa using h)]
      rfl
theorem itV_oneC (it : It) (s : Sl) : OneC (itV it s) := fun u hu => by
  simp only [itV, List.mem_cons, List.not_mem_nil, or_false] at hu
  rcases hu with rfl | rfl | rfl | rfl | rfl | rfl | rfl | rfl | rfl | rfl <;> rfl

section
variable {h0 : Frag} {w0 w w' : World} {As : List HP}
theorem law_all (p N : Nat) (m : SM) (most : Int) (hN : N < 2 ^ 31) (hm : (m.items.length : Int) < most) : Sp P f_butterylaw11_all #[.pointer (ad p), .int .i64 most] (Shard p N none m)
    (fun v h => ∃ x : Sl × List (It × Sl), v = .slice x.1.1 x.1.2.1 x.1.2.2 ∧ pur (x.2.map (·.1) = m.all) (SepL [ItemL x.1 x.2, Shard p N none m]) h) := sp_of fun w h H => by
  apply cl_butterylaw11_all
  unfold c_butterylaw11_all
  have nd := H.shDrops
  intro b1 w2 e1 e2 b3 w4 e3 e4
  have H := (H.newCells (cs := [.int .i64 most]) e1 e2).newCells (cs := [.slice none 0 0]) e3 e4
  refine shard_all H fun b w6 H => ⟨_, rfl, most, by rw [H.cell m2]; rfl, br (fun hc => by simp at hc; omega) fun _ => ?_⟩
  refine ⟨false, rfl, ⟨by simp, by simp⟩, br (fun hc => by cases hc) fun _ => ?_⟩
  refine ⟨by kernel_rfl, fun Lp lp D l w12 eD el ew hLp hst hpe hLs HY => ?_⟩
  have H := (H.alloc (b := D) (o := .deferred (some [])) eD rfl).alloc (b := l) (o := .loop lp) (by rw [el, World.size_alloc]) ew
  -- [lp, D, box, b3, b1, Shard]
  let C : Sl × List (It × Sl) → List HP := fun x => [cl b3 T_s_api_Item [.slice x.1.1 x.1.2.1 x.1.2.2], cl b1 T_int [.int .i64 most], Row T_api_Item 10 x.1.1 x.1.2.1 x.1.2.2 (itsV x.2), SepL (x.2.map fun x => BRow x.2 x.1.val)]
  let X : Nat → HP := fun i => ex fun x : Sl × List (It × Sl) => pur (x.2.map (·.1) = m.all.take i) (LpX l D Lp (C x))
  let Z : HP := pur False (fun _ => True)
  have H := St.join ([] : List HP) (H.rowNil (T := T_api_Item) (sz := 10))
  have H := H.swap.pull7.pull7.pull6.pull6
  have H0 : St h w w12 (X 0 :: cl b T_p_shard_Shard [.pointer (ad p)] :: Shard p N none m :: []) :=
    St.exMk ((none, 0, 0), []) (St.purMk rfl (St.lpxMk (C ((none, 0, 0), [])) hLp hst hpe H))
  have hal : m.all.length = m.items.length := sortK_length keyI m.items
  refine shard_all1 (Z := Z) rfl hN ?_ H0 ?_ ?_
  · intro i it s h0 w0 w As K hit hsl H K1 K2
    have hilt := (List.getElem?_eq_some_iff.1 hit).1
    obtain ⟨⟨sl, its⟩, H⟩ := H.exOpen
    obtain ⟨hmap, H⟩ := H.purOpen
    obtain ⟨lp, q1, q2, q3, H⟩ := H.lpx
    simp only at hmap
    have hil : its.length = i := by
      have := congrArg List.length hmap
      simp at this; omega
    -- [lp, D, b3, b1, row, vals, new]
    refine ⟨rfl, HY w lp _ K q1 (H.get m0) q2 rfl ⟨it.key, s.1, s.2.1, s.2.2, it.flags, it.exp, it.cas, it.sec, it.seq, it.stale, it.won, it.seen, rfl, fun b31 w32 e31 e32 => ?_⟩⟩
    have H := H.newCells (cs := itV It.zero (none, 0, 0)) e31 e32
    refine ⟨H.wr m0 (by simp [itV]), fun w33 e33 => ?_⟩
    have H : St h0 w0 w33 (cl b31 T_api_Item (itV it s) :: _) := H.setSpan0 e33
    refine ⟨lp, H.get m1, q2, fun W34 e34 => ?_⟩
    have H := H.swap.putObj e34
    -- [lp, b31, D, b3, b1, row, vals, new]
    refine ⟨sl.1, sl.2.1, sl.2.2, by rw [H.cell m3]; rfl, it.key, s.1, s.2.1, s.2.2, it.flags, it.exp, it.cas, it.sec, it.seq, it.stale, it.won, it.seen, H.spanAll m1, fun b47 w48 e47 e48 => ?_⟩
    have H := H.newCells (cs := itV it s) e47 e48
    refine ⟨itV it s, ⟨rfl, H.spanAll m0⟩, ?_⟩
    -- [b47, lp, b31, D, b3, b1, row, vals, new]
    have H := H.pull7
    have hrl := H.rowLen
    rw [itsV_length] at hrl
    have hn : sl.2.1 = i := by have := hrl.1; simp only at this; omega
    refine H.rowAppend (itV_oneC it s) rfl rfl (by show (2 * (sl.2.1 + 1) + 192) * 88 ≤ 2 ^ 48; omega) fun a50 c51 w52 H => ?_
    -- [row, b47, lp, b31, D, b3, b1, vals, new]
    refine ⟨H.stOk m5 (by simp), fun w53 e53 => ?_⟩
    have H := H.pull6.set e53
    -- [b3, row, b47, lp, b31, D, b1, vals, new]
    refine ⟨a50, sl.2.1 + 1, c51, by rw [H.cell m0]; rfl, most, by rw [H.cell m6]; rfl, br (fun hc => ?_) fun hc => ?_⟩
    · exfalso
      simp at hc
      omega
    · refine ⟨_, H.get m3, fun w59 e59 => ?_⟩
      have H := H.pull4.putObj e59
      -- [lp, b3, row, b47, b31, D, b1, vals, new]
      have H := H.pull7.pull3.pull7.pull4.pull8.pull9
      have H : St h0 w0 w59 (SepL [BRow s it.val] :: SepL (its.map fun x => BRow x.2 x.1.val) :: _) := St.join [_] H
      have H := H.swap.glue
      have H := H.pull6.pull6.pull6.pull6.pull6
      have H := (H.pull8.pull8).drop.drop
      have e : itsV (its ++ [(it, s)]) = itsV its ++ itV it s := by rw [itsV_append]; simp [itsV]
      have e2 : ((its ++ [(it, s)]).map fun x => BRow x.2 x.1.val) = (its.map fun x => BRow x.2 x.1.val) ++ [BRow s it.val] := by simp
      refine K1 _ (St.exMk (A := fun x : Sl × List (It × Sl) => pur (x.2.map (·.1) = m.all.take (i + 1)) (LpX l D Lp (C x))) ((a50, sl.2.1 + 1, c51), its ++ [(it, s)]) (St.purMk ?_ (St.lpxMk (C ((a50, sl.2.1 + 1, c51), its ++ [(it, s)])) (hLs _ .ready none (hLs lp .busy lp.pending q1)) rfl rfl ?_)))
      · simp only [List.map_append, List.map_cons, List.map_nil, hmap]
        rw [List.take_succ_eq_append_getElem hilt]
        congr 2
        have := hit
        rw [List.getElem?_eq_getElem hilt] at this
        exact (Option.some.inj this).symm
      · simp only [C, e, e2]
        exact H
  · intro w58 H
    obtain ⟨⟨sl, its⟩, H⟩ := H.exOpen
    obtain ⟨hmap, H⟩ := H.purOpen
    obtain ⟨lp, q1, q2, q3, H⟩ := H.lpx
    refine ⟨lp, H.get m0, by rw [q2]; simp, fun w59 e59 => ?_⟩
    have H := H.putObj e59
    rw [q3, pendR_none]
    refine ⟨sl.1, sl.2.1, sl.2.2, by rw [H.cell m2]; rfl, H.get m1, fun w61 e61 => ?_⟩
    have H := H.swap.putObj e61
    -- [D, lp, b3, b1, row, vals, Shard]
    have H := H.drop.drop.drop.drop
    have H := St.join [_, _] H
    refine ((St.join [_, _] H).only m0).conv fun _ hs => ⟨(sl, its), rfl, ?_, hs⟩
    simp only at hmap ⊢
    rw [hmap, ← hal, List.take_length]
  · intro w58 H
    exact (H.purOpen.1).elim
end
end Go.Bty

namespace Go.Bty
open Go
open Go.Proofs.Try renaming prog → P

theorem bytesAt {w : World} {a : Option Addr} {n : Nat} {bs : List UInt8} (h : RowAt w a n (bytesV bs)) : BytesAt w a n bs := by
  obtain ⟨h1, h2⟩ := h
  rw [bytesV_length] at h1
  unfold BytesAt
  cases a with
  | none => exact List.eq_nil_of_length_eq_zero (by simp only at h2; omega)
  | some p => exact ⟨h1, h2⟩
theorem seq_bytes (a b : List UInt8) : seq (⟨List.toArray a⟩ : ByteArray) (⟨List.toArray b⟩ : ByteArray) = decide (a = b) := by
  rw [seq_eq]
  apply decide_eq_decide.2
  constructor
  · intro h
    have := congrArg (fun x : ByteArray => x.data.toList) h
    simpa using this
  · rintro rfl; rfl

section
variable {h0 : Frag} {w0 w w' : World} {As : List HP}

theorem rowAt_some {w : World} {a : Option Addr} {k : Nat} {vs : List Value} (h : RowAt w a k vs) (hk : 0 < k) : ∃ p, a = some p ∧ SpanAt w p vs := by
  obtain ⟨_, h2⟩ := h
  cases a with
  | none => simp only at h2; omega
  | some p => exact ⟨p, rfl, h2⟩

/-- Are two items the same? -/
theorem same_sp {a b : It} {sa sb : Sl} {K : Value → World → Prop} (ha : ∀ w', St h0 w0 w' As → RowAt w' sa.1 sa.2.1 (bytesV a.val)) (hb : ∀ w', St h0 w0 w' As → RowAt w' sb.1 sb.2.1 (bytesV b.val))
    (H : St h0 w0 w As) (hK : ∀ w', St h0 w0 w' As → K (.bool (decide (a = b))) w') : Cl P f_butteryref11_Same #[.agg (itV a sa).toArray, .agg (itV b sb).toArray] w K := by
  apply cl_butteryref11_Same
  unfold c_butteryref11_Same
  intro b1 w2 e1 e2 b3 w4 e3 e4
  have H2 := ((H.newCells (cs := itV a sa) e1 e2).newCells (cs := itV b sb) e3 e4)
  have H := H2.drop.drop
  have no : ∀ {x : Bool}, x = false → (a = b → x = true) → K (.bool false) w4 := fun hx h => by
    have : decide (a = b) = false := decide_eq_false fun e => by rw [h e] at hx; cases hx
    have h2 := hK _ H
    rw [this] at h2; exact h2
  refine ⟨_, by rw [add_mk, H2.cell m1]; rfl, _, by rw [add_mk, H2.cell m0]; rfl, ?_⟩
  rw [seq_eq]
  refine br (fun q0 => ?_) fun q => no q fun e => by rw [e]; simp
  refine ⟨_, _, _, by rw [add_mk, H2.cell m1]; rfl, a.val, bytesAt (ha _ H), _, _, _, by rw [add_mk, H2.cell m0]; rfl, b.val, bytesAt (hb _ H), ?_⟩
  rw [seq_bytes]
  refine br (fun q1 => ?_) fun q => no q fun e => by rw [e]; simp
  refine ⟨_, by rw [add_mk, H2.cell m1]; rfl, _, by rw [add_mk, H2.cell m0]; rfl, br (fun q2 => ?_) fun q => no q fun e => by rw [e]; simp⟩
  refine ⟨_, by rw [add_mk, H2.cell m1]; rfl, _, by rw [add_mk, H2.cell m0]; rfl, br (fun q3 => ?_) fun q => no q fun e => by rw [e]; simp⟩
  refine ⟨_, by rw [add_mk, H2.cell m1]; rfl, _, by rw [add_mk, H2.cell m0]; rfl, br (fun q4 => ?_) fun q => no q fun e => by rw [e]; simp⟩
  refine ⟨_, by rw [add_mk, H2.cell m1]; rfl, _, by rw [add_mk, H2.cell m0]; rfl, br (fun q5 => ?_) fun q => no q fun e => by rw [e]; simp⟩
  refine ⟨_, by rw [add_mk, H2.cell m1]; rfl, _, by rw [add_mk, H2.cell m0]; rfl, br (fun q6 => ?_) fun q => no q fun e => by rw [e]; simp⟩
  refine ⟨_, by rw [add_mk, H2.cell m1]; rfl, _, by rw [add_mk, H2.cell m0]; rfl, br (fun q7 => ?_) fun q => no q fun e => by rw [e]; simp⟩
  refine ⟨_, by rw [add_mk, H2.cell m1]; rfl, _, by rw [add_mk, H2.cell m0]; rfl, br (fun q8 => ?_) fun q => no q fun e => by rw [e]; simp⟩
  refine ⟨_, by rw [add_mk, H2.cell m1]; rfl, _, by rw [add_mk, H2.cell m0]; rfl, ?_⟩
  have h2 := hK _ H
  have : decide (a = b) = (a.seen == b.seen) := by
    obtain ⟨ak, av, af, ae, ac, as1, as2, as3, aw, an⟩ := a
    obtain ⟨bk, bv, bf, be, bc, bs1, bs2, bs3, bw, bn⟩ := b
    simp only [beq_iff_eq, decide_eq_true_eq] at q0 q1 q2 q3 q4 q5 q6 q7 q8
    subst q0 q1 q2 q3 q4 q5 q6 q7 q8
    simp
    cases an <;> cases bn <;> rfl
  rw [this] at h2
  exact h2

/-- Are two lists of texts the same? -/
theorem same08_sp {a b : Option Addr} {ca cb : Nat} {la lb : List ByteArray} {K : Value → World → Prop} (hl : la.length < 2 ^ 60) (ha : ∀ w', St h0 w0 w' As → RowAt w' a la.length (strs la)) (hb : ∀ w', St h0 w0 w' As → RowAt w' b lb.length (strs lb))
    (H : St h0 w0 w As) (hK : ∀ w', St h0 w0 w' As → K (.bool (decide (la = lb))) w') : Cl P f_butterylaw08_Same #[.slice a la.length ca, .slice b lb.length cb] w K := by
  apply cl_butterylaw08_Same
  unfold c_butterylaw08_Same
  refine br (fun hc => ?_) fun hc => ?_
  · have hne : la ≠ lb := fun e => by rw [e] at hc; simp at hc
    have h2 := hK _ H
    rw [decide_eq_false hne] at h2
    exact h2
  have hll : la.length = lb.length := by simp at hc; omega
  refine ⟨fun vs w' => ∃ i : Nat, i ≤ la.length ∧ vs = [.int .i64 i] ∧ la.take i = lb.take i ∧ St h0 w0 w' As, fun vs _ => match vs with | [.int _ i] => la.length - i.toNat | _ => 0,
    ⟨0, by omega, rfl, rfl, H⟩, ?_⟩
  rintro vs w4 ⟨i, hi, rfl, ht, H⟩
  refine ⟨i, rfl, br (fun hc => ?_) fun hc => ?_⟩
  · have hlt : i < la.length := by simp at hc; omega
    intro w6 e6
    have H := H.drew e6
    obtain ⟨p, hp, hsp⟩ := rowAt_some (ha _ H) (by omega)
    obtain ⟨q, hq, hsq⟩ := rowAt_some (hb _ H) (by omega)
    refine ⟨p, hp, by omega, by omega, la[i], by rw [Int.toNat_natCast, Nat.mul_one]; exact hsp i _ (by simp [strs, hlt]), q, hq, by omega, by omega, lb[i], by rw [Int.toNat_natCast, Nat.mul_one]; exact hsq i _ (by simp [strs, hll ▸ hlt]), ?_⟩
    rw [seq_eq]
    refine br (fun hn => ?_) fun hn => ?_
    · have hne : la ≠ lb := fun e => by subst e; simp at hn
      have h2 := hK _ H
      rw [decide_eq_false hne] at h2
      exact h2
    · have he : la[i] = lb[i] := by simpa using hn
      have ew : IntKind.i64.wrap ((i : Int) + 1) = ((i + 1 : Nat) : Int) := by rw [wrap_i64 (by omega) (by omega)]; omega
      rw [ew]
      refine ⟨⟨i + 1, hlt, rfl, ?_, H⟩, by simp; omega⟩
      rw [List.take_succ_eq_append_getElem hlt, List.take_succ_eq_append_getElem (by omega), ht, he]
  · have hil : i = la.length := by simp at hc; omega
    subst hil
    rw [List.take_length, hll, List.take_length] at ht
    have h2 := hK _ H
    rw [decide_eq_true ht] at h2
    exact h2

/-- A call that came in, read. -/
theorem Ops.item {a : Option Addr} {l : List Opd} (ho : Ops h0 w0 a l) (H : St h0 w0 w As) {i : Nat} (hi : i < l.length) : ∃ p, a = some p ∧ World.cell? w (Addr.add (Addr.add p (Int.toNat (i : Int) * 15)) 0) = some (.int .i64 l[i].kind) ∧ SpanAt w (Addr.add (Addr.add p (Int.toNat (i : Int) * 15)) 1) (itV l[i].it l[i].s) ∧ SpanAt w (Addr.add (Addr.add p (Int.toNat (i : Int) * 15)) 11) (evV l[i].e) ∧
    World.cell? w (Addr.add (Addr.add (Addr.add p (Int.toNat (i : Int) * 15)) 1) 0) = some (.string l[i].it.key) := by
  obtain ⟨b, o, ha, hs⟩ := ho.read H hi
  have hc : ∀ j v, (opV l[i])[j]? = some v → w.cell? (Addr.mk b (o + i * 15 + j) none) = some v := fun j v hj => by
    have := hs j v hj
    rw [add_mk] at this; exact this
  refine ⟨_, ha, ?_, fun j v hj => ?_, fun j v hj => ?_, ?_⟩
  · rw [Int.toNat_natCast, add_mk, add_mk]; exact hc 0 _ rfl
  · rw [Int.toNat_natCast, add_mk, add_mk, add_mk, Nat.add_assoc (o + i * 15)]
    refine hc (1 + j) v ?_
    rw [show 1 + j = j + 1 by omega]
    show ((itV l[i].it l[i].s) ++ evV l[i].e)[j]? = some v
    rw [List.getElem?_append_left (List.getElem?_eq_some_iff.1 hj).1]; exact hj
  · rw [Int.toNat_natCast, add_mk, add_mk, add_mk, Nat.add_assoc (o + i * 15)]
    refine hc (11 + j) v ?_
    rw [show 11 + j = (10 + j) + 1 by omega]
    show ((itV l[i].it l[i].s) ++ evV l[i].e)[10 + j]? = some v
    rw [List.getElem?_append_right (by show 10 ≤ 10 + j; omega)]
    show (evV l[i].e)[10 + j - 10]? = some v
    rw [Nat.add_sub_cancel_left]; exact hj
  · rw [Int.toNat_natCast, add_mk, add_mk, add_mk]; exact hc 1 _ rfl

/-- A shard behind the first i stores. -/
def storesM (m : SM) (l : List Opd) : SM := l.foldl (fun m x => (m.store x.it x.e).1) m
theorem stores_succ {m : SM} {l : List Opd} {i : Nat} (hi : i < l.length) : storesM m (l.take (i + 1)) = ((storesM m (l.take i)).store l[i].it l[i].e).1 := by
  unfold storesM
  rw [List.take_succ_eq_append_getElem hi, List.foldl_append]
  rfl
theorem sok_new (seed budget most : Int) : SOk (SM.new seed budget most) := ⟨List.nodup_nil, List.Perm.refl _, fun it hi => by cases hi⟩
end
end Go.Bty
