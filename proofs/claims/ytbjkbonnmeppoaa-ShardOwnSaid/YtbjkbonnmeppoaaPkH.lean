/- The shard: room is made. -/
/- The shard: an item is stored. -/
/- The shard: Store, Look, Update. -/
/- The shard: Look, Update. -/
import Derived.Test.YtbjkbonnmeppoaaPkG
namespace Go.Bty
open Go
open Go.Proofs.Try renaming prog → P

/-- How many items a shard at p has, as its table tells. -/
def manyAt (p : Nat) (w : World) : Nat := match w.cell? (Addr.mk p 0 none) with
  | some (.pointer (some a)) => match w.cell? (a.add 4) with
    | some (.int _ n) => n.toNat
    | _ => 0
  | _ => 0

theorem victim_some {ks : List ByteArray} {but v : ByteArray} (h : victimM ks but = some v) : v ∈ ks ∧ v ≠ but :=
  ⟨List.mem_of_find?_eq_some h, by simpa using List.find?_some h⟩
theorem victim_val {ks : List ByteArray} {but : ByteArray} : ∃ v, victimV (victimM ks but) = .tuple #[.string v, .bool (victimM ks but).isSome] ∧ ∀ x, victimM ks but = some x → v = x := by
  cases victimM ks but with
  | none => exact ⟨_, rfl, fun x hx => by cases hx⟩
  | some v => exact ⟨v, rfl, fun x hx => by cases hx; rfl⟩

section
variable {h0 : Frag} {w0 w w' : World} {As : List HP} {p N : Nat} {o : Option (It × Nat)} {m : SM}

theorem St.shMany (H : St h0 w0 w (Shard p N o m :: As)) : manyAt p w = m.items.length := by
  obtain ⟨q, es, inn, N1, N2, seed, hi, H⟩ := H.shOpen
  obtain ⟨t, ht, H2⟩ := H.swap.tblOpen
  have e1 : w.cell? (Addr.mk p 0 none) = some (.pointer (some (Addr.mk q.pt 0 none))) := H.cell m0 0
  have e2 : w.cell? (Addr.add (Addr.mk q.pt 0 none) 4) = some (.int .i64 ((tabOf es).length : Nat)) := by rw [add_mk, H2.cell m0]; rfl
  unfold manyAt
  rw [e1]
  simp only [e2, Int.toNat_natCast]
  rw [← hi.items]; simp [tabOf]

theorem drop_len {m : SM} {k : ByteArray} (h : (m.get k).isSome = true) : (m.drop k).items.length + 1 ≤ m.items.length := by
  have e : (m.drop k).items = delI m.items k := m.rem_items k
  rw [e]
  exact delI_len h

theorem St.shBig {d : Option (It × Nat)} (H : St h0 w0 w (Shard p N d m :: As)) : 0 ≤ m.used := by
  obtain ⟨q, es, inn, N1, N2, seed, hi, H⟩ := H.shOpen
  rw [← hi.used]
  exact (sumZ_nonneg).1

/-- Does it fit? -/
theorem shard_fits {it : It} {less : Int} {q : Option Addr} {K : Value → World → Prop} (hl : less ≤ 2 ^ 52) (hN : N < 2 ^ 31) (hq : w.cell? (Addr.mk p 1 none) = some (.pointer q)) (H : St h0 w0 w (Shard p N o m :: As))
    (hk : ∀ w', St h0 w0 w' (Shard p N o m :: As) → K (.bool (m.fits (sizeM it) less)) w') : Cl P f_slab_Slab_Fits #[.pointer q, .int .i64 (sizeM it), .int .i64 less] w K := by
  obtain ⟨q', es, inn, N1, N2, seed, hi, H⟩ := H.shOpen
  have n2 := hi.n2
  have e : q = ad q'.ps := by
    rw [H.cell m0] at hq
    cases hq; rfl
  subst e
  refine H.pull3.callV (slab_fits q'.ps N2 m.budget (sizeM it) less inn (by omega) hl) fun w4 H => ?_
  have hu := hi.used
  rw [hu]
  exact hk _ (St.shMk hi H.pull3.pull3)

theorem shard_room_some (p N : Nat) (m : SM) (it x : It) (s : Sl) (b : Nat) (e : Ev) (hN : N < 2 ^ 31) (hx : x.key = it.key) (hs : s.2.1 = it.val.length) (hk : it.key.size < 2 ^ 60) (hv : it.val.length < 2 ^ 60) :
    Sp P f_shard_Shard_room #[.pointer (ad p), .agg (itV it s).toArray, .pointer (ad b), .agg (evV e).toArray] (Shard p N (some (x, b)) m)
      (fun v h => v = .int .i64 (SM.room (m.items.length + 1) m it (some x) e).2 ∧ Shard p N (some (x, b)) (SM.room (m.items.length + 1) m it (some x) e).1 h) := sp_of fun w h H => by
  apply cl_shard_Shard_room
  unfold c_shard_Shard_room
  intro b1 w2 e1 e2 b3 w4 e3 e4
  have H := ((H.newCells (cs := itV it s) e1 e2).newCells (cs := evV e) e3 e4).pull3
  refine br (fun _ => ?_) fun hc => by simp [ad] at hc
  -- the class of the old chunk
  refine ⟨_, rfl, clsM x, ?_, ?_⟩
  · obtain ⟨q, es, inn, N1, N2, seed, hi, H⟩ := H.shOpen
    obtain ⟨y, hy, rfl, rfl⟩ := hi.old _ rfl
    obtain ⟨l, r, rfl⟩ := List.append_of_mem hy
    have HE := H.pull7.entsOut.entOpen
    rw [add_mk, add_mk, HE.cell m0]
    show some (Value.int .i64 y.c.1) = _
    rw [hi.cls y hy]
  refine H.pure (bytes_sp _) fun w8 H => ⟨_, rfl, ?_⟩
  have hbr := bytesN_range (clsM x)
  refine ⟨fun vs w' => vs = [] ∧ ∃ (n : Nat) (m' : SM), m'.items.length < n ∧ SM.room n m' it (some x) e = SM.room (m.items.length + 1) m it (some x) e ∧
      St h w w' [Shard p N (some (x, b)) m', cl b3 T_api_Env (evV e), cl b1 T_api_Item (itV it s)],
    fun _ w' => manyAt p w', ⟨rfl, m.items.length + 1, m, Nat.lt_succ_self _, rfl, H⟩, ?_⟩
  rintro vs w13 ⟨rfl, n, m', hn, hr, H⟩
  intro _ w14 e14
  have hmany := H.shMany
  obtain ⟨q, es, inn, N1, N2, seed, hi, H⟩ := (H.drew e14).shOpen
  have n1 := hi.n1
  have n2 := hi.n2
  have hu := hi.used
  refine ⟨_, rfl, ad q.ps, by rw [add_mk, H.cell m0]; rfl, it.key, s.1, s.2.1, s.2.2, it.flags, it.exp, it.cas, it.sec, it.seq, it.stale, it.won, it.seen, H.spanAll m8, ?_⟩
  refine H.pure (size_sp it s hs hk hv) fun w28 H => ⟨_, rfl, ⟨_, by rw [add_mk, H.cell m0]; rfl, rfl⟩, ?_⟩
  refine H.pull3.callV (slab_fits q.ps N2 m'.budget (sizeM it) (bytesZ (clsM x)) inn (by omega) (by omega)) fun w32 H => ⟨_, rfl, ?_⟩
  rw [hu]
  have hfits : decide (classN (sizeM it) < 6 ∧ 0 ≤ bytesZ (clsM x) ∧ bytesZ (clsM x) ≤ m'.used ∧ m'.used - bytesZ (clsM x) + bytesZ (classN (sizeM it)) ≤ m'.budget) = m'.fits (sizeM it) (lessM (some x)) := rfl
  rw [hfits]
  have H := H.pull3.pull3
  obtain ⟨n, rfl⟩ : ∃ n', n = n' + 1 := ⟨n - 1, by omega⟩
  rw [SM.room] at hr
  refine br (fun hc => ?_) fun hc => ?_
  · have hf : m'.fits (sizeM it) (lessM (some x)) = false := by simpa using hc
    simp only [hf, Bool.false_eq_true, if_false] at hr
    intro w34 e34
    have H := H.drew e34
    refine ⟨_, rfl, ad q.pl, by rw [add_mk, H.cell m0]; rfl, it.key, by rw [add_mk, H.cell m8]; rfl, ?_⟩
    refine H.pull4.callV (slru_victim q.pl m'.most m'.tk m'.sk it.key) fun w39 H => ?_
    obtain ⟨v, hv1, hv2⟩ := victim_val (ks := m'.tk ++ m'.sk) (but := it.key)
    refine ⟨v, _, hv1, br (fun hc2 => ?_) fun hc2 => ?_⟩
    · have hvn : victimM (m'.tk ++ m'.sk) it.key = none := by simpa using hc2
      rw [hvn] at hr
      rw [← hr]
      have H := H.pull4.pull4.pull4
      exact ((St.shMk hi H).only m0).conv fun _ hh => ⟨rfl, hh⟩
    · obtain ⟨v', hvv⟩ := Option.isSome_iff_exists.1 (show (victimM (m'.tk ++ m'.sk) it.key).isSome = true by simpa using hc2)
      have := hv2 _ hvv
      subst this
      obtain ⟨vm, vne⟩ := victim_some hvv
      have hgs := hi.ok.get_mem.2 vm
      have hvs := hi.ok.get_small vm
      rw [hvv] at hr
      simp only [Option.isSome_some, Bool.true_or, if_true] at hr
      refine ⟨_, rfl, ad q.pt, by rw [add_mk, H.cell m1]; rfl, ?_⟩
      refine H.pull3.callV (table_get q.pt N1 seed (tabOf es) v (by omega) (by omega)) fun w45 H => ⟨_, _, rfl, ?_⟩
      have H := St.shMk hi H.pull4.swap.pull4
      refine br (fun _ => br (fun _ => ?_) fun hc => by simp [ad] at hc) fun hc => by simp [ad] at hc
      have hne : ∀ y, some (x, b) = some y → y.1.key ≠ v := fun y hy => by cases hy; rw [hx]; exact fun h => vne h.symm
      refine H.callV (shard_drop p N (some (x, b)) m' v hN hgs hne) fun w49 H => ⟨rfl, ⟨rfl, n, m'.drop v, ?_, hr, H⟩, ?_⟩
      · have := drop_len hgs; omega
      · show manyAt p _ < manyAt p _
        rw [hmany, H.shMany]
        have := drop_len hgs; omega
  · have hf : m'.fits (sizeM it) (lessM (some x)) = true := by simpa using hc
    simp only [hf, if_true] at hr
    rw [← hr]
    exact ((St.shMk hi H).only m0).conv fun _ hh => ⟨rfl, hh⟩

theorem shard_room_none (p N : Nat) (m : SM) (it : It) (s : Sl) (e : Ev) (hN : N < 2 ^ 31) (hs : s.2.1 = it.val.length) (hk : it.key.size < 2 ^ 60) (hv : it.val.length < 2 ^ 60) :
    Sp P f_shard_Shard_room #[.pointer (ad p), .agg (itV it s).toArray, .pointer none, .agg (evV e).toArray] (Shard p N none m)
      (fun v h => v = .int .i64 (SM.room (m.items.length + 1) m it none e).2 ∧ Shard p N none (SM.room (m.items.length + 1) m it none e).1 h) := sp_of fun w h H => by
  apply cl_shard_Shard_room
  unfold c_shard_Shard_room
  intro b1 w2 e1 e2 b3 w4 e3 e4
  have H := ((H.newCells (cs := itV it s) e1 e2).newCells (cs := evV e) e3 e4).pull3
  refine br (fun hc => by simp at hc) fun _ => ?_
  refine ⟨fun vs w' => vs = [] ∧ ∃ (n : Nat) (m' : SM), m'.items.length < n ∧ SM.room n m' it none e = SM.room (m.items.length + 1) m it none e ∧
      St h w w' [Shard p N none m', cl b3 T_api_Env (evV e), cl b1 T_api_Item (itV it s)],
    fun _ w' => manyAt p w', ⟨rfl, m.items.length + 1, m, Nat.lt_succ_self _, rfl, H⟩, ?_⟩
  rintro vs w13 ⟨rfl, n, m', hn, hr, H⟩
  intro _ w14 e14
  have hmany := H.shMany
  obtain ⟨q, es, inn, N1, N2, seed, hi, H⟩ := (H.drew e14).shOpen
  have n1 := hi.n1
  have n2 := hi.n2
  have hu := hi.used
  refine ⟨_, rfl, ad q.ps, by rw [add_mk, H.cell m0]; rfl, it.key, s.1, s.2.1, s.2.2, it.flags, it.exp, it.cas, it.sec, it.seq, it.stale, it.won, it.seen, H.spanAll m8, ?_⟩
  refine H.pure (size_sp it s hs hk hv) fun w28 H => ⟨_, rfl, ⟨_, by rw [add_mk, H.cell m0]; rfl, rfl⟩, ?_⟩
  refine H.pull3.callV (slab_fits q.ps N2 m'.budget (sizeM it) 0 inn (by omega) (by omega)) fun w32 H => ⟨_, rfl, ?_⟩
  rw [hu]
  have hfits : decide (classN (sizeM it) < 6 ∧ (0 : Int) ≤ 0 ∧ 0 ≤ m'.used ∧ m'.used - 0 + bytesZ (classN (sizeM it)) ≤ m'.budget) = m'.fits (sizeM it) (lessM none) := rfl
  rw [hfits]
  have H := H.pull3.pull3
  obtain ⟨n, rfl⟩ : ∃ n', n = n' + 1 := ⟨n - 1, by omega⟩
  rw [SM.room] at hr
  refine br (fun hc => ?_) fun hc => ?_
  · have hf : m'.fits (sizeM it) (lessM none) = false := by simpa using hc
    simp only [hf, Bool.false_eq_true, if_false] at hr
    intro w34 e34
    have H := H.drew e34
    refine ⟨_, rfl, ad q.pl, by rw [add_mk, H.cell m0]; rfl, it.key, by rw [add_mk, H.cell m8]; rfl, ?_⟩
    refine H.pull4.callV (slru_victim q.pl m'.most m'.tk m'.sk it.key) fun w39 H => ?_
    obtain ⟨v, hv1, hv2⟩ := victim_val (ks := m'.tk ++ m'.sk) (but := it.key)
    refine ⟨v, _, hv1, br (fun hc2 => ?_) fun hc2 => ?_⟩
    · have hvn : victimM (m'.tk ++ m'.sk) it.key = none := by simpa using hc2
      rw [hvn] at hr
      rw [← hr]
      have H := H.pull4.pull4.pull4
      exact ((St.shMk hi H).only m0).conv fun _ hh => ⟨rfl, hh⟩
    · obtain ⟨v', hvv⟩ := Option.isSome_iff_exists.1 (show (victimM (m'.tk ++ m'.sk) it.key).isSome = true by simpa using hc2)
      have := hv2 _ hvv
      subst this
      obtain ⟨vm, vne⟩ := victim_some hvv
      have hgs := hi.ok.get_mem.2 vm
      have hvs := hi.ok.get_small vm
      rw [hvv] at hr
      have hgm : m'.get v = (entOf es v).map (·.it) := by unfold SM.get; rw [← hi.items, getI_map]
      refine ⟨_, rfl, ad q.pt, by rw [add_mk, H.cell m1]; rfl, ?_⟩
      refine H.pull3.callV (table_get q.pt N1 seed (tabOf es) v (by omega) (by omega)) fun w45 H => ⟨_, _, rfl, ?_⟩
      refine br (fun hc => by simp at hc) fun _ => fun w59 e59 => ?_
      rw [getL_tabOf]
      obtain ⟨x, hx⟩ : ∃ x, entOf es v = some x := Option.isSome_iff_exists.1 (by rw [hgm] at hgs; simpa using hgs)
      obtain ⟨hxm, rfl⟩ := entOf_some hx
      have hgx : m'.get x.it.key = some x.it := by rw [hgm, hx]; rfl
      obtain ⟨l, r, rfl⟩ := List.append_of_mem hxm
      have H := (H.drew e59).pull4.swap.pull4
      have HE := H.pull7.entsOut.entOpen
      refine ⟨Addr.mk x.b 0 none, by rw [hx]; rfl, x.it.key, x.s.1, x.s.2.1, x.s.2.2, x.it.flags, x.it.exp, x.it.cas, x.it.sec, x.it.seq, x.it.stale, x.it.won, x.it.seen, ?_, e.now, e.seq, e.flush, e.flushSeq, H.spanAll m7, ?_⟩
      · refine HE.span m0 fun i v hv => ?_
        rw [Nat.zero_add]
        unfold entCells
        rw [List.getElem?_append_left (List.getElem?_eq_some_iff.1 hv).1]
        exact hv
      simp only [Option.isSome_none, Bool.false_or, SM.gone, hgx] at hr
      refine H.pure (live_sp x.it x.s e) fun w76 H => ⟨_, rfl, br (fun hc => ?_) fun hc => ?_⟩
      · rw [if_pos (by simpa using hc)] at hr
        refine (St.shMk hi H).callV (shard_drop p N none m' x.it.key hN hgs (fun y hy => by cases hy)) fun w49 H => ⟨rfl, ⟨rfl, n, m'.drop x.it.key, ?_, hr, H⟩, ?_⟩
        · have := drop_len hgs; omega
        · show manyAt p _ < manyAt p _
          rw [hmany, H.shMany]
          have := drop_len hgs; omega
      · rw [if_neg (by simpa using hc)] at hr
        intro w80 e80
        have H := H.drew e80
        refine ⟨_, rfl, ad q.pj, by rw [add_mk, H.cell m0]; rfl, it.key, by rw [add_mk, H.cell m8]; rfl, ?_⟩
        refine H.pull5.callV (tiny_admit q.pj m'.j it.key x.it.key (by omega) (by omega)) fun w85 H => ⟨_, rfl, ?_⟩
        have H := St.shMk hi H.pull5.pull5.pull5.pull5
        refine br (fun hc3 => ?_) fun hc3 => ?_
        · rw [if_neg (by simpa using hc3)] at hr
          rw [← hr]
          exact (H.only m0).conv fun _ hh => ⟨rfl, hh⟩
        · rw [if_pos (by simpa using hc3)] at hr
          refine H.callV (shard_drop p N none m' x.it.key hN hgs (fun y hy => by cases hy)) fun w49 H => ⟨rfl, ⟨rfl, n, m'.drop x.it.key, ?_, hr, H⟩, ?_⟩
          · have := drop_len hgs; omega
          · show manyAt p _ < manyAt p _
            rw [hmany, H.shMany]
            have := drop_len hgs; omega
  · have hf : m'.fits (sizeM it) (lessM none) = true := by simpa using hc
    simp only [hf, if_true] at hr
    rw [← hr]
    exact ((St.shMk hi H).only m0).conv fun _ hh => ⟨rfl, hh⟩
end
end Go.Bty

namespace Go.Bty
open Go
open Go.Proofs.Try renaming prog → P

theorem usedL_le (l : List It) : 0 ≤ usedL l ∧ usedL l ≤ 2048 * l.length := by
  induction l with
  | nil => exact ⟨Int.le_refl _, Int.le_refl _⟩
  | cons x l ih =>
    have hb := bytesN_range (clsM x)
    have e : usedL (x :: l) = bytesZ (clsM x) + usedL l := rfl
    rw [e, List.length_cons]
    omega
theorem usedL_append (a b : List It) : usedL (a ++ b) = usedL a + usedL b := by
  induction a with
  | nil => simp [usedL]
  | cons x a ih =>
    have e : ∀ l, usedL (x :: l) = bytesZ (clsM x) + usedL l := fun _ => rfl
    rw [List.cons_append, e, e, ih]; omega

theorem delI_get_none {l : List It} {k v : ByteArray} (h : getI l k = none) : getI (delI l v) k = none := by
  unfold getI delI at *
  rw [List.find?_eq_none] at *
  intro x hx
  exact h x (List.mem_filter.1 hx).1
theorem drop_get_none {m : SM} {k v : ByteArray} (h : m.get k = none) : (m.drop v).get k = none := by
  have e : (m.drop v).items = delI m.items v := m.rem_items v
  unfold SM.get at *
  rw [e]
  exact delI_get_none h
theorem drop_get_self {m : SM} {v : ByteArray} : (m.drop v).get v = none := by
  have e : (m.drop v).items = delI m.items v := m.rem_items v
  unfold SM.get
  rw [e]
  unfold getI delI
  rw [List.find?_eq_none]
  intro x hx
  have := (List.mem_filter.1 hx).2
  simpa using this
theorem room_get_none {it : It} {o : Option It} {e : Ev} {k : ByteArray} : ∀ (n : Nat) {m : SM}, m.get k = none → (SM.room n m it o e).1.get k = none
  | 0, m, h => h
  | n + 1, m, h => by
    unfold SM.room
    split
    · exact h
    · split
      · exact h
      · split
        · exact room_get_none n (drop_get_none h)
        · split
          · exact room_get_none n (drop_get_none h)
          · exact h
theorem SOk.drop {m : SM} (h : SOk m) (k : ByteArray) : SOk (m.drop k) := by
  have := h.rem k
  exact ⟨this.dist, this.keys, this.cls⟩
theorem SOk.room {it : It} {o : Option It} {e : Ev} : ∀ (n : Nat) {m : SM}, SOk m → SOk (SM.room n m it o e).1
  | 0, m, h => h
  | n + 1, m, h => by
    unfold SM.room
    split
    · exact h
    · split
      · exact h
      · split
        · exact SOk.room n (h.drop _)
        · split
          · exact SOk.room n (h.drop _)
          · exact h
theorem room_fits {it : It} {o : Option It} {e : Ev} : ∀ (n : Nat) {m : SM}, SOk m → m.items.length < n → (SM.room n m it o e).2 = 0 →
    (SM.room n m it o e).1.fits (sizeM it) (lessM o) = true
  | 0, m, _, h, _ => by omega
  | n + 1, m, hok, h, hz => by
    unfold SM.room at hz ⊢
    split
    · assumption
    · rename_i hf
      rw [if_neg hf] at hz
      split
      · rename_i hv
        rw [hv] at hz
        simp at hz
      · rename_i v hv
        simp only [hv] at hz
        have hg : (m.get v).isSome = true := hok.get_mem.2 (victim_some hv).1
        have hl := drop_len hg
        split
        · rename_i hc
          rw [if_pos hc] at hz
          exact room_fits n (hok.drop v) (by omega) hz
        · rename_i hc
          rw [if_neg hc] at hz
          split
          · rename_i hw
            rw [if_pos hw] at hz
            exact room_fits n (hok.drop v) (by omega) hz
          · rename_i hw
            rw [if_neg hw] at hz
            simp at hz
theorem room_len {it : It} {o : Option It} {e : Ev} : ∀ (n : Nat) {m : SM}, SOk m → (SM.room n m it o e).1.items.length ≤ m.items.length
  | 0, m, _ => Nat.le_refl _
  | n + 1, m, hok => by
    unfold SM.room
    split
    · exact Nat.le_refl _
    · split
      · exact Nat.le_refl _
      · rename_i v hv
        have hl := drop_len (hok.get_mem.2 (victim_some hv).1)
        split
        · exact Nat.le_trans (room_len n (hok.drop v)) (by omega)
        · split
          · exact Nat.le_trans (room_len n (hok.drop v)) (by omega)
          · exact Nat.le_refl _

theorem find_key {m m' : SM} {k : ByteArray} {e : Ev} {it : It} (h : m.find k e = (m', some it)) : m' = m ∧ m.get k = some it ∧ it.key = k ∧ liveM it e = true := by
  unfold SM.find at h
  split at h
  · cases h
  · rename_i x hx
    split at h
    · cases h
      exact ⟨rfl, hx, (getI_mem hx).2, by assumption⟩
    · cases h
theorem find_none {m : SM} {k : ByteArray} {e : Ev} (h : (m.find k e).2 = none) : (m.find k e).1.get k = none := by
  unfold SM.find at *
  split
  · assumption
  · rename_i x hx
    rw [hx] at h
    simp only at h
    split
    · rename_i hl; rw [if_pos hl] at h; cases h
    · exact drop_get_self

section
variable {h0 : Frag} {w0 w w' : World} {As : List HP} {p N : Nat} {o : Option (It × Nat)} {m : SM}
theorem St.shUp {M : Nat} (H : St h0 w0 w (Shard p N o m :: As)) (h : N ≤ M) : St h0 w0 w (Shard p M o m :: As) := by
  obtain ⟨q, es, inn, N1, N2, seed, hi, H⟩ := H.shOpen
  exact St.shMk ⟨hi.items, hi.ok, hi.chunks, hi.cls, Nat.le_trans hi.n1 h, Nat.le_trans hi.n2 h, Nat.le_trans hi.nd h, hi.old⟩ H

theorem setI_split {l r : List It} {x it : It} (hd : ((l ++ x :: r).map (·.key)).Nodup) (hk : x.key = it.key) : setI (l ++ x :: r) it = l ++ it :: r := by
  rw [List.map_append, List.map_cons, List.nodup_append] at hd
  obtain ⟨_, h2, h3⟩ := hd
  rw [List.nodup_cons] at h2
  unfold setI
  rw [List.map_append, List.map_cons, if_pos hk]
  congr 1
  · conv => rhs; rw [← List.map_id l]
    apply List.map_congr_left
    intro y hy
    rw [if_neg]
    · rfl
    · intro e
      exact h3 _ (List.mem_map.2 ⟨y, hy, rfl⟩) _ (List.mem_cons_self ..) (e.trans hk.symm)
  · congr 1
    conv => rhs; rw [← List.map_id r]
    apply List.map_congr_left
    intro y hy
    rw [if_neg]
    · rfl
    · intro e
      exact h2.1 (List.mem_map.2 ⟨y, hy, e.trans hk.symm⟩)

/-- An entry gets another item, with another chunk: the shard's side of it. -/
theorem SInv.swap {l r : List En} {y : En} {inn inn' : List (Int × Int)} {N1 N2 N2' : Nat} {it : It} {s : Sl} {c : Int × Int} (hi : SInv N o m (l ++ y :: r) inn N1 N2) (hk : y.it.key = it.key) (hc : c.1 = clsM it) (hc6 : clsM it < 6) (hin : inn'.Perm (c :: (l ++ r).map (·.c))) (hN : N2' ≤ N2 + 2) :
    SInv (N + 2) none { m with items := setI m.items it } (l ++ ⟨it, y.b, s, c⟩ :: r) inn' N1 N2' := by
  have hd := hi.ok.dist
  have hitems : m.items = l.map (·.it) ++ y.it :: r.map (·.it) := by rw [← hi.items]; simp
  have hset : setI m.items it = l.map (·.it) ++ it :: r.map (·.it) := by
    rw [hitems] at hd ⊢
    exact setI_split hd hk
  have hkeys : (setI m.items it).map (·.key) = m.items.map (·.key) := by rw [hset, hitems]; simp [hk]
  have n1 := hi.n1
  have n2 := hi.n2
  have nd := hi.nd
  have hlen : (setI m.items it).length = m.items.length := by simp [setI]
  refine ⟨by simp only [hset]; simp, ⟨by simp only; rw [hkeys]; exact hd, by simp only; rw [hkeys]; exact hi.ok.keys, fun x hx => ?_⟩, ?_, fun x hx => ?_, by omega, by simp only [hlen]; omega, by simp only [hlen]; omega, fun y hy => by cases hy⟩
  · simp only at hx
    rw [hset] at hx
    rcases List.mem_append.1 hx with hx | hx
    · exact hi.ok.cls x (by rw [hitems]; exact List.mem_append.2 (.inl hx))
    · rcases List.mem_cons.1 hx with rfl | hx
      · exact hc6
      · exact hi.ok.cls x (by rw [hitems]; exact List.mem_append.2 (.inr (List.mem_cons_of_mem _ hx)))
  · refine hin.trans ?_
    rw [List.map_append, List.map_append, List.map_cons]
    exact List.perm_middle.symm
  · rcases List.mem_append.1 hx with hx | hx
    · exact hi.cls x (List.mem_append.2 (.inl hx))
    · rcases List.mem_cons.1 hx with rfl | hx
      · exact hc
      · exact hi.cls x (List.mem_append.2 (.inr (List.mem_cons_of_mem _ hx)))
end
end Go.Bty

namespace Go.Bty
open Go
open Go.Proofs.Try renaming prog → P

theorem SM.fits_iff {m : SM} {a b : Int} : m.fits a b = true ↔ classN a < 6 ∧ 0 ≤ b ∧ b ≤ m.used ∧ m.used - b + bytesZ (classN a) ≤ m.budget := by
  unfold SM.fits
  simp only [decide_eq_true_eq]

section
variable {h0 : Frag} {w0 w w' : World} {As : List HP} {p N : Nat} {o : Option (It × Nat)} {m : SM}

theorem entSet {it it' : It} {s s' : Sl} {c : Int × Int} : setL (itV it s ++ [.int .i64 c.1, .int .i64 c.2]) (0 + 0) (itV it' s') = itV it' s' ++ [.int .i64 c.1, .int .i64 c.2] := rfl
theorem entSetC {it : It} {s : Sl} {c c' : Int × Int} : setL (itV it s ++ [.int .i64 c.1, .int .i64 c.2]) (0 + 10) [.int .i64 c'.1, .int .i64 c'.2] = itV it s ++ [.int .i64 c'.1, .int .i64 c'.2] := rfl

theorem shard_store (p N : Nat) (m : SM) (it : It) (s : Sl) (e : Ev) (hN : N + 2 < 2 ^ 31) (hs : s.2.1 = it.val.length) (hk : it.key.size < 2 ^ 60) (hv : it.val.length < 2 ^ 60) :
    SpK P f_shard_Shard_Store #[.pointer (ad p), .agg (itV it s).toArray, .agg (evV e).toArray] s.1 s.2.1 (bytesV it.val) (Shard p N none m)
      (fun v h => v = .int .i64 (m.store it e).2 ∧ Shard p (N + 2) none (m.store it e).1 h) := spK_of fun w h hkp H => by
  apply cl_shard_Shard_Store
  unfold c_shard_Shard_Store
  intro b1 w2 e1 e2 b3 w4 e3 e4
  have H := ((H.newCells (cs := itV it s) e1 e2).newCells (cs := evV e) e3 e4).pull3
  -- [Shard, ev, it]
  refine ⟨it.key, s.1, s.2.1, s.2.2, it.flags, it.exp, it.cas, it.sec, it.seq, it.stale, it.won, it.seen, H.spanAll m2, ?_⟩
  refine H.pure (size_sp it s hs hk hv) fun w16 H => ⟨_, rfl, ?_⟩
  refine H.pure (class_sp _) fun w19 H => ?_
  by_cases hc : clsM it < 6
  rotate_left
  · have hc6 : clsM it = 6 := by have := classN_le_six (sizeM it); unfold clsM at *; omega
    refine ⟨0, 4, by rw [classV]; exact if_neg hc, br (fun _ => ?_) fun hh => by simp at hh⟩
    have hst : m.store it e = (m, 4) := by unfold SM.store; rw [if_pos hc6]
    rw [hst]
    exact ((H.only m0).shUp (by omega)).conv fun _ hs => ⟨rfl, hs⟩
  have hsz := small_of hc
  have hsk := small_key hc
  have hc6 : ¬ clsM it = 6 := by omega
  refine ⟨clsM it, 0, by rw [classV]; exact if_pos hc, br (fun hh => by simp at hh) fun _ => ?_⟩
  refine ⟨it.key, by rw [add_mk, H.cell m2]; rfl, e.now, e.seq, e.flush, e.flushSeq, H.spanAll m1, ?_⟩
  have hst : m.store it e = (if (SM.room ((m.find it.key e).1.items.length + 1) (m.find it.key e).1 it (m.find it.key e).2 e).2 ≠ 0 then SM.room ((m.find it.key e).1.items.length + 1) (m.find it.key e).1 it (m.find it.key e).2 e else
      match (m.find it.key e).2 with
      | some _ => ({ (SM.room ((m.find it.key e).1.items.length + 1) (m.find it.key e).1 it (m.find it.key e).2 e).1 with items := setI (SM.room ((m.find it.key e).1.items.length + 1) (m.find it.key e).1 it (m.find it.key e).2 e).1.items it }, 0)
      | none => ({ (SM.room ((m.find it.key e).1.items.length + 1) (m.find it.key e).1 it (m.find it.key e).2 e).1 with items := (SM.room ((m.find it.key e).1.items.length + 1) (m.find it.key e).1 it (m.find it.key e).2 e).1.items ++ [it], tk := (SM.room ((m.find it.key e).1.items.length + 1) (m.find it.key e).1 it (m.find it.key e).2 e).1.tk ++ [it.key] }, 0)) := by
    unfold SM.store; rw [if_neg hc6]; rfl
  rw [hst]
  have hok := H.shOk
  refine H.call (shard_find p N m it.key e (by omega) (by omega)) fun v w28 H => ?_
  obtain ⟨_, hres, hback⟩ := H.opn
  rcases hres with ⟨hf2, rfl, hS⟩ | ⟨x, b, hf2, rfl, hS⟩
  · -- the key has nothing
    replace H := hback [_] (sepL_one hS)
    clear hback
    have hgn := find_none hf2
    generalize hmf : (m.find it.key e).1 = mf at *
    rw [hf2]
    refine ⟨_, rfl, it.key, s.1, s.2.1, s.2.2, it.flags, it.exp, it.cas, it.sec, it.seq, it.stale, it.won, it.seen, H.spanAll m2, e.now, e.seq, e.flush, e.flushSeq, H.spanAll m1, ?_⟩
    have hok1 := H.shOk
    refine H.callV (shard_room_none p N mf it s e (by omega) hs hk hv) fun w45 H => ⟨_, rfl, ?_⟩
    have hfit := room_fits (it := it) (o := none) (e := e) (mf.items.length + 1) hok1 (by omega)
    have hgn2 := room_get_none (it := it) (o := none) (e := e) (mf.items.length + 1) hgn
    generalize hr : SM.room (mf.items.length + 1) mf it none e = r at *
    obtain ⟨mr, z⟩ := r
    simp only at H hfit hgn2 ⊢
    refine br (fun hz => ?_) fun hz => ?_
    · rw [if_pos (by simpa using hz)]
      exact ((H.only m0).shUp (by omega)).conv fun _ hs => ⟨rfl, hs⟩
    have hz0 : z = 0 := by simpa using hz
    subst hz0
    rw [if_neg (by simp)]
    obtain ⟨_, _, _, hfit⟩ := SM.fits_iff.1 (hfit rfl)
    refine br (fun hh => by simp at hh) fun _ => ?_
    intro b104 w105 e104 e105 w106 e106
    have H := (H.newCells (cs := itV ⟨⟨#[]⟩, [], 0, 0, 0, 0, 0, false, false, false⟩ (none, 0, 0) ++ [.int .i64 (0, 0).1, .int .i64 (0, 0).2]) e104 e105).drew e106
    obtain ⟨q, es, inn, N1, N2, seed, hi, H⟩ := H.swap.shOpen
    have n1 := hi.n1
    have n2 := hi.n2
    have nd := hi.nd
    have hu := hi.used
    have hkm : it.key ∉ mr.items.map (·.key) := fun hm => by
      have := getI_isSome.2 hm
      unfold SM.get at hgn2
      rw [hgn2] at this; cases this
    have hke : it.key ∉ (tabOf es).map (·.1) := fun hm => hkm (by
      rw [← hi.items]
      simpa [tabOf] using hm)
    refine ⟨_, rfl, ad q.pt, by rw [add_mk, H.cell m0]; rfl, it.key, by rw [add_mk, H.cell m9]; rfl, ?_⟩
    refine H.swap.callV (table_put q.pt N1 seed (tabOf es) it.key (ad b104) (by omega) (by omega) hke) fun w111 H => ⟨rfl, fun w112 e112 => ?_⟩
    have H := H.drew e112
    refine ⟨_, rfl, ad q.pl, by rw [add_mk, H.cell m1]; rfl, it.key, by rw [add_mk, H.cell m9]; rfl, ?_⟩
    have hks : it.key ∉ mr.tk ++ mr.sk := fun hm => hkm (hi.ok.keys.mem_iff.1 hm)
    have hkl := hi.ok.keys.length_eq
    simp only [List.length_append, List.length_map] at hkl
    refine H.pull4.call (slru_add q.pl mr.most mr.tk mr.sk it.key (by omega)) fun v w117 H => ?_
    have hv1 : v = .int .i64 0 := H.facts fun _ hh => by
      rcases hh with ⟨h1, _⟩ | ⟨_, h2, _⟩
      · exact absurd h1 hks
      · exact h2
    replace H := H.conv (A' := Slru q.pl mr.most (mr.tk ++ [it.key]) mr.sk) fun _ hh => by
      rcases hh with ⟨h1, _⟩ | ⟨_, _, h3⟩
      · exact absurd h1 hks
      · exact h3
    -- [Slru, Tbl, cl, Slab, Judge, Row, Ents, new, ev, it]
    refine ⟨0, hv1, it.key, s.1, s.2.1, s.2.2, it.flags, it.exp, it.cas, it.sec, it.seq, it.stale, it.won, it.seen, H.spanAll m9, ?_⟩
    refine H.emp.callKE hkp.pass (owned_sp it s (by omega)) fun s' w130 H => ⟨it.key, s'.1, s'.2.1, s'.2.2, it.flags, it.exp, it.cas, it.sec, it.seq, it.stale, it.won, it.seen, rfl, _, rfl, ?_⟩
    -- [val, True, Slru, Tbl, cl, Slab, Judge, Row, Ents, new, ev, it]
    rw [add_mk]
    have H := H.pull9
    refine ⟨H.wr m0 (by simp [itV]), fun w142 e142 w143 e143 => ?_⟩
    have H := (H.setSpan0 e142).drew e143
    have H : St h w w143 (cl b104 T_shard_entry (itV it s' ++ [.int .i64 (0, 0).1, .int .i64 (0, 0).2]) :: _) := H
    refine ⟨_, rfl, ad q.ps, by rw [add_mk, H.cell m4]; rfl, it.key, s.1, s.2.1, s.2.2, it.flags, it.exp, it.cas, it.sec, it.seq, it.stale, it.won, it.seen, H.spanAll m10, ?_⟩
    refine H.pure (size_sp it s hs hk hv) fun w157 H => ⟨_, rfl, ⟨_, by rw [add_mk, H.cell m4]; rfl, rfl⟩, ?_⟩
    have H := H.pull6
    refine H.call (slab_take q.ps N2 mr.budget (sizeM it) inn (by omega) hc (by rw [hu]; simp only [lessM] at hfit; omega)) fun v w161 H => ?_
    obtain ⟨_, ⟨no, hno, rfl, hB⟩, hback⟩ := H.opn
    replace H := hback [_] (sepL_one hB)
    clear hback
    refine ⟨clsM it, no, 0, rfl, _, rfl, ?_⟩
    rw [add_mk]
    have H := H.swap
    refine ⟨H.wr m0 (by simp [itV]), fun w166 e166 => ?_⟩
    have H := H.setSpan0 e166
    have hsc := entSetC (it := it) (s := s') (c := (0, 0)) (c' := ((clsM it : Int), no))
    rw [hsc] at H
    -- [new, Slab, val, Slru, Tbl, cl, Judge, Row, Ents, ev, it]
    have H := H.pull9.pull4.pull3
    have H := (St.entMk (x := ⟨it, b104, s', ((clsM it : Int), no)⟩) H)
    have H := St.entsIn (l := es) (r := []) (x := ⟨it, b104, s', ((clsM it : Int), no)⟩) (by rw [List.append_nil]; exact H)
    have H := H.pull7.pull7.pull5.pull5.pull6.pull7
    have htab : tabOf es ++ [(it.key, ad b104)] = tabOf (es ++ [⟨it, b104, s', ((clsM it : Int), no)⟩]) := by simp [tabOf]
    rw [htab] at H
    refine ((St.shMk (p := p) (N := N + 2) (o := none) (m := { mr with items := mr.items ++ [it], tk := mr.tk ++ [it.key] }) ⟨by simp [hi.items], ⟨?_, ?_, fun y hy => ?_⟩, ?_, fun y hy => ?_, by omega, by simp; omega, by simp; omega, fun y hy => by cases hy⟩ H).only m0).conv fun _ hs => ⟨rfl, hs⟩
    · simp only [List.map_append, List.map_cons, List.map_nil]
      rw [List.nodup_append]
      exact ⟨hi.ok.dist, by simp, fun a ha b hb hab => by
        rw [List.mem_singleton] at hb
        rw [hab, hb] at ha
        exact hkm ha⟩
    · simp only [List.map_append, List.map_cons, List.map_nil]
      have h1 : (mr.tk ++ [it.key] ++ mr.sk).Perm (it.key :: (mr.tk ++ mr.sk)) := by
        rw [List.append_assoc]; exact List.perm_middle
      exact (h1.trans (hi.ok.keys.cons _)).trans (List.perm_append_comm (l₁ := [it.key]))
    · simp only at hy
      rcases List.mem_append.1 hy with hy | hy
      · exact hi.ok.cls y hy
      · rw [List.mem_singleton.1 hy]; exact hc
    · rw [List.map_append]
      exact (hi.chunks.cons _).trans (List.perm_append_comm (l₁ := [((clsM it : Int), no)]))
    · rcases List.mem_append.1 hy with hy | hy
      · exact hi.cls y hy
      · rw [List.mem_singleton.1 hy]
  · -- the key has an item
    replace H := hback [_] (sepL_one hS)
    clear hback
    obtain ⟨hm1, hgx, hxk, _⟩ := find_key (m' := (m.find it.key e).1) (it := x) (e := e) (k := it.key) (m := m) (by rw [← hf2])
    rw [hf2]
    rw [hm1] at H ⊢
    refine ⟨_, rfl, it.key, s.1, s.2.1, s.2.2, it.flags, it.exp, it.cas, it.sec, it.seq, it.stale, it.won, it.seen, H.spanAll m2, e.now, e.seq, e.flush, e.flushSeq, H.spanAll m1, ?_⟩
    refine H.callV (shard_room_some p N m it x s b e (by omega) hxk hs hk hv) fun w45 H => ⟨_, rfl, ?_⟩
    have hfit := room_fits (it := it) (o := some x) (e := e) (m.items.length + 1) hok (by omega)
    generalize hr : SM.room (m.items.length + 1) m it (some x) e = r at *
    obtain ⟨mr, z⟩ := r
    simp only at H hfit ⊢
    refine br (fun hz => ?_) fun hz => ?_
    · rw [if_pos (by simpa using hz)]
      exact (((H.only m0).shWeak).shUp (by omega)).conv fun _ hs => ⟨rfl, hs⟩
    have hz0 : z = 0 := by simpa using hz
    subst hz0
    rw [if_neg (by simp)]
    obtain ⟨_, _, hfu, hfit⟩ := SM.fits_iff.1 (hfit rfl)
    refine br (fun _ => ?_) fun hh => by simp [ad] at hh
    intro w47 e47
    obtain ⟨q, es, inn, N1, N2, seed, hi, H⟩ := (H.drew e47).shOpen
    have n1 := hi.n1
    have n2 := hi.n2
    have nd := hi.nd
    have hu := hi.used
    obtain ⟨y, hym, hyx, hyb⟩ := hi.old _ rfl
    simp only at hyx hyb
    subst hyx hyb
    obtain ⟨l, r, rfl⟩ := List.append_of_mem hym
    have hlen : mr.items.length = (l ++ r).length + 1 := by rw [← hi.items]; simp; omega
    have H := H.pull7
    have H := H.entsOut.entOpen
    -- [ent, val, Ents, cl, Tbl, Slab, Slru, Judge, Row, ev, it]
    refine ⟨_, rfl, ad q.ps, by rw [add_mk, H.cell m3]; rfl, _, rfl, y.c.1, y.c.2, ?_, ?_⟩
    · rw [add_mk]
      refine H.span m0 fun i v hv => ?_
      match i, hv with
      | 0, hv => exact hv
      | 1, hv => exact hv
    have hin : y.c ∈ inn := hi.chunks.mem_iff.2 (by simp)
    refine H.pull6.callV (slab_free q.ps N2 mr.budget inn y.c (by omega) hin) fun w54 H => ⟨_, rfl, ?_⟩
    -- [Slab, ent, val, Ents, cl, Tbl, Slru, Judge, Row, ev, it]
    refine ⟨it.key, s.1, s.2.1, s.2.2, it.flags, it.exp, it.cas, it.sec, it.seq, it.stale, it.won, it.seen, H.spanAll m10, ?_⟩
    refine H.emp.callKE hkp.pass (owned_sp it s (by omega)) fun s' w67 H => ⟨it.key, s'.1, s'.2.1, s'.2.2, it.flags, it.exp, it.cas, it.sec, it.seq, it.stale, it.won, it.seen, rfl, _, rfl, ?_⟩
    -- [new, True, Slab, ent, val, Ents, cl, Tbl, Slru, Judge, Row, ev, it]
    rw [add_mk]
    have H := H.pull12.pull12.pull12.pull12.pull12.pull12.pull12.pull12.pull10.pull10.pull11
    refine ⟨H.wr m0 (by simp [itV, entCells]), fun w79 e79 w80 e80 => ?_⟩
    have H := (H.setSpan0 e79).drew e80
    have hes : setL (entCells y) (0 + 0) (itV it s') = itV it s' ++ [.int .i64 y.c.1, .int .i64 y.c.2] := rfl
    rw [hes] at H
    refine ⟨_, rfl, ad q.ps, by rw [add_mk, H.cell m4]; rfl, it.key, s.1, s.2.1, s.2.2, it.flags, it.exp, it.cas, it.sec, it.seq, it.stale, it.won, it.seen, H.spanAll m10, ?_⟩
    refine H.pure (size_sp it s hs hk hv) fun w157 H => ⟨_, rfl, ⟨_, by rw [add_mk, H.cell m4]; rfl, rfl⟩, ?_⟩
    have H := H.pull3
    -- [Slab, ent, new, Ents, cl, Tbl, Slru, Judge, Row, ev, it, val]
    have hse : sumZ (inn.erase y.c) = mr.used - bytesZ (clsM y.it) := by
      rw [sumZ_erase hin, hu, hi.cls y hym]
    refine H.call (slab_take q.ps (N2 + 1) mr.budget (sizeM it) (inn.erase y.c) (by omega) hc (by rw [hse]; simp only [lessM] at hfit; omega)) fun v w161 H => ?_
    obtain ⟨_, ⟨no, hno, rfl, hB⟩, hback⟩ := H.opn
    replace H := hback [_] (sepL_one hB)
    clear hback
    refine ⟨clsM it, no, 0, rfl, _, rfl, ?_⟩
    rw [add_mk]
    have H := H.swap
    refine ⟨H.wr m0 (by simp [itV]), fun w166 e166 => ?_⟩
    have H := H.setSpan0 e166
    have hsc := entSetC (it := it) (s := s') (c := y.c) (c' := ((clsM it : Int), no))
    rw [hsc] at H
    have H := H.pull6.pull6.pull6.pull6.pull5
    have H := (St.entMk (x := ⟨it, y.b, s', ((clsM it : Int), no)⟩) H)
    have H := St.entsIn (l := l) (r := r) (x := ⟨it, y.b, s', ((clsM it : Int), no)⟩) H
    have H := H.pull7.pull7.pull7.pull7.pull7.pull7
    have htab : tabOf (l ++ y :: r) = tabOf (l ++ ⟨it, y.b, s', ((clsM it : Int), no)⟩ :: r) := by simp [tabOf, hxk]
    rw [htab] at H
    have hinn : (inn.erase y.c).Perm ((l ++ r).map (·.c)) := by
      refine (hi.chunks.erase y.c).trans ?_
      rw [List.map_append, List.map_cons]
      refine ((List.perm_middle (l₁ := l.map (·.c)) (a := y.c) (l₂ := r.map (·.c))).erase y.c).trans ?_
      rw [List.erase_cons_head, List.map_append]
    have hinv := hi.swap (it := it) (s := s') (c := ((clsM it : Int), no)) (inn' := ((clsM it : Int), no) :: inn.erase y.c) (N2' := N2 + 1 + 1) hxk rfl hc (hinn.cons _) (by omega)
    exact ((St.shMk (p := p) hinv H).only m0).conv fun _ hs => ⟨rfl, hs⟩
end
end Go.Bty

namespace Go.Bty
open Go
open Go.Proofs.Try renaming prog → P

def It.zero : It := ⟨⟨#[]⟩, [], 0, 0, 0, 0, 0, false, false, false⟩

section
variable {h0 : Frag} {w0 w w' : World} {As : List HP} {p N : Nat} {o : Option (It × Nat)} {m : SM}

theorem shard_look (p N : Nat) (m : SM) (k : ByteArray) (e : Ev) (hN : N < 2 ^ 31) (hk : k.size < 2 ^ 62) :
    Sp P f_shard_Shard_Look #[.pointer (ad p), .string k, .agg (evV e).toArray] (Shard p N none m)
      (fun v h => ∃ s : Sl, v = .tuple #[.agg (itV ((m.find k e).2.getD It.zero) s).toArray, .bool (m.find k e).2.isSome] ∧ SepL [Shard p N none (m.find k e).1, BRow s ((m.find k e).2.getD It.zero).val] h) := sp_of fun w h H => by
  apply cl_shard_Shard_Look
  unfold c_shard_Shard_Look
  intro b1 w2 e1 e2 b3 w4 e3 e4
  have H := ((H.newCells (cs := evV e) e1 e2).newCells (cs := itV It.zero (none, 0, 0)) e3 e4).pull3
  -- [Shard, new, ev]
  refine ⟨e.now, e.seq, e.flush, e.flushSeq, H.spanAll m2, ?_⟩
  refine H.call (shard_find p N m k e hN hk) fun v w10 H => ?_
  obtain ⟨_, hres, hback⟩ := H.opn
  rcases hres with ⟨hf2, rfl, hS⟩ | ⟨x, b, hf2, rfl, hS⟩
  · replace H := hback [_] (sepL_one hS)
    clear hback
    rw [hf2]
    refine ⟨_, rfl, br (fun _ => ?_) fun hc => by simp at hc⟩
    refine ⟨H.wr m1 (by simp [itV]), fun w12 e12 => ?_⟩
    have H : St h w w12 (cl b3 T_api_Item (itV It.zero (none, 0, 0)) :: [Shard p N none (m.find k e).1, cl b1 T_api_Env (evV e)]) := H.swap.setSpan0 e12
    refine ⟨It.zero.key, ((none, 0, 0) : Sl).1, ((none, 0, 0) : Sl).2.1, ((none, 0, 0) : Sl).2.2, It.zero.flags, It.zero.exp, It.zero.cas, It.zero.sec, It.zero.seq, It.zero.stale, It.zero.won, It.zero.seen, H.spanAll m0, ?_⟩
    have H := H.drop.rowNil (T := T_uint8) (sz := 1)
    exact ((St.join [_, _] (H.swap)).only m0).conv fun _ hs => ⟨(none, 0, 0), rfl, hs⟩
  · replace H := hback [_] (sepL_one hS)
    clear hback
    rw [hf2]
    refine ⟨_, rfl, br (fun hc => by simp [ad] at hc) fun _ => ?_⟩
    have hok := H.shOk
    obtain ⟨q, es, inn, N1, N2, seed, hi, H⟩ := H.shOpen
    obtain ⟨y, hym, hyx, hyb⟩ := hi.old _ rfl
    simp only at hyx hyb
    subst hyx hyb
    obtain ⟨l, r, rfl⟩ := List.append_of_mem hym
    have hsk := small_key (hi.ok.cls y.it (by rw [← hi.items]; simp))
    -- [cl, Tbl, Slab, Slru, Judge, Row, Ents, new, ev]
    have H := H.pull7
    have H := H.entsOut.entOpen
    -- [ent, val, Ents, cl, Tbl, Slab, Slru, Judge, Row, new, ev]
    have hvl := (H.swap : St h w w10 (Row T_uint8 1 y.s.1 y.s.2.1 y.s.2.2 (bytesV y.it.val) :: _)).rowLen
    rw [bytesV_length] at hvl
    refine ⟨_, rfl, y.it.key, y.s.1, y.s.2.1, y.s.2.2, y.it.flags, y.it.exp, y.it.cas, y.it.sec, y.it.seq, y.it.stale, y.it.won, y.it.seen, ?_, ?_⟩
    · rw [add_mk]
      refine H.span m0 fun i v hv => ?_
      rw [Nat.zero_add]
      unfold entCells
      rw [List.getElem?_append_left (List.getElem?_eq_some_iff.1 hv).1]
      exact hv
    refine H.emp.callKE (kpRow (T := T_uint8) (c := y.s.2.2) m1) (owned_sp y.it y.s (by omega)) fun s' w35 H => ⟨y.it.key, s'.1, s'.2.1, s'.2.2, y.it.flags, y.it.exp, y.it.cas, y.it.sec, y.it.seq, y.it.stale, y.it.won, y.it.seen, rfl, ?_⟩
    -- [copy, ent, val, Ents, cl, Tbl, Slab, Slru, Judge, Row, new, ev]
    refine ⟨H.wr m10 (by simp [itV]), fun w46 e46 => ?_⟩
    have H := H.pull10.pull10.pull10.pull10.pull10.pull10.pull10.pull10.pull10.pull11
    have H : St h w w46 (cl b3 T_api_Item (itV y.it s') :: _) := H.setSpan0 e46
    refine ⟨y.it.key, s'.1, s'.2.1, s'.2.2, y.it.flags, y.it.exp, y.it.cas, y.it.sec, y.it.seq, y.it.stale, y.it.won, y.it.seen, H.spanAll m0, ?_⟩
    have H := (St.entMk H.drop).entsIn
    have H := H.pull7.pull7.pull7.pull7.pull7.pull7
    have H := (St.shMk hi H).shWeak
    exact ((St.join [_, _] H).only m0).conv fun _ hs => ⟨s', rfl, hs⟩

theorem clsM_update {x it : It} (hk : x.key = it.key) (hl : x.val.length = it.val.length) : clsM it = clsM x := by
  unfold clsM sizeM
  rw [hk, hl]

/-- An entry gets another item of the same size. -/
theorem SInv.turn {l r : List En} {y : En} {inn : List (Int × Int)} {N1 N2 : Nat} {it : It} {s : Sl} (hi : SInv N o m (l ++ y :: r) inn N1 N2) (hk : y.it.key = it.key) (hl : y.it.val.length = it.val.length) :
    SInv N none { m with items := setI m.items it } (l ++ ⟨it, y.b, s, y.c⟩ :: r) inn N1 N2 := by
  have hd := hi.ok.dist
  have hitems : m.items = l.map (·.it) ++ y.it :: r.map (·.it) := by rw [← hi.items]; simp
  have hset : setI m.items it = l.map (·.it) ++ it :: r.map (·.it) := by
    rw [hitems] at hd ⊢
    exact setI_split hd hk
  have hkeys : (setI m.items it).map (·.key) = m.items.map (·.key) := by rw [hset, hitems]; simp [hk]
  have hlen : (setI m.items it).length = m.items.length := by simp [setI]
  have hcl := clsM_update hk hl
  have hym : y ∈ l ++ y :: r := by simp
  refine ⟨by simp only [hset]; simp, ⟨by simp only; rw [hkeys]; exact hd, by simp only; rw [hkeys]; exact hi.ok.keys, fun x hx => ?_⟩, ?_, fun x hx => ?_, hi.n1, by simp only [hlen]; exact hi.n2, by simp only [hlen]; exact hi.nd, fun y hy => by cases hy⟩
  · simp only at hx
    rw [hset] at hx
    rcases List.mem_append.1 hx with hx | hx
    · exact hi.ok.cls x (by rw [hitems]; exact List.mem_append.2 (.inl hx))
    · rcases List.mem_cons.1 hx with rfl | hx
      · rw [hcl]; exact hi.ok.cls y.it (by rw [hitems]; simp)
      · exact hi.ok.cls x (by rw [hitems]; exact List.mem_append.2 (.inr (List.mem_cons_of_mem _ hx)))
  · have := hi.chunks
    simpa using this
  · rcases List.mem_append.1 hx with hx | hx
    · exact hi.cls x (List.mem_append.2 (.inl hx))
    · rcases List.mem_cons.1 hx with rfl | hx
      · simp only; rw [hcl]; exact hi.cls y hym
      · exact hi.cls x (List.mem_append.2 (.inr (List.mem_cons_of_mem _ hx)))

theorem shard_update (p N : Nat) (m : SM) (it : It) (s : Sl) (hN : N < 2 ^ 31) (hs : s.2.1 = it.val.length) (hk : it.key.size < 2 ^ 60) :
    SpK P f_shard_Shard_Update #[.pointer (ad p), .agg (itV it s).toArray] s.1 s.2.1 (bytesV it.val) (Shard p N none m)
      (fun v h => v = .int .i64 (m.update it).2 ∧ Shard p N none (m.update it).1 h) := spK_of fun w h hkp H => by
  apply cl_shard_Shard_Update
  unfold c_shard_Shard_Update
  intro b1 w2 e1 e2 w3 e3
  have H := ((H.newCells (cs := itV it s) e1 e2).drew e3).swap
  obtain ⟨q, es, inn, N1, N2, seed, hi, H⟩ := H.shOpen
  have n1 := hi.n1
  have hgm : m.get it.key = (entOf es it.key).map (·.it) := by unfold SM.get; rw [← hi.items, getI_map]
  refine ⟨_, rfl, ad q.pt, by rw [add_mk, H.cell m0]; rfl, it.key, by rw [add_mk, H.cell m7]; rfl, ?_⟩
  refine H.swap.callV (table_get q.pt N1 seed (tabOf es) it.key (by omega) (by omega)) fun w6 H => ⟨_, _, rfl, ?_⟩
  rw [getL_tabOf]
  cases hg : entOf es it.key with
  | none =>
    have hu : m.update it = (m, 6) := by unfold SM.update; rw [hgm, hg]; rfl
    rw [hu]
    refine br (fun _ => ?_) fun hc => by simp at hc
    exact ((St.shMk hi H.swap).only m0).conv fun _ hs => ⟨rfl, hs⟩
  | some y =>
    obtain ⟨hym, hyk⟩ := entOf_some hg
    refine br (fun hc => by simp at hc) fun _ w11 e11 => ?_
    obtain ⟨l, r, rfl⟩ := List.append_of_mem hym
    have hgx : m.get it.key = some y.it := by rw [hgm, hg]; rfl
    have H := (H.drew e11).swap.pull7
    have H := H.entsOut.entOpen
    have hsk := small_key (hi.ok.cls y.it (by rw [← hi.items]; simp))
    -- [ent, val, Ents, cl, Tbl, Slab, Slru, Judge, Row, it]
    have hvl := (H.swap : St h w w11 (Row T_uint8 1 y.s.1 y.s.2.1 y.s.2.2 (bytesV y.it.val) :: _)).rowLen
    rw [bytesV_length] at hvl
    refine ⟨_, rfl, y.s.1, y.s.2.1, y.s.2.2, by rw [add_mk, add_mk, H.cell m0]; rfl, s.1, s.2.1, s.2.2, by rw [add_mk, H.cell m9]; rfl, br (fun hc => ?_) fun hc => ?_⟩
    · have hne : y.it.val.length ≠ it.val.length := by simp at hc; omega
      have hu : m.update it = (m, 1) := by unfold SM.update; rw [hgx]; exact if_pos hne
      rw [hu]
      have H := (St.entMk H).entsIn
      have H := H.pull7.pull7.pull7.pull7.pull7.pull7
      exact ((St.shMk (o := none) ⟨hi.items, hi.ok, hi.chunks, hi.cls, hi.n1, hi.n2, hi.nd, hi.old⟩ H).only m0).conv fun _ hs => ⟨rfl, hs⟩
    · have hel : y.it.val.length = it.val.length := by simp at hc; omega
      have hu : m.update it = ({ m with items := setI m.items it }, 0) := by unfold SM.update; rw [hgx]; exact if_neg (by simp [hel])
      rw [hu]
      refine ⟨it.key, s.1, s.2.1, s.2.2, it.flags, it.exp, it.cas, it.sec, it.seq, it.stale, it.won, it.seen, H.spanAll m9, ?_⟩
      refine H.emp.callKE hkp.pass (owned_sp it s (by omega)) fun s' w26 H => ⟨it.key, s'.1, s'.2.1, s'.2.2, it.flags, it.exp, it.cas, it.sec, it.seq, it.stale, it.won, it.seen, rfl, _, rfl, ?_⟩
      rw [add_mk]
      have H := H.swap
      refine ⟨H.wr m0 (by simp [itV, entCells]), fun w38 e38 => ?_⟩
      have H : St h w w38 (cl y.b T_shard_entry (itV it s' ++ [.int .i64 y.c.1, .int .i64 y.c.2]) :: _) := H.setSpan0 e38
      -- [ent, new, val, Ents, cl, Tbl, Slab, Slru, Judge, Row, it]
      have H := H.pull11.pull11.pull11.pull11.pull11.pull11.pull11.pull11.pull10.pull10
      have H := St.entsIn (l := l) (r := r) (x := ⟨it, y.b, s', y.c⟩) (St.entMk (x := ⟨it, y.b, s', y.c⟩) H)
      have H := H.pull7.pull7.pull7.pull7.pull7.pull7
      have htab : tabOf (l ++ y :: r) = tabOf (l ++ ⟨it, y.b, s', y.c⟩ :: r) := by simp [tabOf, hyk]
      rw [htab] at H
      exact ((St.shMk (p := p) (hi.turn (it := it) (s := s') hyk hel) H).only m0).conv fun _ hs => ⟨rfl, hs⟩
end
end Go.Bty
