/- The shard: room is made. -/
import Derived.Test.YtbjkbonnmeppoaaBtySc
namespace Go.Bty
open Go
open Go.Proofs.Try renaming prog → P

/-- How many items a shard at p has, as its table tells. -/
def manyAt (p : Nat) (w : World) : Nat := match w.cell? (Addr.mk p 0 none) with
  | some (.pointer (some a)) => match w.cell? (a.add 4) with
    | some (.int _ n) => n.toNat
    | _ => 0
  | _ => 0

theorem victim_some {ks : List ByteArray} {but v : ByteArray} (h : victimM ks but = some v) : v ∈ ks ∧ v ≠ but :=
  ⟨List.mem_of_find?_eq_some h, by simpa using List.find?_some h⟩
theorem victim_val {ks : List ByteArray} {but : ByteArray} : ∃ v, victimV (victimM ks but) = .tuple #[.string v, .bool (victimM ks but).isSome] ∧ ∀ x, victimM ks but = some x → v = x := by
  cases victimM ks but with
  | none => exact ⟨_, rfl, fun x hx => by cases hx⟩
  | some v => exact ⟨v, rfl, fun x hx => by cases hx; rfl⟩

section
variable {h0 : Frag} {w0 w w' : World} {As : List HP} {p N : Nat} {o : Option (It × Nat)} {m : SM}

theorem St.shMany (H : St h0 w0 w (Shard p N o m :: As)) : manyAt p w = m.items.length := by
  obtain ⟨q, es, inn, N1, N2, seed, hi, H⟩ := H.shOpen
  obtain ⟨t, ht, H2⟩ := H.swap.tblOpen
  have e1 : w.cell? (Addr.mk p 0 none) = some (.pointer (some (Addr.mk q.pt 0 none))) := H.cell m0 0
  have e2 : w.cell? (Addr.add (Addr.mk q.pt 0 none) 4) = some (.int .i64 ((tabOf es).length : Nat)) := by rw [add_mk, H2.cell m0]; rfl
  unfold manyAt
  rw [e1]
  simp only [e2, Int.toNat_natCast]
  rw [← hi.items]; simp [tabOf]

theorem drop_len {m : SM} {k : ByteArray} (h : (m.get k).isSome = true) : (m.drop k).items.length + 1 ≤ m.items.length := by
  have e : (m.drop k).items = delI m.items k := m.rem_items k
  rw [e]
  exact delI_len h

theorem St.shBig {d : Option (It × Nat)} (H : St h0 w0 w (Shard p N d m :: As)) : 0 ≤ m.used := by
  obtain ⟨q, es, inn, N1, N2, seed, hi, H⟩ := H.shOpen
  rw [← hi.used]
  exact (sumZ_nonneg).1

/-- Does it fit? -/
theorem shard_fits {it : It} {less : Int} {q : Option Addr} {K : Value → World → Prop} (hl : less ≤ 2 ^ 52) (hN : N < 2 ^ 31) (hq : w.cell? (Addr.mk p 1 none) = some (.pointer q)) (H : St h0 w0 w (Shard p N o m :: As))
    (hk : ∀ w', St h0 w0 w' (Shard p N o m :: As) → K (.bool (m.fits (sizeM it) less)) w') : Cl P f_slab_Slab_Fits #[.pointer q, .int .i64 (sizeM it), .int .i64 less] w K := by
  obtain ⟨q', es, inn, N1, N2, seed, hi, H⟩ := H.shOpen
  have n2 := hi.n2
  have e : q = ad q'.ps := by
    rw [H.cell m0] at hq
    cases hq; rfl
  subst e
  refine H.pull3.callV (slab_fits q'.ps N2 m.budget (sizeM it) less inn (by omega) hl) fun w4 H => ?_
  have hu := hi.used
  rw [hu]
  exact hk _ (St.shMk hi H.pull3.pull3)

theorem shard_room_some (p N : Nat) (m : SM) (it x : It) (s : Sl) (b : Nat) (e : Ev) (hN : N < 2 ^ 31) (hx : x.key = it.key) (hs : s.2.1 = it.val.length) (hk : it.key.size < 2 ^ 60) (hv : it.val.length < 2 ^ 60) :
    Sp P f_shard_Shard_room #[.pointer (ad p), .agg (itV it s).toArray, .pointer (ad b), .agg (evV e).toArray] (Shard p N (some (x, b)) m)
      (fun v h => v = .int .i64 (SM.room (m.items.length + 1) m it (some x) e).2 ∧ Shard p N (some (x, b)) (SM.room (m.items.length + 1) m it (some x) e).1 h) := sp_of fun w h H => by
  apply cl_shard_Shard_room
  unfold c_shard_Shard_room
  intro b1 w2 e1 e2 b3 w4 e3 e4
  have H := ((H.newCells (cs := itV it s) e1 e2).newCells (cs := evV e) e3 e4).pull3
  refine br (fun _ => ?_) fun hc => by simp [ad] at hc
  -- the class of the old chunk
  refine ⟨_, rfl, clsM x, ?_, ?_⟩
  · obtain ⟨q, es, inn, N1, N2, seed, hi, H⟩ := H.shOpen
    obtain ⟨y, hy, rfl, rfl⟩ := hi.old _ rfl
    obtain ⟨l, r, rfl⟩ := List.append_of_mem hy
    have HE := H.pull7.entsOut.entOpen
    rw [add_mk, add_mk, HE.cell m0]
    show some (Value.int .i64 y.c.1) = _
    rw [hi.cls y hy]
  refine H.pure (bytes_sp _) fun w8 H => ⟨_, rfl, ?_⟩
  have hbr := bytesN_range (clsM x)
  refine ⟨fun vs w' => vs = [] ∧ ∃ (n : Nat) (m' : SM), m'.items.length < n ∧ SM.room n m' it (some x) e = SM.room (m.items.length + 1) m it (some x) e ∧
      St h w w' [Shard p N (some (x, b)) m', cl b3 T_api_Env (evV e), cl b1 T_api_Item (itV it s)],
    fun _ w' => manyAt p w', ⟨rfl, m.items.length + 1, m, Nat.lt_succ_self _, rfl, H⟩, ?_⟩
  rintro vs w13 ⟨rfl, n, m', hn, hr, H⟩
  intro _ w14 e14
  have hmany := H.shMany
  obtain ⟨q, es, inn, N1, N2, seed, hi, H⟩ := (H.drew e14).shOpen
  have n1 := hi.n1
  have n2 := hi.n2
  have hu := hi.used
  refine ⟨_, rfl, ad q.ps, by rw [add_mk, H.cell m0]; rfl, it.key, s.1, s.2.1, s.2.2, it.flags, it.exp, it.cas, it.sec, it.seq, it.stale, it.won, it.seen, H.spanAll m8, ?_⟩
  refine H.pure (size_sp it s hs hk hv) fun w28 H => ⟨_, rfl, ⟨_, by rw [add_mk, H.cell m0]; rfl, rfl⟩, ?_⟩
  refine H.pull3.callV (slab_fits q.ps N2 m'.budget (sizeM it) (bytesZ (clsM x)) inn (by omega) (by omega)) fun w32 H => ⟨_, rfl, ?_⟩
  rw [hu]
  have hfits : decide (classN (sizeM it) < 6 ∧ 0 ≤ bytesZ (clsM x) ∧ bytesZ (clsM x) ≤ m'.used ∧ m'.used - bytesZ (clsM x) + bytesZ (classN (sizeM it)) ≤ m'.budget) = m'.fits (sizeM it) (lessM (some x)) := rfl
  rw [hfits]
  have H := H.pull3.pull3
  obtain ⟨n, rfl⟩ : ∃ n', n = n' + 1 := ⟨n - 1, by omega⟩
  rw [SM.room] at hr
  refine br (fun hc => ?_) fun hc => ?_
  · have hf : m'.fits (sizeM it) (lessM (some x)) = false := by simpa using hc
    simp only [hf, Bool.false_eq_true, if_false] at hr
    intro w34 e34
    have H := H.drew e34
    refine ⟨_, rfl, ad q.pl, by rw [add_mk, H.cell m0]; rfl, it.key, by rw [add_mk, H.cell m8]; rfl, ?_⟩
    refine H.pull4.callV (slru_victim q.pl m'.most m'.tk m'.sk it.key) fun w39 H => ?_
    obtain ⟨v, hv1, hv2⟩ := victim_val (ks := m'.tk ++ m'.sk) (but := it.key)
    refine ⟨v, _, hv1, br (fun hc2 => ?_) fun hc2 => ?_⟩
    · have hvn : victimM (m'.tk ++ m'.sk) it.key = none := by simpa using hc2
      rw [hvn] at hr
      rw [← hr]
      have H := H.pull4.pull4.pull4
      exact ((St.shMk hi H).only m0).conv fun _ hh => ⟨rfl, hh⟩
    · obtain ⟨v', hvv⟩ := Option.isSome_iff_exists.1 (show (victimM (m'.tk ++ m'.sk) it.key).isSome = true by simpa using hc2)
      have := hv2 _ hvv
      subst this
      obtain ⟨vm, vne⟩ := victim_some hvv
      have hgs := hi.ok.get_mem.2 vm
      have hvs := hi.ok.get_small vm
      rw [hvv] at hr
      simp only [Option.isSome_some, Bool.true_or, if_true] at hr
      refine ⟨_, rfl, ad q.pt, by rw [add_mk, H.cell m1]; rfl, ?_⟩
      refine H.pull3.callV (table_get q.pt N1 seed (tabOf es) v (by omega) (by omega)) fun w45 H => ⟨_, _, rfl, ?_⟩
      have H := St.shMk hi H.pull4.swap.pull4
      refine br (fun _ => br (fun _ => ?_) fun hc => by simp [ad] at hc) fun hc => by simp [ad] at hc
      have hne : ∀ y, some (x, b) = some y → y.1.key ≠ v := fun y hy => by cases hy; rw [hx]; exact fun h => vne h.symm
      refine H.callV (shard_drop p N (some (x, b)) m' v hN hgs hne) fun w49 H => ⟨rfl, ⟨rfl, n, m'.drop v, ?_, hr, H⟩, ?_⟩
      · have := drop_len hgs; omega
      · show manyAt p _ < manyAt p _
        rw [hmany, H.shMany]
        have := drop_len hgs; omega
  · have hf : m'.fits (sizeM it) (lessM (some x)) = true := by simpa using hc
    simp only [hf, if_true] at hr
    rw [← hr]
    exact ((St.shMk hi H).only m0).conv fun _ hh => ⟨rfl, hh⟩

theorem shard_room_none (p N : Nat) (m : SM) (it : It) (s : Sl) (e : Ev) (hN : N < 2 ^ 31) (hs : s.2.1 = it.val.length) (hk : it.key.size < 2 ^ 60) (hv : it.val.length < 2 ^ 60) :
    Sp P f_shard_Shard_room #[.pointer (ad p), .agg (itV it s).toArray, .pointer none, .agg (evV e).toArray] (Shard p N none m)
      (fun v h => v = .int .i64 (SM.room (m.items.length + 1) m it none e).2 ∧ Shard p N none (SM.room (m.items.length + 1) m it none e).1 h) := sp_of fun w h H => by
  apply cl_shard_Shard_room
  unfold c_shard_Shard_room
  intro b1 w2 e1 e2 b3 w4 e3 e4
  have H := ((H.newCells (cs := itV it s) e1 e2).newCells (cs := evV e) e3 e4).pull3
  refine br (fun hc => by simp at hc) fun _ => ?_
  refine ⟨fun vs w' => vs = [] ∧ ∃ (n : Nat) (m' : SM), m'.items.length < n ∧ SM.room n m' it none e = SM.room (m.items.length + 1) m it none e ∧
      St h w w' [Shard p N none m', cl b3 T_api_Env (evV e), cl b1 T_api_Item (itV it s)],
    fun _ w' => manyAt p w', ⟨rfl, m.items.length + 1, m, Nat.lt_succ_self _, rfl, H⟩, ?_⟩
  rintro vs w13 ⟨rfl, n, m', hn, hr, H⟩
  intro _ w14 e14
  have hmany := H.shMany
  obtain ⟨q, es, inn, N1, N2, seed, hi, H⟩ := (H.drew e14).shOpen
  have n1 := hi.n1
  have n2 := hi.n2
  have hu := hi.used
  refine ⟨_, rfl, ad q.ps, by rw [add_mk, H.cell m0]; rfl, it.key, s.1, s.2.1, s.2.2, it.flags, it.exp, it.cas, it.sec, it.seq, it.stale, it.won, it.seen, H.spanAll m8, ?_⟩
  refine H.pure (size_sp it s hs hk hv) fun w28 H => ⟨_, rfl, ⟨_, by rw [add_mk, H.cell m0]; rfl, rfl⟩, ?_⟩
  refine H.pull3.callV (slab_fits q.ps N2 m'.budget (sizeM it) 0 inn (by omega) (by omega)) fun w32 H => ⟨_, rfl, ?_⟩
  rw [hu]
  have hfits : decide (classN (sizeM it) < 6 ∧ (0 : Int) ≤ 0 ∧ 0 ≤ m'.used ∧ m'.used - 0 + bytesZ (classN (sizeM it)) ≤ m'.budget) = m'.fits (sizeM it) (lessM none) := rfl
  rw [hfits]
  have H := H.pull3.pull3
  obtain ⟨n, rfl⟩ : ∃ n', n = n' + 1 := ⟨n - 1, by omega⟩
  rw [SM.room] at hr
  refine br (fun hc => ?_) fun hc => ?_
  · have hf : m'.fits (sizeM it) (lessM none) = false := by simpa using hc
    simp only [hf, Bool.false_eq_true, if_false] at hr
    intro w34 e34
    have H := H.drew e34
    refine ⟨_, rfl, ad q.pl, by rw [add_mk, H.cell m0]; rfl, it.key, by rw [add_mk, H.cell m8]; rfl, ?_⟩
    refine H.pull4.callV (slru_victim q.pl m'.most m'.tk m'.sk it.key) fun w39 H => ?_
    obtain ⟨v, hv1, hv2⟩ := victim_val (ks := m'.tk ++ m'.sk) (but := it.key)
    refine ⟨v, _, hv1, br (fun hc2 => ?_) fun hc2 => ?_⟩
    · have hvn : victimM (m'.tk ++ m'.sk) it.key = none := by simpa using hc2
      rw [hvn] at hr
      rw [← hr]
      have H := H.pull4.pull4.pull4
      exact ((St.shMk hi H).only m0).conv fun _ hh => ⟨rfl, hh⟩
    · obtain ⟨v', hvv⟩ := Option.isSome_iff_exists.1 (show (victimM (m'.tk ++ m'.sk) it.key).isSome = true by simpa using hc2)
      have := hv2 _ hvv
      subst this
      obtain ⟨vm, vne⟩ := victim_some hvv
      have hgs := hi.ok.get_mem.2 vm
      have hvs := hi.ok.get_small vm
      rw [hvv] at hr
      have hgm : m'.get v = (entOf es v).map (·.it) := by unfold SM.get; rw [← hi.items, getI_map]
      refine ⟨_, rfl, ad q.pt, by rw [add_mk, H.cell m1]; rfl, ?_⟩
      refine H.pull3.callV (table_get q.pt N1 seed (tabOf es) v (by omega) (by omega)) fun w45 H => ⟨_, _, rfl, ?_⟩
      refine br (fun hc => by simp at hc) fun _ => fun w59 e59 => ?_
      rw [getL_tabOf]
      obtain ⟨x, hx⟩ : ∃ x, entOf es v = some x := Option.isSome_iff_exists.1 (by rw [hgm] at hgs; simpa using hgs)
      obtain ⟨hxm, rfl⟩ := entOf_some hx
      have hgx : m'.get x.it.key = some x.it := by rw [hgm, hx]; rfl
      obtain ⟨l, r, rfl⟩ := List.append_of_mem hxm
      have H := (H.drew e59).pull4.swap.pull4
      have HE := H.pull7.entsOut.entOpen
      refine ⟨Addr.mk x.b 0 none, by rw [hx]; rfl, x.it.key, x.s.1, x.s.2.1, x.s.2.2, x.it.flags, x.it.exp, x.it.cas, x.it.sec, x.it.seq, x.it.stale, x.it.won, x.it.seen, ?_, e.now, e.seq, e.flush, e.flushSeq, H.spanAll m7, ?_⟩
      · refine HE.span m0 fun i v hv => ?_
        rw [Nat.zero_add]
        unfold entCells
        rw [List.getElem?_append_left (List.getElem?_eq_some_iff.1 hv).1]
        exact hv
      simp only [Option.isSome_none, Bool.false_or, SM.gone, hgx] at hr
      refine H.pure (live_sp x.it x.s e) fun w76 H => ⟨_, rfl, br (fun hc => ?_) fun hc => ?_⟩
      · rw [if_pos (by simpa using hc)] at hr
        refine (St.shMk hi H).callV (shard_drop p N none m' x.it.key hN hgs (fun y hy => by cases hy)) fun w49 H => ⟨rfl, ⟨rfl, n, m'.drop x.it.key, ?_, hr, H⟩, ?_⟩
        · have := drop_len hgs; omega
        · show manyAt p _ < manyAt p _
          rw [hmany, H.shMany]
          have := drop_len hgs; omega
      · rw [if_neg (by simpa using hc)] at hr
        intro w80 e80
        have H := H.drew e80
        refine ⟨_, rfl, ad q.pj, by rw [add_mk, H.cell m0]; rfl, it.key, by rw [add_mk, H.cell m8]; rfl, ?_⟩
        refine H.pull5.callV (tiny_admit q.pj m'.j it.key x.it.key (by omega) (by omega)) fun w85 H => ⟨_, rfl, ?_⟩
        have H := St.shMk hi H.pull5.pull5.pull5.pull5
        refine br (fun hc3 => ?_) fun hc3 => ?_
        · rw [if_neg (by simpa using hc3)] at hr
          rw [← hr]
          exact (H.only m0).conv fun _ hh => ⟨rfl, hh⟩
        · rw [if_pos (by simpa using hc3)] at hr
          refine H.callV (shard_drop p N none m' x.it.key hN hgs (fun y hy => by cases hy)) fun w49 H => ⟨rfl, ⟨rfl, n, m'.drop x.it.key, ?_, hr, H⟩, ?_⟩
          · have := drop_len hgs; omega
          · show manyAt p _ < manyAt p _
            rw [hmany, H.shMany]
            have := drop_len hgs; omega
  · have hf : m'.fits (sizeM it) (lessM none) = true := by simpa using hc
    simp only [hf, if_true] at hr
    rw [← hr]
    exact ((St.shMk hi H).only m0).conv fun _ hh => ⟨rfl, hh⟩
end
end Go.Bty
