/- ShardKeeps: as long as there is room all is kept. -/
import Derived.Test.YtbjkbonnmeppoaaBtyLb
namespace Go.Bty
open Go
open Go.Proofs.Try renaming prog → P

theorem usedL_le (l : List It) : 0 ≤ usedL l ∧ usedL l ≤ 2048 * l.length := by
  induction l with
  | nil => exact ⟨Int.le_refl _, Int.le_refl _⟩
  | cons x l ih =>
    have hb := bytesN_range (clsM x)
    have e : usedL (x :: l) = bytesZ (clsM x) + usedL l := rfl
    rw [e, List.length_cons]
    omega
theorem usedL_append (a b : List It) : usedL (a ++ b) = usedL a + usedL b := by
  induction a with
  | nil => simp [usedL]
  | cons x a ih =>
    have e : ∀ l, usedL (x :: l) = bytesZ (clsM x) + usedL l := fun _ => rfl
    rw [List.cons_append, e, e, ih]; omega

theorem room_fit {m : SM} {it : It} {o : Option It} {e : Ev} {n : Nat} (h : m.fits (sizeM it) (lessM o) = true) : SM.room (n + 1) m it o e = (m, 0) := by
  unfold SM.room
  rw [if_pos h]

/-- A store where there is room for one more chunk of any class. -/
theorem store_roomy {m : SM} {it : It} {e : Ev} {L : Nat} (hlive : ∀ x ∈ m.items, liveM x e = true) (hL : m.items.length + 1 ≤ L) (hb : 2048 * (L : Int) ≤ m.budget) (hc : clsM it < 6) :
    m.store it e = ((match m.get it.key with
      | some _ => { m with items := setI m.items it }
      | none => { m with items := m.items ++ [it], tk := m.tk ++ [it.key] }), 0) := by
  have hu := usedL_le m.items
  have hbr := bytesN_range (clsM it)
  have hcl : classN (sizeM it) < 6 := hc
  have hcl2 : bytesZ (classN (sizeM it)) ≤ 2048 := hbr.2
  unfold SM.store
  rw [if_neg (by omega)]
  cases hg : m.get it.key with
  | none =>
    have hf : m.find it.key e = (m, none) := by unfold SM.find; rw [hg]
    have hfit : m.fits (sizeM it) (lessM none) = true := SM.fits_iff.2 ⟨hcl, Int.le_refl _, hu.1, by
      show usedL m.items - 0 + _ ≤ _
      omega⟩
    simp only [hf, room_fit hfit]
    rfl
  | some x =>
    obtain ⟨hxm, hxk⟩ := getI_mem hg
    have hf : m.find it.key e = (m, some x) := by unfold SM.find; rw [hg]; simp [hlive x hxm]
    obtain ⟨a, b, hab⟩ := List.append_of_mem hxm
    have hbx := bytesN_range (clsM x)
    have h1 : usedL m.items = usedL a + (bytesZ (clsM x) + usedL b) := by
      rw [hab, usedL_append]; rfl
    have ha := usedL_le a
    have hb2 := usedL_le b
    have hlen : m.items.length = a.length + b.length + 1 := by rw [hab]; simp; omega
    have hfit : m.fits (sizeM it) (lessM (some x)) = true := SM.fits_iff.2 ⟨hcl, hbx.1, by
      show bytesZ (clsM x) ≤ usedL m.items
      omega, by
      show usedL m.items - bytesZ (clsM x) + _ ≤ _
      omega⟩
    simp only [hf, room_fit hfit]
    rfl

theorem cls_iff (it : It) : clsM it < 6 ↔ sizeM it ≤ 2048 := by
  constructor
  · exact small_of
  · intro h
    have e : bytesZ ((5 : Nat) : Int) = 2048 := by kernel_rfl
    have := (classN_le (i := 5) (by omega) (sizeM it)).1 (by rw [e]; omega)
    unfold clsM; omega

abbrev exp0 (it : It) : It := { it with exp := 0 }
/-- A shard behind the first i stores. -/
structure KI (l : List Opd) (i : Nat) (m : SM) : Prop where
  budget : m.budget = 2048 * (l.length : Int)
  drops : m.drops = []
  len : m.items.length ≤ i
  exp : ∀ x ∈ m.items, x.exp = 0
  keys : ∀ k, k ∈ m.items.map (·.key) ↔ ∃ j x, j < i ∧ l[j]? = some x ∧ x.it.key = k ∧ sizeM x.it ≤ 2048

theorem live_of {it : It} {now : Int} (h : it.exp = 0) : liveM it ⟨now, 0, 0, 0⟩ = true := by
  unfold liveM
  rw [if_neg (by simp [h]), if_neg (by simp)]

theorem ki_step {l : List Opd} {i : Nat} {m : SM} {x : Opd} {now : Int} (h : KI l i m) (hx : l[i]? = some x) :
    ((m.store (exp0 x.it) ⟨now, 0, 0, 0⟩).2 = if sizeM x.it ≤ 2048 then 0 else 4) ∧ KI l (i + 1) (m.store (exp0 x.it) ⟨now, 0, 0, 0⟩).1 := by
  have hlt := (List.getElem?_eq_some_iff.1 hx).1
  have hsz : sizeM (exp0 x.it) = sizeM x.it := rfl
  have hkeys : ∀ k, (∃ j y, j < i + 1 ∧ l[j]? = some y ∧ y.it.key = k ∧ sizeM y.it ≤ 2048) ↔ ((∃ j y, j < i ∧ l[j]? = some y ∧ y.it.key = k ∧ sizeM y.it ≤ 2048) ∨ (x.it.key = k ∧ sizeM x.it ≤ 2048)) := fun k => by
    constructor
    · rintro ⟨j, y, hj, hy, hk⟩
      by_cases e : j = i
      · subst e; rw [hx] at hy; cases hy; exact .inr hk
      · exact .inl ⟨j, y, by omega, hy, hk⟩
    · rintro (⟨j, y, hj, hy, hk⟩ | hk)
      · exact ⟨j, y, by omega, hy, hk⟩
      · exact ⟨i, x, by omega, hx, hk⟩
  by_cases hs : sizeM x.it ≤ 2048
  · have hc : clsM (exp0 x.it) < 6 := (cls_iff _).2 (by rw [hsz]; exact hs)
    have hst := store_roomy (m := m) (it := (exp0 x.it)) (e := ⟨now, 0, 0, 0⟩) (L := l.length) (fun y hy => live_of (h.exp y hy)) (by have := h.len; omega) (by rw [h.budget]; exact Int.le_refl _) hc
    rw [hst, if_pos hs]
    refine ⟨rfl, ?_⟩
    cases hg : m.get x.it.key with
    | none =>
      refine ⟨h.budget, h.drops, by simp; have := h.len; omega, fun y hy => ?_, fun k => ?_⟩
      · rcases List.mem_append.1 hy with hy | hy
        · exact h.exp y hy
        · rw [List.mem_singleton.1 hy]
      · rw [hkeys k, ← h.keys k]
        simp only [List.map_append, List.mem_append, List.map_cons, List.map_nil, List.mem_singleton]
        constructor
        · rintro (h1 | h1)
          · exact .inl h1
          · exact .inr ⟨h1.symm, hs⟩
        · rintro (h1 | ⟨h1, _⟩)
          · exact .inl h1
          · exact .inr h1.symm
    | some y =>
      refine ⟨h.budget, h.drops, by simp [setI]; have := h.len; omega, fun z hz => ?_, fun k => ?_⟩
      · obtain ⟨u, hu, e⟩ := List.mem_map.1 hz
        rw [← e]
        split
        · rfl
        · exact h.exp u hu
      · have hk2 : (setI m.items (exp0 x.it)).map (·.key) = m.items.map (·.key) := by
          unfold setI
          rw [List.map_map]
          apply List.map_congr_left
          intro u _
          simp only [Function.comp]
          split
          · rename_i e; exact e.symm
          · rfl
        simp only
        rw [hk2, hkeys k, h.keys k]
        constructor
        · exact .inl
        · rintro (h1 | ⟨h1, _⟩)
          · exact h1
          · rw [← h.keys k]
            have := (getI_mem hg)
            rw [← h1]
            exact List.mem_map.2 ⟨y, this.1, this.2⟩
  · have hst : m.store (exp0 x.it) ⟨now, 0, 0, 0⟩ = (m, 4) := by
      have hn : ¬ clsM (exp0 x.it) < 6 := fun hc => hs (by have := (cls_iff _).1 hc; rw [hsz] at this; exact this)
      have h6 : clsM (exp0 x.it) ≤ 6 := classN_le_six _
      unfold SM.store
      rw [if_pos (Nat.le_antisymm h6 (Nat.not_lt.1 hn))]
    rw [hst, if_neg hs]
    refine ⟨rfl, h.budget, h.drops, Nat.le_succ_of_le h.len, h.exp, fun k => ?_⟩
    rw [hkeys k, h.keys k]
    constructor
    · exact .inl
    · rintro (h1 | ⟨_, h1⟩)
      · exact h1
      · exact absurd h1 hs
theorem ki_zero (l : List Opd) (seed most : Int) : KI l 0 (SM.new seed (2048 * (l.length : Int)) most) :=
  ⟨rfl, rfl, Nat.le_refl _, (fun x hx => by cases hx), fun k => ⟨(fun h => by cases h), fun ⟨j, x, hj, _⟩ => absurd hj (by omega)⟩⟩
/-- Was a text stored by one of the first n? -/
def storedM (l : List Opd) (n : Nat) (k : ByteArray) : Bool := (l.take n).any fun x => decide (x.it.key = k) && decide (sizeM x.it ≤ 2048)
theorem ki_get {l : List Opd} {m : SM} (h : KI l l.length m) (k : ByteArray) : (m.get k).isSome = storedM l l.length k := by
  rw [Bool.eq_iff_iff]
  unfold SM.get
  rw [getI_isSome, h.keys, storedM, List.take_length, List.any_eq_true]
  constructor
  · rintro ⟨j, x, hj, hx, h1, h2⟩
    exact ⟨x, List.mem_of_getElem? hx, by simp [h1, h2]⟩
  · rintro ⟨x, hx, h1⟩
    obtain ⟨j, hj, e⟩ := List.getElem_of_mem hx
    simp only [Bool.and_eq_true, decide_eq_true_eq] at h1
    exact ⟨j, x, hj, by rw [List.getElem?_eq_getElem hj, e], h1⟩
theorem stored_succ {l : List Opd} {n : Nat} {k : ByteArray} (hn : n < l.length) : storedM l (n + 1) k = (storedM l n k || (decide (l[n].it.key = k) && decide (sizeM l[n].it ≤ 2048))) := by
  unfold storedM
  rw [List.take_succ_eq_append_getElem hn, List.any_append]
  simp

section
variable {h0 : Frag} {w0 w w' : World} {As : List HP} {a : Option Addr} {l : List Opd}
theorem sm_find {m : SM} {k : ByteArray} {e : Ev} (h : ∀ x ∈ m.items, liveM x e = true) : m.find k e = (m, m.get k) := by
  unfold SM.find
  cases hg : m.get k with
  | none => rfl
  | some x => simp only; rw [if_pos (h x (getI_mem hg).1)]

theorem keeps_walk {c : Nat} {seed most now : Int} (ho : Ops h0 w0 a l) (H : St h0 w0 w []) :
    Cl P f_butterylaw11_ShardKeeps #[.int .u64 seed, .int .i64 most, .slice a l.length c, .int .i64 now] w fun v w' => v = .bool true ∧ St h0 w0 w' [] := by
  apply cl_butterylaw11_ShardKeeps
  unfold c_butterylaw11_ShardKeeps
  refine H.pure awake_sp fun w2 H => ⟨true, rfl, ?_⟩
  refine few_sp ho H fun w5 H => ⟨_, rfl, ?_⟩
  refine H.emp.callE (shard_new _ _ _) fun p w8 H => ⟨_, rfl, ?_⟩
  have out : ∀ {w' : World} {As : List HP}, St h0 w0 w' As → (Value.bool (!Option.isNone (ad p)) = .bool true ∧ St h0 w0 w' []) := fun H => ⟨rfl, let ⟨h, _, ho, hf⟩ := H; ⟨h, trivial, ho, hf⟩⟩
  refine br (fun hc => by simp at hc) fun _ => br (fun _ => br (fun _ => out H) fun hc => by simp at hc) fun hfew => br (fun hc => by simp [ad] at hc) fun _ => br (fun _ => br (fun _ => out H) fun hc => by simp at hc) fun h60 => br (fun _ => br (fun _ => out H) fun hc => by simp at hc) fun hnow => ?_
  have hfew' : fewM l = true := by simpa using hfew
  obtain ⟨hlen, hall⟩ := few_spec hfew'
  have ewb : IntKind.i64.wrap ((2048 : Int) * (l.length : Int)) = 2048 * (l.length : Int) := wrap_i64 (by omega) (by omega)
  rw [ewb] at H
  refine ⟨fun vs w' => ∃ (i : Nat) (m : SM), i ≤ l.length ∧ vs = [.int .i64 i] ∧ KI l i m ∧ St h0 w0 w' [Shard p (2 * i) none m], fun vs _ => match vs with | [.int _ i] => l.length - i.toNat | _ => 0,
    ⟨0, _, by omega, rfl, ki_zero l seed most, H⟩, ?_⟩
  rintro vs w13 ⟨i, m, hi, rfl, hk, H⟩
  refine ⟨i, rfl, br (fun hc => ?_) fun hc => ?_⟩
  · -- a store
    have hlt : i < l.length := by simp at hc; omega
    obtain ⟨b, o, ha, hs⟩ := ho.read H hlt
    have hval := ho.val hlt
    have hl := ho.len hlt
    have hbig := hall l[i] (List.getElem_mem hlt)
    have hgi : l[i]? = some l[i] := List.getElem?_eq_getElem hlt
    generalize l[i] = x at *
    refine ⟨_, ha, by omega, by omega, x.it.key, x.s.1, x.s.2.1, x.s.2.2, x.it.flags, x.it.exp, x.it.cas, x.it.sec, x.it.seq, x.it.stale, x.it.won, x.it.seen, ?_, fun b26 w27 e26 e27 => ?_⟩
    · rw [add_mk, add_mk, Int.toNat_natCast]
      intro j v hj
      rw [add_mk]
      have := hs (1 + j) v (by
        rw [show 1 + j = j + 1 by omega]
        show ((itV x.it x.s) ++ evV x.e)[j]? = some v
        rw [List.getElem?_append_left (List.getElem?_eq_some_iff.1 hj).1]; exact hj)
      rw [add_mk] at this
      rw [show o + i * 15 + 1 + j = o + i * 15 + (1 + j) by omega]
      exact this
    have H := H.newCells (cs := itV It.zero (none, 0, 0)) e26 e27
    refine ⟨H.wr m0 (by simp [itV]), fun w28 e28 => ?_⟩
    have H : St h0 w0 w28 (cl b26 T_api_Item (itV x.it x.s) :: _) := H.setSpan0 e28
    refine ⟨by rw [add_mk]; exact H.stOk m0 (by simp [itV]), fun w29 e29 => ?_⟩
    rw [add_mk] at e29
    have H : St h0 w0 w29 (cl b26 T_api_Item (itV (exp0 x.it) x.s) :: _) := H.set e29
    refine ⟨(exp0 x.it).key, x.s.1, x.s.2.1, x.s.2.2, (exp0 x.it).flags, (exp0 x.it).exp, (exp0 x.it).cas, (exp0 x.it).sec, (exp0 x.it).seq, (exp0 x.it).stale, (exp0 x.it).won, (exp0 x.it).seen, H.spanAll m0, ?_⟩
    obtain ⟨hres, hk'⟩ := ki_step (now := now) hk hgi
    refine H.swap.callKV hval.pass (shard_store p (2 * i) m (exp0 x.it) x.s ⟨now, 0, 0, 0⟩ (by omega) hl (by show x.it.key.size < _; omega) (by show x.it.val.length < _; omega)) fun w41 H => ⟨_, rfl, ?_⟩
    refine ⟨(exp0 x.it).key, x.s.1, x.s.2.1, x.s.2.2, (exp0 x.it).flags, (exp0 x.it).exp, (exp0 x.it).cas, (exp0 x.it).sec, (exp0 x.it).seq, (exp0 x.it).stale, (exp0 x.it).won, (exp0 x.it).seen, H.spanAll m1, ?_⟩
    refine H.pure (rsize_sp (exp0 x.it) x.s hl (by show x.it.key.size < _; omega) (by show x.it.val.length < _; omega)) fun w54 H => ⟨_, rfl, ?_⟩
    have hsz : sizeM (exp0 x.it) = sizeM x.it := rfl
    rw [hres, hsz]
    have ew : IntKind.i64.wrap ((i : Int) + 1) = ((i + 1 : Nat) : Int) := by rw [wrap_i64 (by omega) (by omega)]; omega
    rw [ew]
    have fin : (∃ (i' : Nat) (m : SM), i' ≤ l.length ∧ [Value.int .i64 ((i + 1 : Nat) : Int)] = [.int .i64 i'] ∧ KI l i' m ∧ St h0 w0 w54 [Shard p (2 * i') none m]) ∧ l.length - Int.toNat ((i + 1 : Nat) : Int) < l.length - Int.toNat (i : Int) :=
      ⟨⟨i + 1, _, hlt, rfl, hk', H.swap.drop⟩, by simp; omega⟩
    by_cases hs2 : sizeM x.it ≤ 2048
    · rw [if_pos hs2]
      refine br (fun hc => ?_) fun _ => br (fun _ => br (fun hc => by simp at hc) fun _ => fin) fun _ => fin
      rw [show decide ((sizeM x.it : Int) > 2048) = false by simp; omega] at hc
      simp at hc
    · rw [if_neg hs2]
      refine br (fun hc => ?_) fun _ => br (fun hc => ?_) fun _ => fin
      · rw [show decide ((sizeM x.it : Int) > 2048) = true by simp; omega] at hc
        simp at hc
      · rw [show decide ((sizeM x.it : Int) > 2048) = true by simp; omega] at hc
        simp at hc
  · -- what is there
    have hil : i = l.length := by simp at hc; omega
    subst hil
    refine H.callE (shard_drops p _ m) fun d w57 H => ⟨d.1, d.2.1, d.2.2, rfl, ?_⟩
    have H := H.split
    have hrl := H.swap.rowLen
    rw [strs_length, hk.drops] at hrl
    have hd0 : d.2.1 = 0 := by have := hrl.1; simp at this; omega
    have hlive : ∀ x ∈ ({ m with drops := [] } : SM).items, liveM x ⟨now, 0, 0, 0⟩ = true := fun x hx => live_of (hk.exp x hx)
    have H := H.swap.drop
    have hgk : ∀ k, (({ m with drops := [] } : SM).get k).isSome = storedM l l.length k := fun k => ki_get hk k
    generalize ({ m with drops := [] } : SM) = mm at *
    refine ⟨fun vs w' => ∃ i : Nat, i ≤ l.length ∧ vs = [.int .i64 i] ∧ St h0 w0 w' [Shard p (2 * l.length) none mm], fun vs _ => match vs with | [.int _ i] => l.length - i.toNat | _ => 0,
      ⟨0, by omega, rfl, H⟩, ?_⟩
    rintro vs w62 ⟨i, hi, rfl, H⟩
    refine ⟨i, rfl, br (fun hc => ?_) fun hc => ?_⟩
    · have hlt : i < l.length := by simp at hc; omega
      obtain ⟨b, o, ha, hs⟩ := ho.read H hlt
      have hbig := hall l[i] (List.getElem_mem hlt)
      have k1 := hs 1 _ rfl
      rw [add_mk] at k1
      refine ⟨_, ha, by omega, by omega, l[i].it.key, by rw [add_mk, add_mk, add_mk, Int.toNat_natCast]; exact k1, ?_⟩
      refine H.callE (shard_look p (2 * l.length) mm l[i].it.key ⟨now, 0, 0, 0⟩ (by omega) (by omega)) fun s w67 H => ?_
      have H := H.split
      rw [sm_find hlive] at H ⊢
      simp only at H ⊢
      rw [hgk]
      generalize hz : (mm.get l[i].it.key).getD It.zero = z at *
      refine ⟨z.key, s.1, s.2.1, s.2.2, z.flags, z.exp, z.cas, z.sec, z.seq, z.stale, z.won, z.seen, _, rfl, fun b79 w80 e79 e80 => ?_⟩
      have H := H.newCells (cs := itV It.zero (none, 0, 0)) e79 e80
      refine ⟨H.wr m0 (by simp [itV]), fun w81 e81 => ?_⟩
      have H := (H.setSpan0 e81).drop.swap.drop
      have ew : ∀ i : Nat, i < l.length → IntKind.i64.wrap ((i : Int) + 1) = ((i + 1 : Nat) : Int) := fun i hi => by rw [wrap_i64 (by omega) (by omega)]; omega
      refine ⟨fun vs w' => ∃ k : Nat, k ≤ l.length ∧ vs = [.bool (storedM l k l[i].it.key), .int .i64 k] ∧ St h0 w0 w' [Shard p (2 * l.length) none mm], fun vs _ => match vs with | [_, .int _ i] => l.length - i.toNat | _ => 0,
        ⟨0, by omega, rfl, H⟩, ?_⟩
      rintro vs w85 ⟨k, hkl, rfl, H⟩
      refine ⟨_, k, rfl, br (fun hc => ?_) fun hc => ?_⟩
      · have hklt : k < l.length := by simp at hc; omega
        intro w88 e88
        have H := H.drew e88
        have hsucc := stored_succ (k := l[i].it.key) hklt
        rw [ew k hklt]
        obtain ⟨b2, o2, ha2, hs2⟩ := ho.read H hklt
        obtain ⟨b3, o3, ha3, hs3⟩ := ho.read H hlt
        have hl2 := ho.len hklt
        have hbig2 := hall l[k] (List.getElem_mem hklt)
        refine br (fun hc2 => ?_) fun hc2 => ?_
        · refine ⟨⟨k + 1, hklt, ?_, H⟩, by simp; omega⟩
          rw [hsucc, hc2]; rfl
        · rw [hc2, Bool.false_or] at hsucc
          have k2 := hs2 1 _ rfl
          rw [add_mk] at k2
          have k3 := hs3 1 _ rfl
          rw [add_mk] at k3
          refine ⟨_, ha2, by omega, by omega, l[k].it.key, by rw [add_mk, add_mk, add_mk, Int.toNat_natCast]; exact k2, _, ha3, by omega, by omega, l[i].it.key, by rw [add_mk, add_mk, add_mk, Int.toNat_natCast]; exact k3, ?_⟩
          rw [seq_eq]
          refine br (fun hq => ?_) fun hq => ?_
          · rw [hq, Bool.true_and] at hsucc
            refine ⟨_, ha2, by omega, by omega, l[k].it.key, l[k].s.1, l[k].s.2.1, l[k].s.2.2, l[k].it.flags, l[k].it.exp, l[k].it.cas, l[k].it.sec, l[k].it.seq, l[k].it.stale, l[k].it.won, l[k].it.seen, ?_, ?_⟩
            · rw [add_mk, add_mk, Int.toNat_natCast]
              intro j v hj
              rw [add_mk]
              have := hs2 (1 + j) v (by
                rw [show 1 + j = j + 1 by omega]
                show ((itV l[k].it l[k].s) ++ evV l[k].e)[j]? = some v
                rw [List.getElem?_append_left (List.getElem?_eq_some_iff.1 hj).1]; exact hj)
              rw [add_mk] at this
              rw [show o2 + k * 15 + 1 + j = o2 + k * 15 + (1 + j) by omega]
              exact this
            refine H.pure (rsize_sp l[k].it l[k].s hl2 (by omega) (by omega)) fun w105 H => ⟨_, rfl, ⟨k + 1, hklt, ?_, H⟩, by simp; omega⟩
            rw [hsucc]
            have : decide ((sizeM l[k].it : Int) ≤ 2048) = decide (sizeM l[k].it ≤ 2048) := decide_eq_decide.2 (by omega)
            rw [this]
          · rw [hq, Bool.false_and] at hsucc
            refine ⟨⟨k + 1, hklt, by rw [hsucc], H⟩, by simp; omega⟩
      · have hkl2 : k = l.length := by simp at hc; omega
        subst hkl2
        refine br (fun hc => by simp at hc) fun _ => ?_
        rw [ew i hlt]
        exact ⟨⟨i + 1, hlt, rfl, H⟩, by simp; omega⟩
    · rw [hd0]
      exact ⟨rfl, H.drop⟩
end
end Go.Bty
