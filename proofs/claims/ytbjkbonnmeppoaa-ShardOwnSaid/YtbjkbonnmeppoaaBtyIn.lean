/- What comes in, read off the statement's own reading of arguments. -/
import Derived.Test.YtbjkbonnmeppoaaPkJ
import Derived.WalkKit
import Derived.ProofKit
import Derived.OpenShut
import Derived.ShutString
import Derived.ChangeOld
import Derived.Below
import Derived.SizedLaws
import Derived.Deep.Slices
namespace Go.Bty
open Go
open Go.Proofs.Try renaming prog → P

abbrev hE : Frag := fun _ => none
theorem kept_cells {w : World} {a : Addr} {n : Nat} {vs : List Value} (hl : vs.length = n) (hc : ∀ i v, vs[i]? = some v → w.cell? (a.add i) = some v) : Kept hE w (some a) n vs := by
  refine ⟨hl, ?_⟩
  cases n with
  | zero => exact .inl rfl
  | succ n =>
    right
    obtain ⟨v0, h0⟩ : ∃ v, vs[0]? = some v := ⟨vs[0]'(by omega), List.getElem?_eq_getElem (by omega)⟩
    have h1 := hc 0 v0 h0
    have e0 : a.add 0 = a := rfl
    rw [e0] at h1
    unfold World.cell? at h1
    split at h1
    · rename_i c T fr hh
      have hs : a.spot = none := by
        cases e : a.spot with
        | none => rfl
        | some x => rw [e] at h1; simp at h1
      obtain ⟨b, o, sp⟩ := a
      simp only at hs hh
      subst hs
      refine ⟨b, o, c, T, fr, rfl, rfl, hh, fun i v hi => ?_⟩
      have h2 := hc i v hi
      rw [add_mk] at h2
      unfold World.cell? at h2
      rw [hh] at h2
      simpa using h2
    · cases h1

theorem take1 {cs : List Value} {i : Nat} {v : Value} (h : (cs.drop i).take 1 = [v]) : cs[i]? = some v := by
  have := congrArg (fun l : List Value => l[0]?) h
  simpa [List.getElem?_take, List.getElem?_drop] using this

section
variable {H : Type} {enc : TypeId × Value → H} {w : World} {base : Nat} {spare : Nat → Bool} {held : Bool} {t : TypeId} {fuel : Nat} {cs : List Value} {x : DataW H × List MemPlace}

theorem trod_field {fs : Array Field} {i o : Nat} {f : Field} {k : Nat} (ht : P.underlying t = some (.struct fs)) (hf : fs[i]? = some f) (ho : f.offset = o) (hk : P.cellsOf f.type = k) (h : DataW.trod enc P w base spare held fuel t cs = some x) :
    ∃ n y, DataW.trod enc P w base spare held n f.type ((cs.drop o).take k) = some y := by
  subst ho
  obtain ⟨xs, n, _, _, hl, hx, hall⟩ := DataW.trod_struct ht h
  have h1 := hall i f hf
  have hlt : i < xs.length := by rw [hx]; exact (Array.getElem?_eq_some_iff.1 hf).1
  rw [List.getElem?_eq_getElem hlt, hk] at h1
  exact ⟨n, _, h1⟩
theorem trod_len {fs : Array Field} (ht : P.underlying t = some (.struct fs)) (h : DataW.trod enc P w base spare held fuel t cs = some x) : cs.length = P.cellsOf t := by
  obtain ⟨xs, n, _, _, hl, _⟩ := DataW.trod_struct ht h
  exact hl
theorem field_int {fs : Array Field} {i o : Nat} {f : Field} {k : IntKind} (ht : P.underlying t = some (.struct fs)) (hf : fs[i]? = some f) (ho : f.offset = o) (hk : P.cellsOf f.type = 1) (hu : P.underlying f.type = some (.int k)) (h : DataW.trod enc P w base spare held fuel t cs = some x) :
    ∃ n, cs[o]? = some (.int k n) ∧ (Lit.int k n).wf = true := by
  obtain ⟨n, y, h1⟩ := trod_field ht hf ho hk h
  obtain ⟨z, h2, _, h3⟩ := DataW.trod_int hu h1
  exact ⟨z, take1 h2, h3⟩
theorem field_bool {fs : Array Field} {i o : Nat} {f : Field} (ht : P.underlying t = some (.struct fs)) (hf : fs[i]? = some f) (ho : f.offset = o) (hk : P.cellsOf f.type = 1) (hu : P.underlying f.type = some .bool) (h : DataW.trod enc P w base spare held fuel t cs = some x) :
    ∃ b, cs[o]? = some (.bool b) := by
  obtain ⟨n, y, h1⟩ := trod_field ht hf ho hk h
  obtain ⟨z, h2, _⟩ := DataW.trod_bool hu h1
  exact ⟨z, take1 h2⟩
theorem field_str {fs : Array Field} {i o : Nat} {f : Field} (ht : P.underlying t = some (.struct fs)) (hf : fs[i]? = some f) (ho : f.offset = o) (hk : P.cellsOf f.type = 1) (hu : P.underlying f.type = some .string) (h : DataW.trod enc P w base spare held fuel t cs = some x) :
    ∃ s : ByteArray, cs[o]? = some (.string s) ∧ s.size ≤ maxLen := by
  obtain ⟨n, y, h1⟩ := trod_field ht hf ho hk h
  obtain ⟨z, h2, _, h3⟩ := DataW.trod_string hu h1
  exact ⟨z, take1 h2, h3⟩

theorem byte_wf {n : Int} (h : (Lit.int .u8 n).wf = true) : ∃ b : UInt8, n = (b.toNat : Int) := by
  have hb : 0 ≤ n ∧ n ≤ 255 := by simpa [Lit.wf, IntKind.min, IntKind.max, IntKind.bits, IntKind.signed] using h
  refine ⟨UInt8.ofNat n.toNat, ?_⟩
  have : (UInt8.ofNat n.toNat).toNat = n.toNat := by
    rw [UInt8.toNat_ofNat']; omega
  rw [this]; omega

/-- A slice of bytes. -/
theorem trod_bytes {e : TypeId} (ht : P.underlying t = some (.slice e)) (he : P.underlying e = some (.int .u8)) (hc : P.cellsOf e = 1) (h : DataW.trod enc P w base spare held fuel t cs = some x) :
    ∃ (s : Sl) (bs : List UInt8), cs = [.slice s.1 s.2.1 s.2.2] ∧ Kept hE w s.1 s.2.1 (bytesV bs) ∧ s.2.1 ≤ s.2.2 ∧ s.2.2 ≤ maxLen := by
  rcases Go.Deep.open_slice1 ht hc h with ⟨rfl, _⟩ | ⟨a, len, cap, m, n, V, D, Pl, rfl, _, hl, hm, hmm, _, hx⟩
  · exact ⟨(none, 0, 0), [], rfl, Kept.nil, Nat.le_refl _, Nat.zero_le _⟩
  · have hlm : len ≤ m := by rw [hmm]; split <;> omega
    have hB : ∀ i, ∃ b : UInt8, i < len → V i = .int .u8 (b.toNat : Int) := fun i => by
      by_cases hi : i < len
      · obtain ⟨_, h2⟩ := hx i (by omega)
        obtain ⟨z, e1, _, e3⟩ := DataW.trod_int he h2
        obtain ⟨b, hb⟩ := byte_wf e3
        refine ⟨b, fun _ => ?_⟩
        rw [hb] at e1
        simpa using e1
      · exact ⟨0, fun h => absurd h hi⟩
    let B : Nat → UInt8 := fun i => (hB i).choose
    have hBs : ∀ i, i < len → V i = .int .u8 ((B i).toNat : Int) := fun i => (hB i).choose_spec
    refine ⟨(some a, len, cap), (List.range len).map B, rfl, kept_cells (by simp [bytesV]) fun i v hi => ?_, hl, hm⟩
    have hlt : i < len := by
      have := (List.getElem?_eq_some_iff.1 hi).1
      simpa [bytesV] using this
    rw [(hx i (by omega)).1, hBs i hlt, ← hi]
    simp [bytesV, hlt]

theorem uItem : P.underlying T_api_Item = some (.struct #[⟨"Key", T_string, 0, false, "", "", 0⟩, ⟨"Value", T_s_uint8, 1, false, "", "", 16⟩, ⟨"Flags", T_uint32, 2, false, "", "", 40⟩, ⟨"Exp", T_int, 3, false, "", "", 48⟩, ⟨"CAS", T_uint64, 4, false, "", "", 56⟩, ⟨"Sec", T_int, 5, false, "", "", 64⟩, ⟨"Seq", T_uint64, 6, false, "", "", 72⟩, ⟨"Stale", T_bool, 7, false, "", "", 80⟩, ⟨"Won", T_bool, 8, false, "", "", 81⟩, ⟨"Seen", T_bool, 9, false, "", "", 82⟩]) := by kernel_rfl
theorem uEnv : P.underlying T_api_Env = some (.struct #[⟨"Now", T_int, 0, false, "", "", 0⟩, ⟨"Seq", T_uint64, 1, false, "", "", 8⟩, ⟨"Flush", T_int, 2, false, "", "", 16⟩, ⟨"FlushSeq", T_uint64, 3, false, "", "", 24⟩]) := by kernel_rfl
theorem uOp : P.underlying T_butterylaw11_Op = some (.struct #[⟨"Kind", T_int, 0, false, "", "", 0⟩, ⟨"It", T_api_Item, 1, false, "", "", 8⟩, ⟨"Env", T_api_Env, 11, false, "", "", 96⟩]) := by kernel_rfl
theorem uInt : P.underlying T_int = some (.int .i64) := by kernel_rfl
theorem uU64 : P.underlying T_uint64 = some (.int .u64) := by kernel_rfl
theorem uU32 : P.underlying T_uint32 = some (.int .u32) := by kernel_rfl
theorem uU8 : P.underlying T_uint8 = some (.int .u8) := by kernel_rfl
theorem uBool : P.underlying T_bool = some .bool := by kernel_rfl
theorem uStr : P.underlying T_string = some .string := by kernel_rfl
theorem uBytes : P.underlying T_s_uint8 = some (.slice T_uint8) := by kernel_rfl
theorem uOps : P.underlying T_s_butterylaw11_Op = some (.slice T_butterylaw11_Op) := by kernel_rfl
theorem nItem : P.cellsOf T_api_Item = 10 := by kernel_rfl
theorem nEnv : P.cellsOf T_api_Env = 4 := by kernel_rfl
theorem nOp : P.cellsOf T_butterylaw11_Op = 15 := by kernel_rfl
theorem nInt : P.cellsOf T_int = 1 := by kernel_rfl
theorem nU64 : P.cellsOf T_uint64 = 1 := by kernel_rfl
theorem nU32 : P.cellsOf T_uint32 = 1 := by kernel_rfl
theorem nU8 : P.cellsOf T_uint8 = 1 := by kernel_rfl
theorem nBool : P.cellsOf T_bool = 1 := by kernel_rfl
theorem nStr : P.cellsOf T_string = 1 := by kernel_rfl
theorem nBytes : P.cellsOf T_s_uint8 = 1 := by kernel_rfl

/-- Bounds of an item's numbers. -/
structure ItWf (it : It) : Prop where
  flags : (Lit.int .u32 it.flags).wf = true
  exp : (Lit.int .i64 it.exp).wf = true
  cas : (Lit.int .u64 it.cas).wf = true
  sec : (Lit.int .i64 it.sec).wf = true
  seq : (Lit.int .u64 it.seq).wf = true
  key : it.key.size ≤ maxLen
structure EvWf (e : Ev) : Prop where
  now : (Lit.int .i64 e.now).wf = true
  seq : (Lit.int .u64 e.seq).wf = true
  flush : (Lit.int .i64 e.flush).wf = true
  flushSeq : (Lit.int .u64 e.flushSeq).wf = true

theorem ten {cs : List Value} (h : cs.length = 10) : ∃ c0 c1 c2 c3 c4 c5 c6 c7 c8 c9, cs = [c0, c1, c2, c3, c4, c5, c6, c7, c8, c9] := by
  match cs, h with
  | [c0, c1, c2, c3, c4, c5, c6, c7, c8, c9], _ => exact ⟨c0, c1, c2, c3, c4, c5, c6, c7, c8, c9, rfl⟩

theorem trod_item (h : DataW.trod enc P w base spare held fuel T_api_Item cs = some x) : ∃ (it : It) (s : Sl), cs = itV it s ∧ Kept hE w s.1 s.2.1 (bytesV it.val) ∧ ItWf it := by
  have hl := trod_len uItem h
  rw [nItem] at hl
  obtain ⟨k, e0, hk⟩ := field_str (i := 0) (o := 0) uItem rfl rfl nStr uStr h
  obtain ⟨n, y, h1⟩ := trod_field (i := 1) (o := 1) uItem rfl rfl nBytes h
  obtain ⟨s, bs, e1, hkp, hsl, hsm⟩ := trod_bytes uBytes uU8 nU8 h1
  replace e1 := take1 e1
  obtain ⟨n2, e2, w2⟩ := field_int (i := 2) (o := 2) uItem rfl rfl nU32 uU32 h
  obtain ⟨n3, e3, w3⟩ := field_int (i := 3) (o := 3) uItem rfl rfl nInt uInt h
  obtain ⟨n4, e4, w4⟩ := field_int (i := 4) (o := 4) uItem rfl rfl nU64 uU64 h
  obtain ⟨n5, e5, w5⟩ := field_int (i := 5) (o := 5) uItem rfl rfl nInt uInt h
  obtain ⟨n6, e6, w6⟩ := field_int (i := 6) (o := 6) uItem rfl rfl nU64 uU64 h
  obtain ⟨b7, e7⟩ := field_bool (i := 7) (o := 7) uItem rfl rfl nBool uBool h
  obtain ⟨b8, e8⟩ := field_bool (i := 8) (o := 8) uItem rfl rfl nBool uBool h
  obtain ⟨b9, e9⟩ := field_bool (i := 9) (o := 9) uItem rfl rfl nBool uBool h
  obtain ⟨c0, c1, c2, c3, c4, c5, c6, c7, c8, c9, rfl⟩ := ten hl
  simp only [List.getElem?_cons_zero, List.getElem?_cons_succ, Option.some.injEq] at e0 e1 e2 e3 e4 e5 e6 e7 e8 e9
  subst e0 e1 e2 e3 e4 e5 e6 e7 e8 e9
  exact ⟨⟨k, bs, n2, n3, n4, n5, n6, b7, b8, b9⟩, s, rfl, hkp, w2, w3, w4, w5, w6, hk⟩

theorem trod_env (h : DataW.trod enc P w base spare held fuel T_api_Env cs = some x) : ∃ e : Ev, cs = evV e ∧ EvWf e := by
  have hl := trod_len uEnv h
  rw [nEnv] at hl
  obtain ⟨n0, e0, w0⟩ := field_int (i := 0) (o := 0) uEnv rfl rfl nInt uInt h
  obtain ⟨n1, e1, w1⟩ := field_int (i := 1) (o := 1) uEnv rfl rfl nU64 uU64 h
  obtain ⟨n2, e2, w2⟩ := field_int (i := 2) (o := 2) uEnv rfl rfl nInt uInt h
  obtain ⟨n3, e3, w3⟩ := field_int (i := 3) (o := 3) uEnv rfl rfl nU64 uU64 h
  match cs, hl with
  | [c0, c1, c2, c3], _ =>
    simp only [List.getElem?_cons_zero, List.getElem?_cons_succ, Option.some.injEq] at e0 e1 e2 e3
    subst e0 e1 e2 e3
    exact ⟨⟨n0, n1, n2, n3⟩, rfl, w0, w1, w2, w3⟩

structure OpWf (x : Opd) : Prop where
  kind : (Lit.int .i64 x.kind).wf = true
  it : ItWf x.it
  e : EvWf x.e
theorem trod_op (h : DataW.trod enc P w base spare held fuel T_butterylaw11_Op cs = some x) : ∃ o : Opd, cs = opV o ∧ Kept hE w o.s.1 o.s.2.1 (bytesV o.it.val) ∧ OpWf o := by
  have hl := trod_len uOp h
  rw [nOp] at hl
  obtain ⟨k, e0, wk⟩ := field_int (i := 0) (o := 0) uOp rfl rfl nInt uInt h
  obtain ⟨n, y, h1⟩ := trod_field (i := 1) (o := 1) uOp rfl rfl nItem h
  obtain ⟨it, s, e1, hkp, wi⟩ := trod_item h1
  obtain ⟨n2, y2, h2⟩ := trod_field (i := 2) (o := 11) uOp rfl rfl nEnv h
  obtain ⟨e, e2, we⟩ := trod_env h2
  refine ⟨⟨k, it, s, e⟩, ?_, hkp, wk, wi, we⟩
  cases cs with
  | nil => simp at hl
  | cons c cs =>
    simp only [List.getElem?_cons_zero, Option.some.injEq] at e0
    subst e0
    simp only [List.drop_succ_cons, List.drop_zero] at e1 e2
    show _ :: cs = _ :: (itV it s ++ evV e)
    congr 1
    have hlen : cs.length = 14 := by simpa using hl
    have e3 : (cs.drop 10).take 4 = cs.drop 10 := List.take_of_length_le (by rw [List.length_drop, hlen]; omega)
    rw [e3] at e2
    rw [← e1, ← e2, List.take_append_drop]

/-- A list of calls. -/
theorem trod_ops (h : DataW.trod enc P w base spare held fuel T_s_butterylaw11_Op cs = some x) : ∃ (a : Option Addr) (c : Nat) (l : List Opd), cs = [.slice a l.length c] ∧ Ops hE w a l ∧ (∀ x ∈ l, OpWf x) ∧ l.length ≤ maxLen := by
  rcases Go.Deep.open_slice uOps h with ⟨rfl, _⟩ | ⟨a, len, cap, m, n, D, Pl, rfl, _, hl, hm, hmm, _, hx⟩
  · exact ⟨none, 0, [], rfl, (fun i x hi => by simp at hi), (fun x hx => by cases hx), Nat.zero_le _⟩
  · have hlm : len ≤ m := by rw [hmm]; split <;> omega
    have hO : ∀ i, ∃ o : Opd, i < len → Kept hE w (some (a.add (i * 15))) 15 (opV o) ∧ Kept hE w o.s.1 o.s.2.1 (bytesV o.it.val) ∧ OpWf o := fun i => by
      by_cases hi : i < len
      · obtain ⟨cs', h1, h2⟩ := hx i (by omega)
        rw [nOp] at h1
        obtain ⟨o, rfl, hk, hw⟩ := trod_op h2
        obtain ⟨_, _, hc⟩ := World.cells?_some h1
        refine ⟨o, fun _ => ⟨kept_cells rfl fun j v hj => ?_, hk, hw⟩⟩
        rw [hc j (List.getElem?_eq_some_iff.1 hj).1]
        exact hj
      · exact ⟨⟨0, It.zero, (none, 0, 0), ⟨0, 0, 0, 0⟩⟩, fun h => absurd h hi⟩
    obtain ⟨O, hOs⟩ : ∃ O : Nat → Opd, ∀ i, i < len → Kept hE w (some (a.add (i * 15))) 15 (opV (O i)) ∧ Kept hE w (O i).s.1 (O i).s.2.1 (bytesV (O i).it.val) ∧ OpWf (O i) := ⟨fun i => (hO i).choose, fun i => (hO i).choose_spec⟩
    clear hO
    have hlen : ((List.range len).map O).length = len := by simp
    refine ⟨some a, cap, (List.range len).map O, by rw [hlen], fun i x hi => ?_, fun x hx => ?_, by rw [hlen]; omega⟩
    · have hlt : i < len := by
        have := (List.getElem?_eq_some_iff.1 hi).1
        rwa [hlen] at this
      have hxe : x = O i := by
        rw [List.getElem?_map, List.getElem?_range hlt] at hi
        exact (Option.some.inj hi).symm
      obtain ⟨q1, q2, _⟩ := hOs i hlt
      subst hxe
      rcases q1.2 with h | ⟨b, o, L, T, fr, hb, _⟩
      · cases h
      · have hspot : ∃ o', a = Addr.mk b o' none ∧ o = o' + i * 15 := by
          obtain ⟨ab, ao, asp⟩ := a
          by_cases hi0 : i = 0
          · subst hi0
            simp only [Nat.zero_mul] at hb ⊢
            have : Addr.mk ab ao asp = Addr.mk b o none := by simpa [Addr.add] using hb
            exact ⟨o, this, rfl⟩
          · have h15 : i * 15 ≠ 0 := by omega
            obtain ⟨z1, _⟩ := (hOs 0 (by omega))
            rcases z1.2 with h | ⟨b2, o2, _, _, _, hb2, _⟩
            · cases h
            · have e2 : Addr.mk ab ao asp = Addr.mk b2 o2 none := by simpa [Addr.add] using hb2
              cases e2
              rw [add_mk] at hb
              simp only [Option.some.injEq, Addr.mk.injEq, and_true] at hb
              obtain ⟨rfl, rfl⟩ := hb
              exact ⟨ao, rfl, rfl⟩
        obtain ⟨o', rfl, rfl⟩ := hspot
        rw [add_mk] at q1
        exact ⟨b, o', rfl, q1, q2⟩
    · obtain ⟨i, hi, rfl⟩ := List.mem_map.1 hx
      exact (hOs i (List.mem_range.1 hi)).2.2

theorem agg_of_cells {v : Value} {cs : List Value} (h : v.cells.toList = cs) (hl : cs.length ≠ 1) : v = .agg cs.toArray := by
  cases v with
  | agg xs =>
    have : xs.toList = cs := h
    rw [← this]
  | _ => exact absurd (by rw [← h]; rfl) hl
theorem calls_of {f : FuncId} {args : Array Value} {W : World} (h : St hE W W [] → Cl P f args W fun v w' => v = .bool true ∧ St hE W w' []) :
    Calls P f args W fun e w' => e = .returned (.bool true) ∧ Go.RowKit.Below W.heap.size W w' := by
  have h0 : St hE W W [] := ⟨hE, trivial, (fun b o h => by cases h), Fr.refl _ _⟩
  refine callsIn_wide.1 (CallsIn.mono (h h0) ?_)
  rintro e w' ⟨v, rfl, rfl, g, _, _, hf⟩
  exact ⟨rfl, hf.os, hf.tape, hf.out, hf.size, fun k hk => hf.old k hk rfl⟩
end
end Go.Bty
