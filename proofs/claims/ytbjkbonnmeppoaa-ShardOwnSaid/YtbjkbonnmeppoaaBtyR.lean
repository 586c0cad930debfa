/- The slab: chunks, what is used, which chunks are in use. -/
import Derived.Test.YtbjkbonnmeppoaaPkC
import Derived.Test.YtbjkbonnmeppoaaSlabC
namespace Go.Bty
open Go
open Go.Proofs.Try renaming prog → P

/-- The bytes of a class. -/
def bytesZ (c : Int) : Int := if c < 0 then 0 else if c ≥ 6 then 0 else 64 * 2 ^ c.toNat

theorem bytes_sp (c : Int) : Pu P f_slab_Bytes #[.int .i64 c] (.int .i64 (bytesZ c)) := pu_of fun w h H => by
  apply cl_slab_Bytes
  unfold c_slab_Bytes
  refine br (fun h1 => ?_) fun h1 => ?_
  · simp only [decide_eq_true_eq] at h1
    exact ⟨by simp [bytesZ, h1], H⟩
  · simp only [decide_eq_false_iff_not] at h1
    refine br (fun h2 => ?_) fun h2 => ?_
    · simp only [decide_eq_true_eq] at h2
      exact ⟨by simp only [bytesZ, if_neg h1, if_pos h2], H⟩
    · simp only [decide_eq_false_iff_not] at h2
      refine ⟨by omega, ?_, H⟩
      simp only [bytesZ, if_neg h1, if_neg h2]
      have h3 : c.toNat < 6 := by omega
      have hb : min c.toNat (IntKind.bits .i64) = c.toNat := by
        show min c.toNat 64 = _
        omega
      rw [hb]
      generalize c.toNat = k at h3
      have : k = 0 ∨ k = 1 ∨ k = 2 ∨ k = 3 ∨ k = 4 ∨ k = 5 := by omega
      rcases this with rfl | rfl | rfl | rfl | rfl | rfl <;> rfl

/-- The class for so many bytes: 6, if there is none. -/
def classN (size : Int) : Nat := if size ≤ 64 then 0 else if size ≤ 128 then 1 else if size ≤ 256 then 2 else if size ≤ 512 then 3 else if size ≤ 1024 then 4 else if size ≤ 2048 then 5 else 6
theorem classN_le_six (size : Int) : classN size ≤ 6 := by unfold classN; split <;> (try omega); split <;> (try omega); split <;> (try omega); split <;> (try omega); split <;> (try omega); split <;> omega
theorem classN_le {i : Nat} (hi : i < 6) (size : Int) : size ≤ bytesZ i ↔ classN size ≤ i := by
  have e0 : bytesZ (0 : Nat) = 64 := rfl
  have e1 : bytesZ (1 : Nat) = 128 := rfl
  have e2 : bytesZ (2 : Nat) = 256 := rfl
  have e3 : bytesZ (3 : Nat) = 512 := rfl
  have e4 : bytesZ (4 : Nat) = 1024 := rfl
  have e5 : bytesZ (5 : Nat) = 2048 := rfl
  have : i = 0 ∨ i = 1 ∨ i = 2 ∨ i = 3 ∨ i = 4 ∨ i = 5 := by omega
  unfold classN
  rcases this with rfl | rfl | rfl | rfl | rfl | rfl
  · rw [e0]; split <;> (try omega); split <;> (try omega); split <;> (try omega); split <;> (try omega); split <;> (try omega); split <;> omega
  · rw [e1]; split <;> (try omega); split <;> (try omega); split <;> (try omega); split <;> (try omega); split <;> (try omega); split <;> omega
  · rw [e2]; split <;> (try omega); split <;> (try omega); split <;> (try omega); split <;> (try omega); split <;> (try omega); split <;> omega
  · rw [e3]; split <;> (try omega); split <;> (try omega); split <;> (try omega); split <;> (try omega); split <;> (try omega); split <;> omega
  · rw [e4]; split <;> (try omega); split <;> (try omega); split <;> (try omega); split <;> (try omega); split <;> (try omega); split <;> omega
  · rw [e5]; split <;> (try omega); split <;> (try omega); split <;> (try omega); split <;> (try omega); split <;> (try omega); split <;> omega
def classV (size : Int) : Value := if classN size < 6 then .tuple #[.int .i64 (classN size), .int .i64 0] else .tuple #[.int .i64 0, .int .i64 4]

theorem class_sp (size : Int) : Pu P f_slab_Class #[.int .i64 size] (classV size) := pu_of fun w h H => by
  apply cl_slab_Class
  unfold c_slab_Class
  refine ⟨fun vs w' => ∃ i : Nat, vs = [.int .i64 i] ∧ i ≤ 6 ∧ i ≤ classN size ∧ St h w w' [], fun vs _ => match vs with | [.int _ i] => 6 - i.toNat | _ => 0, ⟨0, rfl, by omega, by omega, H⟩, ?_⟩
  rintro vs w' ⟨i, rfl, hi, hc, H'⟩
  refine ⟨i, rfl, br (fun h1 => ?_) fun h1 => ?_⟩
  · simp only [decide_eq_true_eq] at h1
    refine H'.pure (bytes_sp i) fun w2 H2 => ⟨_, rfl, br (fun h2 => ?_) fun h2 => ?_⟩
    · simp only [decide_eq_true_eq] at h2
      have : classN size = i := Nat.le_antisymm ((classN_le (by omega) size).1 h2) hc
      exact ⟨by simp only [classV]; rw [this, if_pos (by omega)], H2⟩
    · simp only [decide_eq_false_iff_not] at h2
      have hw : IntKind.i64.wrap ((i : Int) + 1) = ((i + 1 : Nat) : Int) := by rw [wrap_i64 (by omega) (by omega)]; omega
      rw [hw]
      refine ⟨⟨i + 1, rfl, by omega, ?_, H2⟩, by simp; omega⟩
      have h3 : ¬ classN size ≤ i := fun h => h2 ((classN_le (by omega) size).2 h)
      omega
  · simp only [decide_eq_false_iff_not] at h1
    have : classN size = 6 := by
      have := classN_le_six size
      omega
    exact ⟨by simp [classV, this], H'⟩

/- ### The slab -/
abbrev Sl := Option Addr × Nat × Nat
def slabCells (budget used : Int) (r : Nat) (g : Nat → Sl) (m : Nat → Int) : List Value :=
  [.int .i64 budget, .int .i64 used, .map (some r), .slice (g 0).1 (g 0).2.1 (g 0).2.2, .slice (g 1).1 (g 1).2.1 (g 1).2.2, .slice (g 2).1 (g 2).2.1 (g 2).2.2, .slice (g 3).1 (g 3).2.1 (g 3).2.2,
   .slice (g 4).1 (g 4).2.1 (g 4).2.2, .slice (g 5).1 (g 5).2.1 (g 5).2.2, .int .i64 (m 0), .int .i64 (m 1), .int .i64 (m 2), .int .i64 (m 3), .int .i64 (m 4), .int .i64 (m 5)]

section
variable {b u : Int} {r : Nat} {g : Nat → Sl} {m : Nat → Int} {k : Nat}
theorem six (hk : k < 6) : k = 0 ∨ k = 1 ∨ k = 2 ∨ k = 3 ∨ k = 4 ∨ k = 5 := by omega
theorem slab_gone (hk : k < 6) : (slabCells b u r g m)[3 + k]? = some (.slice (g k).1 (g k).2.1 (g k).2.2) := by
  rcases six hk with rfl | rfl | rfl | rfl | rfl | rfl <;> rfl
theorem slab_made (hk : k < 6) : (slabCells b u r g m)[9 + k]? = some (.int .i64 (m k)) := by
  rcases six hk with rfl | rfl | rfl | rfl | rfl | rfl <;> rfl
theorem slab_setGone (hk : k < 6) (x : Sl) : (slabCells b u r g m).set (3 + k) (.slice x.1 x.2.1 x.2.2) = slabCells b u r (upd g k x) m := by
  rcases six hk with rfl | rfl | rfl | rfl | rfl | rfl <;> rfl
theorem slab_setMade (hk : k < 6) (x : Int) : (slabCells b u r g m).set (9 + k) (.int .i64 x) = slabCells b u r g (upd m k x) := by
  rcases six hk with rfl | rfl | rfl | rfl | rfl | rfl <;> rfl
theorem slab_setUsed (x : Int) : (slabCells b u r g m).set 1 (.int .i64 x) = slabCells b x r g m := rfl
end

def ints (l : List Int) : List Value := l.map (.int .i64)
def gRow (g : Nat → Sl) (gl : Nat → List Int) (k : Nat) : HP := Row T_int 1 (g k).1 (g k).2.1 (g k).2.2 (ints (gl k))
def sumZ : List (Int × Int) → Int
  | [] => 0
  | x :: l => bytesZ x.1 + sumZ l
def chV (x : Int × Int) : Value := .agg #[.int .i64 x.1, .int .i64 x.2]

structure SlabInv (N : Nat) (inn : List (Int × Int)) (gl : Nat → List Int) (m : Nat → Int) : Prop where
  made : ∀ k, k < 6 → 0 ≤ m k ∧ m k ≤ N
  gone : ∀ k, k < 6 → (gl k).Nodup ∧ (gl k).length ≤ N ∧ ∀ x ∈ gl k, 0 ≤ x ∧ x < m k
  used : ∀ x ∈ inn, 0 ≤ x.1 ∧ x.1 < 6 ∧ 0 ≤ x.2 ∧ x.2 < m x.1.toNat ∧ x.2 ∉ gl x.1.toNat
  dist : inn.Nodup
  many : inn.length ≤ N

/-- Which chunks are in use, as the map has it. -/
def inMap (inn : List (Int × Int)) (k : Value) : Option Value := bif inn.any (fun x => kEq k (chV x)) then some (.bool true) else none
theorem kEq_chV (x y : Int × Int) : kEq (chV x) (chV y) = decide (x = y) := by
  obtain ⟨a, b⟩ := x
  obtain ⟨c, d⟩ := y
  simp only [chV, kEq, pairOf]
  by_cases h : (a, b) = (c, d)
  · rw [h]; simp
  · simp [h]
theorem chV_fits (x : Int × Int) : kFits .pair (chV x) = true := rfl
theorem inMap_mem {inn : List (Int × Int)} {x : Int × Int} : inMap inn (chV x) = if x ∈ inn then some (.bool true) else none := by
  have : inn.any (fun y => kEq (chV x) (chV y)) = decide (x ∈ inn) := by
    rw [Bool.eq_iff_iff]
    simp only [List.any_eq_true, decide_eq_true_eq, kEq_chV]
    constructor
    · rintro ⟨y, hy, rfl⟩; exact hy
    · exact fun h => ⟨x, h, rfl⟩
  unfold inMap
  rw [this]
  by_cases h : x ∈ inn <;> simp [h]
theorem sumZ_nonneg : ∀ {l : List (Int × Int)}, 0 ≤ sumZ l ∧ sumZ l ≤ 2048 * l.length
  | [] => by simp [sumZ]
  | x :: l => by
    have ih := sumZ_nonneg (l := l)
    have hb : 0 ≤ bytesZ x.1 ∧ bytesZ x.1 ≤ 2048 := by
      unfold bytesZ
      split
      · omega
      · split
        · omega
        · have h3 : x.1.toNat < 6 := by omega
          rcases six h3 with h | h | h | h | h | h <;> rw [h] <;> omega
    simp only [sumZ, List.length_cons]
    omega
theorem sumZ_erase : ∀ {l : List (Int × Int)} {x : Int × Int}, x ∈ l → sumZ (l.erase x) = sumZ l - bytesZ x.1
  | y :: l, x, h => by
    by_cases e : y = x
    · subst e; simp only [List.erase_cons_head, sumZ]; omega
    · rw [List.erase_cons_tail (by simpa using e)]
      have hx : x ∈ l := by
        rcases List.mem_cons.1 h with rfl | h
        · exact absurd rfl e
        · exact h
      simp only [sumZ, sumZ_erase hx]
      omega

/-- A slab at block p: its budget, the chunks in use; at most N chunks were ever taken or let go. -/
def Slab (p N : Nat) (budget : Int) (inn : List (Int × Int)) : HP := fun h => ∃ r es mc g gl m, SlabInv N inn gl m ∧
  MapIs .pair es (inMap inn) ∧
  SepL [cl p T_slab_Slab (slabCells budget (sumZ inn) r g m), mp r es mc, bag 6 (gRow g gl)] h

section
variable {h0 : Frag} {w0 w : World} {As : List HP} {p N : Nat} {budget : Int} {inn : List (Int × Int)}

/-- A slab, opened. -/
theorem St.slabOpen (H : St h0 w0 w (Slab p N budget inn :: As)) : ∃ r es mc g gl m, SlabInv N inn gl m ∧ MapIs .pair es (inMap inn) ∧
    St h0 w0 w (cl p T_slab_Slab (slabCells budget (sumZ inn) r g m) :: mp r es mc :: bag 6 (gRow g gl) :: As) := by
  obtain ⟨h, ⟨r, es, mc, g, gl, m, h1, h2, h3⟩, hk⟩ := H.opn
  exact ⟨r, es, mc, g, gl, m, h1, h2, hk _ h3⟩
theorem St.slabMk {r : Nat} {es : Array MapEntry} {mc : Nat} {g : Nat → Sl} {gl : Nat → List Int} {m : Nat → Int} (h1 : SlabInv N inn gl m) (h2 : MapIs .pair es (inMap inn))
    (H : St h0 w0 w (cl p T_slab_Slab (slabCells budget (sumZ inn) r g m) :: mp r es mc :: bag 6 (gRow g gl) :: As)) : St h0 w0 w (Slab p N budget inn :: As) :=
  St.cls [cl p T_slab_Slab (slabCells budget (sumZ inn) r g m), mp r es mc, bag 6 (gRow g gl)] H fun _ h => ⟨r, es, mc, g, gl, m, h1, h2, h⟩

theorem slab_new (budget : Int) : Sp P f_slab_New #[.int .i64 budget] (fun _ => True) (fun v h => ∃ p, v = .pointer (some (Addr.mk p 0 none)) ∧ Slab p 0 budget [] h) := sp_of fun w h H => by
  apply cl_slab_New
  unfold c_slab_New
  intro b1 w2 e1 e2 b3 w4 e3 e4
  have H2 := (H.drop).newMap e1 e2
  have H3 := H2.newCells e3 e4
  have H4 : St h w w4 [cl b3 T_slab_Slab (slabCells budget (sumZ []) b1 (fun _ => (none, 0, 0)) fun _ => 0), mp b1 #[] 0, bag 6 (gRow (fun _ => (none, 0, 0)) fun _ => [])] := by
    have H5 := (((((H3.rowNil (T := T_int) (sz := 1)).rowNil (T := T_int) (sz := 1)).rowNil (T := T_int) (sz := 1)).rowNil (T := T_int) (sz := 1)).rowNil (T := T_int) (sz := 1)).rowNil (T := T_int) (sz := 1)
    exact (St.join ((List.range 6).map (gRow (fun _ => (none, 0, 0)) fun _ => [])) H5).push3
  have H5 := St.slabMk (N := 0) ⟨(fun k _ => by simp), (fun k _ => by simp), (fun x hx => by cases hx), List.nodup_nil, by simp⟩ ((mapIs_empty .pair).congr fun k _ => rfl) H4
  exact H5.conv fun h' hs => ⟨b3, rfl, hs⟩

theorem slab_used (p N : Nat) (budget : Int) (inn : List (Int × Int)) : Sp P f_slab_Slab_Used #[.pointer (some (Addr.mk p 0 none))] (Slab p N budget inn) (fun v h => v = .int .i64 (sumZ inn) ∧ Slab p N budget inn h) := sp_of fun w h H => by
  apply cl_slab_Slab_Used
  unfold c_slab_Slab_Used
  obtain ⟨r, es, mc, g, gl, m, h1, h2, H1⟩ := H.slabOpen
  refine ⟨_, rfl, sumZ inn, by rw [add_mk, H1.cell (List.mem_cons_self ..)]; rfl, ?_⟩
  exact H.conv fun _ hs => ⟨rfl, hs⟩

theorem slab_fits (p N : Nat) (budget size less : Int) (inn : List (Int × Int)) (hN : N < 2 ^ 40) (hl : less ≤ 2 ^ 52) : Sp P f_slab_Slab_Fits #[.pointer (some (Addr.mk p 0 none)), .int .i64 size, .int .i64 less] (Slab p N budget inn)
    (fun v h => v = .bool (decide (classN size < 6 ∧ 0 ≤ less ∧ less ≤ sumZ inn ∧ sumZ inn - less + bytesZ (classN size) ≤ budget)) ∧ Slab p N budget inn h) := sp_of fun w h H => by
  apply cl_slab_Slab_Fits
  unfold c_slab_Slab_Fits
  refine H.pure (class_sp size) fun w2 H => ?_
  have hs0 := sumZ_nonneg (l := inn)
  have hbz : ∀ k : Nat, 0 ≤ bytesZ k ∧ bytesZ k ≤ 2048 := fun k => by
    have := sumZ_nonneg (l := [((k : Int), 0)])
    simp [sumZ] at this; omega
  have fin : ∀ {w' : World} {x : Bool}, St h w w' [Slab p N budget inn] → x = decide (classN size < 6 ∧ 0 ≤ less ∧ less ≤ sumZ inn ∧ sumZ inn - less + bytesZ (classN size) ≤ budget) →
      St h w w' [fun h => (Value.bool x) = .bool (decide (classN size < 6 ∧ 0 ≤ less ∧ less ≤ sumZ inn ∧ sumZ inn - less + bytesZ (classN size) ≤ budget)) ∧ Slab p N budget inn h] := fun H e => H.conv fun _ hs => ⟨by rw [e], hs⟩
  by_cases hk : classN size < 6
  · refine ⟨classN size, 0, by rw [classV, if_pos hk], fun w5 e5 => ?_⟩
    have H := H.drew e5
    refine br (fun _ => br (fun h1 => ?_) fun h1 => ?_) fun h => by simp at h
    · simp only [decide_eq_true_eq] at h1
      obtain ⟨r, es, mc, g, gl, m, i1, i2, H1⟩ := H.slabOpen
      have hmany := i1.many
      refine ⟨_, rfl, sumZ inn, by rw [add_mk, H1.cell (List.mem_cons_self ..)]; rfl, br (fun h2 => ?_) fun h2 => ?_⟩
      · simp only [decide_eq_true_eq] at h2
        refine ⟨_, rfl, sumZ inn, by rw [add_mk, H1.cell (List.mem_cons_self ..)]; rfl, _, rfl, budget, by rw [add_mk, H1.cell (List.mem_cons_self ..)]; rfl, ?_⟩
        refine H.pure (bytes_sp _) fun w3 H => ⟨_, rfl, ?_⟩
        obtain ⟨r, es, mc, g, gl, m, i1, i2, H1⟩ := H.slabOpen
        refine ⟨⟨_, by rw [add_mk, H1.cell (List.mem_cons_self ..)]; rfl, rfl⟩, ⟨_, by rw [add_mk, H1.cell (List.mem_cons_self ..)]; rfl, rfl⟩, fin H ?_⟩
        have := hbz (classN size)
        rw [wrap_i64 (n := sumZ inn - less) (by omega) (by omega), wrap_i64 (by omega) (by omega)]
        simp [hk, h1, h2]
      · simp only [decide_eq_false_iff_not] at h2
        exact fin H (by simp [h2])
    · simp only [decide_eq_false_iff_not] at h1
      exact fin H (by simp [h1])
  · refine ⟨0, 4, by rw [classV, if_neg hk], fun w5 e5 => ?_⟩
    have H := H.drew e5
    refine br (fun h => by simp at h) fun _ => fin H (by simp [hk])

theorem at_cls (p o k : Nat) : Addr.add (Addr.add (Addr.mk p 0 none) o) (Int.toNat (k : Int) * 1) = Addr.mk p (o + k) none := by
  rw [add_mk, add_mk, Int.toNat_natCast, Nat.mul_one, Nat.zero_add]

theorem slab_number {r : Nat} {g : Nat → Sl} {gl : Nat → List Int} {m : Nat → Int} {u : Int} {k : Nat} {K : Value → World → Prop} (H : St h0 w0 w (cl p T_slab_Slab (slabCells budget u r g m) :: gRow g gl k :: As)) (hk : k < 6) (hm : 0 ≤ m k ∧ m k < 2 ^ 62)
    (hl : (gl k).length < 2 ^ 40)
    (hK1 : ∀ (l : List Int) (x : Int) (y : Sl) (w' : World), gl k = l ++ [x] → St h0 w0 w' (cl p T_slab_Slab (slabCells budget u r (upd g k y) m) :: gRow (upd g k y) (upd gl k l) k :: As) → K (.int .i64 x) w')
    (hK2 : ∀ w' : World, gl k = [] → St h0 w0 w' (cl p T_slab_Slab (slabCells budget u r g (upd m k (m k + 1))) :: gRow g gl k :: As) → K (.int .i64 (m k)) w') :
    Cl P f_slab_Slab_number #[.pointer (some (Addr.mk p 0 none)), .int .i64 k] w K := by
  apply cl_slab_Slab_number
  unfold c_slab_Slab_number
  have hk6 : (k : Int) < ((6 : Nat) : Int) := by omega
  have hrow := H.swap.rowLen
  have hn : (g k).2.1 = (gl k).length := by have := hrow.1; simp [ints] at this; exact this.symm
  refine ⟨_, rfl, by omega, hk6, (g k).1, (g k).2.1, (g k).2.2, by rw [at_cls, H.cell (List.mem_cons_self ..)]; exact slab_gone hk, br (fun h1 => ?_) fun h1 => ?_⟩
  · simp only [decide_eq_true_eq] at h1
    intro w3 e3
    have H := H.drew e3
    have hpos : 0 < (gl k).length := by omega
    have ew : IntKind.i64.wrap (((g k).2.1 : Int) - 1) = (((gl k).length - 1 : Nat) : Int) := by rw [wrap_i64 (by omega) (by omega)]; omega
    have hle : (g k).2.1 ≤ (g k).2.2 := hrow.2
    rw [ew, show Int.toNat (((gl k).length - 1 : Nat) : Int) = (gl k).length - 1 from rfl]
    refine ⟨by omega, by omega, _, rfl, by omega, hk6, by rw [at_cls]; exact H.stOk (List.mem_cons_self ..) (by show _ < 15; omega), fun w5 e5 => ?_⟩
    rw [at_cls, offA_zero, Nat.sub_zero, Nat.sub_zero] at e5
    have H5 := H.set e5
    have := slab_setGone (b := budget) (u := u) (r := r) (g := g) (m := m) hk ((g k).1, (gl k).length - 1, (g k).2.2)
    simp only at this
    rw [this] at H5
    rcases H5.swap.rowOpen with ⟨_, _, h0', _⟩ | ⟨b, l, ea, hl1, ht, hle', H6⟩
    · omega
    · have hlast : (gl k) = (gl k).dropLast ++ [(gl k).getLast (by intro e; rw [e] at hpos; cases hpos)] := (List.dropLast_concat_getLast _).symm
      refine ⟨_, ea, by omega, by omega, (gl k).getLast (by intro e; rw [e] at hpos; cases hpos), ?_, ?_⟩
      · rw [add_mk, H6.cell (List.mem_cons_self ..), Nat.mul_one, Nat.zero_add]
        have h2 : (l.take ((g k).2.1 * 1))[(gl k).length - 1]? = some (.int .i64 ((gl k).getLast (by intro e; rw [e] at hpos; cases hpos))) := by
          rw [ht, ints, List.getElem?_map, List.getLast_eq_getElem, List.getElem?_eq_getElem (by omega)]; rfl
        rw [List.getElem?_take] at h2
        split at h2
        · exact h2
        · cases h2
      · refine hK1 _ _ ((g k).1, (gl k).length - 1, (g k).2.2) w5 hlast ?_
        have H7 := H6.rowMk (c := (g k).2.2) (sz := 1) (n := (gl k).length - 1) (by rw [hl1]) (by omega)
        have e1 : l.take (((gl k).length - 1) * 1) = ints (gl k).dropLast := by
          have : l.take (((gl k).length - 1) * 1) = (l.take ((g k).2.1 * 1)).take ((gl k).length - 1) := by
            rw [List.take_take]; congr 1; omega
          rw [this, ht, ints, ints, ← List.map_take, List.dropLast_eq_take]
        rw [e1] at H7
        have e2 : gRow (upd g k ((g k).1, (gl k).length - 1, (g k).2.2)) (upd gl k (gl k).dropLast) k = Row T_int 1 (some (Addr.mk b 0 none)) ((gl k).length - 1) (g k).2.2 (ints (gl k).dropLast) := by
          simp only [gRow, upd_same, ea]
        rw [e2]
        exact H7.swap
  · simp only [decide_eq_false_iff_not] at h1
    have hnil : gl k = [] := List.eq_nil_of_length_eq_zero (by omega)
    intro w3 e3
    have H := H.drew e3
    refine ⟨_, rfl, by omega, hk6, m k, by rw [at_cls, H.cell (List.mem_cons_self ..)]; exact slab_made hk, _, rfl, by omega, hk6, by rw [at_cls]; exact H.stOk (List.mem_cons_self ..) (by show _ < 15; omega), fun w5 e5 => ?_⟩
    rw [at_cls] at e5
    have H5 := H.set e5
    have ew : IntKind.i64.wrap (m k + 1) = m k + 1 := wrap_i64 (by omega) (by omega)
    rw [ew, slab_setMade hk] at H5
    refine ⟨_, rfl, by omega, hk6, m k + 1, by rw [at_cls, H5.cell (List.mem_cons_self ..), slab_made hk, upd_same], ?_⟩
    have e1 : IntKind.i64.wrap (m k + 1 - 1) = m k := by rw [wrap_i64 (by omega) (by omega)]; omega
    rw [e1]
    exact hK2 w5 hnil H5

theorem bytesN_range (k : Nat) : 0 ≤ bytesZ k ∧ bytesZ k ≤ 2048 := by
  have := sumZ_nonneg (l := [((k : Int), 0)])
  simp [sumZ] at this; omega

/-- A chunk is taken. -/
theorem slab_take (p N : Nat) (budget size : Int) (inn : List (Int × Int)) (hN : N < 2 ^ 32) (hc : classN size < 6) (hf : sumZ inn + bytesZ (classN size) ≤ budget) :
    Sp P f_slab_Slab_Take #[.pointer (some (Addr.mk p 0 none)), .int .i64 size] (Slab p N budget inn)
      (fun v h => ∃ no, ((classN size : Int), no) ∉ inn ∧ v = .tuple #[chV ((classN size : Int), no), .int .i64 0] ∧ Slab p (N + 1) budget (((classN size : Int), no) :: inn) h) := sp_of fun w h H => by
  apply cl_slab_Slab_Take
  unfold c_slab_Slab_Take
  intro b1 w2 e1 e2
  have H := H.newCells (cs := [.int .i64 0, .int .i64 0]) e1 e2
  refine H.pure (class_sp size) fun w4 H => ⟨classN size, 0, by rw [classV, if_pos hc], ?_⟩
  have hbz := bytesN_range (classN size)
  have hs0 := sumZ_nonneg (l := inn)
  refine br (fun h => by simp at h) fun _ => fun w10 e10 => ?_
  have H := (H.drew e10).swap
  obtain ⟨r, es, mc, g, gl, m, i1, i2, H⟩ := H.slabOpen
  have hmany := i1.many
  refine ⟨_, rfl, sumZ inn, by rw [add_mk, H.cell (List.mem_cons_self ..)]; rfl, _, rfl, budget, by rw [add_mk, H.cell (List.mem_cons_self ..)]; rfl, ?_⟩
  refine H.pure (bytes_sp _) fun w16 H => ⟨_, rfl, ⟨_, by rw [add_mk, H.cell (List.mem_cons_self ..)]; rfl, rfl⟩, ⟨_, by rw [add_mk, H.cell (List.mem_cons_self ..)]; rfl, rfl⟩, ?_⟩
  have ew : IntKind.i64.wrap (sumZ inn + bytesZ (classN size)) = sumZ inn + bytesZ (classN size) := wrap_i64 (by omega) (by omega)
  rw [ew]
  refine br (fun h => by simp only [decide_eq_true_eq] at h; omega) fun _ => ?_
  -- the number
  have hm := i1.made _ hc
  have hg := i1.gone _ hc
  have H := (H.pull3.bagOut hc).pull3
  -- from the number on
  refine Cl.mono (R := fun v w24 => ∃ (no : Int) (g' : Nat → Sl) (gl' : Nat → List Int) (m' : Nat → Int), v = .int .i64 no ∧ ((classN size : Int), no) ∉ inn ∧ SlabInv (N + 1) (((classN size : Int), no) :: inn) gl' m' ∧
      St h w w24 [bag 6 (gRow g' gl'), cl p T_slab_Slab (slabCells budget (sumZ inn) r g' m'), mp r es mc, cl b1 T_api_Chunk [.int .i64 0, .int .i64 0]]) ?_ ?_
  · refine slab_number H hc ⟨hm.1, by have := hm.2; omega⟩ (by omega) (fun l x y w24 hl H => ?_) (fun w24 hl H => ?_)
    · have hx : x ∈ gl (classN size) := by rw [hl]; simp
      have hno : ((classN size : Int), x) ∉ inn := fun hin => (i1.used _ hin).2.2.2.2 hx
      refine ⟨x, upd g (classN size) y, upd gl (classN size) l, m, rfl, hno, ⟨fun k hk => ?_, fun k hk => ?_, fun z hz => ?_, List.nodup_cons.2 ⟨hno, i1.dist⟩, by simp; omega⟩, H.push3.bagIn hc fun j hj => by simp only [gRow, upd_ne hj]⟩
      · have := i1.made k hk; omega
      · by_cases e : k = classN size
        · subst e
          have h1 := hg.1
          rw [hl] at h1
          have h2 := List.nodup_append.1 h1
          rw [upd_same]
          refine ⟨h2.1, ?_, fun z hz => hg.2.2 z (by rw [hl]; exact List.mem_append_left _ hz)⟩
          have := hg.2.1
          rw [hl] at this; simp at this; omega
        · rw [upd_ne e]
          have := i1.gone k hk
          exact ⟨this.1, by omega, this.2.2⟩
      · rcases List.mem_cons.1 hz with rfl | hz
        · have h3 := hg.2.2 x hx
          refine ⟨by simp, by simp; omega, h3.1, by simpa using h3.2, ?_⟩
          simp only [Int.toNat_natCast, upd_same]
          have h1 := hg.1
          rw [hl] at h1
          have h2 := (List.nodup_append.1 h1).2.2
          exact fun hm => h2 x hm x (by simp) rfl
        · obtain ⟨u1, u2, u3, u4, u5⟩ := i1.used z hz
          refine ⟨u1, u2, u3, u4, ?_⟩
          by_cases e : z.1.toNat = classN size
          · rw [e, upd_same]
            rw [e, hl] at u5
            exact fun hm => u5 (List.mem_append_left _ hm)
          · rw [upd_ne e]; exact u5
    · have hno : ((classN size : Int), m (classN size)) ∉ inn := fun hin => by
        have := (i1.used _ hin).2.2.2.1
        simp at this
      refine ⟨m (classN size), g, gl, upd m (classN size) (m (classN size) + 1), rfl, hno, ⟨fun k hk => ?_, fun k hk => ?_, fun z hz => ?_, List.nodup_cons.2 ⟨hno, i1.dist⟩, by simp; omega⟩, H.push3.bagIn hc fun j hj => rfl⟩
      · by_cases e : k = classN size
        · subst e; rw [upd_same]; omega
        · rw [upd_ne e]; have := i1.made k hk; omega
      · have := i1.gone k hk
        refine ⟨this.1, by omega, fun z hz => ?_⟩
        have h3 := this.2.2 z hz
        by_cases e : k = classN size
        · subst e; rw [upd_same]; omega
        · rw [upd_ne e]; exact h3
      · rcases List.mem_cons.1 hz with rfl | hz
        · refine ⟨by simp, by simp; omega, hm.1, by simp [upd_same]; omega, ?_⟩
          simp [hl]
        · obtain ⟨u1, u2, u3, u4, u5⟩ := i1.used z hz
          refine ⟨u1, u2, u3, ?_, u5⟩
          by_cases e : z.1.toNat = classN size
          · rw [e, upd_same]; rw [e] at u4; omega
          · rw [upd_ne e]; exact u4
  · rintro v w24 ⟨no, g', gl', m', rfl, hno, inv, H⟩
    refine ⟨no, rfl, fun b26 w27 e26 e27 => ?_⟩
    have H := H.newCells (cs := [.int .i64 0, .int .i64 0]) e26 e27
    refine ⟨H.wr m0 (by simp), fun w28 e28 => ?_⟩
    have H := H.setSpan0 e28
    refine fun w29 e29 => ?_
    have H := H.drew e29
    refine ⟨_, rfl, sumZ inn, by rw [add_mk, H.cell m2]; rfl, ?_⟩
    refine H.pure (bytes_sp _) fun w33 H => ⟨_, rfl, ⟨_, by rw [add_mk, H.cell m2]; rfl, rfl⟩, _, rfl, by rw [add_mk]; exact H.stOk m2 (by show _ < 15; omega), fun w37 e37 => ?_⟩
    rw [add_mk, ew] at e37
    have H := H.pull3.set e37
    rw [show 0 + 1 = 1 from rfl, slab_setUsed] at H
    intro w38 e38
    have H := H.drew e38
    refine ⟨_, rfl, some r, by rw [add_mk, H.cell m0]; rfl, classN size, no, H.spanAll m1, ?_⟩
    rw [onSome_some]
    refine ⟨es, mc, H.mapAt m3, i2.keys, fun w46 e46 => ?_⟩
    obtain ⟨es', mc', eput, i2'⟩ := mapIs_put i2 (chV_fits ((classN size : Int), no)) (.bool true) mc
    have H := H.pull4.putObj (e46.trans (by rw [show (Value.agg #[.int .i64 (classN size : Int), .int .i64 no]) = chV ((classN size : Int), no) from rfl, eput]))
    refine ⟨classN size, no, H.spanAll m2, H.wr m4 (by simp), fun w49 e49 => ?_⟩
    have H := H.pull5.setSpan0 e49
    refine ⟨classN size, no, H.spanAll m0, ?_⟩
    -- the end
    have H := H.drop
    have H : St h w w49 [cl p T_slab_Slab (slabCells budget (sumZ (((classN size : Int), no) :: inn)) r g' m'), mp r es' mc', bag 6 (gRow g' gl')] := by
      have e : sumZ inn + bytesZ (classN size : Int) = sumZ (((classN size : Int), no) :: inn) := by simp only [sumZ]; omega
      rw [e] at H
      exact H.swap.pull3.drop
    have i3 : MapIs .pair es' (inMap (((classN size : Int), no) :: inn)) := i2'.congr fun k hk => by
      unfold inMap
      rw [List.any_cons]
      cases kEq k (chV ((classN size : Int), no)) <;> rfl
    exact (St.slabMk inv i3 H).conv fun _ hs => ⟨no, hno, rfl, hs⟩

/-- A chunk is let go. -/
theorem slab_free (p N : Nat) (budget : Int) (inn : List (Int × Int)) (x : Int × Int) (hN : N < 2 ^ 32) (hx : x ∈ inn) :
    Sp P f_slab_Slab_Free #[.pointer (some (Addr.mk p 0 none)), chV x] (Slab p N budget inn) (fun v h => v = .int .i64 0 ∧ Slab p (N + 1) budget (inn.erase x) h) := sp_of fun w h H => by
  obtain ⟨c, no⟩ := x
  apply cl_slab_Slab_Free
  unfold c_slab_Slab_Free
  intro b1 w2 e1 e2 w3 e3
  have H := ((H.newCells (cs := [.int .i64 c, .int .i64 no]) e1 e2).drew e3).swap
  obtain ⟨r, es, mc, g, gl, m, i1, i2, H⟩ := H.slabOpen
  obtain ⟨u1, u2, u3, u4, u5⟩ := i1.used _ hx
  obtain ⟨k, rfl⟩ : ∃ k : Nat, c = k := ⟨c.toNat, by omega⟩
  have hk : k < 6 := by simp only at u2; omega
  have hk6 : (k : Int) < ((6 : Nat) : Int) := by omega
  simp only [Int.toNat_natCast] at u4 u5
  have hs0 := sumZ_nonneg (l := inn)
  have hmany := i1.many
  have hbz := bytesN_range k
  have hg := i1.gone k hk
  refine ⟨_, rfl, some r, by rw [add_mk, H.cell m0]; rfl, k, no, H.spanAll m3, ?_⟩
  rw [onSome_some]
  refine ⟨es, mc, H.mapAt m1, i2.keys, true, ?_, br (fun h => by simp at h) fun _ => ?_⟩
  · have := i2.holds (chV ((k : Int), no)) (chV_fits _)
    rw [inMap_mem, if_pos hx] at this
    rw [show (Value.agg #[.int .i64 (k : Int), .int .i64 no]) = chV ((k : Int), no) from rfl, this]; rfl
  intro w12 e12
  have H := H.drew e12
  refine ⟨_, rfl, some r, by rw [add_mk, H.cell m0]; rfl, k, no, H.spanAll m3, ?_⟩
  rw [onSome_some]
  refine ⟨es, mc, H.mapAt m1, i2.keys, fun w20 e20 w21 e21 => ?_⟩
  obtain ⟨es', mc', edel, i2'⟩ := mapIs_del i2 (chV_fits ((k : Int), no)) mc
  have H := ((H.swap.putObj (e20.trans (by rw [show (Value.agg #[.int .i64 (k : Int), .int .i64 no]) = chV ((k : Int), no) from rfl, edel]))).drew e21)
  -- [map, cells, bag, b1]
  have H := H.pull3.bagOut hk
  -- [row, but, map, cells, b1]
  refine ⟨k, by rw [add_mk, H.cell m4]; rfl, k, by rw [add_mk, H.cell m4]; rfl, _, rfl, by omega, hk6, (g k).1, (g k).2.1, (g k).2.2, by rw [at_cls, H.cell m3]; exact slab_gone hk, no, by rw [add_mk, H.cell m4]; rfl, _, rfl, fun b28 w29 e28 e29 => ?_⟩
  have H := H.newCells (cs := [.int .i64 no]) e28 e29
  refine ⟨⟨_, _, _, by rw [at_cls, H.cell m4]; exact slab_gone hk, rfl⟩, ⟨_, by rw [add_mk, H.cell m5]; rfl, rfl⟩, ⟨_, by rw [add_mk, H.cell m5]; rfl, rfl⟩, [.int .i64 no], ⟨rfl, H.spanAll m0⟩, ?_⟩
  have H := H.drop
  have hrow := H.rowLen
  have hn : (g k).2.1 = (gl k).length := by have := hrow.1; simp [ints] at this; exact this.symm
  refine H.rowAppend (sz := 1) (fun u hu => by rw [List.mem_singleton.1 hu]; rfl) rfl rfl (by omega) fun a34 c35 w36 H => ?_
  refine ⟨⟨_, by rw [add_mk, H.cell m4]; rfl, rfl⟩, by omega, hk6, by rw [at_cls]; exact H.stOk m3 (by show _ < 15; omega), fun w38 e38 w39 e39 => ?_⟩
  rw [at_cls] at e38
  have H := H.pull4.set e38
  have := slab_setGone (b := budget) (u := sumZ inn) (r := r) (g := g) (m := m) hk (a34, (g k).2.1 + 1, c35)
  simp only at this
  rw [this] at H
  have H := H.drew e39
  refine ⟨_, rfl, sumZ inn, by rw [add_mk, H.cell m0]; rfl, k, by rw [add_mk, H.cell m4]; rfl, ?_⟩
  refine H.pure (bytes_sp _) fun w44 H => ⟨_, rfl, ⟨_, by rw [add_mk, H.cell m0]; rfl, rfl⟩, _, rfl, by rw [add_mk]; exact H.stOk m0 (by show _ < 15; omega), fun w48 e48 => ?_⟩
  have hse := sumZ_erase hx
  simp only at hse
  rw [add_mk, wrap_i64 (by omega) (by omega), ← hse] at e48
  have H := H.set e48
  rw [show 0 + 1 = 1 from rfl, slab_setUsed] at H
  -- [cells, row, but, map, b1]
  have H := H.push3
  rw [show ints (gl k) ++ [Value.int .i64 no] = ints (gl k ++ [no]) by simp [ints]] at H
  have H := H.conv (A' := gRow (upd g k (a34, (g k).2.1 + 1, c35)) (upd gl k (gl k ++ [no])) k) fun _ hh => by simp only [gRow, upd_same]; exact hh
  have H := H.bagIn hk fun j hj => by simp only [gRow, upd_ne hj]
  have H := H.push3.pull4.drop
  have inv : SlabInv (N + 1) (inn.erase ((k : Int), no)) (upd gl k (gl k ++ [no])) m := by
    refine ⟨fun j hj => ?_, fun j hj => ?_, fun z hz => ?_, i1.dist.erase _, ?_⟩
    · have := i1.made j hj; omega
    · have h3 := i1.gone j hj
      by_cases e : j = k
      · subst e
        rw [upd_same]
        refine ⟨List.nodup_append.2 ⟨h3.1, by simp, fun a ha b hb hab => ?_⟩, by simp; omega, fun z hz => ?_⟩
        · rw [List.mem_singleton.1 hb] at hab; exact u5 (hab ▸ ha)
        · rcases List.mem_append.1 hz with hz | hz
          · exact h3.2.2 z hz
          · rw [List.mem_singleton.1 hz]; exact ⟨u3, u4⟩
      · rw [upd_ne e]; exact ⟨h3.1, by omega, h3.2.2⟩
    · have hzi := List.mem_of_mem_erase hz
      obtain ⟨v1, v2, v3, v4, v5⟩ := i1.used z hzi
      refine ⟨v1, v2, v3, v4, ?_⟩
      by_cases e : z.1.toNat = k
      · rw [e, upd_same]
        rw [e] at v5
        intro hm
        rcases List.mem_append.1 hm with hm | hm
        · exact v5 hm
        · have hz2 := List.mem_singleton.1 hm
          have : z = ((k : Int), no) := Prod.ext (by simp only; omega) hz2
          rw [this] at hz
          exact absurd hz i1.dist.not_mem_erase
      · rw [upd_ne e]; exact v5
    · rw [List.length_erase_of_mem hx]; omega
  have i3 : MapIs .pair es' (inMap (inn.erase ((k : Int), no))) := i2'.congr fun q hq => by
    obtain ⟨a, b, rfl⟩ := fits_pair hq
    rw [show (Value.agg #[.int .i64 a, .int .i64 b]) = chV (a, b) from rfl, inMap_mem, inMap_mem, kEq_chV]
    by_cases e : (a, b) = ((k : Int), no)
    · rw [e]
      simp [i1.dist.not_mem_erase]
    · have : decide ((a, b) = ((k : Int), no)) = false := by simpa using e
      rw [this, cond_false]
      have hiff : (a, b) ∈ inn.erase ((k : Int), no) ↔ (a, b) ∈ inn := ⟨List.mem_of_mem_erase, fun h => (List.mem_erase_of_ne e).2 h⟩
      by_cases hm : (a, b) ∈ inn
      · rw [if_pos hm, if_pos (hiff.2 hm)]
      · rw [if_neg hm, if_neg (fun h => hm (hiff.1 h))]
  exact (St.slabMk inv i3 H).conv fun _ hs => ⟨rfl, hs⟩
end
end Go.Bty
