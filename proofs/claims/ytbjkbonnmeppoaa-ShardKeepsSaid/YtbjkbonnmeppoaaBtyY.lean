/- The sketch: counters of four bits, and the judge over filter and sketch. -/
import Derived.Test.YtbjkbonnmeppoaaBtyX
namespace Go.Bty
open Go
open Go.Proofs.Try renaming prog → P

def skCells (seed : Int) (bs : List Int) (age : Int) : List Value := .int .u64 seed :: (bs.map (.int .u8) ++ [.int .i64 age])
def Sketch (k : Nat) (seed : Int) (bs : List Int) (age : Int) : HP := pur (bs.length = 128 ∧ 0 ≤ age ∧ age < 640) (cl k T_sketch_Sketch (skCells seed bs age))
def shZ (c : Nat) : Int := IntKind.i64.wrap ((4 : Int) * ((c % 2 : Nat) : Int))
def getM (bs : List Int) (row c : Nat) : Int := IntKind.i64.wrap (IntKind.u8.wrap ((BitVec.ofInt (IntKind.bits .u8) (Int.fdiv (bs.getD (row * 32 + c / 2) 0) (2 ^ (min (Int.toNat (shZ c)) (IntKind.bits .u8)))) &&& BitVec.ofInt (IntKind.bits .u8) (15 : Int)).toNat : Int))
def raiseM (bs : List Int) (row c : Nat) : List Int := if getM bs row c < 15 then bs.set (row * 32 + c / 2) (IntKind.u8.wrap (bs.getD (row * 32 + c / 2) 0 + IntKind.u8.wrap ((1 : Int) * 2 ^ (min (Int.toNat (shZ c)) (IntKind.bits .u8))))) else bs
def halveB (b : Int) : Int := IntKind.u8.wrap ((BitVec.ofInt (IntKind.bits .u8) (Int.fdiv b (2 ^ (min (Int.toNat (1 : Int)) (IntKind.bits .u8)))) &&& BitVec.ofInt (IntKind.bits .u8) (119 : Int)).toNat : Int)
def countRows (seed : Int) (s : ByteArray) (bs : List Int) (n : Nat) : List Int := (List.range n).foldl (fun bs i => raiseM bs i (placeN seed s 64 i)) bs
def countM (seed : Int) (s : ByteArray) (bs : List Int) (n : Nat) : Int := (List.range n).foldl (fun m i => let x := getM bs i (placeN seed s 64 i); if x < m then x else m) 15

theorem div2 {c : Nat} (hc : c < 64) : IntKind.i64.wrap (Int.tdiv (c : Int) (2 : Int)) = ((c / 2 : Nat) : Int) := by
  rw [show Int.tdiv (c : Int) (2 : Int) = ((c / 2 : Nat) : Int) from rfl, wrap_i64 (by omega) (by omega)]
theorem mod2 (c : Nat) : Int.tmod (c : Int) (2 : Int) = ((c % 2 : Nat) : Int) := rfl
theorem at_byte (k row j : Nat) : Addr.add (Addr.add (Addr.add (Addr.mk k 0 none) 1) (Int.toNat (row : Int) * 32)) (Int.toNat (j : Int) * 1) = Addr.mk k (row * 32 + j + 1) none := by
  rw [add_mk, add_mk, add_mk, Int.toNat_natCast, Int.toNat_natCast, Nat.mul_one, Nat.zero_add]
  congr 1; omega
theorem sk_get {seed age : Int} {bs : List Int} {j : Nat} (hj : j < bs.length) : (skCells seed bs age)[j + 1]? = some (.int .u8 (bs.getD j 0)) := by
  rw [skCells, List.getElem?_cons_succ, List.getElem?_append_left (by simpa using hj), List.getElem?_map, List.getD_eq_getElem?_getD, List.getElem?_eq_getElem hj]; rfl
theorem sk_set {seed age : Int} {bs : List Int} {j : Nat} {x : Int} (hj : j < bs.length) : (skCells seed bs age).set (j + 1) (.int .u8 x) = skCells seed (bs.set j x) age := by
  simp only [skCells, List.set_cons_succ]
  rw [List.set_append_left _ _ (by simpa using hj), List.map_set]
theorem sk_age {seed age : Int} {bs : List Int} (hl : bs.length = 128) : (skCells seed bs age)[129]? = some (.int .i64 age) := by
  rw [skCells, List.getElem?_cons_succ, List.getElem?_append_right (by simp [hl])]
  simp [hl]
theorem sk_setAge {seed age x : Int} {bs : List Int} (hl : bs.length = 128) : (skCells seed bs age).set 129 (.int .i64 x) = skCells seed bs x := by
  simp only [skCells, List.set_cons_succ]
  rw [List.set_append_right _ _ (by simp [hl])]
  simp [hl]
theorem sk_len {seed age : Int} {bs : List Int} (hl : bs.length = 128) : (skCells seed bs age).length = 130 := by simp [skCells, hl]
theorem sh_nonneg (c : Nat) : 0 ≤ shZ c := by unfold shZ; rw [wrap_i64 (by omega) (by omega)]; omega

section
variable {h0 : Frag} {w0 w : World} {As : List HP} {k : Nat} {seed age : Int} {bs : List Int} {K : Value → World → Prop}
theorem sk_getSp (H : St h0 w0 w (cl k T_sketch_Sketch (skCells seed bs age) :: As)) (hl : bs.length = 128) {row c : Nat} (hr : row < 4) (hc : c < 64)
    (hK : St h0 w0 w (cl k T_sketch_Sketch (skCells seed bs age) :: As) → K (.int .i64 (getM bs row c)) w) : Cl P f_sketch_Sketch_get #[.pointer (some (Addr.mk k 0 none)), .int .i64 row, .int .i64 c] w K := by
  apply cl_sketch_Sketch_get
  unfold c_sketch_Sketch_get
  rw [div2 hc, mod2]
  exact ⟨by omega, _, rfl, by omega, by omega, by omega, by omega, bs.getD (row * 32 + c / 2) 0, by rw [at_byte, H.cell m0]; exact sk_get (by omega), by omega, sh_nonneg c, hK H⟩

theorem raiseM_len (bs : List Int) (row c : Nat) : (raiseM bs row c).length = bs.length := by unfold raiseM; split <;> simp
theorem sk_raise (H : St h0 w0 w (cl k T_sketch_Sketch (skCells seed bs age) :: As)) (hl : bs.length = 128) {row c : Nat} (hr : row < 4) (hc : c < 64)
    (hK : ∀ w', St h0 w0 w' (cl k T_sketch_Sketch (skCells seed (raiseM bs row c) age) :: As) → K (.tuple #[]) w') : Cl P f_sketch_Sketch_raise #[.pointer (some (Addr.mk k 0 none)), .int .i64 row, .int .i64 c] w K := by
  apply cl_sketch_Sketch_raise
  unfold c_sketch_Sketch_raise
  refine sk_getSp H hl hr hc fun H => ⟨_, rfl, br (fun h1 => ?_) fun h1 => ?_⟩
  · simp only [decide_eq_true_eq] at h1
    intro w4 e4
    have H := H.drew e4
    rw [div2 hc, mod2]
    refine ⟨by omega, _, rfl, by omega, by omega, by omega, by omega, bs.getD (row * 32 + c / 2) 0, by rw [at_byte, H.cell m0]; exact sk_get (by omega), by omega, sh_nonneg c, _, rfl, by omega, by omega, by omega, by omega, by rw [at_byte]; exact H.stOk m0 (by rw [sk_len hl]; omega), fun w8 e8 => ?_⟩
    rw [at_byte] at e8
    have H := H.set e8
    rw [sk_set (by omega)] at H
    refine hK _ ?_
    rw [raiseM, if_pos h1]
    exact H
  · simp only [decide_eq_false_iff_not] at h1
    refine hK _ ?_
    rw [raiseM, if_neg h1]
    exact H

theorem countRows_succ (seed : Int) (s : ByteArray) (bs : List Int) (n : Nat) : countRows seed s bs (n + 1) = raiseM (countRows seed s bs n) n (placeN seed s 64 n) := by
  unfold countRows; rw [List.range_succ, List.foldl_append]; rfl
theorem countRows_len (seed : Int) (s : ByteArray) (bs : List Int) (n : Nat) : (countRows seed s bs n).length = bs.length := by
  induction n with
  | zero => rfl
  | succ n ih => rw [countRows_succ, raiseM_len, ih]
theorem countM_succ (seed : Int) (s : ByteArray) (bs : List Int) (n : Nat) : countM seed s bs (n + 1) = if getM bs n (placeN seed s 64 n) < countM seed s bs n then getM bs n (placeN seed s 64 n) else countM seed s bs n := by
  unfold countM; rw [List.range_succ, List.foldl_append]; rfl

/-- All bytes ahead of place n are halved. -/
def halveN (bs : List Int) (n : Nat) : List Int := (bs.take n).map halveB ++ bs.drop n
theorem halveN_len (bs : List Int) (n : Nat) : (halveN bs n).length = bs.length := by
  simp only [halveN, List.length_append, List.length_map, List.length_take, List.length_drop]; omega
theorem halveN_succ {bs : List Int} {n : Nat} (hn : n < bs.length) : (halveN bs n).set n (halveB ((halveN bs n).getD n 0)) = halveN bs (n + 1) := by
  have hl : ((bs.take n).map halveB).length = n := by simp; omega
  have hg : (halveN bs n).getD n 0 = bs[n] := by
    rw [List.getD_eq_getElem?_getD, halveN, List.getElem?_append_right (by omega), hl, Nat.sub_self, List.getElem?_drop, Nat.add_zero, List.getElem?_eq_getElem hn]; rfl
  rw [hg]
  unfold halveN
  rw [List.set_append_right _ _ (by omega), hl, Nat.sub_self, List.take_succ_eq_append_getElem hn, List.map_append, List.append_assoc]
  congr 1
  rw [← List.getElem_cons_drop hn]
  rfl

theorem sk_halve (H : St h0 w0 w (cl k T_sketch_Sketch (skCells seed bs age) :: As)) (hl : bs.length = 128)
    (hK : ∀ w', St h0 w0 w' (cl k T_sketch_Sketch (skCells seed (bs.map halveB) 320) :: As) → K (.tuple #[]) w') : Cl P f_sketch_Sketch_halve #[.pointer (some (Addr.mk k 0 none))] w K := by
  apply cl_sketch_Sketch_halve
  unfold c_sketch_Sketch_halve
  refine ⟨fun vs w' => ∃ i : Nat, i ≤ 4 ∧ vs = [.int .i64 i] ∧ St h0 w0 w' (cl k T_sketch_Sketch (skCells seed (halveN bs (i * 32)) age) :: As), fun vs _ => match vs with | [.int _ i] => 4 - i.toNat | _ => 0, ⟨0, by omega, rfl, by simpa [halveN] using H⟩, ?_⟩
  rintro vs w4 ⟨i, hi, rfl, H⟩
  refine ⟨i, rfl, br (fun hc => ?_) fun hc => ?_⟩
  · simp only [decide_eq_true_eq] at hc
    refine ⟨fun vs w' => ∃ j : Nat, j ≤ 32 ∧ vs = [.int .i64 j] ∧ St h0 w0 w' (cl k T_sketch_Sketch (skCells seed (halveN bs (i * 32 + j)) age) :: As), fun vs _ => match vs with | [.int _ j] => 32 - j.toNat | _ => 0, ⟨0, by omega, rfl, H⟩, ?_⟩
    rintro vs w9 ⟨j, hj, rfl, H⟩
    refine ⟨j, rfl, br (fun hc2 => ?_) fun hc2 => ?_⟩
    · simp only [decide_eq_true_eq] at hc2
      intro w11 e11
      have H := H.drew e11
      have hlen := halveN_len bs (i * 32 + j)
      refine ⟨_, rfl, by omega, by omega, by omega, by omega, (halveN bs (i * 32 + j)).getD (i * 32 + j) 0, by rw [at_byte, H.cell m0]; exact sk_get (by omega), by omega, _, rfl, by omega, by omega, by omega, by omega, by rw [at_byte]; exact H.stOk m0 (by rw [sk_len (by omega)]; omega), fun w15 e15 => ?_⟩
      rw [at_byte] at e15
      have H := H.set e15
      rw [sk_set (by omega)] at H
      have ew : IntKind.i64.wrap ((j : Int) + 1) = ((j + 1 : Nat) : Int) := by rw [wrap_i64 (by omega) (by omega)]; omega
      rw [ew]
      refine ⟨⟨j + 1, by omega, rfl, ?_⟩, by simp; omega⟩
      have := halveN_succ (bs := bs) (n := i * 32 + j) (by omega)
      rw [← Nat.add_assoc, ← this]
      exact H
    · simp only [decide_eq_false_iff_not] at hc2
      have : j = 32 := by omega
      subst this
      have ew : IntKind.i64.wrap ((i : Int) + 1) = ((i + 1 : Nat) : Int) := by rw [wrap_i64 (by omega) (by omega)]; omega
      rw [ew]
      refine ⟨⟨i + 1, by omega, rfl, ?_⟩, by simp; omega⟩
      rw [Nat.add_mul, Nat.one_mul]
      exact H
  · simp only [decide_eq_false_iff_not] at hc
    have : i = 4 := by omega
    subst this
    have hlen := halveN_len bs (4 * 32)
    refine ⟨_, rfl, by rw [add_mk]; exact H.stOk m0 (by rw [sk_len (by omega)]; omega), fun w17 e17 => ?_⟩
    rw [add_mk] at e17
    have H := H.set e17
    rw [show 0 + 129 = 129 from rfl, sk_setAge (by omega)] at H
    refine hK _ ?_
    have e : halveN bs (4 * 32) = bs.map halveB := by
      unfold halveN
      rw [List.take_of_length_le (by omega), List.drop_eq_nil_of_le (by omega), List.append_nil]
    rw [← e]
    exact H
end

def sketchAdd (seed : Int) (s : ByteArray) (bs : List Int) (age : Int) : List Int × Int × Bool :=
  let b := countRows seed s bs 4
  if age + 1 < 640 then (b, age + 1, false) else (b.map halveB, 320, true)

theorem sketch_add (k : Nat) (seed : Int) (bs : List Int) (age : Int) (s : ByteArray) (hs : s.size < 2 ^ 62) : Sp P f_sketch_Sketch_Add #[.pointer (some (Addr.mk k 0 none)), .string s] (Sketch k seed bs age)
    (fun v h => v = .bool (sketchAdd seed s bs age).2.2 ∧ Sketch k seed (sketchAdd seed s bs age).1 (sketchAdd seed s bs age).2.1 h) := sp_of fun w h H => by
  apply cl_sketch_Sketch_Add
  unfold c_sketch_Sketch_Add
  intro b1 w2 e1 e2
  have H := H.newCells (cs := [.pointer (some (Addr.mk k 0 none))]) e1 e2
  obtain ⟨⟨hl, ha, ha2⟩, H⟩ := H.swap.purOpen
  -- [k, b1]
  refine ⟨_, by rw [H.cell m1]; rfl, _, rfl, seed, by rw [add_mk, H.cell m0]; rfl, ?_⟩
  refine several_sp H fun c1 c3 c5 w9 H => ⟨_, rfl, ?_⟩
  refine ⟨by kernel_rfl, fun Lp lp D l w13 eD el ew hLp hst hpe hLs HY => ?_⟩
  have H := (H.alloc (b := D) (o := .deferred (some [])) eD rfl).alloc (b := l) (o := .loop lp) (by rw [el, World.size_alloc]) ew
  let C : Nat → List HP := fun i => [cl k T_sketch_Sketch (skCells seed (countRows seed s bs i) age), cl b1 T_p_sketch_Sketch [.pointer (some (Addr.mk k 0 none))]]
  let X : Nat → HP := fun i => LpX l D Lp (C i)
  have H0 : St h w w13 (X 0 :: cl c5 T_int [.int .i64 ((4 : Nat) : Int)] :: cl c3 T_string [.string s] :: cl c1 T_uint64 [.int .u64 seed] :: []) :=
    St.lpxMk (C 0) hLp hst hpe H.pull5.push7.pull4.push6.pull3.push5
  refine several1 (Z := fun _ => False) hs (by omega) ?_ H0 ?_ ?_
  · intro i h0 w0 w As K hi H K1 K2
    obtain ⟨lp, q1, q2, q3, H⟩ := H.lpx
    refine ⟨rfl, HY w lp _ K q1 (H.get m0) q2 rfl ⟨i, _, rfl, lp, H.get m0, q2, fun W2 e2 w24 e24 => ?_⟩⟩
    have H := (H.putObj e2).drew e24
    refine ⟨_, by rw [H.cell m3]; rfl, ?_⟩
    refine H.pure (place_sp seed s 64 i (by omega) (by omega)) fun w27 H => ⟨_, rfl, ⟨_, by rw [H.cell m3]; rfl, rfl⟩, ?_⟩
    have hp := place_lt seed s 64 i (by omega)
    refine sk_raise H.pull3 (by rw [countRows_len]; exact hl) hi hp fun w31 H => ⟨rfl, ?_⟩
    rw [← countRows_succ] at H
    refine ⟨_, H.get m1, fun w33 e33 => ?_⟩
    have H := H.swap.putObj e33
    exact K1 _ (St.lpxMk (C (i + 1)) (hLs _ _ _ (hLs _ _ _ q1)) rfl rfl H.swap.push3)
  · intro w38 H
    obtain ⟨lp, q1, q2, q3, H⟩ := H.lpx
    refine ⟨lp, H.get m0, by rw [q2]; simp, fun w36 e36 => ?_⟩
    have H := H.putObj e36
    rw [q3, pendR_none]
    have hl4 : (countRows seed s bs 4).length = 128 := by rw [countRows_len]; exact hl
    refine ⟨_, by rw [H.cell m3]; rfl, _, rfl, age, by rw [add_mk, H.cell m2]; exact sk_age hl4, _, rfl, by rw [add_mk]; exact H.stOk m2 (by rw [sk_len hl4]; omega), fun w42 e42 => ?_⟩
    rw [add_mk, wrap_i64 (by omega) (by omega)] at e42
    have H := H.pull3.set e42
    rw [show 0 + 129 = 129 from rfl, sk_setAge hl4] at H
    -- [k, lp, D, b1]
    refine ⟨_, by rw [H.cell m3]; rfl, _, rfl, age + 1, by rw [add_mk, H.cell m0]; exact sk_age hl4, br (fun hc => ?_) fun hc => ?_⟩
    · simp only [decide_eq_true_eq] at hc
      refine ⟨H.get m2, fun w46 e46 => ?_⟩
      have H := H.pull3.putObj e46
      have e : sketchAdd seed s bs age = (countRows seed s bs 4, age + 1, false) := by simp only [sketchAdd, if_pos hc]
      rw [e]
      exact (H.only m1).conv fun _ hs => ⟨rfl, ⟨hl4, by show 0 ≤ age + 1; omega, hc⟩, hs⟩
    · simp only [decide_eq_false_iff_not] at hc
      refine ⟨_, by rw [H.cell m3]; rfl, ?_⟩
      refine sk_halve H hl4 fun w49 H => ⟨rfl, H.get m2, fun w50 e50 => ?_⟩
      have H := H.pull3.putObj e50
      have e : sketchAdd seed s bs age = ((countRows seed s bs 4).map halveB, 320, true) := by simp only [sketchAdd, if_neg hc]
      rw [e]
      exact (H.only m1).conv fun _ hs => ⟨rfl, ⟨by simpa using hl4, by show (0 : Int) ≤ 320; omega, by show (320 : Int) < 640; omega⟩, hs⟩
  · intro w38 H
    exact (H.facts fun _ h => h).elim

theorem sketch_count (k : Nat) (seed : Int) (bs : List Int) (age : Int) (s : ByteArray) (hs : s.size < 2 ^ 62) : Sp P f_sketch_Sketch_Count #[.pointer (some (Addr.mk k 0 none)), .string s] (Sketch k seed bs age)
    (fun v h => v = .int .i64 (countM seed s bs 4) ∧ Sketch k seed bs age h) := sp_of fun w h H => by
  apply cl_sketch_Sketch_Count
  unfold c_sketch_Sketch_Count
  intro b1 w2 e1 e2 b3 w4 e3 e4
  have H := (H.newCells (cs := [.pointer (some (Addr.mk k 0 none))]) e1 e2).newCells (cs := [.int .i64 0]) e3 e4
  refine ⟨H.stOk m0 (by simp), fun w5 e5 => ?_⟩
  have H := H.set e5
  obtain ⟨hall, H⟩ := H.pull3.purOpen
  have hl := hall.1
  -- [k, b3, b1]
  refine ⟨_, by rw [H.cell m2]; rfl, _, rfl, seed, by rw [add_mk, H.cell m0]; rfl, ?_⟩
  refine several_sp H fun c1 c3 c5 w9 H => ⟨_, rfl, ?_⟩
  refine ⟨by kernel_rfl, fun Lp lp D l w13 eD el ew hLp hst hpe hLs HY => ?_⟩
  have H := (H.alloc (b := D) (o := .deferred (some [])) eD rfl).alloc (b := l) (o := .loop lp) (by rw [el, World.size_alloc]) ew
  let C : Nat → List HP := fun i => [cl k T_sketch_Sketch (skCells seed bs age), cl b3 T_int [.int .i64 (countM seed s bs i)], cl b1 T_p_sketch_Sketch [.pointer (some (Addr.mk k 0 none))]]
  let X : Nat → HP := fun i => LpX l D Lp (C i)
  have H0 : St h w w13 (X 0 :: cl c5 T_int [.int .i64 ((4 : Nat) : Int)] :: cl c3 T_string [.string s] :: cl c1 T_uint64 [.int .u64 seed] :: []) :=
    St.lpxMk (C 0) hLp hst hpe H.pull5.push8.pull4.push7.pull3.push6
  refine several1 (Z := fun _ => False) hs (by omega) ?_ H0 ?_ ?_
  · intro i h0 w0 w As K hi H K1 K2
    obtain ⟨lp, q1, q2, q3, H⟩ := H.lpx
    refine ⟨rfl, HY w lp _ K q1 (H.get m0) q2 rfl ⟨i, _, rfl, lp, H.get m0, q2, fun W2 e2 w27 e27 => ?_⟩⟩
    have H := (H.putObj e2).drew e27
    refine ⟨countM seed s bs i, by rw [H.cell m3]; rfl, _, by rw [H.cell m4]; rfl, ?_⟩
    refine H.pure (place_sp seed s 64 i (by omega) (by omega)) fun w31 H => ⟨_, rfl, ⟨_, by rw [H.cell m4]; rfl, rfl⟩, ⟨_, by rw [H.cell m3]; rfl, rfl⟩, ?_⟩
    have hp := place_lt seed s 64 i (by omega)
    refine sk_getSp H.pull3 hl hi hp fun H => ⟨_, rfl, ⟨_, by rw [H.cell m3]; rfl, rfl⟩, H.stOk m3 (by simp), fun w39 e39 => ?_⟩
    -- [k, lp, D, b3, b1]
    have H := H.pull4.set e39
    refine ⟨_, H.get m2, fun w41 e41 => ?_⟩
    have H := H.pull3.putObj e41
    -- [lp, b3, k, D, b1]
    rw [← countM_succ] at H
    exact K1 _ (St.lpxMk (C (i + 1)) (hLs _ _ _ (hLs _ _ _ q1)) rfl rfl H.pull4.swap.pull4.push3)
  · intro w38 H
    obtain ⟨lp, q1, q2, q3, H⟩ := H.lpx
    refine ⟨lp, H.get m0, by rw [q2]; simp, fun w36 e36 => ?_⟩
    have H := H.putObj e36
    rw [q3, pendR_none]
    refine ⟨countM seed s bs 4, by rw [H.cell m3]; rfl, H.get m1, fun w47 e47 => ?_⟩
    have H := H.swap.putObj e47
    exact (H.only m2).conv fun _ hs => ⟨rfl, hall, hs⟩
  · intro w38 H
    exact (H.facts fun _ h => h).elim

theorem sketch_new (seed : Int) : Sp P f_sketch_New #[.int .u64 seed] (fun _ => True) (fun v h => ∃ k, v = .pointer (some (Addr.mk k 0 none)) ∧ Sketch k seed (List.replicate 128 0) 0 h) := sp_of fun w h H => by
  apply cl_sketch_New
  unfold c_sketch_New
  intro b1 w2 e1 e2
  have H := H.drop.newCells (b := b1) (cs := skCells seed (List.replicate 128 0) 0) e1 e2
  exact H.conv fun _ hs => ⟨b1, rfl, ⟨by simp, by omega, by omega⟩, hs⟩

/- ### The judge -/
structure JM where
  s1 : Int
  s2 : Int
  ws : List Int
  bs : List Int
  age : Int
def Judge (j : Nat) (m : JM) : HP := ex fun f => ex fun k => SepL [cl j T_tiny_Judge [.pointer (some (Addr.mk f 0 none)), .pointer (some (Addr.mk k 0 none))], Bloom f m.s1 m.ws, Sketch k m.s2 m.bs m.age]
def worthM (m : JM) (s : ByteArray) : Int := if hasM m.s1 m.ws s then countM m.s2 s m.bs 4 + 1 else countM m.s2 s m.bs 4
def touchM (m : JM) (s : ByteArray) : JM :=
  if hasM m.s1 m.ws s then
    let r := sketchAdd m.s2 s m.bs m.age
    { m with ws := if r.2.2 then List.replicate 8 0 else addM m.s1 m.ws s, bs := r.1, age := r.2.1 }
  else { m with ws := addM m.s1 m.ws s }
def newJ (seed : Int) : JM := ⟨seed, IntKind.u64.wrap (seed + 1), List.replicate 8 0, List.replicate 128 0, 0⟩

theorem tiny_new (seed : Int) : Sp P f_tiny_New #[.int .u64 seed] (fun _ => True) (fun v h => ∃ j, v = .pointer (some (Addr.mk j 0 none)) ∧ Judge j (newJ seed) h) := sp_of fun w h H => by
  apply cl_tiny_New
  unfold c_tiny_New
  refine H.call (bloom_new seed) fun v w2 H => ?_
  obtain ⟨f, H⟩ := H.exOpen
  obtain ⟨ev, H⟩ := H.purOpen
  refine ⟨_, ev, ?_⟩
  refine H.emp.call (sketch_new _) fun v w5 H => ?_
  obtain ⟨k, H⟩ := H.exOpen
  obtain ⟨ev, H⟩ := H.purOpen
  refine ⟨_, ev, fun b7 w8 e7 e8 => ?_⟩
  have H := H.newCells (cs := [.pointer (some (Addr.mk f 0 none)), .pointer (some (Addr.mk k 0 none))]) e7 e8
  have H := H.swap.push3
  refine St.cls [_, _, _] H fun _ hs => ⟨b7, rfl, f, k, hs⟩

theorem tiny_touch (j : Nat) (m : JM) (s : ByteArray) (hs : s.size < 2 ^ 62) : Sp P f_tiny_Judge_Touch #[.pointer (some (Addr.mk j 0 none)), .string s] (Judge j m) (fun v h => v = .tuple #[] ∧ Judge j (touchM m s) h) := sp_of fun w h H => by
  apply cl_tiny_Judge_Touch
  unfold c_tiny_Judge_Touch
  obtain ⟨f, H⟩ := H.exOpen
  obtain ⟨k, H⟩ := H.exOpen
  have H := H.split
  have fin : ∀ {w' : World} {ws bs : List Int} {age : Int}, St h w w' [cl j T_tiny_Judge [.pointer (some (Addr.mk f 0 none)), .pointer (some (Addr.mk k 0 none))], Bloom f m.s1 ws, Sketch k m.s2 bs age] → touchM m s = { m with ws := ws, bs := bs, age := age } →
      St h w w' [fun h => Value.tuple #[] = .tuple #[] ∧ Judge j (touchM m s) h] := fun H e => by
    rw [e]
    exact St.cls [_, _, _] H fun _ hs => ⟨rfl, f, k, hs⟩
  refine ⟨_, rfl, _, by rw [add_mk, H.cell m0]; rfl, ?_⟩
  refine H.swap.callV (bloom_add f m.s1 m.ws s hs) fun w4 H => ⟨_, rfl, ?_⟩
  cases hh : hasM m.s1 m.ws s with
  | false =>
    have e : touchM m s = { m with ws := addM m.s1 m.ws s, bs := m.bs, age := m.age } := by simp only [touchM, hh, Bool.false_eq_true, if_false]
    exact fin H.swap e
  | true =>
    refine ⟨_, rfl, _, by rw [add_mk, H.cell m1]; rfl, ?_⟩
    refine H.pull3.callV (sketch_add k m.s2 m.bs m.age s hs) fun w9 H => ⟨_, rfl, ?_⟩
    -- [k, f, j]
    cases hr : (sketchAdd m.s2 s m.bs m.age).2.2 with
    | false =>
      exact fin (ws := addM m.s1 m.ws s) H.push3.swap (by simp only [touchM, hh, if_true, hr, Bool.false_eq_true, if_false])
    | true =>
      refine ⟨_, rfl, _, by rw [add_mk, H.cell m2]; rfl, ?_⟩
      refine H.swap.callV (bloom_clear f m.s1 (addM m.s1 m.ws s)) fun w14 H => ⟨rfl, ?_⟩
      exact fin (ws := List.replicate 8 0) H.pull3 (by simp only [touchM, hh, if_true, hr])

theorem tiny_worth (j : Nat) (m : JM) (s : ByteArray) (hs : s.size < 2 ^ 62) (hc : 0 ≤ countM m.s2 s m.bs 4 ∧ countM m.s2 s m.bs 4 ≤ 15) : Sp P f_tiny_Judge_Worth #[.pointer (some (Addr.mk j 0 none)), .string s] (Judge j m) (fun v h => v = .int .i64 (worthM m s) ∧ Judge j m h) := sp_of fun w h H => by
  apply cl_tiny_Judge_Worth
  unfold c_tiny_Judge_Worth
  obtain ⟨f, H⟩ := H.exOpen
  obtain ⟨k, H⟩ := H.exOpen
  have H := H.split
  refine ⟨_, rfl, _, by rw [add_mk, H.cell m0]; rfl, ?_⟩
  refine H.pull3.callV (sketch_count k m.s2 m.bs m.age s hs) fun w4 H => ⟨_, rfl, _, rfl, _, by rw [add_mk, H.cell m1]; rfl, ?_⟩
  refine H.pull3.callV (bloom_has f m.s1 m.ws s hs) fun w9 H => ⟨_, rfl, ?_⟩
  -- [f, k, j]
  have H : St h w w9 [Judge j m] := St.cls [_, _, _] H.pull3 fun _ hs => ⟨f, k, hs⟩
  cases hh : hasM m.s1 m.ws s with
  | false => exact H.conv fun _ hs => ⟨by simp only [worthM, hh, Bool.false_eq_true, if_false], hs⟩
  | true =>
    exact H.conv fun _ hs => ⟨by simp only [worthM, hh, if_true]; rw [wrap_i64 (by omega) (by omega)], hs⟩

theorem wrap_u8_range (n : Int) : 0 ≤ IntKind.u8.wrap n ∧ IntKind.u8.wrap n < 256 := by
  show 0 ≤ (if (false && decide (n % (256 : Int) ≥ (128 : Int))) = true then n % (256 : Int) - (256 : Int) else n % (256 : Int)) ∧ (if (false && decide (n % (256 : Int) ≥ (128 : Int))) = true then n % (256 : Int) - (256 : Int) else n % (256 : Int)) < 256
  simp only [Bool.false_and, Bool.false_eq_true, if_false]
  omega
theorem getM_range (bs : List Int) (row c : Nat) : 0 ≤ getM bs row c := by
  unfold getM
  have := wrap_u8_range ((BitVec.ofInt (IntKind.bits .u8) (Int.fdiv (bs.getD (row * 32 + c / 2) 0) (2 ^ (min (Int.toNat (shZ c)) (IntKind.bits .u8)))) &&& BitVec.ofInt (IntKind.bits .u8) (15 : Int)).toNat : Int)
  rw [wrap_i64 (by omega) (by omega)]
  exact this.1
theorem countM_range (seed : Int) (s : ByteArray) (bs : List Int) (n : Nat) : 0 ≤ countM seed s bs n ∧ countM seed s bs n ≤ 15 := by
  induction n with
  | zero => exact ⟨by show (0 : Int) ≤ 15; omega, by show (15 : Int) ≤ 15; omega⟩
  | succ n ih =>
    rw [countM_succ]
    have := getM_range bs n (placeN seed s 64 n)
    split <;> omega

theorem tiny_admit (j : Nat) (m : JM) (s old : ByteArray) (hs : s.size < 2 ^ 62) (ho : old.size < 2 ^ 62) : Sp P f_tiny_Judge_Admit #[.pointer (some (Addr.mk j 0 none)), .string s, .string old] (Judge j m) (fun v h => v = .bool (decide (worthM m s > worthM m old)) ∧ Judge j m h) := sp_of fun w h H => by
  apply cl_tiny_Judge_Admit
  unfold c_tiny_Judge_Admit
  refine H.callV (tiny_worth j m s hs (countM_range ..)) fun w2 H => ⟨_, rfl, ?_⟩
  refine H.callV (tiny_worth j m old ho (countM_range ..)) fun w5 H => ⟨_, rfl, ?_⟩
  exact H.conv fun _ hs => ⟨rfl, hs⟩
end Go.Bty
