/- Hashes: what they are, one by one. -/
/- The filter: bits at hashes' places. -/
/- The sketch: counters of four bits, and the judge over filter and sketch. -/
import Derived.Test.YtbjkbonnmeppoaaPkC
import Derived.Test.YtbjkbonnmeppoaaJudgeC
namespace Go.Bty
open Go
open Go.Proofs.Try renaming prog → P

def xsZ (n k : Int) : Int := IntKind.u64.wrap ((BitVec.ofInt (IntKind.bits .u64) n ^^^ BitVec.ofInt (IntKind.bits .u64) (Int.fdiv n (2 ^ (min (Int.toNat k) (IntKind.bits .u64))))).toNat : Int)
def mixZ (n : Int) : Int := xsZ (IntKind.u64.wrap (xsZ (IntKind.u64.wrap (xsZ n (30 : Int) * (13787848793156543929 : Int))) (27 : Int) * (10723151780598845931 : Int))) (31 : Int)
def stepZ (h : Int) (b : UInt8) : Int := IntKind.u64.wrap ((IntKind.u64.wrap ((BitVec.ofInt (IntKind.bits .u64) h ^^^ BitVec.ofInt (IntKind.bits .u64) (IntKind.u64.wrap ((UInt8.toNat b : Nat) : Int))).toNat : Int)) * (1099511628211 : Int))
def hashZ (seed : Int) (s : ByteArray) : Int := mixZ (s.data.toList.foldl stepZ (mixZ seed))
def belowZ (h n : Int) : Int := if n < 1 then 0 else IntKind.i64.wrap (Int.tmod h (IntKind.u64.wrap n))

theorem mix_sp (n : Int) : Pu P f_hash_Mix #[.int .u64 n] (.int .u64 (mixZ n)) := pu_of fun w h H => by
  apply cl_hash_Mix
  unfold c_hash_Mix
  exact ⟨by omega, by omega, by omega, rfl, H⟩

theorem below_sp (h n : Int) (hn : n < 2 ^ 62) : Pu P f_hash_Below #[.int .u64 h, .int .i64 n] (.int .i64 (belowZ h n)) := pu_of fun w h0 H => by
  apply cl_hash_Below
  unfold c_hash_Below
  refine br (fun h1 => ?_) fun h1 => ?_
  · simp only [decide_eq_true_eq] at h1
    exact ⟨by simp only [belowZ, if_pos h1], H⟩
  · simp only [decide_eq_false_iff_not] at h1
    refine ⟨by rw [wrap_u64 (by omega) (by omega)]; omega, by simp only [belowZ, if_neg h1], H⟩

theorem byte_get (s : ByteArray) (i : Nat) : s[i]? = s.data.toList[i]? := by
  cases s
  rename_i a
  show (ByteArray.mk a)[i]? = a.toList[i]?
  rw [Array.getElem?_toList]
  rfl

theorem hash_sp (seed : Int) (s : ByteArray) (hs : s.size < 2 ^ 62) : Pu P f_hash_Of #[.int .u64 seed, .string s] (.int .u64 (hashZ seed s)) := pu_of fun w h0 H => by
  apply cl_hash_Of
  unfold c_hash_Of
  refine H.pure (mix_sp _) fun w2 H => ⟨_, rfl, ?_⟩
  have hl : s.data.toList.length = s.size := rfl
  refine ⟨fun vs w' => ∃ i : Nat, i ≤ s.size ∧ vs = [.int .u64 ((s.data.toList.take i).foldl stepZ (mixZ seed)), .int .i64 i] ∧ St h0 w w' [], fun vs _ => match vs with | [_, .int _ i] => s.size - i.toNat | _ => 0, ⟨0, by omega, rfl, H⟩, ?_⟩
  rintro vs w7 ⟨i, hi, rfl, H⟩
  refine ⟨_, i, rfl, br (fun hc => ?_) fun hc => ?_⟩
  · simp only [decide_eq_true_eq] at hc
    have hlt : i < s.data.toList.length := by omega
    have ew : IntKind.i64.wrap ((i : Int) + 1) = ((i + 1 : Nat) : Int) := by rw [wrap_i64 (by omega) (by omega)]; omega
    refine ⟨by omega, s.data.toList[i], by rw [Int.toNat_natCast, byte_get, List.getElem?_eq_getElem hlt], ?_⟩
    rw [ew]
    refine ⟨⟨i + 1, by omega, ?_, H⟩, by simp; omega⟩
    rw [List.take_succ_eq_append_getElem hlt, List.foldl_append]
    rfl
  · simp only [decide_eq_false_iff_not] at hc
    have : i = s.size := by omega
    subst this
    refine H.pure (mix_sp _) fun w12 H => ⟨_, rfl, ?_, H⟩
    rw [hashZ, ← hl, List.take_length]

section
variable {h0 : Frag} {w0 w : World} {As : List HP}
theorem several_sp {seed many : Int} {s : ByteArray} {K : Value → World → Prop} (H : St h0 w0 w As)
    (hK : ∀ b1 b3 b5 w', St h0 w0 w' (cl b5 T_int [.int .i64 many] :: cl b3 T_string [.string s] :: cl b1 T_uint64 [.int .u64 seed] :: As) → K (.func (.func f_hash_Several_1) #[] #[.pointer (some (Addr.mk b5 0 none)), .pointer (some (Addr.mk b1 0 none)), .pointer (some (Addr.mk b3 0 none))]) w') :
    Cl P f_hash_Several #[.int .u64 seed, .string s, .int .i64 many] w K := by
  apply cl_hash_Several
  unfold c_hash_Several
  intro b1 w2 e1 e2 b3 w4 e3 e4 b5 w6 e5 e6
  exact hK b1 b3 b5 w6 (((H.newCells (cs := [.int .u64 seed]) e1 e2).newCells (cs := [.string s]) e3 e4).newCells (cs := [.int .i64 many]) e5 e6)

def hashI (seed : Int) (s : ByteArray) (i : Nat) : Int := hashZ (IntKind.u64.wrap (seed + IntKind.u64.wrap i)) s

/-- The hashes, one by one. -/
theorem several1 {y : Value} {X : Nat → HP} {Z : HP} {b1 b3 b5 : Nat} {seed : Int} {s : ByteArray} {many : Nat} {K : Value → World → Prop} (hs : s.size < 2 ^ 62) (hm : many < 2 ^ 60)
    (hy : ∀ i h0 w0 w As K, i < many → St h0 w0 w (X i :: As) → (∀ w', St h0 w0 w' (X (i + 1) :: As) → K (.bool true) w') → (∀ w', St h0 w0 w' (Z :: As) → K (.bool false) w') → FvCall P y [.int .i64 i, .int .u64 (hashI seed s i)] w K)
    (H : St h0 w0 w (X 0 :: cl b5 T_int [.int .i64 many] :: cl b3 T_string [.string s] :: cl b1 T_uint64 [.int .u64 seed] :: As))
    (hK1 : ∀ w', St h0 w0 w' (X many :: As) → K (.tuple #[]) w') (hK2 : ∀ w', St h0 w0 w' (Z :: As) → K (.tuple #[]) w') :
    Cl P f_hash_Several_1 #[y, .pointer (some (Addr.mk b5 0 none)), .pointer (some (Addr.mk b1 0 none)), .pointer (some (Addr.mk b3 0 none))] w K := by
  apply cl_hash_Several_1
  unfold c_hash_Several_1
  refine ⟨many, by rw [H.cell m1]; rfl, ?_⟩
  refine ⟨fun vs w' => ∃ i : Nat, i ≤ many ∧ vs = [.int .i64 i] ∧ St h0 w0 w' (X i :: cl b5 T_int [.int .i64 many] :: cl b3 T_string [.string s] :: cl b1 T_uint64 [.int .u64 seed] :: As),
    fun vs _ => match vs with | [.int _ i] => many - i.toNat | _ => 0, ⟨0, by omega, rfl, H⟩, ?_⟩
  rintro vs w5 ⟨i, hi, rfl, H⟩
  refine ⟨i, rfl, br (fun hc => ?_) fun hc => ?_⟩
  · simp only [decide_eq_true_eq] at hc
    have hlt : i < many := by omega
    refine ⟨seed, by rw [H.cell m3]; rfl, s, by rw [H.cell m2]; rfl, ?_⟩
    refine H.pure (hash_sp _ _ hs) fun w10 H => ⟨_, rfl, ?_⟩
    refine hy i _ _ _ _ _ hlt H (fun w13 H => ⟨true, rfl, br (fun h => by simp at h) fun _ => ?_⟩) fun w13 H => ⟨false, rfl, br (fun _ => ?_) fun h => by simp at h⟩
    · have ew : IntKind.i64.wrap ((i : Int) + 1) = ((i + 1 : Nat) : Int) := by rw [wrap_i64 (by omega) (by omega)]; omega
      rw [ew]
      exact ⟨⟨i + 1, hlt, rfl, H⟩, by simp; omega⟩
    · exact hK2 _ (H.swap.drop.swap.drop.swap.drop)
  · simp only [decide_eq_false_iff_not] at hc
    have : i = many := by omega
    subst this
    exact hK1 _ (H.swap.drop.swap.drop.swap.drop)
end
end Go.Bty

namespace Go.Bty
open Go
open Go.Proofs.Try renaming prog → P

theorem wrap_u64_range (n : Int) : 0 ≤ IntKind.u64.wrap n ∧ IntKind.u64.wrap n < 18446744073709551616 := by
  show 0 ≤ (if (false && decide (n % (18446744073709551616 : Int) ≥ (9223372036854775808 : Int))) = true then n % (18446744073709551616 : Int) - (18446744073709551616 : Int) else n % (18446744073709551616 : Int)) ∧ _ < _
  show _ ∧ (if (false && decide (n % (18446744073709551616 : Int) ≥ (9223372036854775808 : Int))) = true then n % (18446744073709551616 : Int) - (18446744073709551616 : Int) else n % (18446744073709551616 : Int)) < _
  simp only [Bool.false_and, Bool.false_eq_true, if_false]
  omega
theorem hash_range (seed : Int) (s : ByteArray) : 0 ≤ hashZ seed s ∧ hashZ seed s < 18446744073709551616 := wrap_u64_range _
/-- A hash as a number below n. -/
def belowN (h : Int) (n : Nat) : Nat := h.toNat % n
theorem below_eq {h : Int} {n : Nat} (h0 : 0 ≤ h) (hn : 1 ≤ n) (hn2 : n < 2 ^ 62) : belowZ h n = (belowN h n : Int) := by
  have hlt : h.toNat % n < n := Nat.mod_lt _ (by omega)
  simp only [belowZ, if_neg (by omega : ¬ (n : Int) < 1)]
  rw [wrap_u64 (by omega) (by omega)]
  obtain ⟨k, rfl⟩ : ∃ k : Nat, h = k := ⟨h.toNat, by omega⟩
  rw [show Int.tmod (k : Int) (n : Int) = ((k % n : Nat) : Int) from rfl]
  simp only [belowN, Int.toNat_natCast] at hlt ⊢
  rw [wrap_i64 (by omega) (by omega)]

def placeN (seed : Int) (s : ByteArray) (n i : Nat) : Nat := belowN (hashI seed s i) n
theorem place_sp (seed : Int) (s : ByteArray) (n i : Nat) (hn : 1 ≤ n) (hn2 : n < 2 ^ 62) : Pu P f_hash_Below #[.int .u64 (hashI seed s i), .int .i64 n] (.int .i64 (placeN seed s n i)) := by
  have := below_sp (hashI seed s i) n (by omega)
  rw [below_eq (show 0 ≤ hashI seed s i from (hash_range _ _).1) hn hn2] at this
  exact this
theorem place_lt (seed : Int) (s : ByteArray) (n i : Nat) (hn : 1 ≤ n) : placeN seed s n i < n := Nat.mod_lt _ (by omega)

/- ### Rounds of loops over functions -/
def LpX (l D : Nat) (Lp : Loop → Prop) (As : List HP) : HP := fun h => ∃ lp, Lp lp ∧ lp.state = .ready ∧ lp.pending = none ∧ SepL (pt l (.loop lp) :: pt D (.deferred (some [])) :: As) h
def LpZ (l D : Nat) (Lp : Loop → Prop) (c : Code) (As : List HP) : HP := fun h => ∃ lp, Lp lp ∧ lp.state = .done ∧ lp.pending = some c ∧ SepL (pt l (.loop lp) :: pt D (.deferred (some [])) :: As) h
def ex {α : Type} (A : α → HP) : HP := fun h => ∃ a, A a h
def pur (φ : Prop) (A : HP) : HP := fun h => φ ∧ A h

section
variable {h0 : Frag} {w0 w : World} {As Bs : List HP}
theorem St.exOpen {α : Type} {A : α → HP} (H : St h0 w0 w (ex A :: As)) : ∃ a, St h0 w0 w (A a :: As) := by
  obtain ⟨h, ⟨f, ⟨a, hA⟩, hr⟩, ho, hf⟩ := H
  exact ⟨a, h, ⟨f, hA, hr⟩, ho, hf⟩
theorem St.exMk {α : Type} {A : α → HP} (a : α) (H : St h0 w0 w (A a :: As)) : St h0 w0 w (ex A :: As) := H.conv fun _ h => ⟨a, h⟩
theorem St.purOpen {φ : Prop} {A : HP} (H : St h0 w0 w (pur φ A :: As)) : φ ∧ St h0 w0 w (A :: As) := ⟨H.facts fun _ h => h.1, H.conv fun _ h => h.2⟩
theorem St.purMk {φ : Prop} {A : HP} (hp : φ) (H : St h0 w0 w (A :: As)) : St h0 w0 w (pur φ A :: As) := H.conv fun _ h => ⟨hp, h⟩
theorem St.lpx {l D : Nat} {Lp : Loop → Prop} (H : St h0 w0 w (LpX l D Lp Bs :: As)) : ∃ lp, Lp lp ∧ lp.state = .ready ∧ lp.pending = none ∧ St h0 w0 w (pt l (.loop lp) :: pt D (.deferred (some [])) :: (Bs ++ As)) := by
  obtain ⟨h, ⟨lp, q1, q2, q3, q4⟩, hk⟩ := H.opn
  exact ⟨lp, q1, q2, q3, hk _ q4⟩
theorem St.lpz {l D : Nat} {Lp : Loop → Prop} {c : Code} (H : St h0 w0 w (LpZ l D Lp c Bs :: As)) : ∃ lp, Lp lp ∧ lp.state = .done ∧ lp.pending = some c ∧ St h0 w0 w (pt l (.loop lp) :: pt D (.deferred (some [])) :: (Bs ++ As)) := by
  obtain ⟨h, ⟨lp, q1, q2, q3, q4⟩, hk⟩ := H.opn
  exact ⟨lp, q1, q2, q3, hk _ q4⟩
theorem St.lpxMk (Bs : List HP) {l D : Nat} {Lp : Loop → Prop} {lp : Loop} (q1 : Lp lp) (q2 : lp.state = .ready) (q3 : lp.pending = none) (H : St h0 w0 w (pt l (.loop lp) :: pt D (.deferred (some [])) :: (Bs ++ As))) : St h0 w0 w (LpX l D Lp Bs :: As) :=
  St.cls (pt l (.loop lp) :: pt D (.deferred (some [])) :: Bs) H fun _ hs => ⟨lp, q1, q2, q3, hs⟩
theorem St.lpzMk (Bs : List HP) {l D : Nat} {Lp : Loop → Prop} {c : Code} {lp : Loop} (q1 : Lp lp) (q2 : lp.state = .done) (q3 : lp.pending = some c) (H : St h0 w0 w (pt l (.loop lp) :: pt D (.deferred (some [])) :: (Bs ++ As))) : St h0 w0 w (LpZ l D Lp c Bs :: As) :=
  St.cls (pt l (.loop lp) :: pt D (.deferred (some [])) :: Bs) H fun _ hs => ⟨lp, q1, q2, q3, hs⟩
end

section
variable {P : Program} {h0 : Frag} {w0 w : World} {As : List HP} {A B : HP} {f : FuncId} {args : Array Value} {x : Value} {K : Value → World → Prop}
theorem St.callV (H : St h0 w0 w (A :: As)) (hsp : Sp P f args A (fun v h => v = x ∧ B h)) (hk : ∀ w', St h0 w0 w' (B :: As) → K x w') : Cl P f args w K :=
  H.call hsp fun v w' H' => by
    have e : v = x := H'.facts fun _ h => h.1
    rw [e]
    exact hk w' (H'.conv fun _ h => h.2)
end

/- ### The filter -/
def u64s (ws : List Int) : List Value := ws.map (.int .u64)
def Bloom (f : Nat) (seed : Int) (ws : List Int) : HP := pur (ws.length = 8) (cl f T_bloom_Filter (.int .u64 seed :: u64s ws))
def bitB (ws : List Int) (p : Nat) : Bool := !((IntKind.u64.wrap ((BitVec.ofInt (IntKind.bits .u64) (Int.fdiv (ws.getD (p / 64) 0) (2 ^ (min (Int.toNat ((p % 64 : Nat) : Int)) (IntKind.bits .u64)))) &&& BitVec.ofInt (IntKind.bits .u64) (1 : Int)).toNat : Int)) == (0 : Int))
def setB (ws : List Int) (p : Nat) : List Int := ws.set (p / 64) (IntKind.u64.wrap ((BitVec.ofInt (IntKind.bits .u64) (ws.getD (p / 64) 0) ||| BitVec.ofInt (IntKind.bits .u64) (IntKind.u64.wrap ((1 : Int) * 2 ^ (min (Int.toNat ((p % 64 : Nat) : Int)) (IntKind.bits .u64))))).toNat : Int))
def hasM (seed : Int) (ws : List Int) (s : ByteArray) : Bool := (List.range 3).all fun i => bitB ws (placeN seed s 512 i)
def addM (seed : Int) (ws : List Int) (s : ByteArray) : List Int := (List.range 3).foldl (fun ws i => setB ws (placeN seed s 512 i)) ws

theorem div64 {p : Nat} (hp : p < 512) : IntKind.i64.wrap (Int.tdiv (p : Int) (64 : Int)) = ((p / 64 : Nat) : Int) := by
  rw [show Int.tdiv (p : Int) (64 : Int) = ((p / 64 : Nat) : Int) from rfl, wrap_i64 (by omega) (by omega)]
theorem mod64 (p : Nat) : Int.tmod (p : Int) (64 : Int) = ((p % 64 : Nat) : Int) := rfl
theorem at_word (f k : Nat) : Addr.add (Addr.add (Addr.mk f 0 none) 1) (Int.toNat ((k : Nat) : Int) * 1) = Addr.mk f (k + 1) none := by
  rw [add_mk, add_mk, Int.toNat_natCast, Nat.mul_one, Nat.zero_add, Nat.add_comm]

theorem bloom_has (f : Nat) (seed : Int) (ws : List Int) (s : ByteArray) (hs : s.size < 2 ^ 62) : Sp P f_bloom_Filter_Has #[.pointer (some (Addr.mk f 0 none)), .string s] (Bloom f seed ws) (fun v h => v = .bool (hasM seed ws s) ∧ Bloom f seed ws h) := sp_of fun w h H => by
  apply cl_bloom_Filter_Has
  unfold c_bloom_Filter_Has
  intro b1 w2 e1 e2 b3 w4 e3 e4
  have H := (H.newCells (cs := [.pointer (some (Addr.mk f 0 none))]) e1 e2).newCells (cs := [.bool false]) e3 e4
  obtain ⟨hw, H⟩ := H.pull3.purOpen
  -- [f, b3, b1]
  refine ⟨_, by rw [H.cell m2]; rfl, _, rfl, seed, by rw [add_mk, H.cell m0]; rfl, ?_⟩
  refine several_sp H fun c1 c3 c5 w9 H => ⟨_, rfl, ?_⟩
  refine ⟨by kernel_rfl, fun Lp lp D l w13 eD el ew hLp hst hpe hLs HY => ?_⟩
  have H := (H.alloc (b := D) (o := .deferred (some [])) eD rfl).alloc (b := l) (o := .loop lp) (by rw [el, World.size_alloc]) ew
  -- [lp, D, c5, c3, c1, f, b3, b1]
  let C : Bool → List HP := fun x => [cl f T_bloom_Filter (.int .u64 seed :: u64s ws), cl b3 T_bool [.bool x], cl b1 T_p_bloom_Filter [.pointer (some (Addr.mk f 0 none))]]
  let X : Nat → HP := fun i => pur (∀ j, j < i → bitB ws (placeN seed s 512 j) = true) (LpX l D Lp (C false))
  let Z : HP := pur (hasM seed ws s = false) (LpZ l D Lp .ret (C false))
  have H0 : St h w w13 (X 0 :: cl c5 T_int [.int .i64 ((3 : Nat) : Int)] :: cl c3 T_string [.string s] :: cl c1 T_uint64 [.int .u64 seed] :: []) :=
    St.purMk (fun j hj => absurd hj (by omega)) (St.lpxMk (C false) hLp hst hpe H.pull5.push8.pull4.push7.pull3.push6)
  refine several1 (Z := Z) hs (by omega) ?_ H0 ?_ ?_
  · intro i h0 w0 w As K hi H K1 K2
    obtain ⟨hb, H⟩ := H.purOpen
    obtain ⟨lp, q1, q2, q3, H⟩ := H.lpx
    refine ⟨rfl, HY w lp _ K q1 (H.get m0) q2 rfl ⟨i, _, rfl, lp, H.get m0, q2, fun W2 e2 => ?_⟩⟩
    have H := H.putObj e2
    refine H.pure (place_sp seed s 512 i (by omega) (by omega)) fun w27 H => ⟨_, rfl, ?_⟩
    have hp := place_lt seed s 512 i (by omega)
    rw [div64 hp, mod64]
    have hk : placeN seed s 512 i / 64 < 8 := by omega
    refine ⟨_, by rw [H.cell m4]; rfl, by omega, _, rfl, by omega, by omega, ws.getD (placeN seed s 512 i / 64) 0, ?_, by omega, by omega, br (fun hc => ?_) fun hc => ?_⟩
    · rw [at_word, H.cell m2, List.getElem?_cons_succ, u64s, List.getElem?_map, List.getD_eq_getElem?_getD, List.getElem?_eq_getElem (by omega)]; rfl
    · refine ⟨H.stOk m3 (by simp), fun w32 e32 => ?_⟩
      have H := H.pull4.set e32
      refine ⟨_, H.get m1, fun w34 e34 => ?_⟩
      have H := H.swap.putObj e34
      refine K2 _ (St.purMk ?_ (St.lpzMk (C false) (hLs _ _ _ (hLs _ _ _ q1)) rfl rfl (H.swap.push4)))
      have hfb : bitB ws (placeN seed s 512 i) = false := by unfold bitB; rw [hc]; rfl
      have : hasM seed ws s = false := by
        unfold hasM
        rw [List.all_eq_false]
        exact ⟨i, List.mem_range.2 hi, by rw [hfb]; simp⟩
      exact this
    · refine ⟨_, H.get m0, fun w36 e36 => ?_⟩
      have H := H.putObj e36
      refine K1 _ (St.purMk (fun j hj => ?_) (St.lpxMk (C false) (hLs _ _ _ (hLs _ _ _ q1)) rfl rfl H))
      by_cases e : j = i
      · subst e; unfold bitB; rw [hc]; rfl
      · exact hb j (by omega)
  · intro w38 H
    obtain ⟨hb, H⟩ := H.purOpen
    obtain ⟨lp, q1, q2, q3, H⟩ := H.lpx
    refine ⟨lp, H.get m0, by rw [q2]; simp, fun w39 e39 => ?_⟩
    have H := H.putObj e39
    rw [q3, pendR_none]
    refine ⟨H.stOk m3 (by simp), fun w41 e41 => ?_⟩
    have H := H.pull4.set e41
    refine ⟨H.get m2, fun w42 e42 => ?_⟩
    have H := H.pull3.putObj e42
    refine ⟨_, by rw [H.cell m1]; rfl, ?_⟩
    have : hasM seed ws s = true := by
      unfold hasM
      rw [List.all_eq_true]
      exact fun i hi => hb i (List.mem_range.1 hi)
    rw [this]
    exact (H.only m3).conv fun _ hs => ⟨rfl, hw, hs⟩
  · intro w38 H
    obtain ⟨hb, H⟩ := H.purOpen
    obtain ⟨lp, q1, q2, q3, H⟩ := H.lpz
    refine ⟨lp, H.get m0, by rw [q2]; simp, fun w39 e39 => ?_⟩
    have H := H.putObj e39
    rw [q3, pendR_ret]
    refine ⟨H.get m1, fun w44 e44 => ?_⟩
    have H := H.swap.putObj e44
    refine ⟨_, by rw [H.cell m3]; rfl, ?_⟩
    rw [hb]
    exact (H.only m2).conv fun _ hs => ⟨rfl, hw, hs⟩

theorem setB_length (ws : List Int) (p : Nat) : (setB ws p).length = ws.length := by simp [setB]
theorem set_word {seed : Int} {ws : List Int} {k : Nat} {x : Int} : (Value.int .u64 seed :: u64s ws).set (k + 1) (.int .u64 x) = .int .u64 seed :: u64s (ws.set k x) := by
  simp [u64s, List.map_set]
theorem addM_take (seed : Int) (s : ByteArray) (i : Nat) (ws : List Int) : ((List.range (i + 1)).foldl (fun ws i => setB ws (placeN seed s 512 i)) ws) = setB ((List.range i).foldl (fun ws i => setB ws (placeN seed s 512 i)) ws) (placeN seed s 512 i) := by
  rw [List.range_succ, List.foldl_append]; rfl
theorem addM_len (seed : Int) (s : ByteArray) (i : Nat) (ws : List Int) : ((List.range i).foldl (fun ws i => setB ws (placeN seed s 512 i)) ws).length = ws.length := by
  induction i with
  | zero => rfl
  | succ i ih => rw [addM_take, setB_length, ih]

theorem bloom_add (f : Nat) (seed : Int) (ws : List Int) (s : ByteArray) (hs : s.size < 2 ^ 62) : Sp P f_bloom_Filter_Add #[.pointer (some (Addr.mk f 0 none)), .string s] (Bloom f seed ws) (fun v h => v = .bool (hasM seed ws s) ∧ Bloom f seed (addM seed ws s) h) := sp_of fun w h H => by
  apply cl_bloom_Filter_Add
  unfold c_bloom_Filter_Add
  intro b1 w2 e1 e2
  have H := H.newCells (cs := [.pointer (some (Addr.mk f 0 none))]) e1 e2
  refine ⟨_, by rw [H.cell m0]; rfl, ?_⟩
  refine H.swap.callV (bloom_has f seed ws s hs) fun w5 H => ?_
  obtain ⟨hw, H⟩ := H.purOpen
  -- [f, b1]
  refine ⟨_, rfl, _, by rw [H.cell m1]; rfl, _, rfl, seed, by rw [add_mk, H.cell m0]; rfl, ?_⟩
  refine several_sp H fun c1 c3 c5 w9 H => ⟨_, rfl, ?_⟩
  refine ⟨by kernel_rfl, fun Lp lp D l w13 eD el ew hLp hst hpe hLs HY => ?_⟩
  have H := (H.alloc (b := D) (o := .deferred (some [])) eD rfl).alloc (b := l) (o := .loop lp) (by rw [el, World.size_alloc]) ew
  -- [lp, D, c5, c3, c1, f, b1]
  let W : Nat → List Int := fun i => (List.range i).foldl (fun ws i => setB ws (placeN seed s 512 i)) ws
  let C : Nat → List HP := fun i => [cl f T_bloom_Filter (.int .u64 seed :: u64s (W i)), cl b1 T_p_bloom_Filter [.pointer (some (Addr.mk f 0 none))]]
  let X : Nat → HP := fun i => LpX l D Lp (C i)
  have H0 : St h w w13 (X 0 :: cl c5 T_int [.int .i64 ((3 : Nat) : Int)] :: cl c3 T_string [.string s] :: cl c1 T_uint64 [.int .u64 seed] :: []) :=
    St.lpxMk (C 0) hLp hst hpe H.pull5.push7.pull4.push6.pull3.push5
  refine several1 (Z := fun _ => False) hs (by omega) ?_ H0 ?_ ?_
  · intro i h0 w0 w As K hi H K1 K2
    obtain ⟨lp, q1, q2, q3, H⟩ := H.lpx
    refine ⟨rfl, HY w lp _ K q1 (H.get m0) q2 rfl ⟨i, _, rfl, lp, H.get m0, q2, fun W2 e2 => ?_⟩⟩
    have H := H.putObj e2
    refine H.pure (place_sp seed s 512 i (by omega) (by omega)) fun w27 H => ⟨_, rfl, fun w31 e31 => ?_⟩
    have H := H.drew e31
    have hp := place_lt seed s 512 i (by omega)
    have hwl : (W i).length = 8 := by rw [addM_len]; exact hw
    rw [div64 hp, mod64]
    have hk : placeN seed s 512 i / 64 < 8 := by omega
    refine ⟨_, by rw [H.cell m3]; rfl, by omega, _, rfl, by omega, by omega, (W i).getD (placeN seed s 512 i / 64) 0, ?_, by omega, by omega, _, rfl, by omega, by omega, by rw [at_word]; exact H.stOk m2 (by simp [u64s]; omega), fun w36 e36 => ?_⟩
    · rw [at_word, H.cell m2, List.getElem?_cons_succ, u64s, List.getElem?_map, List.getD_eq_getElem?_getD, List.getElem?_eq_getElem (by omega)]; rfl
    · rw [at_word] at e36
      have H := H.pull3.set e36
      rw [set_word] at H
      refine ⟨_, H.get m1, fun w38 e38 => ?_⟩
      have H := H.swap.putObj e38
      rw [show (W i).set (placeN seed s 512 i / 64) _ = W (i + 1) from (addM_take ..).symm] at H
      exact K1 _ (St.lpxMk (C (i + 1)) (hLs _ _ _ (hLs _ _ _ q1)) rfl rfl H.swap.push3)
  · intro w38 H
    obtain ⟨lp, q1, q2, q3, H⟩ := H.lpx
    refine ⟨lp, H.get m0, by rw [q2]; simp, fun w39 e39 => ?_⟩
    have H := H.putObj e39
    rw [q3, pendR_none]
    refine ⟨H.get m1, fun w42 e42 => ?_⟩
    have H := H.swap.putObj e42
    exact (H.only m2).conv fun _ hs => ⟨rfl, by show (W 3).length = 8; rw [addM_len]; exact hw, hs⟩
  · intro w38 H
    exact (H.facts fun _ h => h).elim

theorem bloom_new (seed : Int) : Sp P f_bloom_New #[.int .u64 seed] (fun _ => True) (fun v h => ∃ f, v = .pointer (some (Addr.mk f 0 none)) ∧ Bloom f seed (List.replicate 8 0) h) := sp_of fun w h H => by
  apply cl_bloom_New
  unfold c_bloom_New
  intro b1 w2 e1 e2
  have H := H.drop.newCells (b := b1) (cs := .int .u64 seed :: u64s (List.replicate 8 0)) e1 e2
  exact H.conv fun _ hs => ⟨b1, rfl, rfl, hs⟩

theorem bloom_clear (f : Nat) (seed : Int) (ws : List Int) : Sp P f_bloom_Filter_Clear #[.pointer (some (Addr.mk f 0 none))] (Bloom f seed ws) (fun v h => v = .tuple #[] ∧ Bloom f seed (List.replicate 8 0) h) := sp_of fun w h H => by
  apply cl_bloom_Filter_Clear
  unfold c_bloom_Filter_Clear
  obtain ⟨hw, H⟩ := H.purOpen
  have e0 : offB (Addr.add (Addr.mk f 0 none) 1) 8 0 1 = Addr.mk f 1 none := by rw [add_mk]; simp [offB, add_mk]
  refine ⟨_, rfl, ?_⟩
  rw [e0]
  refine ⟨fun _ => ⟨_, rfl, H.wr m0 (by simp [u64s, hw])⟩, fun w2 e2 => ?_⟩
  have H := H.setSpan0 e2
  have e : setL (Value.int .u64 seed :: u64s ws) 1 (zc (8 - 0) [Value.int .u64 0]) = .int .u64 seed :: u64s (List.replicate 8 0) := by
    rw [setL_eq _ _ _ (by simp [zc, u64s, hw])]
    have : (Value.int .u64 seed :: u64s ws).drop (1 + (zc (8 - 0) [Value.int .u64 0]).length) = [] := List.drop_eq_nil_of_le (by simp [zc, u64s, hw])
    rw [this]
    rfl
  rw [e] at H
  exact H.conv fun _ hs => ⟨rfl, rfl, hs⟩
end Go.Bty

namespace Go.Bty
open Go
open Go.Proofs.Try renaming prog → P

def skCells (seed : Int) (bs : List Int) (age : Int) : List Value := .int .u64 seed :: (bs.map (.int .u8) ++ [.int .i64 age])
def Sketch (k : Nat) (seed : Int) (bs : List Int) (age : Int) : HP := pur (bs.length = 128 ∧ 0 ≤ age ∧ age < 640) (cl k T_sketch_Sketch (skCells seed bs age))
def shZ (c : Nat) : Int := IntKind.i64.wrap ((4 : Int) * ((c % 2 : Nat) : Int))
def getM (bs : List Int) (row c : Nat) : Int := IntKind.i64.wrap (IntKind.u8.wrap ((BitVec.ofInt (IntKind.bits .u8) (Int.fdiv (bs.getD (row * 32 + c / 2) 0) (2 ^ (min (Int.toNat (shZ c)) (IntKind.bits .u8)))) &&& BitVec.ofInt (IntKind.bits .u8) (15 : Int)).toNat : Int))
def raiseM (bs : List Int) (row c : Nat) : List Int := if getM bs row c < 15 then bs.set (row * 32 + c / 2) (IntKind.u8.wrap (bs.getD (row * 32 + c / 2) 0 + IntKind.u8.wrap ((1 : Int) * 2 ^ (min (Int.toNat (shZ c)) (IntKind.bits .u8))))) else bs
def halveB (b : Int) : Int := IntKind.u8.wrap ((BitVec.ofInt (IntKind.bits .u8) (Int.fdiv b (2 ^ (min (Int.toNat (1 : Int)) (IntKind.bits .u8)))) &&& BitVec.ofInt (IntKind.bits .u8) (119 : Int)).toNat : Int)
def countRows (seed : Int) (s : ByteArray) (bs : List Int) (n : Nat) : List Int := (List.range n).foldl (fun bs i => raiseM bs i (placeN seed s 64 i)) bs
def countM (seed : Int) (s : ByteArray) (bs : List Int) (n : Nat) : Int := (List.range n).foldl (fun m i => let x := getM bs i (placeN seed s 64 i); if x < m then x else m) 15

theorem div2 {c : Nat} (hc : c < 64) : IntKind.i64.wrap (Int.tdiv (c : Int) (2 : Int)) = ((c / 2 : Nat) : Int) := by
  rw [show Int.tdiv (c : Int) (2 : Int) = ((c / 2 : Nat) : Int) from rfl, wrap_i64 (by omega) (by omega)]
theorem mod2 (c : Nat) : Int.tmod (c : Int) (2 : Int) = ((c % 2 : Nat) : Int) := rfl
theorem at_byte (k row j : Nat) : Addr.add (Addr.add (Addr.add (Addr.mk k 0 none) 1) (Int.toNat (row : Int) * 32)) (Int.toNat (j : Int) * 1) = Addr.mk k (row * 32 + j + 1) none := by
  rw [add_mk, add_mk, add_mk, Int.toNat_natCast, Int.toNat_natCast, Nat.mul_one, Nat.zero_add]
  congr 1; omega
theorem sk_get {seed age : Int} {bs : List Int} {j : Nat} (hj : j < bs.length) : (skCells seed bs age)[j + 1]? = some (.int .u8 (bs.getD j 0)) := by
  rw [skCells, List.getElem?_cons_succ, List.getElem?_append_left (by simpa using hj), List.getElem?_map, List.getD_eq_getElem?_getD, List.getElem?_eq_getElem hj]; rfl
theorem sk_set {seed age : Int} {bs : List Int} {j : Nat} {x : Int} (hj : j < bs.length) : (skCells seed bs age).set (j + 1) (.int .u8 x) = skCells seed (bs.set j x) age := by
  simp only [skCells, List.set_cons_succ]
  rw [List.set_append_left _ _ (by simpa using hj), List.map_set]
theorem sk_age {seed age : Int} {bs : List Int} (hl : bs.length = 128) : (skCells seed bs age)[129]? = some (.int .i64 age) := by
  rw [skCells, List.getElem?_cons_succ, List.getElem?_append_right (by simp [hl])]
  simp [hl]
theorem sk_setAge {seed age x : Int} {bs : List Int} (hl : bs.length = 128) : (skCells seed bs age).set 129 (.int .i64 x) = skCells seed bs x := by
  simp only [skCells, List.set_cons_succ]
  rw [List.set_append_right _ _ (by simp [hl])]
  simp [hl]
theorem sk_len {seed age : Int} {bs : List Int} (hl : bs.length = 128) : (skCells seed bs age).length = 130 := by simp [skCells, hl]
theorem sh_nonneg (c : Nat) : 0 ≤ shZ c := by unfold shZ; rw [wrap_i64 (by omega) (by omega)]; omega

section
variable {h0 : Frag} {w0 w : World} {As : List HP} {k : Nat} {seed age : Int} {bs : List Int} {K : Value → World → Prop}
theorem sk_getSp (H : St h0 w0 w (cl k T_sketch_Sketch (skCells seed bs age) :: As)) (hl : bs.length = 128) {row c : Nat} (hr : row < 4) (hc : c < 64)
    (hK : St h0 w0 w (cl k T_sketch_Sketch (skCells seed bs age) :: As) → K (.int .i64 (getM bs row c)) w) : Cl P f_sketch_Sketch_get #[.pointer (some (Addr.mk k 0 none)), .int .i64 row, .int .i64 c] w K := by
  apply cl_sketch_Sketch_get
  unfold c_sketch_Sketch_get
  rw [div2 hc, mod2]
  exact ⟨by omega, _, rfl, by omega, by omega, by omega, by omega, bs.getD (row * 32 + c / 2) 0, by rw [at_byte, H.cell m0]; exact sk_get (by omega), by omega, sh_nonneg c, hK H⟩

theorem raiseM_len (bs : List Int) (row c : Nat) : (raiseM bs row c).length = bs.length := by unfold raiseM; split <;> simp
theorem sk_raise (H : St h0 w0 w (cl k T_sketch_Sketch (skCells seed bs age) :: As)) (hl : bs.length = 128) {row c : Nat} (hr : row < 4) (hc : c < 64)
    (hK : ∀ w', St h0 w0 w' (cl k T_sketch_Sketch (skCells seed (raiseM bs row c) age) :: As) → K (.tuple #[]) w') : Cl P f_sketch_Sketch_raise #[.pointer (some (Addr.mk k 0 none)), .int .i64 row, .int .i64 c] w K := by
  apply cl_sketch_Sketch_raise
  unfold c_sketch_Sketch_raise
  refine sk_getSp H hl hr hc fun H => ⟨_, rfl, br (fun h1 => ?_) fun h1 => ?_⟩
  · simp only [decide_eq_true_eq] at h1
    intro w4 e4
    have H := H.drew e4
    rw [div2 hc, mod2]
    refine ⟨by omega, _, rfl, by omega, by omega, by omega, by omega, bs.getD (row * 32 + c / 2) 0, by rw [at_byte, H.cell m0]; exact sk_get (by omega), by omega, sh_nonneg c, _, rfl, by omega, by omega, by omega, by omega, by rw [at_byte]; exact H.stOk m0 (by rw [sk_len hl]; omega), fun w8 e8 => ?_⟩
    rw [at_byte] at e8
    have H := H.set e8
    rw [sk_set (by omega)] at H
    refine hK _ ?_
    rw [raiseM, if_pos h1]
    exact H
  · simp only [decide_eq_false_iff_not] at h1
    refine hK _ ?_
    rw [raiseM, if_neg h1]
    exact H

theorem countRows_succ (seed : Int) (s : ByteArray) (bs : List Int) (n : Nat) : countRows seed s bs (n + 1) = raiseM (countRows seed s bs n) n (placeN seed s 64 n) := by
  unfold countRows; rw [List.range_succ, List.foldl_append]; rfl
theorem countRows_len (seed : Int) (s : ByteArray) (bs : List Int) (n : Nat) : (countRows seed s bs n).length = bs.length := by
  induction n with
  | zero => rfl
  | succ n ih => rw [countRows_succ, raiseM_len, ih]
theorem countM_succ (seed : Int) (s : ByteArray) (bs : List Int) (n : Nat) : countM seed s bs (n + 1) = if getM bs n (placeN seed s 64 n) < countM seed s bs n then getM bs n (placeN seed s 64 n) else countM seed s bs n := by
  unfold countM; rw [List.range_succ, List.foldl_append]; rfl

/-- All bytes ahead of place n are halved. -/
def halveN (bs : List Int) (n : Nat) : List Int := (bs.take n).map halveB ++ bs.drop n
theorem halveN_len (bs : List Int) (n : Nat) : (halveN bs n).length = bs.length := by
  simp only [halveN, List.length_append, List.length_map, List.length_take, List.length_drop]; omega
theorem halveN_succ {bs : List Int} {n : Nat} (hn : n < bs.length) : (halveN bs n).set n (halveB ((halveN bs n).getD n 0)) = halveN bs (n + 1) := by
  have hl : ((bs.take n).map halveB).length = n := by simp; omega
  have hg : (halveN bs n).getD n 0 = bs[n] := by
    rw [List.getD_eq_getElem?_getD, halveN, List.getElem?_append_right (by omega), hl, Nat.sub_self, List.getElem?_drop, Nat.add_zero, List.getElem?_eq_getElem hn]; rfl
  rw [hg]
  unfold halveN
  rw [List.set_append_right _ _ (by omega), hl, Nat.sub_self, List.take_succ_eq_append_getElem hn, List.map_append, List.append_assoc]
  congr 1
  rw [← List.getElem_cons_drop hn]
  rfl

theorem sk_halve (H : St h0 w0 w (cl k T_sketch_Sketch (skCells seed bs age) :: As)) (hl : bs.length = 128)
    (hK : ∀ w', St h0 w0 w' (cl k T_sketch_Sketch (skCells seed (bs.map halveB) 320) :: As) → K (.tuple #[]) w') : Cl P f_sketch_Sketch_halve #[.pointer (some (Addr.mk k 0 none))] w K := by
  apply cl_sketch_Sketch_halve
  unfold c_sketch_Sketch_halve
  refine ⟨fun vs w' => ∃ i : Nat, i ≤ 4 ∧ vs = [.int .i64 i] ∧ St h0 w0 w' (cl k T_sketch_Sketch (skCells seed (halveN bs (i * 32)) age) :: As), fun vs _ => match vs with | [.int _ i] => 4 - i.toNat | _ => 0, ⟨0, by omega, rfl, by simpa [halveN] using H⟩, ?_⟩
  rintro vs w4 ⟨i, hi, rfl, H⟩
  refine ⟨i, rfl, br (fun hc => ?_) fun hc => ?_⟩
  · simp only [decide_eq_true_eq] at hc
    refine ⟨fun vs w' => ∃ j : Nat, j ≤ 32 ∧ vs = [.int .i64 j] ∧ St h0 w0 w' (cl k T_sketch_Sketch (skCells seed (halveN bs (i * 32 + j)) age) :: As), fun vs _ => match vs with | [.int _ j] => 32 - j.toNat | _ => 0, ⟨0, by omega, rfl, H⟩, ?_⟩
    rintro vs w9 ⟨j, hj, rfl, H⟩
    refine ⟨j, rfl, br (fun hc2 => ?_) fun hc2 => ?_⟩
    · simp only [decide_eq_true_eq] at hc2
      intro w11 e11
      have H := H.drew e11
      have hlen := halveN_len bs (i * 32 + j)
      refine ⟨_, rfl, by omega, by omega, by omega, by omega, (halveN bs (i * 32 + j)).getD (i * 32 + j) 0, by rw [at_byte, H.cell m0]; exact sk_get (by omega), by omega, _, rfl, by omega, by omega, by omega, by omega, by rw [at_byte]; exact H.stOk m0 (by rw [sk_len (by omega)]; omega), fun w15 e15 => ?_⟩
      rw [at_byte] at e15
      have H := H.set e15
      rw [sk_set (by omega)] at H
      have ew : IntKind.i64.wrap ((j : Int) + 1) = ((j + 1 : Nat) : Int) := by rw [wrap_i64 (by omega) (by omega)]; omega
      rw [ew]
      refine ⟨⟨j + 1, by omega, rfl, ?_⟩, by simp; omega⟩
      have := halveN_succ (bs := bs) (n := i * 32 + j) (by omega)
      rw [← Nat.add_assoc, ← this]
      exact H
    · simp only [decide_eq_false_iff_not] at hc2
      have : j = 32 := by omega
      subst this
      have ew : IntKind.i64.wrap ((i : Int) + 1) = ((i + 1 : Nat) : Int) := by rw [wrap_i64 (by omega) (by omega)]; omega
      rw [ew]
      refine ⟨⟨i + 1, by omega, rfl, ?_⟩, by simp; omega⟩
      rw [Nat.add_mul, Nat.one_mul]
      exact H
  · simp only [decide_eq_false_iff_not] at hc
    have : i = 4 := by omega
    subst this
    have hlen := halveN_len bs (4 * 32)
    refine ⟨_, rfl, by rw [add_mk]; exact H.stOk m0 (by rw [sk_len (by omega)]; omega), fun w17 e17 => ?_⟩
    rw [add_mk] at e17
    have H := H.set e17
    rw [show 0 + 129 = 129 from rfl, sk_setAge (by omega)] at H
    refine hK _ ?_
    have e : halveN bs (4 * 32) = bs.map halveB := by
      unfold halveN
      rw [List.take_of_length_le (by omega), List.drop_eq_nil_of_le (by omega), List.append_nil]
    rw [← e]
    exact H
end

def sketchAdd (seed : Int) (s : ByteArray) (bs : List Int) (age : Int) : List Int × Int × Bool :=
  let b := countRows seed s bs 4
  if age + 1 < 640 then (b, age + 1, false) else (b.map halveB, 320, true)

theorem sketch_add (k : Nat) (seed : Int) (bs : List Int) (age : Int) (s : ByteArray) (hs : s.size < 2 ^ 62) : Sp P f_sketch_Sketch_Add #[.pointer (some (Addr.mk k 0 none)), .string s] (Sketch k seed bs age)
    (fun v h => v = .bool (sketchAdd seed s bs age).2.2 ∧ Sketch k seed (sketchAdd seed s bs age).1 (sketchAdd seed s bs age).2.1 h) := sp_of fun w h H => by
  apply cl_sketch_Sketch_Add
  unfold c_sketch_Sketch_Add
  intro b1 w2 e1 e2
  have H := H.newCells (cs := [.pointer (some (Addr.mk k 0 none))]) e1 e2
  obtain ⟨⟨hl, ha, ha2⟩, H⟩ := H.swap.purOpen
  -- [k, b1]
  refine ⟨_, by rw [H.cell m1]; rfl, _, rfl, seed, by rw [add_mk, H.cell m0]; rfl, ?_⟩
  refine several_sp H fun c1 c3 c5 w9 H => ⟨_, rfl, ?_⟩
  refine ⟨by kernel_rfl, fun Lp lp D l w13 eD el ew hLp hst hpe hLs HY => ?_⟩
  have H := (H.alloc (b := D) (o := .deferred (some [])) eD rfl).alloc (b := l) (o := .loop lp) (by rw [el, World.size_alloc]) ew
  let C : Nat → List HP := fun i => [cl k T_sketch_Sketch (skCells seed (countRows seed s bs i) age), cl b1 T_p_sketch_Sketch [.pointer (some (Addr.mk k 0 none))]]
  let X : Nat → HP := fun i => LpX l D Lp (C i)
  have H0 : St h w w13 (X 0 :: cl c5 T_int [.int .i64 ((4 : Nat) : Int)] :: cl c3 T_string [.string s] :: cl c1 T_uint64 [.int .u64 seed] :: []) :=
    St.lpxMk (C 0) hLp hst hpe H.pull5.push7.pull4.push6.pull3.push5
  refine several1 (Z := fun _ => False) hs (by omega) ?_ H0 ?_ ?_
  · intro i h0 w0 w As K hi H K1 K2
    obtain ⟨lp, q1, q2, q3, H⟩ := H.lpx
    refine ⟨rfl, HY w lp _ K q1 (H.get m0) q2 rfl ⟨i, _, rfl, lp, H.get m0, q2, fun W2 e2 w24 e24 => ?_⟩⟩
    have H := (H.putObj e2).drew e24
    refine ⟨_, by rw [H.cell m3]; rfl, ?_⟩
    refine H.pure (place_sp seed s 64 i (by omega) (by omega)) fun w27 H => ⟨_, rfl, ⟨_, by rw [H.cell m3]; rfl, rfl⟩, ?_⟩
    have hp := place_lt seed s 64 i (by omega)
    refine sk_raise H.pull3 (by rw [countRows_len]; exact hl) hi hp fun w31 H => ⟨rfl, ?_⟩
    rw [← countRows_succ] at H
    refine ⟨_, H.get m1, fun w33 e33 => ?_⟩
    have H := H.swap.putObj e33
    exact K1 _ (St.lpxMk (C (i + 1)) (hLs _ _ _ (hLs _ _ _ q1)) rfl rfl H.swap.push3)
  · intro w38 H
    obtain ⟨lp, q1, q2, q3, H⟩ := H.lpx
    refine ⟨lp, H.get m0, by rw [q2]; simp, fun w36 e36 => ?_⟩
    have H := H.putObj e36
    rw [q3, pendR_none]
    have hl4 : (countRows seed s bs 4).length = 128 := by rw [countRows_len]; exact hl
    refine ⟨_, by rw [H.cell m3]; rfl, _, rfl, age, by rw [add_mk, H.cell m2]; exact sk_age hl4, _, rfl, by rw [add_mk]; exact H.stOk m2 (by rw [sk_len hl4]; omega), fun w42 e42 => ?_⟩
    rw [add_mk, wrap_i64 (by omega) (by omega)] at e42
    have H := H.pull3.set e42
    rw [show 0 + 129 = 129 from rfl, sk_setAge hl4] at H
    -- [k, lp, D, b1]
    refine ⟨_, by rw [H.cell m3]; rfl, _, rfl, age + 1, by rw [add_mk, H.cell m0]; exact sk_age hl4, br (fun hc => ?_) fun hc => ?_⟩
    · simp only [decide_eq_true_eq] at hc
      refine ⟨H.get m2, fun w46 e46 => ?_⟩
      have H := H.pull3.putObj e46
      have e : sketchAdd seed s bs age = (countRows seed s bs 4, age + 1, false) := by simp only [sketchAdd, if_pos hc]
      rw [e]
      exact (H.only m1).conv fun _ hs => ⟨rfl, ⟨hl4, by show 0 ≤ age + 1; omega, hc⟩, hs⟩
    · simp only [decide_eq_false_iff_not] at hc
      refine ⟨_, by rw [H.cell m3]; rfl, ?_⟩
      refine sk_halve H hl4 fun w49 H => ⟨rfl, H.get m2, fun w50 e50 => ?_⟩
      have H := H.pull3.putObj e50
      have e : sketchAdd seed s bs age = ((countRows seed s bs 4).map halveB, 320, true) := by simp only [sketchAdd, if_neg hc]
      rw [e]
      exact (H.only m1).conv fun _ hs => ⟨rfl, ⟨by simpa using hl4, by show (0 : Int) ≤ 320; omega, by show (320 : Int) < 640; omega⟩, hs⟩
  · intro w38 H
    exact (H.facts fun _ h => h).elim

theorem sketch_count (k : Nat) (seed : Int) (bs : List Int) (age : Int) (s : ByteArray) (hs : s.size < 2 ^ 62) : Sp P f_sketch_Sketch_Count #[.pointer (some (Addr.mk k 0 none)), .string s] (Sketch k seed bs age)
    (fun v h => v = .int .i64 (countM seed s bs 4) ∧ Sketch k seed bs age h) := sp_of fun w h H => by
  apply cl_sketch_Sketch_Count
  unfold c_sketch_Sketch_Count
  intro b1 w2 e1 e2 b3 w4 e3 e4
  have H := (H.newCells (cs := [.pointer (some (Addr.mk k 0 none))]) e1 e2).newCells (cs := [.int .i64 0]) e3 e4
  refine ⟨H.stOk m0 (by simp), fun w5 e5 => ?_⟩
  have H := H.set e5
  obtain ⟨hall, H⟩ := H.pull3.purOpen
  have hl := hall.1
  -- [k, b3, b1]
  refine ⟨_, by rw [H.cell m2]; rfl, _, rfl, seed, by rw [add_mk, H.cell m0]; rfl, ?_⟩
  refine several_sp H fun c1 c3 c5 w9 H => ⟨_, rfl, ?_⟩
  refine ⟨by kernel_rfl, fun Lp lp D l w13 eD el ew hLp hst hpe hLs HY => ?_⟩
  have H := (H.alloc (b := D) (o := .deferred (some [])) eD rfl).alloc (b := l) (o := .loop lp) (by rw [el, World.size_alloc]) ew
  let C : Nat → List HP := fun i => [cl k T_sketch_Sketch (skCells seed bs age), cl b3 T_int [.int .i64 (countM seed s bs i)], cl b1 T_p_sketch_Sketch [.pointer (some (Addr.mk k 0 none))]]
  let X : Nat → HP := fun i => LpX l D Lp (C i)
  have H0 : St h w w13 (X 0 :: cl c5 T_int [.int .i64 ((4 : Nat) : Int)] :: cl c3 T_string [.string s] :: cl c1 T_uint64 [.int .u64 seed] :: []) :=
    St.lpxMk (C 0) hLp hst hpe H.pull5.push8.pull4.push7.pull3.push6
  refine several1 (Z := fun _ => False) hs (by omega) ?_ H0 ?_ ?_
  · intro i h0 w0 w As K hi H K1 K2
    obtain ⟨lp, q1, q2, q3, H⟩ := H.lpx
    refine ⟨rfl, HY w lp _ K q1 (H.get m0) q2 rfl ⟨i, _, rfl, lp, H.get m0, q2, fun W2 e2 w27 e27 => ?_⟩⟩
    have H := (H.putObj e2).drew e27
    refine ⟨countM seed s bs i, by rw [H.cell m3]; rfl, _, by rw [H.cell m4]; rfl, ?_⟩
    refine H.pure (place_sp seed s 64 i (by omega) (by omega)) fun w31 H => ⟨_, rfl, ⟨_, by rw [H.cell m4]; rfl, rfl⟩, ⟨_, by rw [H.cell m3]; rfl, rfl⟩, ?_⟩
    have hp := place_lt seed s 64 i (by omega)
    refine sk_getSp H.pull3 hl hi hp fun H => ⟨_, rfl, ⟨_, by rw [H.cell m3]; rfl, rfl⟩, H.stOk m3 (by simp), fun w39 e39 => ?_⟩
    -- [k, lp, D, b3, b1]
    have H := H.pull4.set e39
    refine ⟨_, H.get m2, fun w41 e41 => ?_⟩
    have H := H.pull3.putObj e41
    -- [lp, b3, k, D, b1]
    rw [← countM_succ] at H
    exact K1 _ (St.lpxMk (C (i + 1)) (hLs _ _ _ (hLs _ _ _ q1)) rfl rfl H.pull4.swap.pull4.push3)
  · intro w38 H
    obtain ⟨lp, q1, q2, q3, H⟩ := H.lpx
    refine ⟨lp, H.get m0, by rw [q2]; simp, fun w36 e36 => ?_⟩
    have H := H.putObj e36
    rw [q3, pendR_none]
    refine ⟨countM seed s bs 4, by rw [H.cell m3]; rfl, H.get m1, fun w47 e47 => ?_⟩
    have H := H.swap.putObj e47
    exact (H.only m2).conv fun _ hs => ⟨rfl, hall, hs⟩
  · intro w38 H
    exact (H.facts fun _ h => h).elim

theorem sketch_new (seed : Int) : Sp P f_sketch_New #[.int .u64 seed] (fun _ => True) (fun v h => ∃ k, v = .pointer (some (Addr.mk k 0 none)) ∧ Sketch k seed (List.replicate 128 0) 0 h) := sp_of fun w h H => by
  apply cl_sketch_New
  unfold c_sketch_New
  intro b1 w2 e1 e2
  have H := H.drop.newCells (b := b1) (cs := skCells seed (List.replicate 128 0) 0) e1 e2
  exact H.conv fun _ hs => ⟨b1, rfl, ⟨by simp, by omega, by omega⟩, hs⟩

/- ### The judge -/
structure JM where
  s1 : Int
  s2 : Int
  ws : List Int
  bs : List Int
  age : Int
def Judge (j : Nat) (m : JM) : HP := ex fun f => ex fun k => SepL [cl j T_tiny_Judge [.pointer (some (Addr.mk f 0 none)), .pointer (some (Addr.mk k 0 none))], Bloom f m.s1 m.ws, Sketch k m.s2 m.bs m.age]
def worthM (m : JM) (s : ByteArray) : Int := if hasM m.s1 m.ws s then countM m.s2 s m.bs 4 + 1 else countM m.s2 s m.bs 4
def touchM (m : JM) (s : ByteArray) : JM :=
  if hasM m.s1 m.ws s then
    let r := sketchAdd m.s2 s m.bs m.age
    { m with ws := if r.2.2 then List.replicate 8 0 else addM m.s1 m.ws s, bs := r.1, age := r.2.1 }
  else { m with ws := addM m.s1 m.ws s }
def newJ (seed : Int) : JM := ⟨seed, IntKind.u64.wrap (seed + 1), List.replicate 8 0, List.replicate 128 0, 0⟩

theorem tiny_new (seed : Int) : Sp P f_tiny_New #[.int .u64 seed] (fun _ => True) (fun v h => ∃ j, v = .pointer (some (Addr.mk j 0 none)) ∧ Judge j (newJ seed) h) := sp_of fun w h H => by
  apply cl_tiny_New
  unfold c_tiny_New
  refine H.call (bloom_new seed) fun v w2 H => ?_
  obtain ⟨f, H⟩ := H.exOpen
  obtain ⟨ev, H⟩ := H.purOpen
  refine ⟨_, ev, ?_⟩
  refine H.emp.call (sketch_new _) fun v w5 H => ?_
  obtain ⟨k, H⟩ := H.exOpen
  obtain ⟨ev, H⟩ := H.purOpen
  refine ⟨_, ev, fun b7 w8 e7 e8 => ?_⟩
  have H := H.newCells (cs := [.pointer (some (Addr.mk f 0 none)), .pointer (some (Addr.mk k 0 none))]) e7 e8
  have H := H.swap.push3
  refine St.cls [_, _, _] H fun _ hs => ⟨b7, rfl, f, k, hs⟩

theorem tiny_touch (j : Nat) (m : JM) (s : ByteArray) (hs : s.size < 2 ^ 62) : Sp P f_tiny_Judge_Touch #[.pointer (some (Addr.mk j 0 none)), .string s] (Judge j m) (fun v h => v = .tuple #[] ∧ Judge j (touchM m s) h) := sp_of fun w h H => by
  apply cl_tiny_Judge_Touch
  unfold c_tiny_Judge_Touch
  obtain ⟨f, H⟩ := H.exOpen
  obtain ⟨k, H⟩ := H.exOpen
  have H := H.split
  have fin : ∀ {w' : World} {ws bs : List Int} {age : Int}, St h w w' [cl j T_tiny_Judge [.pointer (some (Addr.mk f 0 none)), .pointer (some (Addr.mk k 0 none))], Bloom f m.s1 ws, Sketch k m.s2 bs age] → touchM m s = { m with ws := ws, bs := bs, age := age } →
      St h w w' [fun h => Value.tuple #[] = .tuple #[] ∧ Judge j (touchM m s) h] := fun H e => by
    rw [e]
    exact St.cls [_, _, _] H fun _ hs => ⟨rfl, f, k, hs⟩
  refine ⟨_, rfl, _, by rw [add_mk, H.cell m0]; rfl, ?_⟩
  refine H.swap.callV (bloom_add f m.s1 m.ws s hs) fun w4 H => ⟨_, rfl, ?_⟩
  cases hh : hasM m.s1 m.ws s with
  | false =>
    have e : touchM m s = { m with ws := addM m.s1 m.ws s, bs := m.bs, age := m.age } := by simp only [touchM, hh, Bool.false_eq_true, if_false]
    exact fin H.swap e
  | true =>
    refine ⟨_, rfl, _, by rw [add_mk, H.cell m1]; rfl, ?_⟩
    refine H.pull3.callV (sketch_add k m.s2 m.bs m.age s hs) fun w9 H => ⟨_, rfl, ?_⟩
    -- [k, f, j]
    cases hr : (sketchAdd m.s2 s m.bs m.age).2.2 with
    | false =>
      exact fin (ws := addM m.s1 m.ws s) H.push3.swap (by simp only [touchM, hh, if_true, hr, Bool.false_eq_true, if_false])
    | true =>
      refine ⟨_, rfl, _, by rw [add_mk, H.cell m2]; rfl, ?_⟩
      refine H.swap.callV (bloom_clear f m.s1 (addM m.s1 m.ws s)) fun w14 H => ⟨rfl, ?_⟩
      exact fin (ws := List.replicate 8 0) H.pull3 (by simp only [touchM, hh, if_true, hr])

theorem tiny_worth (j : Nat) (m : JM) (s : ByteArray) (hs : s.size < 2 ^ 62) (hc : 0 ≤ countM m.s2 s m.bs 4 ∧ countM m.s2 s m.bs 4 ≤ 15) : Sp P f_tiny_Judge_Worth #[.pointer (some (Addr.mk j 0 none)), .string s] (Judge j m) (fun v h => v = .int .i64 (worthM m s) ∧ Judge j m h) := sp_of fun w h H => by
  apply cl_tiny_Judge_Worth
  unfold c_tiny_Judge_Worth
  obtain ⟨f, H⟩ := H.exOpen
  obtain ⟨k, H⟩ := H.exOpen
  have H := H.split
  refine ⟨_, rfl, _, by rw [add_mk, H.cell m0]; rfl, ?_⟩
  refine H.pull3.callV (sketch_count k m.s2 m.bs m.age s hs) fun w4 H => ⟨_, rfl, _, rfl, _, by rw [add_mk, H.cell m1]; rfl, ?_⟩
  refine H.pull3.callV (bloom_has f m.s1 m.ws s hs) fun w9 H => ⟨_, rfl, ?_⟩
  -- [f, k, j]
  have H : St h w w9 [Judge j m] := St.cls [_, _, _] H.pull3 fun _ hs => ⟨f, k, hs⟩
  cases hh : hasM m.s1 m.ws s with
  | false => exact H.conv fun _ hs => ⟨by simp only [worthM, hh, Bool.false_eq_true, if_false], hs⟩
  | true =>
    exact H.conv fun _ hs => ⟨by simp only [worthM, hh, if_true]; rw [wrap_i64 (by omega) (by omega)], hs⟩

theorem wrap_u8_range (n : Int) : 0 ≤ IntKind.u8.wrap n ∧ IntKind.u8.wrap n < 256 := by
  show 0 ≤ (if (false && decide (n % (256 : Int) ≥ (128 : Int))) = true then n % (256 : Int) - (256 : Int) else n % (256 : Int)) ∧ (if (false && decide (n % (256 : Int) ≥ (128 : Int))) = true then n % (256 : Int) - (256 : Int) else n % (256 : Int)) < 256
  simp only [Bool.false_and, Bool.false_eq_true, if_false]
  omega
theorem getM_range (bs : List Int) (row c : Nat) : 0 ≤ getM bs row c := by
  unfold getM
  have := wrap_u8_range ((BitVec.ofInt (IntKind.bits .u8) (Int.fdiv (bs.getD (row * 32 + c / 2) 0) (2 ^ (min (Int.toNat (shZ c)) (IntKind.bits .u8)))) &&& BitVec.ofInt (IntKind.bits .u8) (15 : Int)).toNat : Int)
  rw [wrap_i64 (by omega) (by omega)]
  exact this.1
theorem countM_range (seed : Int) (s : ByteArray) (bs : List Int) (n : Nat) : 0 ≤ countM seed s bs n ∧ countM seed s bs n ≤ 15 := by
  induction n with
  | zero => exact ⟨by show (0 : Int) ≤ 15; omega, by show (15 : Int) ≤ 15; omega⟩
  | succ n ih =>
    rw [countM_succ]
    have := getM_range bs n (placeN seed s 64 n)
    split <;> omega

theorem tiny_admit (j : Nat) (m : JM) (s old : ByteArray) (hs : s.size < 2 ^ 62) (ho : old.size < 2 ^ 62) : Sp P f_tiny_Judge_Admit #[.pointer (some (Addr.mk j 0 none)), .string s, .string old] (Judge j m) (fun v h => v = .bool (decide (worthM m s > worthM m old)) ∧ Judge j m h) := sp_of fun w h H => by
  apply cl_tiny_Judge_Admit
  unfold c_tiny_Judge_Admit
  refine H.callV (tiny_worth j m s hs (countM_range ..)) fun w2 H => ⟨_, rfl, ?_⟩
  refine H.callV (tiny_worth j m old ho (countM_range ..)) fun w5 H => ⟨_, rfl, ?_⟩
  exact H.conv fun _ hs => ⟨rfl, hs⟩
end Go.Bty
