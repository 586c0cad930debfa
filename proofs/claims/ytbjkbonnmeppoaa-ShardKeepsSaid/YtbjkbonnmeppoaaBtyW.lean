/- Hashes: what they are, one by one. -/
import Derived.Test.YtbjkbonnmeppoaaBtyS
import Derived.Test.YtbjkbonnmeppoaaJudgeC
namespace Go.Bty
open Go
open Go.Proofs.Try renaming prog → P

def xsZ (n k : Int) : Int := IntKind.u64.wrap ((BitVec.ofInt (IntKind.bits .u64) n ^^^ BitVec.ofInt (IntKind.bits .u64) (Int.fdiv n (2 ^ (min (Int.toNat k) (IntKind.bits .u64))))).toNat : Int)
def mixZ (n : Int) : Int := xsZ (IntKind.u64.wrap (xsZ (IntKind.u64.wrap (xsZ n (30 : Int) * (13787848793156543929 : Int))) (27 : Int) * (10723151780598845931 : Int))) (31 : Int)
def stepZ (h : Int) (b : UInt8) : Int := IntKind.u64.wrap ((IntKind.u64.wrap ((BitVec.ofInt (IntKind.bits .u64) h ^^^ BitVec.ofInt (IntKind.bits .u64) (IntKind.u64.wrap ((UInt8.toNat b : Nat) : Int))).toNat : Int)) * (1099511628211 : Int))
def hashZ (seed : Int) (s : ByteArray) : Int := mixZ (s.data.toList.foldl stepZ (mixZ seed))
def belowZ (h n : Int) : Int := if n < 1 then 0 else IntKind.i64.wrap (Int.tmod h (IntKind.u64.wrap n))

theorem mix_sp (n : Int) : Pu P f_hash_Mix #[.int .u64 n] (.int .u64 (mixZ n)) := pu_of fun w h H => by
  apply cl_hash_Mix
  unfold c_hash_Mix
  exact ⟨by omega, by omega, by omega, rfl, H⟩

theorem below_sp (h n : Int) (hn : n < 2 ^ 62) : Pu P f_hash_Below #[.int .u64 h, .int .i64 n] (.int .i64 (belowZ h n)) := pu_of fun w h0 H => by
  apply cl_hash_Below
  unfold c_hash_Below
  refine br (fun h1 => ?_) fun h1 => ?_
  · simp only [decide_eq_true_eq] at h1
    exact ⟨by simp only [belowZ, if_pos h1], H⟩
  · simp only [decide_eq_false_iff_not] at h1
    refine ⟨by rw [wrap_u64 (by omega) (by omega)]; omega, by simp only [belowZ, if_neg h1], H⟩

theorem byte_get (s : ByteArray) (i : Nat) : s[i]? = s.data.toList[i]? := by
  cases s
  rename_i a
  show (ByteArray.mk a)[i]? = a.toList[i]?
  rw [Array.getElem?_toList]
  rfl

theorem hash_sp (seed : Int) (s : ByteArray) (hs : s.size < 2 ^ 62) : Pu P f_hash_Of #[.int .u64 seed, .string s] (.int .u64 (hashZ seed s)) := pu_of fun w h0 H => by
  apply cl_hash_Of
  unfold c_hash_Of
  refine H.pure (mix_sp _) fun w2 H => ⟨_, rfl, ?_⟩
  have hl : s.data.toList.length = s.size := rfl
  refine ⟨fun vs w' => ∃ i : Nat, i ≤ s.size ∧ vs = [.int .u64 ((s.data.toList.take i).foldl stepZ (mixZ seed)), .int .i64 i] ∧ St h0 w w' [], fun vs _ => match vs with | [_, .int _ i] => s.size - i.toNat | _ => 0, ⟨0, by omega, rfl, H⟩, ?_⟩
  rintro vs w7 ⟨i, hi, rfl, H⟩
  refine ⟨_, i, rfl, br (fun hc => ?_) fun hc => ?_⟩
  · simp only [decide_eq_true_eq] at hc
    have hlt : i < s.data.toList.length := by omega
    have ew : IntKind.i64.wrap ((i : Int) + 1) = ((i + 1 : Nat) : Int) := by rw [wrap_i64 (by omega) (by omega)]; omega
    refine ⟨by omega, s.data.toList[i], by rw [Int.toNat_natCast, byte_get, List.getElem?_eq_getElem hlt], ?_⟩
    rw [ew]
    refine ⟨⟨i + 1, by omega, ?_, H⟩, by simp; omega⟩
    rw [List.take_succ_eq_append_getElem hlt, List.foldl_append]
    rfl
  · simp only [decide_eq_false_iff_not] at hc
    have : i = s.size := by omega
    subst this
    refine H.pure (mix_sp _) fun w12 H => ⟨_, rfl, ?_, H⟩
    rw [hashZ, ← hl, List.take_length]

section
variable {h0 : Frag} {w0 w : World} {As : List HP}
theorem several_sp {seed many : Int} {s : ByteArray} {K : Value → World → Prop} (H : St h0 w0 w As)
    (hK : ∀ b1 b3 b5 w', St h0 w0 w' (cl b5 T_int [.int .i64 many] :: cl b3 T_string [.string s] :: cl b1 T_uint64 [.int .u64 seed] :: As) → K (.func (.func f_hash_Several_1) #[] #[.pointer (some (Addr.mk b5 0 none)), .pointer (some (Addr.mk b1 0 none)), .pointer (some (Addr.mk b3 0 none))]) w') :
    Cl P f_hash_Several #[.int .u64 seed, .string s, .int .i64 many] w K := by
  apply cl_hash_Several
  unfold c_hash_Several
  intro b1 w2 e1 e2 b3 w4 e3 e4 b5 w6 e5 e6
  exact hK b1 b3 b5 w6 (((H.newCells (cs := [.int .u64 seed]) e1 e2).newCells (cs := [.string s]) e3 e4).newCells (cs := [.int .i64 many]) e5 e6)

def hashI (seed : Int) (s : ByteArray) (i : Nat) : Int := hashZ (IntKind.u64.wrap (seed + IntKind.u64.wrap i)) s

/-- The hashes, one by one. -/
theorem several1 {y : Value} {X : Nat → HP} {Z : HP} {b1 b3 b5 : Nat} {seed : Int} {s : ByteArray} {many : Nat} {K : Value → World → Prop} (hs : s.size < 2 ^ 62) (hm : many < 2 ^ 60)
    (hy : ∀ i h0 w0 w As K, i < many → St h0 w0 w (X i :: As) → (∀ w', St h0 w0 w' (X (i + 1) :: As) → K (.bool true) w') → (∀ w', St h0 w0 w' (Z :: As) → K (.bool false) w') → FvCall P y [.int .i64 i, .int .u64 (hashI seed s i)] w K)
    (H : St h0 w0 w (X 0 :: cl b5 T_int [.int .i64 many] :: cl b3 T_string [.string s] :: cl b1 T_uint64 [.int .u64 seed] :: As))
    (hK1 : ∀ w', St h0 w0 w' (X many :: As) → K (.tuple #[]) w') (hK2 : ∀ w', St h0 w0 w' (Z :: As) → K (.tuple #[]) w') :
    Cl P f_hash_Several_1 #[y, .pointer (some (Addr.mk b5 0 none)), .pointer (some (Addr.mk b1 0 none)), .pointer (some (Addr.mk b3 0 none))] w K := by
  apply cl_hash_Several_1
  unfold c_hash_Several_1
  refine ⟨many, by rw [H.cell m1]; rfl, ?_⟩
  refine ⟨fun vs w' => ∃ i : Nat, i ≤ many ∧ vs = [.int .i64 i] ∧ St h0 w0 w' (X i :: cl b5 T_int [.int .i64 many] :: cl b3 T_string [.string s] :: cl b1 T_uint64 [.int .u64 seed] :: As),
    fun vs _ => match vs with | [.int _ i] => many - i.toNat | _ => 0, ⟨0, by omega, rfl, H⟩, ?_⟩
  rintro vs w5 ⟨i, hi, rfl, H⟩
  refine ⟨i, rfl, br (fun hc => ?_) fun hc => ?_⟩
  · simp only [decide_eq_true_eq] at hc
    have hlt : i < many := by omega
    refine ⟨seed, by rw [H.cell m3]; rfl, s, by rw [H.cell m2]; rfl, ?_⟩
    refine H.pure (hash_sp _ _ hs) fun w10 H => ⟨_, rfl, ?_⟩
    refine hy i _ _ _ _ _ hlt H (fun w13 H => ⟨true, rfl, br (fun h => by simp at h) fun _ => ?_⟩) fun w13 H => ⟨false, rfl, br (fun _ => ?_) fun h => by simp at h⟩
    · have ew : IntKind.i64.wrap ((i : Int) + 1) = ((i + 1 : Nat) : Int) := by rw [wrap_i64 (by omega) (by omega)]; omega
      rw [ew]
      exact ⟨⟨i + 1, hlt, rfl, H⟩, by simp; omega⟩
    · exact hK2 _ (H.swap.drop.swap.drop.swap.drop)
  · simp only [decide_eq_false_iff_not] at hc
    have : i = many := by omega
    subst this
    exact hK1 _ (H.swap.drop.swap.drop.swap.drop)
end
end Go.Bty
