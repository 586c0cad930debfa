/- The filter: bits at hashes' places. -/
import Derived.Test.YtbjkbonnmeppoaaBtyW
namespace Go.Bty
open Go
open Go.Proofs.Try renaming prog → P

theorem wrap_u64_range (n : Int) : 0 ≤ IntKind.u64.wrap n ∧ IntKind.u64.wrap n < 18446744073709551616 := by
  show 0 ≤ (if (false && decide (n % (18446744073709551616 : Int) ≥ (9223372036854775808 : Int))) = true then n % (18446744073709551616 : Int) - (18446744073709551616 : Int) else n % (18446744073709551616 : Int)) ∧ _ < _
  show _ ∧ (if (false && decide (n % (18446744073709551616 : Int) ≥ (9223372036854775808 : Int))) = true then n % (18446744073709551616 : Int) - (18446744073709551616 : Int) else n % (18446744073709551616 : Int)) < _
  simp only [Bool.false_and, Bool.false_eq_true, if_false]
  omega
theorem hash_range (seed : Int) (s : ByteArray) : 0 ≤ hashZ seed s ∧ hashZ seed s < 18446744073709551616 := wrap_u64_range _
/-- A hash as a number below n. -/
def belowN (h : Int) (n : Nat) : Nat := h.toNat % n
theorem below_eq {h : Int} {n : Nat} (h0 : 0 ≤ h) (hn : 1 ≤ n) (hn2 : n < 2 ^ 62) : belowZ h n = (belowN h n : Int) := by
  have hlt : h.toNat % n < n := Nat.mod_lt _ (by omega)
  simp only [belowZ, if_neg (by omega : ¬ (n : Int) < 1)]
  rw [wrap_u64 (by omega) (by omega)]
  obtain ⟨k, rfl⟩ : ∃ k : Nat, h = k := ⟨h.toNat, by omega⟩
  rw [show Int.tmod (k : Int) (n : Int) = ((k % n : Nat) : Int) from rfl]
  simp only [belowN, Int.toNat_natCast] at hlt ⊢
  rw [wrap_i64 (by omega) (by omega)]

def placeN (seed : Int) (s : ByteArray) (n i : Nat) : Nat := belowN (hashI seed s i) n
theorem place_sp (seed : Int) (s : ByteArray) (n i : Nat) (hn : 1 ≤ n) (hn2 : n < 2 ^ 62) : Pu P f_hash_Below #[.int .u64 (hashI seed s i), .int .i64 n] (.int .i64 (placeN seed s n i)) := by
  have := below_sp (hashI seed s i) n (by omega)
  rw [below_eq (show 0 ≤ hashI seed s i from (hash_range _ _).1) hn hn2] at this
  exact this
theorem place_lt (seed : Int) (s : ByteArray) (n i : Nat) (hn : 1 ≤ n) : placeN seed s n i < n := Nat.mod_lt _ (by omega)

/- ### Rounds of loops over functions -/
def LpX (l D : Nat) (Lp : Loop → Prop) (As : List HP) : HP := fun h => ∃ lp, Lp lp ∧ lp.state = .ready ∧ lp.pending = none ∧ SepL (pt l (.loop lp) :: pt D (.deferred (some [])) :: As) h
def LpZ (l D : Nat) (Lp : Loop → Prop) (c : Code) (As : List HP) : HP := fun h => ∃ lp, Lp lp ∧ lp.state = .done ∧ lp.pending = some c ∧ SepL (pt l (.loop lp) :: pt D (.deferred (some [])) :: As) h
def ex {α : Type} (A : α → HP) : HP := fun h => ∃ a, A a h
def pur (φ : Prop) (A : HP) : HP := fun h => φ ∧ A h

section
variable {h0 : Frag} {w0 w : World} {As Bs : List HP}
theorem St.exOpen {α : Type} {A : α → HP} (H : St h0 w0 w (ex A :: As)) : ∃ a, St h0 w0 w (A a :: As) := by
  obtain ⟨h, ⟨f, ⟨a, hA⟩, hr⟩, ho, hf⟩ := H
  exact ⟨a, h, ⟨f, hA, hr⟩, ho, hf⟩
theorem St.exMk {α : Type} {A : α → HP} (a : α) (H : St h0 w0 w (A a :: As)) : St h0 w0 w (ex A :: As) := H.conv fun _ h => ⟨a, h⟩
theorem St.purOpen {φ : Prop} {A : HP} (H : St h0 w0 w (pur φ A :: As)) : φ ∧ St h0 w0 w (A :: As) := ⟨H.facts fun _ h => h.1, H.conv fun _ h => h.2⟩
theorem St.purMk {φ : Prop} {A : HP} (hp : φ) (H : St h0 w0 w (A :: As)) : St h0 w0 w (pur φ A :: As) := H.conv fun _ h => ⟨hp, h⟩
theorem St.lpx {l D : Nat} {Lp : Loop → Prop} (H : St h0 w0 w (LpX l D Lp Bs :: As)) : ∃ lp, Lp lp ∧ lp.state = .ready ∧ lp.pending = none ∧ St h0 w0 w (pt l (.loop lp) :: pt D (.deferred (some [])) :: (Bs ++ As)) := by
  obtain ⟨h, ⟨lp, q1, q2, q3, q4⟩, hk⟩ := H.opn
  exact ⟨lp, q1, q2, q3, hk _ q4⟩
theorem St.lpz {l D : Nat} {Lp : Loop → Prop} {c : Code} (H : St h0 w0 w (LpZ l D Lp c Bs :: As)) : ∃ lp, Lp lp ∧ lp.state = .done ∧ lp.pending = some c ∧ St h0 w0 w (pt l (.loop lp) :: pt D (.deferred (some [])) :: (Bs ++ As)) := by
  obtain ⟨h, ⟨lp, q1, q2, q3, q4⟩, hk⟩ := H.opn
  exact ⟨lp, q1, q2, q3, hk _ q4⟩
theorem St.lpxMk (Bs : List HP) {l D : Nat} {Lp : Loop → Prop} {lp : Loop} (q1 : Lp lp) (q2 : lp.state = .ready) (q3 : lp.pending = none) (H : St h0 w0 w (pt l (.loop lp) :: pt D (.deferred (some [])) :: (Bs ++ As))) : St h0 w0 w (LpX l D Lp Bs :: As) :=
  St.cls (pt l (.loop lp) :: pt D (.deferred (some [])) :: Bs) H fun _ hs => ⟨lp, q1, q2, q3, hs⟩
theorem St.lpzMk (Bs : List HP) {l D : Nat} {Lp : Loop → Prop} {c : Code} {lp : Loop} (q1 : Lp lp) (q2 : lp.state = .done) (q3 : lp.pending = some c) (H : St h0 w0 w (pt l (.loop lp) :: pt D (.deferred (some [])) :: (Bs ++ As))) : St h0 w0 w (LpZ l D Lp c Bs :: As) :=
  St.cls (pt l (.loop lp) :: pt D (.deferred (some [])) :: Bs) H fun _ hs => ⟨lp, q1, q2, q3, hs⟩
end

section
variable {P : Program} {h0 : Frag} {w0 w : World} {As : List HP} {A B : HP} {f : FuncId} {args : Array Value} {x : Value} {K : Value → World → Prop}
theorem St.callV (H : St h0 w0 w (A :: As)) (hsp : Sp P f args A (fun v h => v = x ∧ B h)) (hk : ∀ w', St h0 w0 w' (B :: As) → K x w') : Cl P f args w K :=
  H.call hsp fun v w' H' => by
    have e : v = x := H'.facts fun _ h => h.1
    rw [e]
    exact hk w' (H'.conv fun _ h => h.2)
end

/- ### The filter -/
def u64s (ws : List Int) : List Value := ws.map (.int .u64)
def Bloom (f : Nat) (seed : Int) (ws : List Int) : HP := pur (ws.length = 8) (cl f T_bloom_Filter (.int .u64 seed :: u64s ws))
def bitB (ws : List Int) (p : Nat) : Bool := !((IntKind.u64.wrap ((BitVec.ofInt (IntKind.bits .u64) (Int.fdiv (ws.getD (p / 64) 0) (2 ^ (min (Int.toNat ((p % 64 : Nat) : Int)) (IntKind.bits .u64)))) &&& BitVec.ofInt (IntKind.bits .u64) (1 : Int)).toNat : Int)) == (0 : Int))
def setB (ws : List Int) (p : Nat) : List Int := ws.set (p / 64) (IntKind.u64.wrap ((BitVec.ofInt (IntKind.bits .u64) (ws.getD (p / 64) 0) ||| BitVec.ofInt (IntKind.bits .u64) (IntKind.u64.wrap ((1 : Int) * 2 ^ (min (Int.toNat ((p % 64 : Nat) : Int)) (IntKind.bits .u64))))).toNat : Int))
def hasM (seed : Int) (ws : List Int) (s : ByteArray) : Bool := (List.range 3).all fun i => bitB ws (placeN seed s 512 i)
def addM (seed : Int) (ws : List Int) (s : ByteArray) : List Int := (List.range 3).foldl (fun ws i => setB ws (placeN seed s 512 i)) ws

theorem div64 {p : Nat} (hp : p < 512) : IntKind.i64.wrap (Int.tdiv (p : Int) (64 : Int)) = ((p / 64 : Nat) : Int) := by
  rw [show Int.tdiv (p : Int) (64 : Int) = ((p / 64 : Nat) : Int) from rfl, wrap_i64 (by omega) (by omega)]
theorem mod64 (p : Nat) : Int.tmod (p : Int) (64 : Int) = ((p % 64 : Nat) : Int) := rfl
theorem at_word (f k : Nat) : Addr.add (Addr.add (Addr.mk f 0 none) 1) (Int.toNat ((k : Nat) : Int) * 1) = Addr.mk f (k + 1) none := by
  rw [add_mk, add_mk, Int.toNat_natCast, Nat.mul_one, Nat.zero_add, Nat.add_comm]

theorem bloom_has (f : Nat) (seed : Int) (ws : List Int) (s : ByteArray) (hs : s.size < 2 ^ 62) : Sp P f_bloom_Filter_Has #[.pointer (some (Addr.mk f 0 none)), .string s] (Bloom f seed ws) (fun v h => v = .bool (hasM seed ws s) ∧ Bloom f seed ws h) := sp_of fun w h H => by
  apply cl_bloom_Filter_Has
  unfold c_bloom_Filter_Has
  intro b1 w2 e1 e2 b3 w4 e3 e4
  have H := (H.newCells (cs := [.pointer (some (Addr.mk f 0 none))]) e1 e2).newCells (cs := [.bool false]) e3 e4
  obtain ⟨hw, H⟩ := H.pull3.purOpen
  -- [f, b3, b1]
  refine ⟨_, by rw [H.cell m2]; rfl, _, rfl, seed, by rw [add_mk, H.cell m0]; rfl, ?_⟩
  refine several_sp H fun c1 c3 c5 w9 H => ⟨_, rfl, ?_⟩
  refine ⟨by kernel_rfl, fun Lp lp D l w13 eD el ew hLp hst hpe hLs HY => ?_⟩
  have H := (H.alloc (b := D) (o := .deferred (some [])) eD rfl).alloc (b := l) (o := .loop lp) (by rw [el, World.size_alloc]) ew
  -- [lp, D, c5, c3, c1, f, b3, b1]
  let C : Bool → List HP := fun x => [cl f T_bloom_Filter (.int .u64 seed :: u64s ws), cl b3 T_bool [.bool x], cl b1 T_p_bloom_Filter [.pointer (some (Addr.mk f 0 none))]]
  let X : Nat → HP := fun i => pur (∀ j, j < i → bitB ws (placeN seed s 512 j) = true) (LpX l D Lp (C false))
  let Z : HP := pur (hasM seed ws s = false) (LpZ l D Lp .ret (C false))
  have H0 : St h w w13 (X 0 :: cl c5 T_int [.int .i64 ((3 : Nat) : Int)] :: cl c3 T_string [.string s] :: cl c1 T_uint64 [.int .u64 seed] :: []) :=
    St.purMk (fun j hj => absurd hj (by omega)) (St.lpxMk (C false) hLp hst hpe H.pull5.push8.pull4.push7.pull3.push6)
  refine several1 (Z := Z) hs (by omega) ?_ H0 ?_ ?_
  · intro i h0 w0 w As K hi H K1 K2
    obtain ⟨hb, H⟩ := H.purOpen
    obtain ⟨lp, q1, q2, q3, H⟩ := H.lpx
    refine ⟨rfl, HY w lp _ K q1 (H.get m0) q2 rfl ⟨i, _, rfl, lp, H.get m0, q2, fun W2 e2 => ?_⟩⟩
    have H := H.putObj e2
    refine H.pure (place_sp seed s 512 i (by omega) (by omega)) fun w27 H => ⟨_, rfl, ?_⟩
    have hp := place_lt seed s 512 i (by omega)
    rw [div64 hp, mod64]
    have hk : placeN seed s 512 i / 64 < 8 := by omega
    refine ⟨_, by rw [H.cell m4]; rfl, by omega, _, rfl, by omega, by omega, ws.getD (placeN seed s 512 i / 64) 0, ?_, by omega, by omega, br (fun hc => ?_) fun hc => ?_⟩
    · rw [at_word, H.cell m2, List.getElem?_cons_succ, u64s, List.getElem?_map, List.getD_eq_getElem?_getD, List.getElem?_eq_getElem (by omega)]; rfl
    · refine ⟨H.stOk m3 (by simp), fun w32 e32 => ?_⟩
      have H := H.pull4.set e32
      refine ⟨_, H.get m1, fun w34 e34 => ?_⟩
      have H := H.swap.putObj e34
      refine K2 _ (St.purMk ?_ (St.lpzMk (C false) (hLs _ _ _ (hLs _ _ _ q1)) rfl rfl (H.swap.push4)))
      have hfb : bitB ws (placeN seed s 512 i) = false := by unfold bitB; rw [hc]; rfl
      have : hasM seed ws s = false := by
        unfold hasM
        rw [List.all_eq_false]
        exact ⟨i, List.mem_range.2 hi, by rw [hfb]; simp⟩
      exact this
    · refine ⟨_, H.get m0, fun w36 e36 => ?_⟩
      have H := H.putObj e36
      refine K1 _ (St.purMk (fun j hj => ?_) (St.lpxMk (C false) (hLs _ _ _ (hLs _ _ _ q1)) rfl rfl H))
      by_cases e : j = i
      · subst e; unfold bitB; rw [hc]; rfl
      · exact hb j (by omega)
  · intro w38 H
    obtain ⟨hb, H⟩ := H.purOpen
    obtain ⟨lp, q1, q2, q3, H⟩ := H.lpx
    refine ⟨lp, H.get m0, by rw [q2]; simp, fun w39 e39 => ?_⟩
    have H := H.putObj e39
    rw [q3, pendR_none]
    refine ⟨H.stOk m3 (by simp), fun w41 e41 => ?_⟩
    have H := H.pull4.set e41
    refine ⟨H.get m2, fun w42 e42 => ?_⟩
    have H := H.pull3.putObj e42
    refine ⟨_, by rw [H.cell m1]; rfl, ?_⟩
    have : hasM seed ws s = true := by
      unfold hasM
      rw [List.all_eq_true]
      exact fun i hi => hb i (List.mem_range.1 hi)
    rw [this]
    exact (H.only m3).conv fun _ hs => ⟨rfl, hw, hs⟩
  · intro w38 H
    obtain ⟨hb, H⟩ := H.purOpen
    obtain ⟨lp, q1, q2, q3, H⟩ := H.lpz
    refine ⟨lp, H.get m0, by rw [q2]; simp, fun w39 e39 => ?_⟩
    have H := H.putObj e39
    rw [q3, pendR_ret]
    refine ⟨H.get m1, fun w44 e44 => ?_⟩
    have H := H.swap.putObj e44
    refine ⟨_, by rw [H.cell m3]; rfl, ?_⟩
    rw [hb]
    exact (H.only m2).conv fun _ hs => ⟨rfl, hw, hs⟩

theorem setB_length (ws : List Int) (p : Nat) : (setB ws p).length = ws.length := by simp [setB]
theorem set_word {seed : Int} {ws : List Int} {k : Nat} {x : Int} : (Value.int .u64 seed :: u64s ws).set (k + 1) (.int .u64 x) = .int .u64 seed :: u64s (ws.set k x) := by
  simp [u64s, List.map_set]
theorem addM_take (seed : Int) (s : ByteArray) (i : Nat) (ws : List Int) : ((List.range (i + 1)).foldl (fun ws i => setB ws (placeN seed s 512 i)) ws) = setB ((List.range i).foldl (fun ws i => setB ws (placeN seed s 512 i)) ws) (placeN seed s 512 i) := by
  rw [List.range_succ, List.foldl_append]; rfl
theorem addM_len (seed : Int) (s : ByteArray) (i : Nat) (ws : List Int) : ((List.range i).foldl (fun ws i => setB ws (placeN seed s 512 i)) ws).length = ws.length := by
  induction i with
  | zero => rfl
  | succ i ih => rw [addM_take, setB_length, ih]

theorem bloom_add (f : Nat) (seed : Int) (ws : List Int) (s : ByteArray) (hs : s.size < 2 ^ 62) : Sp P f_bloom_Filter_Add #[.pointer (some (Addr.mk f 0 none)), .string s] (Bloom f seed ws) (fun v h => v = .bool (hasM seed ws s) ∧ Bloom f seed (addM seed ws s) h) := sp_of fun w h H => by
  apply cl_bloom_Filter_Add
  unfold c_bloom_Filter_Add
  intro b1 w2 e1 e2
  have H := H.newCells (cs := [.pointer (some (Addr.mk f 0 none))]) e1 e2
  refine ⟨_, by rw [H.cell m0]; rfl, ?_⟩
  refine H.swap.callV (bloom_has f seed ws s hs) fun w5 H => ?_
  obtain ⟨hw, H⟩ := H.purOpen
  -- [f, b1]
  refine ⟨_, rfl, _, by rw [H.cell m1]; rfl, _, rfl, seed, by rw [add_mk, H.cell m0]; rfl, ?_⟩
  refine several_sp H fun c1 c3 c5 w9 H => ⟨_, rfl, ?_⟩
  refine ⟨by kernel_rfl, fun Lp lp D l w13 eD el ew hLp hst hpe hLs HY => ?_⟩
  have H := (H.alloc (b := D) (o := .deferred (some [])) eD rfl).alloc (b := l) (o := .loop lp) (by rw [el, World.size_alloc]) ew
  -- [lp, D, c5, c3, c1, f, b1]
  let W : Nat → List Int := fun i => (List.range i).foldl (fun ws i => setB ws (placeN seed s 512 i)) ws
  let C : Nat → List HP := fun i => [cl f T_bloom_Filter (.int .u64 seed :: u64s (W i)), cl b1 T_p_bloom_Filter [.pointer (some (Addr.mk f 0 none))]]
  let X : Nat → HP := fun i => LpX l D Lp (C i)
  have H0 : St h w w13 (X 0 :: cl c5 T_int [.int .i64 ((3 : Nat) : Int)] :: cl c3 T_string [.string s] :: cl c1 T_uint64 [.int .u64 seed] :: []) :=
    St.lpxMk (C 0) hLp hst hpe H.pull5.push7.pull4.push6.pull3.push5
  refine several1 (Z := fun _ => False) hs (by omega) ?_ H0 ?_ ?_
  · intro i h0 w0 w As K hi H K1 K2
    obtain ⟨lp, q1, q2, q3, H⟩ := H.lpx
    refine ⟨rfl, HY w lp _ K q1 (H.get m0) q2 rfl ⟨i, _, rfl, lp, H.get m0, q2, fun W2 e2 => ?_⟩⟩
    have H := H.putObj e2
    refine H.pure (place_sp seed s 512 i (by omega) (by omega)) fun w27 H => ⟨_, rfl, fun w31 e31 => ?_⟩
    have H := H.drew e31
    have hp := place_lt seed s 512 i (by omega)
    have hwl : (W i).length = 8 := by rw [addM_len]; exact hw
    rw [div64 hp, mod64]
    have hk : placeN seed s 512 i / 64 < 8 := by omega
    refine ⟨_, by rw [H.cell m3]; rfl, by omega, _, rfl, by omega, by omega, (W i).getD (placeN seed s 512 i / 64) 0, ?_, by omega, by omega, _, rfl, by omega, by omega, by rw [at_word]; exact H.stOk m2 (by simp [u64s]; omega), fun w36 e36 => ?_⟩
    · rw [at_word, H.cell m2, List.getElem?_cons_succ, u64s, List.getElem?_map, List.getD_eq_getElem?_getD, List.getElem?_eq_getElem (by omega)]; rfl
    · rw [at_word] at e36
      have H := H.pull3.set e36
      rw [set_word] at H
      refine ⟨_, H.get m1, fun w38 e38 => ?_⟩
      have H := H.swap.putObj e38
      rw [show (W i).set (placeN seed s 512 i / 64) _ = W (i + 1) from (addM_take ..).symm] at H
      exact K1 _ (St.lpxMk (C (i + 1)) (hLs _ _ _ (hLs _ _ _ q1)) rfl rfl H.swap.push3)
  · intro w38 H
    obtain ⟨lp, q1, q2, q3, H⟩ := H.lpx
    refine ⟨lp, H.get m0, by rw [q2]; simp, fun w39 e39 => ?_⟩
    have H := H.putObj e39
    rw [q3, pendR_none]
    refine ⟨H.get m1, fun w42 e42 => ?_⟩
    have H := H.swap.putObj e42
    exact (H.only m2).conv fun _ hs => ⟨rfl, by show (W 3).length = 8; rw [addM_len]; exact hw, hs⟩
  · intro w38 H
    exact (H.facts fun _ h => h).elim

theorem bloom_new (seed : Int) : Sp P f_bloom_New #[.int .u64 seed] (fun _ => True) (fun v h => ∃ f, v = .pointer (some (Addr.mk f 0 none)) ∧ Bloom f seed (List.replicate 8 0) h) := sp_of fun w h H => by
  apply cl_bloom_New
  unfold c_bloom_New
  intro b1 w2 e1 e2
  have H := H.drop.newCells (b := b1) (cs := .int .u64 seed :: u64s (List.replicate 8 0)) e1 e2
  exact H.conv fun _ hs => ⟨b1, rfl, rfl, hs⟩

theorem bloom_clear (f : Nat) (seed : Int) (ws : List Int) : Sp P f_bloom_Filter_Clear #[.pointer (some (Addr.mk f 0 none))] (Bloom f seed ws) (fun v h => v = .tuple #[] ∧ Bloom f seed (List.replicate 8 0) h) := sp_of fun w h H => by
  apply cl_bloom_Filter_Clear
  unfold c_bloom_Filter_Clear
  obtain ⟨hw, H⟩ := H.purOpen
  have e0 : offB (Addr.add (Addr.mk f 0 none) 1) 8 0 1 = Addr.mk f 1 none := by rw [add_mk]; simp [offB, add_mk]
  refine ⟨_, rfl, ?_⟩
  rw [e0]
  refine ⟨fun _ => ⟨_, rfl, H.wr m0 (by simp [u64s, hw])⟩, fun w2 e2 => ?_⟩
  have H := H.setSpan0 e2
  have e : setL (Value.int .u64 seed :: u64s ws) 1 (zc (8 - 0) [Value.int .u64 0]) = .int .u64 seed :: u64s (List.replicate 8 0) := by
    rw [setL_eq _ _ _ (by simp [zc, u64s, hw])]
    have : (Value.int .u64 seed :: u64s ws).drop (1 + (zc (8 - 0) [Value.int .u64 0]).length) = [] := List.drop_eq_nil_of_le (by simp [zc, u64s, hw])
    rw [this]
    rfl
  rw [e] at H
  exact H.conv fun _ hs => ⟨rfl, rfl, hs⟩
end Go.Bty
