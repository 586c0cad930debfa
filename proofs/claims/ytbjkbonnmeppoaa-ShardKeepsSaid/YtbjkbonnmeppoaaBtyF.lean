/- Maps: keys that are strings, integers, or pairs of ints. -/
import Derived.Test.YtbjkbonnmeppoaaBtyE
namespace Go.Bty
open Go

theorem ba_beq (a b : ByteArray) : (a == b) = decide (a = b) := by
  cases a; cases b
  rename_i x y
  show (x == y) = _
  rw [show decide (ByteArray.mk x = ByteArray.mk y) = decide (x = y) by simp]
  rw [Bool.eq_iff_iff]; simp

inductive KK where
  | str | int (k : IntKind) | pair
  deriving DecidableEq

/-- A field of a pair: an int at its place. -/
def pairField (P : Program) (f : Field) (off : Nat) : Bool :=
  Nat.beq f.offset off && f.name != "_" && (match P.underlying f.type with | some (.int .i64) => true | _ => false) && (match aggB P f.type with | some g => !g | none => false)
def kkOf (P : Program) (t : TypeId) : Option KK :=
  match P.underlying t with
  | some .string => some .str
  | some (.int k) => some (.int k)
  | some (.struct fs) => match fs.toList with
    | [f, g] => bif pairField P f 0 && pairField P g 1 && !P.stoodInHeld t then some .pair else none
    | _ => none
  | _ => none
def pairOf : List Value → Option (Int × Int)
  | [.int .i64 a, .int .i64 b] => some (a, b)
  | _ => none
def kFits (kk : KK) (v : Value) : Bool :=
  match kk, v with
  | .str, .string _ => true
  | .int k, .int k' _ => decide (k = k')
  | .pair, .agg cs => (pairOf cs.toList).isSome
  | _, _ => false
/-- Are two keys one? -/
def kEq : Value → Value → Bool
  | .string a, .string b => decide (a = b)
  | .int _ a, .int _ b => a == b
  | .agg x, .agg y => pairOf x.toList == pairOf y.toList
  | _, _ => false
def KeysOk (kk : KK) (es : List MapEntry) : Prop := ∀ e ∈ es, kFits kk e.key = true
def mfind (k : Value) : List MapEntry → Nat → Option (Nat × Value)
  | [], _ => none
  | e :: es, i => bif kEq k e.key then some (i, e.val) else mfind k es (i + 1)
def mget (k : Value) (es : List MapEntry) : Option Value := (mfind k es 0).map (·.2)
def mput (k v : Value) (es : Array MapEntry) (c : Nat) : Obj :=
  match mfind k es.toList 0 with
  | some (i, _) => .map (es.modify i fun e => { e with key := k, val := v }) c
  | none => .map (es.push { key := k, val := v, born := c }) (c + 1)
def mdel (k : Value) (es : Array MapEntry) (c : Nat) : Obj :=
  match mfind k es.toList 0 with
  | some (i, _) => .map (es.eraseIdxIfInBounds i) c
  | none => .map es c

section
variable {P : Program}
theorem findNow_run {d : TypeDesc} {k : Value} (hd : (d = .string ∧ ∃ s, k = .string s) ∨ (∃ q n, d = .int q ∧ k = .int q n)) : ∀ (es : List MapEntry) (i : Nat),
    (∀ e ∈ es, (∃ s, k = .string s ∧ ∃ u, e.key = .string u) ∨ (∃ q n, k = .int q n ∧ ∃ m, e.key = .int q m)) → Instr.findNow d k es i = some (mfind k es i)
  | [], _, _ => rfl
  | e :: es, i, h => by
    have ih := findNow_run hd es (i + 1) (fun e he => h e (List.mem_cons_of_mem _ he))
    have hs : Instr.sameNow d k e.key = some (kEq k e.key) := by
      rcases h e (List.mem_cons_self ..) with ⟨s, rfl, u, hu⟩ | ⟨q, n, rfl, m, hm⟩
      · rw [hu]
        rcases hd with ⟨rfl, _⟩ | ⟨q, n, rfl, hk⟩
        · simp only [Instr.sameNow, kEq, ba_beq]
        · cases hk
      · rw [hm]
        rcases hd with ⟨rfl, s, hk⟩ | ⟨q', n', rfl, hk⟩
        · cases hk
        · cases hk; simp [Instr.sameNow, kEq]
    simp only [Instr.findNow, hs, mfind]
    cases kEq k e.key with
    | true => rfl
    | false => exact ih

theorem pairOf_spec {vs : List Value} {a b : Int} (h : pairOf vs = some (a, b)) : vs = [.int .i64 a, .int .i64 b] := by
  unfold pairOf at h
  split at h
  · cases h; rfl
  · cases h

theorem pairField_spec {f : Field} {off : Nat} (h : pairField P f off = true) : f.offset = off ∧ (f.name != "_") = true ∧ P.underlying f.type = some (.int .i64) ∧ aggB P f.type = some false := by
  simp only [pairField, Bool.and_eq_true] at h
  obtain ⟨⟨⟨h1, h2⟩, h3⟩, h4⟩ := h
  refine ⟨Nat.eq_of_beq_eq_true h1, h2, ?_, ?_⟩
  · split at h3
    · assumption
    · cases h3
  · split at h4
    · rename_i g hg
      cases g with
      | true => cases h4
      | false => exact hg
    · cases h4

theorem kkOf_pair {t : TypeId} (h : kkOf P t = some .pair) : ∃ fs f g, P.underlying t = some (.struct fs) ∧ fs.toList = [f, g] ∧ pairField P f 0 = true ∧ pairField P g 1 = true ∧ P.stoodInHeld t = false := by
  unfold kkOf at h
  split at h
  · cases h
  · cases h
  · rename_i fs hu
    split at h
    · rename_i f g hfs
      cases hb : pairField P f 0 && pairField P g 1 && !P.stoodInHeld t with
      | false => rw [hb] at h; cases h
      | true =>
        simp only [Bool.and_eq_true, Bool.not_eq_true'] at hb
        exact ⟨fs, f, g, hu, hfs, hb.1.1, hb.1.2, hb.2⟩
    · cases h
  · cases h
theorem kkOf_str {t : TypeId} (h : kkOf P t = some .str) : P.underlying t = some .string := by
  unfold kkOf at h
  split at h
  · assumption
  · cases h
  · split at h
    · rename_i f g hfs
      cases hb : pairField P f 0 && pairField P g 1 && !P.stoodInHeld t <;> rw [hb] at h <;> cases h
    · cases h
  · cases h
theorem kkOf_int {t : TypeId} {k : IntKind} (h : kkOf P t = some (.int k)) : P.underlying t = some (.int k) := by
  unfold kkOf at h
  split at h
  · cases h
  · cases h; assumption
  · split at h
    · rename_i f g hfs
      cases hb : pairField P f 0 && pairField P g 1 && !P.stoodInHeld t <;> rw [hb] at h <;> cases h
    · cases h
  · cases h

theorem equal_int {t : TypeId} {q : IntKind} (h : P.underlying t = some (.int q)) (d : Nat) (k : IntKind) (m n : Int) (w : World) : (Op.equalIn (d + 1) t (.int k m) (.int k n)).run P w = .ok (m == n) w := by
  rw [Op.equalIn, Sem.run_bind, run_underlying h]
  simp

theorem equal_pair {t : TypeId} (h : kkOf P t = some .pair) {x y : Array Value} (hx : (pairOf x.toList).isSome = true) (hy : (pairOf y.toList).isSome = true) (w : World) :
    (Op.equal t (.agg x) (.agg y)).run P w = .ok (kEq (.agg x) (.agg y)) w := by
  obtain ⟨fs, f, g, hu, hfs, hf, hg, hst⟩ := kkOf_pair h
  obtain ⟨hf1, hf2, hf3, hf4⟩ := pairField_spec hf
  obtain ⟨hg1, hg2, hg3, hg4⟩ := pairField_spec hg
  obtain ⟨⟨a, b⟩, hab⟩ := Option.isSome_iff_exists.1 hx
  obtain ⟨⟨c, d⟩, hcd⟩ := Option.isSome_iff_exists.1 hy
  have ex := pairOf_spec hab
  have ey := pairOf_spec hcd
  have x0 : x[f.offset]? = some (.int .i64 a) := by rw [hf1, ← Array.getElem?_toList, ex]; rfl
  have x1 : x[g.offset]? = some (.int .i64 b) := by rw [hg1, ← Array.getElem?_toList, ex]; rfl
  have y0 : y[f.offset]? = some (.int .i64 c) := by rw [hf1, ← Array.getElem?_toList, ey]; rfl
  have y1 : y[g.offset]? = some (.int .i64 d) := by rw [hg1, ← Array.getElem?_toList, ey]; rfl
  unfold Op.equal
  rw [show Op.maxDepth = 9998 + 1 + 1 from rfl, Op.equalIn, Sem.run_bind, run_underlying hu]
  simp only [Result.andThen_ok, Sem.run_bind, run_program, hst, Bool.false_eq_true, if_false]
  rw [← Array.forIn_toList, hfs]
  have n1 : f.name ≠ "_" := by simpa using hf2
  have n2 : g.name ≠ "_" := by simpa using hg2
  have r0 := part_run hf4 x0 w
  have r1 := part_run hf4 y0 w
  have r2 := part_run hg4 x1 w
  have r3 := part_run hg4 y1 w
  have q0 := equal_int (P := P) hf3 9998 .i64 a c w
  have q1 := equal_int (P := P) hg3 9998 .i64 b d w
  have e0 : kEq (.agg x) (.agg y) = (a == c && b == d) := by
    simp only [kEq, hab, hcd]
    rfl
  rw [e0]
  simp only [List.forIn_cons, List.forIn_nil, n1, n2, ne_eq, not_false_eq_true, if_true, Sem.run_bind, r0, r1, q0, Result.andThen_ok]
  cases (a == c) with
  | false => rfl
  | true =>
    simp only [Bool.not_true, Bool.false_eq_true, if_false, Sem.run_pure, Sem.run_bind, r2, r3, q1, Result.andThen_ok]
    cases (b == d) <;> rfl

theorem findAsking_pair {t : TypeId} (h : kkOf P t = some .pair) {x : Array Value} (hx : (pairOf x.toList).isSome = true) (w : World) : ∀ (es : List MapEntry) (i : Nat), KeysOk .pair es →
    (Instr.findAsking t (.agg x) es i).run P w = .ok (mfind (.agg x) es i) w
  | [], _, _ => rfl
  | e :: es, i, hk => by
    have he := hk e (List.mem_cons_self ..)
    have ih := findAsking_pair h hx w es (i + 1) (fun e he => hk e (List.mem_cons_of_mem _ he))
    cases hkey : e.key <;> rw [hkey] at he <;> simp only [kFits, Bool.false_eq_true] at he
    rename_i y
    simp only [Instr.findAsking, Sem.run_bind, hkey, equal_pair h hx he, Result.andThen_ok, mfind, Sem.run_ite]
    cases kEq (.agg x) (.agg y) with
    | true => simp
    | false => simpa using ih

theorem findKey_run {t : TypeId} {kk : KK} (h : kkOf P t = some kk) {k : Value} (hk : kFits kk k = true) {es : List MapEntry} (hes : KeysOk kk es) (w : World) : (Instr.findKey t k es).run P w = .ok (mfind k es 0) w := by
  cases kk with
  | str =>
    have hu := kkOf_str h
    cases k <;> simp only [kFits, Bool.false_eq_true] at hk
    rename_i s
    simp only [Instr.findKey, Sem.run_bind, run_underlying hu, Result.andThen_ok]
    rw [findNow_run (.inl ⟨rfl, s, rfl⟩) es 0 (fun e he => by
      have := hes e he
      cases hkey : e.key <;> rw [hkey] at this <;> simp only [kFits, Bool.false_eq_true] at this
      exact .inl ⟨s, rfl, _, rfl⟩)]
    rfl
  | int q =>
    have hu := kkOf_int h
    cases k <;> simp only [kFits, Bool.false_eq_true, decide_eq_true_eq] at hk
    subst hk
    rename_i n
    simp only [Instr.findKey, Sem.run_bind, run_underlying hu, Result.andThen_ok]
    rw [findNow_run (.inr ⟨_, n, rfl, rfl⟩) es 0 (fun e he => by
      have := hes e he
      cases hkey : e.key <;> rw [hkey] at this <;> simp only [kFits, Bool.false_eq_true, decide_eq_true_eq] at this
      subst this
      exact .inr ⟨_, n, rfl, _, rfl⟩)]
    rfl
  | pair =>
    obtain ⟨fs, f, g, hu, _⟩ := kkOf_pair h
    cases k <;> simp only [kFits, Bool.false_eq_true] at hk
    simp only [Instr.findKey, Sem.run_bind, run_underlying hu, Result.andThen_ok]
    cases es with
    | nil => rfl
    | cons e es =>
      rename_i x
      have : Instr.findNow (.struct fs) (.agg x) (e :: es) 0 = none := by simp only [Instr.findNow, Instr.sameNow]
      rw [this]
      exact findAsking_pair h hk w _ _ hes

theorem checkKey_run {t : TypeId} {kk : KK} (h : kkOf P t = some kk) {k : Value} (hk : kFits kk k = true) (b : Bool) (w : World) : (Instr.checkKey b 10000 t k).run P w = .ok () w := by
  cases kk with
  | str =>
    have hu := kkOf_str h
    rw [show 10000 = 9999 + 1 from rfl, Instr.checkKey, Sem.run_bind, run_underlying hu]
    cases k <;> rfl
  | int q =>
    have hu := kkOf_int h
    rw [show 10000 = 9999 + 1 from rfl, Instr.checkKey, Sem.run_bind, run_underlying hu]
    cases k <;> rfl
  | pair =>
    obtain ⟨fs, f, g, hu, hfs, hf, hg, hst⟩ := kkOf_pair h
    obtain ⟨hf1, hf2, hf3, hf4⟩ := pairField_spec hf
    obtain ⟨hg1, hg2, hg3, hg4⟩ := pairField_spec hg
    cases k <;> simp only [kFits, Bool.false_eq_true] at hk
    rename_i x
    obtain ⟨⟨a, c⟩, hab⟩ := Option.isSome_iff_exists.1 hk
    have ex := pairOf_spec hab
    have x0 : x[f.offset]? = some (.int .i64 a) := by rw [hf1, ← Array.getElem?_toList, ex]; rfl
    have x1 : x[g.offset]? = some (.int .i64 c) := by rw [hg1, ← Array.getElem?_toList, ex]; rfl
    have n1 : f.name ≠ "_" := by simpa using hf2
    have n2 : g.name ≠ "_" := by simpa using hg2
    have sub : ∀ (t : TypeId) (n : Int), P.underlying t = some (.int .i64) → (Instr.checkKey b 9999 t (.int .i64 n)).run P w = .ok () w := fun t n ht => by
      rw [show 9999 = 9998 + 1 from rfl, Instr.checkKey, Sem.run_bind, run_underlying ht]; rfl
    rw [show 10000 = 9999 + 1 from rfl, Instr.checkKey, Sem.run_bind, run_underlying hu]
    simp only [Result.andThen_ok]
    rw [← Array.forIn_toList, hfs]
    simp only [List.forIn_cons, List.forIn_nil, n1, n2, ne_eq, not_false_eq_true, if_true, Sem.run_bind, part_run hf4 x0, part_run hg4 x1, sub _ _ hf3, sub _ _ hg3, Result.andThen_ok, Sem.run_pure]
end
end Go.Bty
