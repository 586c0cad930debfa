/- A function whose condition holds does what it says. -/
import Derived.Test.YtbjkbonnmeppoaaBtyM
namespace Go.Bty
open Go

section scope
variable {F : Fence} {n : Nat} {P : Program} {b : Frame} {a : Act} {k : List Item} {cs : List Frame} {w : World} {Q : Exit → Act → World → Prop}
theorem stepR_scope {c : Code} : step P (lone (b.atR a (.code (.scope c) :: k)) cs w) = .next (lone (b.atR a (.code c :: .inScope c :: k)) cs w) :=
  step_lone_go (by simp [stepG, stepG.exec, Frame.atR])
theorem stepR_inScope {c : Code} : step P (lone (b.atR a (.inScope c :: k)) cs w) = .next (lone (b.atR a k) cs w) :=
  step_lone_go (by simp [stepG, stepG.exec, Frame.atR])
theorem wpIn_scope {c : Code} (hg : ∀ l a w, ¬ Q (.goto l) a w) (h : c.wpIn F n P Q a w) : (Code.scope c).wpIn F n P Q a w := by
  intro b k cs hro hb hr
  have h0 : (lone (b.atR a (.code (.scope c) :: k)) cs w).fenced P F := fenced_calm hb hr rfl
  obtain ⟨e, a₁, w₁, hq, harr⟩ := h b (.inScope c :: k) cs hro hb hr
  cases e with
  | normal => exact ⟨.normal, a₁, w₁, hq, .head h0 stepR_scope (StepsIn.trans harr (.one (fenced_calm hb hr rfl) stepR_inScope))⟩
  | exit id =>
    have hx : exitTo id (.inScope c :: k) = exitTo id k := by simp [exitTo]
    exact ⟨_, a₁, w₁, hq, fun k' hk => .head h0 stepR_scope (harr.1 k' (by rw [hx]; exact hk)), fun hr' hk => let ⟨k₁, h1, h2⟩ := harr.2 hr' (by rw [hx]; exact hk); ⟨k₁, h1, .head h0 stepR_scope h2⟩⟩
  | goto l => exact absurd hq (hg l a₁ w₁)
  | ret => exact ⟨_, a₁, w₁, hq, .of_steps (.one h0 stepR_scope) harr⟩
  | panic ch => exact ⟨_, a₁, w₁, hq, .of_steps (.one h0 stepR_scope) harr⟩
  | outgrown => exact ⟨_, a₁, w₁, hq, .of_steps (.one h0 stepR_scope) harr⟩
end scope

section
variable {r : Option Nat} {P : Program} {N : Nat}

/-- A condition on environments, of frames. -/
def CQ (N : Nat) (ts : List Nat) (a0 : Act) (Q : CPost) : Exit → Act → World → Prop := fun e a w => KeepsF ts a0 a ∧ ∃ ρ' ds', Rel N ρ' ds' a ∧ Q e ρ' ds' w

theorem lives_spec : ∀ {live : List (Nat × S2)} {ρ : Env} {K : List Value → Prop} {ds : List Nat} {a : Act}, Rel N ρ ds a → lives ρ live K → K (live.map fun p => a.tmps.getD p.1 undef)
  | [], _, _, _, _, _, h => h
  | p :: l, ρ, K, ds, a, hr, h => by
    unfold lives at h
    split at h
    · rename_i v hv
      have := lives_spec (live := l) hr h
      rw [← hr.val p.1 v hv] at this
      exact this
    · exact h.elim

theorem takes_spec {live : List (Nat × S2)} {vs : List Value} {K : Env → Prop} (hl : vs.length = live.length) (h : takes live vs K) : K ((live.map (·.1)).zip vs) := by
  cases live with
  | nil =>
    have : vs = [] := List.eq_nil_of_length_eq_zero (by simpa using hl)
    exact h this
  | cons p l =>
    obtain ⟨xs, rfl, hk⟩ := exs2_imp h
    exact hk

theorem zip_get {ρ : Env} {t : Nat} {v : Value} : ∀ {l : List Nat} {vs : List Value}, Env.get (l.zip vs ++ ρ) t = some v → (∃ i : Nat, l[i]? = some t ∧ vs[i]? = some v) ∨ ρ.get t = some v
  | [], vs, h => .inr h
  | k :: l, [], h => .inr h
  | k :: l, u :: vs, h => by
    simp only [List.zip_cons_cons, List.cons_append] at h
    rcases Env.get_put h with ⟨rfl, rfl⟩ | ⟨_, h⟩
    · exact .inl ⟨0, rfl, rfl⟩
    · rcases zip_get h with ⟨i, h1, h2⟩ | h2
      · exact .inl ⟨i + 1, by simpa using h1, by simpa using h2⟩
      · exact .inr h2

/-- Temporaries with the values that they have. -/
theorem Rel.take {live : List (Nat × S2)} {ρ : Env} {ds : List Nat} {a : Act} (hr : Rel N ρ ds a) : Rel N ((live.map (·.1)).zip (live.map fun p => a.tmps.getD p.1 undef) ++ ρ) ds a :=
  ⟨hr.size, fun t v h => by
    rcases zip_get h with ⟨i, h1, h2⟩ | h
    · simp only [List.getElem?_map, Option.map_eq_some_iff] at h1 h2
      obtain ⟨p, hp, rfl⟩ := h1
      obtain ⟨q, hq, rfl⟩ := h2
      rw [hp] at hq; cases hq; rfl
    · exact hr.val t v h, hr.defs⟩

/-- What a piece of code has not written is known behind it. -/
theorem Rel.keep {ρ ρ' : Env} {ts ds ds' : List Nat} {a a' : Act} (hr : Rel N ρ ds a) (hr' : Rel N ρ' ds' a') (hk : KeepsF ts a a') : Rel N (ρ.drop ts) ds' a' :=
  ⟨hr'.size, fun t v hv => let ⟨h1, h2⟩ := Env.get_drop hv; (hk t h2).trans (hr.val t v h1), hr'.defs⟩

theorem nodupB_spec : ∀ {ts : List Nat}, nodupB ts = true → ts.Nodup
  | [], _ => List.nodup_nil
  | t :: ts, h => by
    simp only [nodupB, Bool.and_eq_true, Bool.not_eq_true'] at h
    refine List.nodup_cons.2 ⟨fun hm => ?_, nodupB_spec h.2⟩
    have : (ts.any fun u => Nat.beq t u) = true := List.any_eq_true.2 ⟨t, hm, by simp⟩
    rw [this] at h; exact absurd h.1 (by simp)

theorem foldl_size {A : Array Value} : ∀ (ps : List Nat) (xs : List Value), ((ps.zip xs).foldl (fun tmps (p : Nat × Value) => tmps.setIfInBounds p.1 p.2) A).size = A.size
  | [], _ => rfl
  | _ :: _, [] => rfl
  | p :: ps, x :: xs => by
    simp only [List.zip_cons_cons, List.foldl_cons]
    rw [foldl_size ps xs]; simp
theorem foldl_other {t : Nat} : ∀ (ps : List Nat) (xs : List Value) {A : Array Value}, t ∉ ps → ((ps.zip xs).foldl (fun tmps (p : Nat × Value) => tmps.setIfInBounds p.1 p.2) A).getD t undef = A.getD t undef
  | [], _, _, _ => rfl
  | _ :: _, [], _, _ => rfl
  | p :: ps, x :: xs, A, h => by
    simp only [List.mem_cons, not_or] at h
    simp only [List.zip_cons_cons, List.foldl_cons]
    rw [foldl_other ps xs h.2]
    simp only [Array.getD_eq_getD_getElem?]
    rw [Array.getElem?_setIfInBounds_ne (Ne.symm h.1)]
theorem foldl_get {t : Nat} {v : Value} : ∀ (ps : List Nat) (xs : List Value) {A : Array Value}, ps.Nodup → (∀ t ∈ ps, t < A.size) → (∃ i : Nat, ps[i]? = some t ∧ xs[i]? = some v) →
    ((ps.zip xs).foldl (fun tmps (p : Nat × Value) => tmps.setIfInBounds p.1 p.2) A).getD t undef = v
  | [], _, _, _, _, ⟨i, h, _⟩ => by simp at h
  | _ :: _, [], _, _, _, ⟨i, _, h⟩ => by simp at h
  | p :: ps, x :: xs, A, hn, hlt, ⟨i, h1, h2⟩ => by
    simp only [List.zip_cons_cons, List.foldl_cons]
    rw [List.nodup_cons] at hn
    cases i with
    | zero =>
      simp only [List.getElem?_cons_zero, Option.some.injEq] at h1 h2
      subst h1; subst h2
      rw [foldl_other ps xs hn.1]
      have := hlt p (List.mem_cons_self ..)
      simp [this]
    | succ i => exact foldl_get ps xs hn.2 (fun t ht => by simpa using hlt t (List.mem_cons_of_mem _ ht)) ⟨i, by simpa using h1, by simpa using h2⟩

/-- A round's frame. -/
theorem Rel.round {ρ : Env} {A : Array Value} {ps : List Nat} {xs : List Value} (hr : Rel N ρ [] ⟨A, []⟩) (hn : ps.Nodup) (hlt : ∀ t ∈ ps, t < N) :
    Rel N (ps.zip xs ++ ρ) [] ⟨(ps.zip xs).foldl (fun tmps (p : Nat × Value) => tmps.setIfInBounds p.1 p.2) A, []⟩ := by
  refine ⟨by rw [foldl_size]; exact hr.size, fun t v h => ?_, rfl⟩
  by_cases hm : t ∈ ps
  · rcases zip_get h with h | h
    · exact foldl_get ps xs hn (fun t ht => by rw [hr.size]; exact hlt t ht) h
    · -- t is a parameter without a value: too few values
      by_cases hi : ∃ i : Nat, ps[i]? = some t ∧ i < xs.length
      · obtain ⟨i, hi1, hi2⟩ := hi
        have hx : xs[i]? = some xs[i] := List.getElem?_eq_getElem hi2
        have e1 := foldl_get (v := xs[i]) ps xs hn (fun t ht => by rw [hr.size]; exact hlt t ht) ⟨i, hi1, hx⟩
        have : ∀ (l : List Nat) (ys : List Value) (i : Nat) (hi2 : i < ys.length), l.Nodup → l[i]? = some t → Env.get (l.zip ys ++ ρ) t = some ys[i] := by
          intro l
          induction l with
          | nil => intro ys i _ _ h; simp at h
          | cons k l ih =>
            intro ys i hi2 hnd h
            cases ys with
            | nil => simp at hi2
            | cons y ys =>
              simp only [List.zip_cons_cons, List.cons_append, Env.get]
              cases i with
              | zero =>
                simp only [List.getElem?_cons_zero, Option.some.injEq] at h
                subst h
                simp
              | succ i =>
                rw [List.nodup_cons] at hnd
                have hl : l[i]? = some t := by simpa using h
                have hne : k ≠ t := fun e => hnd.1 (e ▸ List.mem_of_getElem? hl)
                have hb : Nat.beq k t = false := by
                  cases hb : Nat.beq k t with
                  | true => exact absurd (Nat.eq_of_beq_eq_true hb) hne
                  | false => rfl
                rw [hb]
                simp only [cond_false, List.getElem_cons_succ]
                exact ih ys i (by simpa using hi2) hnd.2 hl
        rw [this ps xs i hi2 hn hi1] at *
        simp only [Option.some.injEq] at *
        rw [e1]; assumption
      · have : ∀ (l : List Nat) (ys : List Value) (A : Array Value), (¬ ∃ i : Nat, l[i]? = some t ∧ i < ys.length) → ((l.zip ys).foldl (fun tmps (p : Nat × Value) => tmps.setIfInBounds p.1 p.2) A).getD t undef = A.getD t undef := by
          intro l
          induction l with
          | nil => intro _ _ _; rfl
          | cons k l ih =>
            intro ys A hno
            cases ys with
            | nil => rfl
            | cons y ys =>
              simp only [List.zip_cons_cons, List.foldl_cons]
              rw [ih ys _ (fun ⟨i, h1, h2⟩ => hno ⟨i + 1, by simpa using h1, by simpa using h2⟩)]
              have hne : k ≠ t := fun e => hno ⟨0, by simp [e], by simp⟩
              simp only [Array.getD_eq_getD_getElem?]
              rw [Array.getElem?_setIfInBounds_ne hne]
        rw [this ps xs A hi]
        exact hr.val t v h
  · rw [foldl_other ps xs hm]
    rcases zip_get h with ⟨i, h1, _⟩ | h
    · exact absurd (List.mem_of_getElem? h1) hm
    · exact hr.val t v h
end
end Go.Bty
