/- What maps hold: a finite function of their keys. -/
import Derived.Test.YtbjkbonnmeppoaaBtyQ
namespace Go.Bty
open Go

theorem kEq_iff {kk : KK} {a b : Value} (ha : kFits kk a = true) (hb : kFits kk b = true) : kEq a b = true ↔ a = b := by
  cases kk with
  | str =>
    cases a <;> simp only [kFits, Bool.false_eq_true] at ha
    cases b <;> simp only [kFits, Bool.false_eq_true] at hb
    simp [kEq]
  | int k =>
    cases a <;> simp only [kFits, Bool.false_eq_true, decide_eq_true_eq] at ha
    cases b <;> simp only [kFits, Bool.false_eq_true, decide_eq_true_eq] at hb
    subst ha; subst hb
    simp [kEq]
  | pair =>
    cases a <;> simp only [kFits, Bool.false_eq_true] at ha
    cases b <;> simp only [kFits, Bool.false_eq_true] at hb
    rename_i x y
    obtain ⟨⟨a1, a2⟩, hx⟩ := Option.isSome_iff_exists.1 ha
    obtain ⟨⟨b1, b2⟩, hy⟩ := Option.isSome_iff_exists.1 hb
    have ex := pairOf_spec hx
    have ey := pairOf_spec hy
    have hx' : x = #[.int .i64 a1, .int .i64 a2] := by rw [← ex]
    have hy' : y = #[.int .i64 b1, .int .i64 b2] := by rw [← ey]
    subst hx' hy'
    simp [kEq, pairOf]

theorem kEq_false {kk : KK} {a b : Value} (ha : kFits kk a = true) (hb : kFits kk b = true) (h : a ≠ b) : kEq a b = false := by
  cases e : kEq a b with
  | false => rfl
  | true => exact absurd ((kEq_iff ha hb).1 e) h

theorem mfind_shift (k : Value) : ∀ (es : List MapEntry) (i : Nat), mfind k es i = (mfind k es 0).map fun p => (p.1 + i, p.2)
  | [], i => rfl
  | e :: es, i => by
    simp only [mfind]
    cases kEq k e.key with
    | true => simp
    | false =>
      simp only [cond_false]
      rw [mfind_shift k es (i + 1), mfind_shift k es (0 + 1)]
      cases mfind k es 0 with
      | none => rfl
      | some p => simp; omega

theorem mget_cons {k : Value} {e : MapEntry} {es : List MapEntry} : mget k (e :: es) = bif kEq k e.key then some e.val else mget k es := by
  simp only [mget, mfind]
  cases kEq k e.key with
  | true => rfl
  | false =>
    simp only [cond_false]
    rw [mfind_shift]
    cases mfind k es 0 <;> rfl

theorem mfind_spec {k : Value} : ∀ {es : List MapEntry} {i : Nat} {v : Value}, mfind k es 0 = some (i, v) → ∃ e, es[i]? = some e ∧ kEq k e.key = true ∧ e.val = v
  | [], _, _, h => by cases h
  | e :: es, i, v, h => by
    simp only [mfind] at h
    cases hk : kEq k e.key with
    | true => rw [hk] at h; cases h; exact ⟨e, rfl, hk, rfl⟩
    | false =>
      rw [hk] at h
      simp only [cond_false] at h
      rw [mfind_shift] at h
      cases hf : mfind k es 0 with
      | none => rw [hf] at h; cases h
      | some p =>
        rw [hf] at h
        obtain ⟨j, u⟩ := p
        simp only [Option.map_some, Option.some.injEq, Prod.mk.injEq] at h
        obtain ⟨rfl, rfl⟩ := h
        obtain ⟨e', h1, h2, h3⟩ := mfind_spec hf
        exact ⟨e', by simpa using h1, h2, h3⟩

theorem mfind_none {k : Value} : ∀ {es : List MapEntry} {i : Nat}, mfind k es i = none → ∀ e ∈ es, kEq k e.key = false
  | [], _, _, _, he => by cases he
  | e :: es, i, h, e', he => by
    simp only [mfind] at h
    cases hk : kEq k e.key with
    | true => rw [hk] at h; cases h
    | false =>
      rw [hk] at h
      rcases List.mem_cons.1 he with rfl | he
      · exact hk
      · exact mfind_none h e' he

/-- A map's keys are of one kind and differ; and it holds what g says. -/
structure MapIs (kk : KK) (es : Array MapEntry) (g : Value → Option Value) : Prop where
  keys : KeysOk kk es.toList
  dist : (es.toList.map (·.key)).Nodup
  holds : ∀ k, kFits kk k = true → mget k es.toList = g k

theorem mapIs_empty (kk : KK) : MapIs kk #[] (fun _ => none) := ⟨(fun e he => by cases he), by simp, fun _ _ => rfl⟩

theorem mget_of_mem {kk : KK} : ∀ {es : List MapEntry}, KeysOk kk es → (es.map (·.key)).Nodup → ∀ e ∈ es, mget e.key es = some e.val
  | [], _, _, e, he => by cases he
  | e0 :: es, hk, hd, e, he => by
    rw [mget_cons]
    rcases List.mem_cons.1 he with rfl | he
    · have : kEq e.key e.key = true := (kEq_iff (hk e (List.mem_cons_self ..)) (hk e (List.mem_cons_self ..))).2 rfl
      rw [this]; rfl
    · have h1 : kEq e.key e0.key = false := by
        cases h : kEq e.key e0.key with
        | false => rfl
        | true =>
          have e1 := (kEq_iff (hk e (List.mem_cons_of_mem _ he)) (hk e0 (List.mem_cons_self ..))).1 h
          rw [List.map_cons, List.nodup_cons] at hd
          exact absurd (List.mem_map.2 ⟨e, he, e1⟩) hd.1
      rw [h1]
      exact mget_of_mem (fun e h => hk e (List.mem_cons_of_mem _ h)) (by rw [List.map_cons, List.nodup_cons] at hd; exact hd.2) e he

theorem mget_none_iff {kk : KK} {k : Value} : ∀ {es : List MapEntry}, KeysOk kk es → kFits kk k = true → (mget k es = none ↔ k ∉ es.map (·.key))
  | [], _, _ => by simp [mget, mfind]
  | e :: es, hk, hf => by
    have h1 := kEq_iff hf (hk e (List.mem_cons_self ..))
    have ih := mget_none_iff (es := es) (fun e h => hk e (List.mem_cons_of_mem _ h)) hf
    rw [mget_cons, List.map_cons, List.mem_cons]
    cases hb : kEq k e.key with
    | true => simp [h1.1 hb]
    | false =>
      have hne : k ≠ e.key := fun h => by rw [h1.2 h] at hb; cases hb
      simp only [cond_false, ih]
      constructor
      · intro h hor
        rcases hor with h' | h'
        · exact hne h'
        · exact h h'
      · exact fun h h' => h (.inr h')

theorem mget_append {k : Value} {xs ys : List MapEntry} : mget k (xs ++ ys) = match mget k xs with | some v => some v | none => mget k ys := by
  induction xs with
  | nil => rfl
  | cons e xs ih =>
    rw [List.cons_append, mget_cons, mget_cons]
    cases kEq k e.key with
    | true => rfl
    | false => simpa using ih

theorem mapIs_put {kk : KK} {es : Array MapEntry} {g : Value → Option Value} (H : MapIs kk es g) {k : Value} (hk : kFits kk k = true) (v : Value) (c : Nat) :
    ∃ es' c', mput k v es c = .map es' c' ∧ MapIs kk es' (fun x => bif kEq x k then some v else g x) := by
  unfold mput
  cases hf : mfind k es.toList 0 with
  | none =>
    have hno := mfind_none hf
    refine ⟨_, _, rfl, ⟨fun e he => ?_, ?_, fun x hx => ?_⟩⟩
    · rw [Array.toList_push] at he
      rcases List.mem_append.1 he with he | he
      · exact H.keys e he
      · rw [List.mem_singleton.1 he]; exact hk
    · rw [Array.toList_push, List.map_append, List.nodup_append]
      refine ⟨H.dist, by simp, fun a ha b hb hab => ?_⟩
      obtain ⟨e, he, rfl⟩ := List.mem_map.1 ha
      simp only [List.map_cons, List.map_nil, List.mem_singleton] at hb
      subst hb
      have := hno e he
      rw [(kEq_iff hk (H.keys e he)).2 hab.symm] at this; cases this
    · rw [Array.toList_push, mget_append, H.holds x hx]
      by_cases hxk : x = k
      · subst hxk
        have : g x = none := by rw [← H.holds x hx]; simp [mget, hf]
        rw [this, (kEq_iff hk hk).2 rfl, cond_true]
        simp only [mget_cons]
        have : kEq x x = true := (kEq_iff hk hk).2 rfl
        rw [this]; rfl
      · rw [kEq_false hx hk hxk, cond_false]
        have : mget x [({ key := k, val := v, born := c } : MapEntry)] = none := by
          rw [mget_cons]
          have : kEq x k = false := by
            cases h : kEq x k with
            | false => rfl
            | true => exact absurd ((kEq_iff hx hk).1 h) hxk
          simp only [this]; rfl
        rw [this]
        cases g x <;> rfl
  | some p =>
    obtain ⟨i, u⟩ := p
    obtain ⟨e, he, hke, rfl⟩ := mfind_spec hf
    have hek : k = e.key := (kEq_iff hk (H.keys e (List.mem_of_getElem? he))).1 hke
    have hl : (es.modify i fun e => { e with key := k, val := v }).toList = es.toList.take i ++ { e with key := k, val := v } :: es.toList.drop (i + 1) := by
      rw [Array.toList_modify]
      have hlt := (List.getElem?_eq_some_iff.1 he).1
      rw [List.modify_eq_take_cons_drop hlt]
      congr 2
      have := (List.getElem?_eq_some_iff.1 he).2
      rw [this]
    have hl0 : es.toList = es.toList.take i ++ e :: es.toList.drop (i + 1) := by
      have hlt := (List.getElem?_eq_some_iff.1 he).1
      have := (List.getElem?_eq_some_iff.1 he).2
      rw [← this, List.getElem_cons_drop, List.take_append_drop]
    refine ⟨_, _, rfl, ⟨fun e' he' => ?_, ?_, fun x hx => ?_⟩⟩
    · rw [hl] at he'
      rcases List.mem_append.1 he' with h | h
      · exact H.keys e' (List.mem_of_mem_take h)
      · rcases List.mem_cons.1 h with rfl | h
        · exact hk
        · exact H.keys e' (List.mem_of_mem_drop h)
    · have hd := H.dist
      rw [hl0] at hd
      rw [hl]
      simp only [List.map_append, List.map_cons] at hd ⊢
      rw [hek]; exact hd
    · have hx0 := H.holds x hx
      rw [hl0] at hx0
      rw [hl]
      rw [mget_append, mget_cons] at hx0 ⊢
      have hdis := H.dist
      rw [hl0] at hdis
      simp only [List.map_append, List.map_cons] at hdis
      have hnot : e.key ∉ (es.toList.take i).map (·.key) := fun h => by
        have := (List.nodup_append.1 hdis).2.2 _ h _ (List.mem_cons_self ..)
        exact this rfl
      by_cases hxk : x = k
      · rw [(kEq_iff hx hk).2 hxk, cond_true]
        have hno : mget x (es.toList.take i) = none := (mget_none_iff (fun e h => H.keys e (List.mem_of_mem_take h)) hx).2 (by rw [hxk, hek]; exact hnot)
        rw [hno]
        simp only [cond_true]
      · rw [kEq_false hx hk hxk, cond_false, ← hx0]
        have h2 : kEq x e.key = false := by rw [← hek]; exact kEq_false hx hk hxk
        simp only [h2, cond_false]

theorem mapIs_del {kk : KK} {es : Array MapEntry} {g : Value → Option Value} (H : MapIs kk es g) {k : Value} (hk : kFits kk k = true) (c : Nat) :
    ∃ es' c', mdel k es c = .map es' c' ∧ MapIs kk es' (fun x => bif kEq x k then none else g x) := by
  unfold mdel
  cases hf : mfind k es.toList 0 with
  | none =>
    refine ⟨_, _, rfl, ⟨H.keys, H.dist, fun x hx => ?_⟩⟩
    rw [H.holds x hx]
    by_cases hxk : x = k
    · subst hxk
      rw [(kEq_iff hk hk).2 rfl, cond_true, ← H.holds x hx]; simp [mget, hf]
    · rw [kEq_false hx hk hxk]; rfl
  | some p =>
    obtain ⟨i, u⟩ := p
    obtain ⟨e, he, hke, rfl⟩ := mfind_spec hf
    have hek : k = e.key := (kEq_iff hk (H.keys e (List.mem_of_getElem? he))).1 hke
    have hlt := (List.getElem?_eq_some_iff.1 he).1
    have hl : (es.eraseIdxIfInBounds i).toList = es.toList.take i ++ es.toList.drop (i + 1) := by
      rw [Array.eraseIdxIfInBounds, dif_pos (by simpa using hlt), Array.toList_eraseIdx, List.eraseIdx_eq_take_drop_succ]
    have hl0 : es.toList = es.toList.take i ++ e :: es.toList.drop (i + 1) := by
      have := (List.getElem?_eq_some_iff.1 he).2
      rw [← this, List.getElem_cons_drop, List.take_append_drop]
    have hdis := H.dist
    rw [hl0] at hdis
    simp only [List.map_append, List.map_cons] at hdis
    refine ⟨_, _, rfl, ⟨fun e' he' => ?_, ?_, fun x hx => ?_⟩⟩
    · rw [hl] at he'
      rcases List.mem_append.1 he' with h | h
      · exact H.keys e' (List.mem_of_mem_take h)
      · exact H.keys e' (List.mem_of_mem_drop h)
    · rw [hl, List.map_append]
      have h := List.nodup_append.1 hdis
      exact List.nodup_append.2 ⟨h.1, (List.nodup_cons.1 h.2.1).2, fun a ha b hb => h.2.2 a ha b (List.mem_cons_of_mem _ hb)⟩
    · have hx0 := H.holds x hx
      rw [hl0] at hx0
      rw [hl]
      rw [mget_append, mget_cons] at hx0
      rw [mget_append]
      by_cases hxk : x = k
      · rw [(kEq_iff hx hk).2 hxk, cond_true]
        have hnot : e.key ∉ (es.toList.take i).map (·.key) := fun h => (List.nodup_append.1 hdis).2.2 _ h _ (List.mem_cons_self ..) rfl
        have hnot2 : e.key ∉ (es.toList.drop (i + 1)).map (·.key) := (List.nodup_cons.1 (List.nodup_append.1 hdis).2.1).1
        have n1 : mget x (es.toList.take i) = none := (mget_none_iff (fun e h => H.keys e (List.mem_of_mem_take h)) hx).2 (by rw [hxk, hek]; exact hnot)
        have n2 : mget x (es.toList.drop (i + 1)) = none := (mget_none_iff (fun e h => H.keys e (List.mem_of_mem_drop h)) hx).2 (by rw [hxk, hek]; exact hnot2)
        rw [n1, n2]
      · rw [kEq_false hx hk hxk, cond_false, ← hx0]
        have h2 : kEq x e.key = false := by
          cases h : kEq x e.key with
          | false => rfl
          | true => exact absurd ((kEq_iff hx (H.keys e (List.mem_of_getElem? he))).1 h) (by rw [← hek]; exact hxk)
        simp only [h2, cond_false]

theorem MapIs.congr {kk : KK} {es : Array MapEntry} {g g' : Value → Option Value} (H : MapIs kk es g) (h : ∀ k, kFits kk k = true → g k = g' k) : MapIs kk es g' :=
  ⟨H.keys, H.dist, fun k hk => (H.holds k hk).trans (h k hk)⟩
theorem fits_pair {k : Value} (h : kFits .pair k = true) : ∃ a b : Int, k = .agg #[.int .i64 a, .int .i64 b] := by
  cases k <;> simp only [kFits, Bool.false_eq_true] at h
  rename_i x
  obtain ⟨⟨a, b⟩, hx⟩ := Option.isSome_iff_exists.1 h
  exact ⟨a, b, by rw [show x = x.toList.toArray from rfl, pairOf_spec hx]⟩
end Go.Bty
