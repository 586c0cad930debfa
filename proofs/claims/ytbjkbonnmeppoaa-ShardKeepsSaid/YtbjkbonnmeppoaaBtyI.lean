/- 've' holds what it says. -/
import Derived.Test.YtbjkbonnmeppoaaBtyH
namespace Go.Bty
open Go

section
variable {r : Option Nat} {P : Program} {N : Nat} {ρ : Env} {ds : List Nat} {a : Act}

/-- An operation that ends with a value. -/
theorem opW_ok {o : Oper} {w w' : World} {v : Value} {K : Act → World → Prop} (hd : ∀ c, o.op ≠ .defer c) (hv : (execOp a.eval o).run P w = .ok (.value v) w') (hk : K (a.put o.dst v) w') : opW r P o a w K := by
  unfold opW
  rw [Oper.semAt_eq _ _ _ hd, hv]
  exact hk
theorem opW_skip {o : Oper} {w w' : World} {K : Act → World → Prop} (hd : ∀ c, o.op ≠ .defer c) (hv : (execOp a.eval o).run P w = .ok .skip w') (hk : K (a.put o.dst undef) w') : opW r P o a w K := by
  unfold opW
  rw [Oper.semAt_eq _ _ _ hd, hv]
  exact hk

def Res (a : Act) (dst : Option Nat) (K : Value → World → Prop) (a' : Act) (w' : World) : Prop := ∃ v, a' = a.put dst v ∧ K v w'

theorem SpanAt.tail {w : World} {p : Addr} {i : Nat} {v : Value} {vs : List Value} (h : ∀ j u, (v :: vs)[j]? = some u → w.cell? (p.add (i + j)) = some u) : ∀ j u, vs[j]? = some u → w.cell? (p.add (i + 1 + j)) = some u := fun j u hj => by
  have := h (j + 1) u (by simpa using hj)
  rwa [show i + (j + 1) = i + 1 + j by omega] at this

theorem cell_setCell_some {w : World} {p q : Addr} {u v : Value} (h : w.cell? q = some u) : ∃ u', (w.setCell p v).cell? q = some u' := by
  by_cases e : p = q
  · subst e; exact ⟨v, World.cell?_setCell_same _ _ _ h⟩
  · exact ⟨u, by rw [World.cell?_setCell_other _ _ _ _ e]; exact h⟩

theorem storeCells_run (p : Addr) : ∀ (vs : List Value) (i : Nat) (w : World), OneC vs → (∀ j, j < vs.length → (∃ u, w.cell? (p.add (i + j)) = some u) ∧ w.frozen? (p.add (i + j)) = false) →
    (storeCells p vs i).run P w = .ok () (setSpanFrom w p i vs)
  | [], _, _, _, _ => by simp [storeCells, setSpanFrom]
  | v :: vs, i, w, h1, hw => by
    obtain ⟨⟨u, hu⟩, hf⟩ := hw 0 (by simp)
    simp only [Nat.add_zero] at hu hf
    have hs : (store (p.add i) v).run P w = .ok () (w.setCell (p.add i) v) := by
      rw [run_store P w _ v .plain (h1 v (List.mem_cons_self ..)), hu]
      simp [hf]
    rw [storeCells, Sem.run_bind, hs]
    simp only [Result.andThen_ok, setSpanFrom]
    refine storeCells_run p vs (i + 1) _ (fun u hu => h1 u (List.mem_cons_of_mem _ hu)) fun j hj => ?_
    obtain ⟨⟨u', hu'⟩, hf'⟩ := hw (j + 1) (by simpa using hj)
    rw [show i + (j + 1) = i + 1 + j by omega] at hu' hf'
    exact ⟨cell_setCell_some hu', by rw [World.frozen?_setCell]; exact hf'⟩

theorem storeSpan_run {p : Addr} {vs : List Value} {w : World} (h1 : OneC vs) (hw : Wr w p vs.length) : (storeCells p vs).run P w = .ok () (setSpan w p vs) :=
  storeCells_run p vs 0 w h1 fun j hj => by simpa using hw j hj

theorem zc_length (n : Nat) (z : List Value) : (zc n z).length = n * z.length := by simp [zc]
theorem zc_get (z : List Value) : ∀ (n i : Nat), i < n * z.length → (zc n z)[i]? = z[i % z.length]?
  | 0, i, h => by simp at h
  | n + 1, i, h => by
    have e : zc (n + 1) z = z ++ zc n z := by simp [zc, List.replicate_succ]
    rw [e]
    by_cases hi : i < z.length
    · rw [List.getElem?_append_left hi, Nat.mod_eq_of_lt hi]
    · rw [List.getElem?_append_right (by omega), zc_get z n (i - z.length) (by rw [Nat.add_mul] at h; omega), Nat.mod_eq_sub_mod (by omega : i ≥ z.length)]

theorem zc_range {z : Array Value} {n m : Nat} (hm : m = n * z.size) : (Array.range m).map (fun i => z[i % z.size]!) = (zc n z.toList).toArray := by
  subst hm
  apply Array.ext'
  apply List.ext_getElem?
  intro i
  simp only [Array.toList_map, Array.toList_range, List.getElem?_map]
  by_cases hi : i < n * z.size
  · have hz : z.toList.length = z.size := by simp
    rw [zc_get z.toList n i (by rw [hz]; exact hi), List.getElem?_range hi, hz]
    have hpos : 0 < z.size := by
      rcases Nat.eq_zero_or_pos z.size with h | h
      · rw [h] at hi; simp at hi
      · exact h
    have hlt : i % z.size < z.size := Nat.mod_lt _ hpos
    simp [hlt]
  · rw [List.getElem?_eq_none (by simpa using Nat.not_lt.1 hi), List.getElem?_eq_none (by rw [zc_length]; simpa using Nat.not_lt.1 hi)]
    rfl

theorem vstore_sound {t : TypeId} {n : Nat} {p : Addr} {v : Value} {w : World} {K : World → Prop} (hn : szOf P t = some n) (h : vstore n p v w K) : ∃ w', K w' ∧ (storeVar t p v).run P w = .ok () w' := by
  unfold vstore at h
  split at h
  · rename_i cs
    cases hb : Nat.beq cs.toList.length n && cs.toList.all Value.oneCell' with
    | false => rw [hb] at h; exact h.elim
    | true =>
      rw [hb] at h
      simp only [Bool.and_eq_true, List.all_eq_true] at hb
      have hl := Nat.eq_of_beq_eq_true hb.1
      refine ⟨_, h.2 _ rfl, ?_⟩
      have hs : cs.size = n := by simpa using hl
      have h1 : OneC cs.toList := fun u hu => hb.2 u hu
      simp only [storeVar, Value.cells, Sem.run_bind, run_sizeOf hn, Result.andThen_ok, hs, ne_eq, not_true_eq_false, if_false]
      exact storeSpan_run h1 (by rw [hl]; exact h.1)
  · exact h.elim
  · rename_i hne1 hne2
    cases hb : Nat.beq n 1 with
    | false => rw [hb] at h; exact h.elim
    | true =>
      rw [hb] at h
      obtain rfl := Nat.eq_of_beq_eq_true hb
      obtain ⟨⟨⟨u, hu⟩, hf⟩, hk⟩ := h
      refine ⟨_, hk _ rfl, ?_⟩
      have ho : v.oneCell' = true := by
        cases v <;> first | rfl | exact absurd rfl (hne1 _) | exact absurd rfl (hne2 _)
      have hc : v.cells = #[v] := by
        cases v <;> first | rfl | exact absurd rfl (hne1 _)
      simp only [storeVar, hc, Sem.run_bind, run_sizeOf hn, Result.andThen_ok, List.size_toArray, List.length_cons, List.length_nil, ne_eq, not_true_eq_false, if_false, Nat.zero_add]
      have := storeCells_run (P := P) p [v] 0 w (fun u hu => by rw [List.mem_singleton.1 hu]; exact ho) (fun j hj => by
        have : j = 0 := by simpa using hj
        subst this
        exact ⟨⟨u, by simpa [Addr.add] using hu⟩, by simpa [Addr.add] using hf⟩)
      rw [this]
      simp [setSpanFrom, Addr.add]

theorem mput_run {kt e : TypeId} {kk : KK} {t : TypeId} (hm : P.underlying t = some (.map kt e)) (hkk : kkOf P kt = some kk) {k v : Value} (hf : kFits kk k = true) {q c : Nat} {es : Array MapEntry} {w : World} (hh : w.heap[q]? = some (.map es c)) (hks : KeysOk kk es.toList) :
    (Instr.mapUpdate t (.map (some q)) k v).run P w = .ok () (w.putObj q (mput k v es c)) := by
  have hset : ∀ o, (setObj q o).run P w = .ok () (w.putObj q o) := fun o => by simp [setObj, Sem.run, hh, World.putObj]
  simp only [Instr.mapUpdate, Sem.run_bind, run_underlying hm, Result.andThen_ok, run_getObj_map hh, checkKey_run hkk hf, findKey_run hkk hf hks]
  unfold mput
  cases hq : mfind k es.toList 0 with
  | none => exact hset _
  | some x =>
    obtain ⟨i, u⟩ := x
    -- the key that stays is the very key
    have hstay : (Instr.keyThatStays (((es[i]?).map (·.key)).getD k) k).run P w = .ok k w := by
      have hsame : Instr.sameBits 10000 (((es[i]?).map (·.key)).getD k) k = true := by
        have key : ∀ (l : List MapEntry) (j : Nat) (i : Nat) (u : Value), KeysOk kk l → mfind k l j = some (i, u) → ∃ e, l[i - j]? = some e ∧ j ≤ i ∧ kEq k e.key = true ∧ kFits kk e.key = true := by
          intro l
          induction l with
          | nil => intro j i u _ h; cases h
          | cons e l ih =>
            intro j i u hko h
            simp only [mfind] at h
            cases hb : kEq k e.key with
            | true =>
              rw [hb] at h
              simp only [cond_true, Option.some.injEq, Prod.mk.injEq] at h
              obtain ⟨rfl, _⟩ := h
              exact ⟨e, by simp, Nat.le_refl _, hb, hko e (List.mem_cons_self ..)⟩
            | false =>
              rw [hb] at h
              obtain ⟨e', h1, h2, h3, h4⟩ := ih (j + 1) i u (fun e he => hko e (List.mem_cons_of_mem _ he)) h
              refine ⟨e', ?_, by omega, h3, h4⟩
              rw [show i - j = (i - (j + 1)) + 1 by omega]
              simpa using h1
        obtain ⟨e', h1, _, h3, h4⟩ := key es.toList 0 i u hks hq
        have h1' : es[i]? = some e' := by simpa using h1
        rw [h1']
        simp only [Option.map_some, Option.getD_some]
        cases kk with
        | str =>
          cases k <;> simp only [kFits, Bool.false_eq_true] at hf
          cases hk : e'.key <;> rw [hk] at h4 h3 <;> simp only [kFits, Bool.false_eq_true] at h4
          simp only [kEq, decide_eq_true_eq] at h3
          subst h3
          simp [Instr.sameBits, ba_beq]
        | int z =>
          cases k <;> simp only [kFits, Bool.false_eq_true, decide_eq_true_eq] at hf
          cases hk : e'.key <;> rw [hk] at h4 h3 <;> simp only [kFits, Bool.false_eq_true, decide_eq_true_eq] at h4
          subst hf; subst h4
          simp only [kEq, beq_iff_eq] at h3
          subst h3
          simp [Instr.sameBits]
        | pair =>
          cases k <;> simp only [kFits, Bool.false_eq_true] at hf
          cases hk : e'.key <;> rw [hk] at h4 h3 <;> simp only [kFits, Bool.false_eq_true] at h4
          rename_i x y
          obtain ⟨⟨a1, b1⟩, hab⟩ := Option.isSome_iff_exists.1 hf
          obtain ⟨⟨c1, d1⟩, hcd⟩ := Option.isSome_iff_exists.1 h4
          simp only [kEq, hab, hcd, beq_iff_eq, Option.some.injEq, Prod.mk.injEq] at h3
          obtain ⟨rfl, rfl⟩ := h3
          have ex := pairOf_spec hab
          have ey := pairOf_spec hcd
          rw [show 10000 = 9999 + 1 from rfl, Instr.sameBits]
          have sx : x.size = 2 := by rw [← Array.length_toList, ex]; rfl
          have sy : y.size = 2 := by rw [← Array.length_toList, ey]; rfl
          simp [ex, ey, sx, sy, Instr.sameBits]
      simp only [Instr.keyThatStays, hsame, if_true, Sem.run_pure]
    simp only [Sem.run_bind, hstay, Result.andThen_ok]
    exact hset _

theorem mdel_run {kt e : TypeId} {kk : KK} {t : TypeId} {ats : Array TypeId} {args : Array Value} {ty : TypeId} (et : ats[0]? = some t) {k : Value} {q : Nat} (e0 : args[0]? = some (.map (some q))) (e1 : args[1]? = some k) (hm : P.underlying t = some (.map kt e)) (hkk : kkOf P kt = some kk) (hf : kFits kk k = true) {c : Nat} {es : Array MapEntry} {w : World} (hh : w.heap[q]? = some (.map es c)) (hks : KeysOk kk es.toList) :
    (Builtin.delete_ ats ty args).run P w = .ok (.tuple #[]) (w.putObj q (mdel k es c)) := by
  have hset : ∀ o, (setObj q o).run P w = .ok () (w.putObj q o) := fun o => by simp [setObj, Sem.run, hh, World.putObj]
  simp only [Builtin.delete_, et, e0, e1, Sem.run_bind, run_underlying hm, Result.andThen_ok, run_getObj_map hh, checkKey_run hkk hf, findKey_run hkk hf hks]
  unfold mdel
  cases hq : mfind k es.toList 0 with
  | none => simp only [Sem.run_bind, hset, Result.andThen_ok, Sem.run_pure]
  | some x => simp only [Sem.run_bind, hset, Result.andThen_ok, Sem.run_pure]
end
end Go.Bty
