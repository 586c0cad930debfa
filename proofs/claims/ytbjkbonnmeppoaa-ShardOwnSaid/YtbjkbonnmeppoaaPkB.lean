/- 'vr' and 've' hold what they say. -/
/- 've' holds what it says. -/
/- append; and 've' holds what it says. -/
/- Regions: in the order of the text ('vops'), and in any order ('vt'). -/
/- 'vt' holds what it says: whatever order is picked. -/
/- The condition of a function's code. -/
/- A function whose condition holds does what it says. -/
/- A function whose condition holds does what it says: the theorem. -/
import Derived.Test.YtbjkbonnmeppoaaPkA
namespace Go.Bty
open Go

section
variable {P : Program} {N : Nat} {ρ : Env} {ds : List Nat} {a : Act}

theorem shOf_one {t : TypeId} {s : S1} (h : shOf P t = some (.one s)) : aggB P t = some false := by
  unfold shOf at h
  split at h
  · cases h
  · rename_i agg hagg
    split at h
    · cases h
    · split at h
      · cases h
      · split at h
        · cases hb : Nat.beq _ _ <;> rw [hb] at h <;> cases h
        · cases h
        · cases h
        · exact hagg
theorem shOf_agg {t : TypeId} {ss : List S1} (h : shOf P t = some (.agg ss)) : aggB P t = some true ∧ szOf P t = some ss.length := by
  unfold shOf at h
  split at h
  · cases h
  · rename_i agg hagg
    split at h
    · cases h
    · rename_i i hi
      split at h
      · cases h
      · split at h
        · rename_i cs hz
          cases hb : Nat.beq cs.size i.size with
          | false => rw [hb] at h; cases h
          | true =>
            rw [hb] at h
            cases h
            refine ⟨hagg, ?_⟩
            simp [szOf, hi, Nat.eq_of_beq_eq_true hb]
        · cases h
        · cases h
        · cases hb : Nat.beq i.size 1 <;> rw [hb] at h <;> cases h

theorem vload_sound {t : TypeId} {p : Addr} {w : World} {K : Value → Prop} (h : vload P t p w K) : ∃ v, K v ∧ (loadVar t p).run P w = .ok v w := by
  unfold vload at h
  split at h
  · rename_i s hs
    obtain ⟨v, hv, hk⟩ := S1.ex_imp h
    refine ⟨v, hk, ?_⟩
    simp only [loadVar, Sem.run_bind, run_isAgg (shOf_one hs), Result.andThen_ok, Bool.false_eq_true, if_false, run_load, hv]
  · rename_i ss hs
    obtain ⟨vs, hl, hv, hk⟩ := exs_imp h
    obtain ⟨h1, h2⟩ := shOf_agg hs
    refine ⟨_, hk, ?_⟩
    simp only [loadVar, Sem.run_bind, run_isAgg h1, Result.andThen_ok, if_true, run_sizeOf h2, ← hl, run_loadCells_list w p vs hv, Sem.run_pure]
  · exact h.elim

theorem mapOf_spec {d : Option TypeDesc} {k e : TypeId} (h : mapOf d = some (k, e)) : d = some (.map k e) := by
  unfold mapOf at h
  split at h
  · cases h; rfl
  · cases h
theorem strT_spec {d : Option TypeDesc} (h : strT d = true) : d = some .string := by
  unfold strT at h; split at h
  · rfl
  · cases h
theorem sliceT_spec {d : Option TypeDesc} (h : sliceT d = true) : ∃ e, d = some (.slice e) := by
  unfold sliceT at h; split at h
  · exact ⟨_, rfl⟩
  · cases h
theorem mapT_spec {d : Option TypeDesc} (h : mapT d = true) : ∃ k e, d = some (.map k e) := by
  unfold mapT at h; split at h
  · exact ⟨_, _, rfl⟩
  · cases h
theorem u8T_spec {d : Option TypeDesc} (h : u8T d = true) : d = some (.int .u8) := by
  unfold u8T at h; split at h
  · rfl
  · cases h
theorem run_getObj_map {r c : Nat} {es : Array MapEntry} {w : World} (h : w.heap[r]? = some (.map es c)) : (getObj r).run P w = .ok (.map es c) w := by simp [getObj, Sem.run, h]

theorem bytesFold (f : Value → ByteArray → Sem (ForInStep ByteArray)) (hf : ∀ (b : Int) (s : ByteArray), f (.int .u8 b) s = pure (.yield (s.push (UInt8.ofNat b.toNat)))) (w : World) :
    ∀ (bs : List UInt8) (acc : ByteArray), (forIn (bytesV bs) acc f).run P w = .ok (⟨acc.data ++ bs.toArray⟩ : ByteArray) w
  | [], acc => by simp [bytesV]
  | b :: bs, acc => by
    have ih := bytesFold f hf w bs (acc.push b)
    simp only [bytesV, List.map_cons, List.forIn_cons, Sem.run_bind, hf, Sem.run_pure, Result.andThen_ok, Int.toNat_natCast, UInt8.ofNat_toNat] at ih ⊢
    rw [ih]
    congr 2
    simp [ByteArray.push]

theorem vr_sound (hr : Rel N ρ ds a) {o : Oper} {w : World} {K : Value → Prop} (h : vr P ρ o.op w K) : ∃ v, K v ∧ (execOp a.eval o).run P w = .ok (.value v) w := by
  unfold vr at h
  split at h
  · rename_i t x hx
    have h1 := hr.vx h
    split at h1
    · rename_i q0 hp
      obtain ⟨p, rfl⟩ : ∃ p, q0 = some p := (onSome_spec h1).imp fun _ h => h.1
      rw [onSome_some] at h1
      obtain ⟨v, hk, hl⟩ := vload_sound h1
      exact ⟨v, hk, by simp only [execOp, hx, Instr.loadAt, hp, Instr.sureAddr, Sem.run_bind, Sem.run_pure, Result.andThen_ok, hl]⟩
    · exact h1.elim
  · rename_i t x ix ok hx
    split at h
    · rename_i kt e hm
      have hm := mapOf_spec hm
      split at h
      · rename_i kk hkk
        split at h
        · rename_i z hz
          split at h
          · rename_i s hs
            have h1 := hr.vx (hr.vx h)
            split at h1
            · rename_i q0 hp
              obtain ⟨r, rfl⟩ : ∃ p, q0 = some p := (onSome_spec h1).imp fun _ h => h.1
              rw [onSome_some] at h1
              cases hf : kFits kk (a.eval ix) with
              | false => rw [hf] at h1; exact h1.elim
              | true =>
                rw [hf] at h1
                obtain ⟨es, c, hh, hks, h2⟩ := h1
                obtain ⟨v, hv, hk⟩ := S1.ex_imp h2
                refine ⟨_, hk, ?_⟩
                simp only [execOp, hx, Instr.lookup, Sem.run_bind, run_underlying hm, Result.andThen_ok, hp, run_getObj_map hh, Sem.run_pure, checkKey_run hkk hf, findKey_run hkk hf hks]
                simp only [mget] at hv ⊢
                cases hq : mfind (a.eval ix) es.toList 0 with
                | none =>
                  rw [hq] at hv
                  simp only [Option.map_none, Option.getD_none] at hv
                  subst hv
                  simp only [Sem.run_bind, run_zero hz, Result.andThen_ok, Sem.run_pure]
                  cases ok <;> rfl
                | some q =>
                  obtain ⟨i, u⟩ := q
                  rw [hq] at hv
                  simp only [Option.map_some, Option.getD_some] at hv
                  subst hv
                  cases ok <;> rfl
            · exact h1.elim
          · exact h.elim
        · exact h.elim
      · exact h.elim
    · exact h.elim
  · rename_i s d x hx
    cases hd : strT (P.underlying d) with
    | false => rw [hd] at h; exact h.elim
    | true =>
      rw [hd] at h
      have hd := strT_spec hd
      simp only [cond_true] at h
      split at h
      · rename_i e hs
        cases hu : u8T (P.underlying e) with
        | false => rw [hu] at h; exact h.elim
        | true =>
          rw [hu] at h
          have hu := u8T_spec hu
          have h1 := hr.vx h
          split at h1
          · rename_i b n c hp
            obtain ⟨bs, hb, hk⟩ := h1
            refine ⟨_, hk, ?_⟩
            simp only [execOp, hx, convert, Sem.run_bind, run_underlying hs, run_underlying hd, Result.andThen_ok, hp, run_underlying hu, Conv.bytesToString]
            unfold BytesAt at hb
            split at hb
            · subst hb; rfl
            · rename_i p
              obtain ⟨hl, hsp⟩ := hb
              have hll : (bytesV bs).length = n := by simp [bytesV, hl]
              have e1 := run_loadCells_list (P := P) w p (bytesV bs) hsp
              rw [hll] at e1
              simp only [Sem.run_bind, e1, Result.andThen_ok, List.forIn_toArray]
              rw [bytesFold (P := P) _ (fun _ _ => rfl) w bs ByteArray.empty]
              have he : (ByteArray.empty).data = #[] := rfl
              simp only [Result.andThen_ok, Sem.run_pure, he, Array.empty_append]
          · exact h1.elim
      · exact h.elim
  · rename_i args ats hx
    split at h
    · rename_i x t ts hargs hats
      cases hm : mapT (P.underlying t) with
      | false => rw [hm] at h; exact h.elim
      | true =>
        rw [hm] at h
        obtain ⟨k, e, hu⟩ := mapT_spec hm
        have h1 := hr.vx h
        have ea : args[0]? = some x := by rw [← Array.getElem?_toList, hargs]; rfl
        have et : ats[0]? = some t := by rw [← Array.getElem?_toList, hats]; rfl
        have ev : (args.map a.eval)[0]? = some (a.eval x) := by rw [Array.getElem?_map, ea]; rfl
        split at h1
        · rename_i q0 hp
          obtain ⟨r, rfl⟩ : ∃ p, q0 = some p := (onSome_spec h1).imp fun _ h => h.1
          rw [onSome_some] at h1
          obtain ⟨es, c, hh, hk⟩ := h1
          refine ⟨_, hk, ?_⟩
          simp only [execOp, hx, resolve, Sem.run_bind, Sem.run_pure, Result.andThen_ok, invoke, builtin, Builtin.len_, et, ev, hp, run_underlying hu, run_getObj_map hh]
          rfl
        · exact h1.elim
    · exact h.elim
  · exact h.elim
end
end Go.Bty

namespace Go.Bty
open Go

section
variable {r : Option Nat} {P : Program} {N : Nat} {ρ : Env} {ds : List Nat} {a : Act}

/-- An operation that ends with a value. -/
theorem opW_ok {o : Oper} {w w' : World} {v : Value} {K : Act → World → Prop} (hd : ∀ c, o.op ≠ .defer c) (hv : (execOp a.eval o).run P w = .ok (.value v) w') (hk : K (a.put o.dst v) w') : opW r P o a w K := by
  unfold opW
  rw [Oper.semAt_eq _ _ _ hd, hv]
  exact hk
theorem opW_skip {o : Oper} {w w' : World} {K : Act → World → Prop} (hd : ∀ c, o.op ≠ .defer c) (hv : (execOp a.eval o).run P w = .ok .skip w') (hk : K (a.put o.dst undef) w') : opW r P o a w K := by
  unfold opW
  rw [Oper.semAt_eq _ _ _ hd, hv]
  exact hk

def Res (a : Act) (dst : Option Nat) (K : Value → World → Prop) (a' : Act) (w' : World) : Prop := ∃ v, a' = a.put dst v ∧ K v w'

theorem SpanAt.tail {w : World} {p : Addr} {i : Nat} {v : Value} {vs : List Value} (h : ∀ j u, (v :: vs)[j]? = some u → w.cell? (p.add (i + j)) = some u) : ∀ j u, vs[j]? = some u → w.cell? (p.add (i + 1 + j)) = some u := fun j u hj => by
  have := h (j + 1) u (by simpa using hj)
  rwa [show i + (j + 1) = i + 1 + j by omega] at this

theorem cell_setCell_some {w : World} {p q : Addr} {u v : Value} (h : w.cell? q = some u) : ∃ u', (w.setCell p v).cell? q = some u' := by
  by_cases e : p = q
  · subst e; exact ⟨v, World.cell?_setCell_same _ _ _ h⟩
  · exact ⟨u, by rw [World.cell?_setCell_other _ _ _ _ e]; exact h⟩

theorem storeCells_run (p : Addr) : ∀ (vs : List Value) (i : Nat) (w : World), OneC vs → (∀ j, j < vs.length → (∃ u, w.cell? (p.add (i + j)) = some u) ∧ w.frozen? (p.add (i + j)) = false) →
    (storeCells p vs i).run P w = .ok () (setSpanFrom w p i vs)
  | [], _, _, _, _ => by simp [storeCells, setSpanFrom]
  | v :: vs, i, w, h1, hw => by
    obtain ⟨⟨u, hu⟩, hf⟩ := hw 0 (by simp)
    simp only [Nat.add_zero] at hu hf
    have hs : (store (p.add i) v).run P w = .ok () (w.setCell (p.add i) v) := by
      rw [run_store P w _ v .plain (h1 v (List.mem_cons_self ..)), hu]
      simp [hf]
    rw [storeCells, Sem.run_bind, hs]
    simp only [Result.andThen_ok, setSpanFrom]
    refine storeCells_run p vs (i + 1) _ (fun u hu => h1 u (List.mem_cons_of_mem _ hu)) fun j hj => ?_
    obtain ⟨⟨u', hu'⟩, hf'⟩ := hw (j + 1) (by simpa using hj)
    rw [show i + (j + 1) = i + 1 + j by omega] at hu' hf'
    exact ⟨cell_setCell_some hu', by rw [World.frozen?_setCell]; exact hf'⟩

theorem storeSpan_run {p : Addr} {vs : List Value} {w : World} (h1 : OneC vs) (hw : Wr w p vs.length) : (storeCells p vs).run P w = .ok () (setSpan w p vs) :=
  storeCells_run p vs 0 w h1 fun j hj => by simpa using hw j hj

theorem zc_length (n : Nat) (z : List Value) : (zc n z).length = n * z.length := by simp [zc]
theorem zc_get (z : List Value) : ∀ (n i : Nat), i < n * z.length → (zc n z)[i]? = z[i % z.length]?
  | 0, i, h => by simp at h
  | n + 1, i, h => by
    have e : zc (n + 1) z = z ++ zc n z := by simp [zc, List.replicate_succ]
    rw [e]
    by_cases hi : i < z.length
    · rw [List.getElem?_append_left hi, Nat.mod_eq_of_lt hi]
    · rw [List.getElem?_append_right (by omega), zc_get z n (i - z.length) (by rw [Nat.add_mul] at h; omega), Nat.mod_eq_sub_mod (by omega : i ≥ z.length)]

theorem zc_range {z : Array Value} {n m : Nat} (hm : m = n * z.size) : (Array.range m).map (fun i => z[i % z.size]!) = (zc n z.toList).toArray := by
  subst hm
  apply Array.ext'
  apply List.ext_getElem?
  intro i
  simp only [Array.toList_map, Array.toList_range, List.getElem?_map]
  by_cases hi : i < n * z.size
  · have hz : z.toList.length = z.size := by simp
    rw [zc_get z.toList n i (by rw [hz]; exact hi), List.getElem?_range hi, hz]
    have hpos : 0 < z.size := by
      rcases Nat.eq_zero_or_pos z.size with h | h
      · rw [h] at hi; simp at hi
      · exact h
    have hlt : i % z.size < z.size := Nat.mod_lt _ hpos
    simp [hlt]
  · rw [List.getElem?_eq_none (by simpa using Nat.not_lt.1 hi), List.getElem?_eq_none (by rw [zc_length]; simpa using Nat.not_lt.1 hi)]
    rfl

theorem vstore_sound {t : TypeId} {n : Nat} {p : Addr} {v : Value} {w : World} {K : World → Prop} (hn : szOf P t = some n) (h : vstore n p v w K) : ∃ w', K w' ∧ (storeVar t p v).run P w = .ok () w' := by
  unfold vstore at h
  split at h
  · rename_i cs
    cases hb : Nat.beq cs.toList.length n && cs.toList.all Value.oneCell' with
    | false => rw [hb] at h; exact h.elim
    | true =>
      rw [hb] at h
      simp only [Bool.and_eq_true, List.all_eq_true] at hb
      have hl := Nat.eq_of_beq_eq_true hb.1
      refine ⟨_, h.2 _ rfl, ?_⟩
      have hs : cs.size = n := by simpa using hl
      have h1 : OneC cs.toList := fun u hu => hb.2 u hu
      simp only [storeVar, Value.cells, Sem.run_bind, run_sizeOf hn, Result.andThen_ok, hs, ne_eq, not_true_eq_false, if_false]
      exact storeSpan_run h1 (by rw [hl]; exact h.1)
  · exact h.elim
  · rename_i hne1 hne2
    cases hb : Nat.beq n 1 with
    | false => rw [hb] at h; exact h.elim
    | true =>
      rw [hb] at h
      obtain rfl := Nat.eq_of_beq_eq_true hb
      obtain ⟨⟨⟨u, hu⟩, hf⟩, hk⟩ := h
      refine ⟨_, hk _ rfl, ?_⟩
      have ho : v.oneCell' = true := by
        cases v <;> first | rfl | exact absurd rfl (hne1 _) | exact absurd rfl (hne2 _)
      have hc : v.cells = #[v] := by
        cases v <;> first | rfl | exact absurd rfl (hne1 _)
      simp only [storeVar, hc, Sem.run_bind, run_sizeOf hn, Result.andThen_ok, List.size_toArray, List.length_cons, List.length_nil, ne_eq, not_true_eq_false, if_false, Nat.zero_add]
      have := storeCells_run (P := P) p [v] 0 w (fun u hu => by rw [List.mem_singleton.1 hu]; exact ho) (fun j hj => by
        have : j = 0 := by simpa using hj
        subst this
        exact ⟨⟨u, by simpa [Addr.add] using hu⟩, by simpa [Addr.add] using hf⟩)
      rw [this]
      simp [setSpanFrom, Addr.add]

theorem mput_run {kt e : TypeId} {kk : KK} {t : TypeId} (hm : P.underlying t = some (.map kt e)) (hkk : kkOf P kt = some kk) {k v : Value} (hf : kFits kk k = true) {q c : Nat} {es : Array MapEntry} {w : World} (hh : w.heap[q]? = some (.map es c)) (hks : KeysOk kk es.toList) :
    (Instr.mapUpdate t (.map (some q)) k v).run P w = .ok () (w.putObj q (mput k v es c)) := by
  have hset : ∀ o, (setObj q o).run P w = .ok () (w.putObj q o) := fun o => by simp [setObj, Sem.run, hh, World.putObj]
  simp only [Instr.mapUpdate, Sem.run_bind, run_underlying hm, Result.andThen_ok, run_getObj_map hh, checkKey_run hkk hf, findKey_run hkk hf hks]
  unfold mput
  cases hq : mfind k es.toList 0 with
  | none => exact hset _
  | some x =>
    obtain ⟨i, u⟩ := x
    -- the key that stays is the very key
    have hstay : (Instr.keyThatStays (((es[i]?).map (·.key)).getD k) k).run P w = .ok k w := by
      have hsame : Instr.sameBits 10000 (((es[i]?).map (·.key)).getD k) k = true := by
        have key : ∀ (l : List MapEntry) (j : Nat) (i : Nat) (u : Value), KeysOk kk l → mfind k l j = some (i, u) → ∃ e, l[i - j]? = some e ∧ j ≤ i ∧ kEq k e.key = true ∧ kFits kk e.key = true := by
          intro l
          induction l with
          | nil => intro j i u _ h; cases h
          | cons e l ih =>
            intro j i u hko h
            simp only [mfind] at h
            cases hb : kEq k e.key with
            | true =>
              rw [hb] at h
              simp only [cond_true, Option.some.injEq, Prod.mk.injEq] at h
              obtain ⟨rfl, _⟩ := h
              exact ⟨e, by simp, Nat.le_refl _, hb, hko e (List.mem_cons_self ..)⟩
            | false =>
              rw [hb] at h
              obtain ⟨e', h1, h2, h3, h4⟩ := ih (j + 1) i u (fun e he => hko e (List.mem_cons_of_mem _ he)) h
              refine ⟨e', ?_, by omega, h3, h4⟩
              rw [show i - j = (i - (j + 1)) + 1 by omega]
              simpa using h1
        obtain ⟨e', h1, _, h3, h4⟩ := key es.toList 0 i u hks hq
        have h1' : es[i]? = some e' := by simpa using h1
        rw [h1']
        simp only [Option.map_some, Option.getD_some]
        cases kk with
        | str =>
          cases k <;> simp only [kFits, Bool.false_eq_true] at hf
          cases hk : e'.key <;> rw [hk] at h4 h3 <;> simp only [kFits, Bool.false_eq_true] at h4
          simp only [kEq, decide_eq_true_eq] at h3
          subst h3
          simp [Instr.sameBits, ba_beq]
        | int z =>
          cases k <;> simp only [kFits, Bool.false_eq_true, decide_eq_true_eq] at hf
          cases hk : e'.key <;> rw [hk] at h4 h3 <;> simp only [kFits, Bool.false_eq_true, decide_eq_true_eq] at h4
          subst hf; subst h4
          simp only [kEq, beq_iff_eq] at h3
          subst h3
          simp [Instr.sameBits]
        | pair =>
          cases k <;> simp only [kFits, Bool.false_eq_true] at hf
          cases hk : e'.key <;> rw [hk] at h4 h3 <;> simp only [kFits, Bool.false_eq_true] at h4
          rename_i x y
          obtain ⟨⟨a1, b1⟩, hab⟩ := Option.isSome_iff_exists.1 hf
          obtain ⟨⟨c1, d1⟩, hcd⟩ := Option.isSome_iff_exists.1 h4
          simp only [kEq, hab, hcd, beq_iff_eq, Option.some.injEq, Prod.mk.injEq] at h3
          obtain ⟨rfl, rfl⟩ := h3
          have ex := pairOf_spec hab
          have ey := pairOf_spec hcd
          rw [show 10000 = 9999 + 1 from rfl, Instr.sameBits]
          have sx : x.size = 2 := by rw [← Array.length_toList, ex]; rfl
          have sy : y.size = 2 := by rw [← Array.length_toList, ey]; rfl
          simp [ex, ey, sx, sy, Instr.sameBits]
      simp only [Instr.keyThatStays, hsame, if_true, Sem.run_pure]
    simp only [Sem.run_bind, hstay, Result.andThen_ok]
    exact hset _

theorem mdel_run {kt e : TypeId} {kk : KK} {t : TypeId} {ats : Array TypeId} {args : Array Value} {ty : TypeId} (et : ats[0]? = some t) {k : Value} {q : Nat} (e0 : args[0]? = some (.map (some q))) (e1 : args[1]? = some k) (hm : P.underlying t = some (.map kt e)) (hkk : kkOf P kt = some kk) (hf : kFits kk k = true) {c : Nat} {es : Array MapEntry} {w : World} (hh : w.heap[q]? = some (.map es c)) (hks : KeysOk kk es.toList) :
    (Builtin.delete_ ats ty args).run P w = .ok (.tuple #[]) (w.putObj q (mdel k es c)) := by
  have hset : ∀ o, (setObj q o).run P w = .ok () (w.putObj q o) := fun o => by simp [setObj, Sem.run, hh, World.putObj]
  simp only [Builtin.delete_, et, e0, e1, Sem.run_bind, run_underlying hm, Result.andThen_ok, run_getObj_map hh, checkKey_run hkk hf, findKey_run hkk hf hks]
  unfold mdel
  cases hq : mfind k es.toList 0 with
  | none => simp only [Sem.run_bind, hset, Result.andThen_ok, Sem.run_pure]
  | some x => simp only [Sem.run_bind, hset, Result.andThen_ok, Sem.run_pure]
end
end Go.Bty

namespace Go.Bty
open Go

section
variable {r : Option Nat} {P : Program} {N : Nat} {ρ : Env} {ds : List Nat} {a : Act}

theorem RowAt.run {w : World} {base : Option Addr} {n cap sz : Nat} {xs : List Value} (h : RowAt w base (n * sz) xs) : (Builtin.firstCells sz n (.slice base n cap)).run P w = .ok xs.toArray w := by
  obtain ⟨hl, h⟩ := h
  cases base with
  | none =>
    simp only at h
    have : xs = [] := List.eq_nil_of_length_eq_zero (by omega)
    subst this
    rfl
  | some p =>
    have := run_loadCells_list (P := P) w p xs h
    rw [hl] at this
    exact this

theorem bytesV_oneC (bs : List UInt8) : OneC (bytesV bs) := fun u hu => by
  obtain ⟨b, _, rfl⟩ := List.mem_map.1 hu
  rfl

theorem app_run {ats : Array TypeId} {ty t u e : TypeId} {args : Array Value} {i : TypeInfo} {z x y : Value} {base : Option Addr} {n cap m : Nat} {ys : List Value} {w : World} {K : Value → World → Prop}
    (et : ats[0]? = some t) (eu : ats[1]? = some u) (e0 : args[0]? = some x) (e1 : args[1]? = some y) (ht : P.underlying t = some (.slice e)) {du : TypeDesc} (hdu : P.underlying u = some du) (hu : (∃ e', du = .slice e') ∨ du = .string)
    (hi : P.info? e = some i) (hz : i.zero = some z) (hb : 1 ≤ i.bytes) (hx : x = .slice base n cap) (hlen : ∀ w, (Builtin.lenOf y).run P w = .ok m w)
    (hys : ∀ w', (∀ p v, w.cell? p = some v → w'.cell? p = some v) → (Builtin.firstCells i.size m y).run P w' = .ok ys.toArray w') (h : vapp e i.size i.bytes z.cells.toList base n cap m ys w K) :
    ∃ v w', K v w' ∧ (Builtin.append_ ats ty args).run P w = .ok v w' := by
  obtain ⟨h1, h2, h3⟩ := vapp_old h
  have hsz : szOf P e = some i.size := by simp [szOf, hi]
  have hze : zeroOf P e = some z := by simp [zeroOf, hi, hz]
  subst hx
  by_cases hc : n + m ≤ cap
  · obtain ⟨hw, hk⟩ := h2 hc
    cases base with
    | none =>
      refine ⟨_, _, hk _ rfl, ?_⟩
      unfold Builtin.append_
      rcases hu with ⟨e', rfl⟩ | rfl
      all_goals
        simp only [et, e0, e1, eu, Sem.run_bind, run_underlying ht, run_sizeOf hsz, Result.andThen_ok, run_underlying hdu, Sem.run_pure, Bool.false_eq_true, if_false, hlen, hc, if_true, Bool.not_false, hys w (fun _ _ h => h), appSet]
    | some p =>
      refine ⟨_, _, hk _ rfl, ?_⟩
      have hst : (storeCells (p.add (n * i.size)) ys).run P w = .ok () (setSpan w (p.add (n * i.size)) ys) := by
        cases hys0 : ys with
        | nil => simp [storeCells, setSpan, setSpanFrom]
        | cons y0 ys0 =>
          obtain ⟨p', hp', hwr⟩ := hw (by rw [hys0]; simp)
          cases hp'
          rw [← hys0]
          exact storeSpan_run (P := P) h1 hwr
      unfold Builtin.append_
      rcases hu with ⟨e', rfl⟩ | rfl
      all_goals
        simp only [et, e0, e1, eu, Sem.run_bind, run_underlying ht, run_sizeOf hsz, Result.andThen_ok, run_underlying hdu, Sem.run_pure, Bool.false_eq_true, if_false, hlen, hc, if_true, Bool.not_false, hys w (fun _ _ h => h), hst, appSet]
  · obtain ⟨hroom, xs, hxs, hk⟩ := h3 (by omega)
    have hcap : n + m ≤ (Question.appendCap (n + m) cap e).cut (w.tape w.drawn (.appendCap (n + m) cap e)) := by simp only [Question.cut]; omega
    refine ⟨_, _, hk _ _ _ hcap rfl rfl, ?_⟩
    have hb0 : ¬ (i.bytes = 0) := by omega
    have hrm : ¬ (Builtin.nextslicecap (n + m) cap * i.bytes > 2 ^ 48) := by omega
    have hrow : RowAt w.drew base (n * i.size) xs := hxs
    have hzc : Builtin.zeroCells z.cells ((Question.appendCap (n + m) cap e).cut (w.tape w.drawn (.appendCap (n + m) cap e)) - (n + m)) = (zc ((Question.appendCap (n + m) cap e).cut (w.tape w.drawn (.appendCap (n + m) cap e)) - (n + m)) z.cells.toList).toArray := by
      unfold Builtin.zeroCells
      exact zc_range rfl
    have hf : (Question.appendCap (n + m) cap e).forced = false := rfl
    unfold Builtin.append_
    rcases hu with ⟨e', rfl⟩ | rfl
    all_goals
      simp only [et, e0, e1, eu, Sem.run_bind, run_underlying ht, run_sizeOf hsz, Result.andThen_ok, run_underlying hdu, Sem.run_pure, Bool.false_eq_true, if_false, hlen, hc, Bool.not_false, run_typeInfo hi, Sem.run_ite, false_or, hb0, and_false, hrm, run_choose_drew, hf, run_askRoom, hrow.run, hys w.drew (fun _ _ h => h), if_true, run_zero hze, newRow, run_newObj_alloc]
      rw [hzc]
      simp

theorem callsIn_round {n : Nat} {f : FuncId} {args : Array Value} {w : World} {R : Ending → World → Prop} (h : CallsIn (Fn none) n P f args w R) : CallsIn (Fn r) n P f args w R := by
  cases r with
  | none => exact h
  | some l => exact h
theorem roundIn_round {n l : Nat} {f : FuncId} {tmps : Array Value} {assign body : Code} {w : World} {R : Ending → World → Prop} (h : RoundIn (Fn none) n P l f tmps assign body w R) : RoundIn (Fn r) n P l f tmps assign body w R := by
  cases r with
  | none => exact h
  | some l => exact h

theorem callFunc_enter {f : FuncId} {args : Array Value} (h : entersB P f = true) (w : World) : (callFunc f args).run P w = .ok (.enter f args) w := by
  unfold entersB at h
  cases hf : P.funcs[f]? with
  | none => rw [hf] at h; cases h
  | some fn =>
    rw [hf] at h
    simp only [Bool.and_eq_true, bne_iff_ne, ne_eq] at h
    have hb : fn.body.isNone = false := by cases hb : fn.body <;> simp_all
    have hn : (fn.name == "runtime.NumGoroutine") = false := by simpa using h.2
    simp only [callFunc, Sem.run_bind, run_program, Result.andThen_ok, hf, hn, hb, Bool.false_eq_true, if_false, Sem.run_pure]

theorem wrap_i64 {n : Int} (h1 : -9223372036854775808 ≤ n) (h2 : n ≤ 9223372036854775807) : IntKind.i64.wrap n = n := by
  show (if (true && decide (n % (18446744073709551616 : Int) ≥ (9223372036854775808 : Int))) = true then n % (18446744073709551616 : Int) - (18446744073709551616 : Int) else n % (18446744073709551616 : Int)) = n
  simp only [Bool.true_and, decide_eq_true_eq]
  split <;> omega
theorem wrap_u64 {n : Int} (h1 : 0 ≤ n) (h2 : n ≤ 18446744073709551615) : IntKind.u64.wrap n = n := by
  show (if (false && decide (n % (18446744073709551616 : Int) ≥ (9223372036854775808 : Int))) = true then n % (18446744073709551616 : Int) - (18446744073709551616 : Int) else n % (18446744073709551616 : Int)) = n
  simp only [Bool.false_and, Bool.false_eq_true, if_false]
  omega

theorem i64T_spec {d : Option TypeDesc} (h : i64T d = true) : d = some (.int .i64) := by
  unfold i64T at h
  split at h
  · rfl
  · cases h
/-- 'append' of zeros. -/
theorem app_run0 {ats : Array TypeId} {ty t u e : TypeId} {args : Array Value} {i : TypeInfo} {z x y : Value} {base : Option Addr} {n cap : Nat} {k : IntKind} {l : Int} {w : World} {K : Value → World → Prop}
    (et : ats[0]? = some t) (eu : ats[1]? = some u) (e0 : args[0]? = some x) (e1 : args[1]? = some y) (ht : P.underlying t = some (.slice e)) (hdu : P.underlying u = some (.int .i64))
    (hi : P.info? e = some i) (hz : i.zero = some z) (hb : 1 ≤ i.bytes) (hzs : z.cells.size = i.size) (hs1 : 1 ≤ i.size) (hx : x = .slice base n cap) (hy : y = .int k l) (h0 : 0 ≤ l) (hb2 : l * i.bytes ≤ 2 ^ 48) (hmax : ((n + l.toNat : Nat) : Int) ≤ IntKind.i64.max)
    (h : vapp e i.size i.bytes z.cells.toList base n cap l.toNat (zc l.toNat z.cells.toList) w K) :
    ∃ v w', K v w' ∧ (Builtin.append_ ats ty args).run P w = .ok v w' := by
  obtain ⟨h1, h2, h3⟩ := vapp_old h
  have hsz : szOf P e = some i.size := by simp [szOf, hi]
  have hze : zeroOf P e = some z := by simp [zeroOf, hi, hz]
  subst hx hy
  have hl48 : l ≤ 2 ^ 48 := by
    have : l * 1 ≤ l * i.bytes := Int.mul_le_mul_of_nonneg_left (by omega) h0
    omega
  have hw0 : IntKind.i64.wrap l = l := wrap_i64 (by omega) (by omega)
  have hai : ∀ w, (asInt (.int k l)).run P w = .ok l w := fun w => rfl
  have hn0 : ¬ l < 0 := by omega
  have hb3 : ¬ l * (i.bytes : Int) > 2 ^ 48 := by omega
  have happ : ∀ w, ((if l.toNat * i.size = 0 then pure #[] else do pure (Builtin.zeroCells (← zeroValue e).cells l.toNat)) : Sem (Array Value)).run P w = .ok (zc l.toNat z.cells.toList).toArray w := fun w => by
    by_cases hl : l.toNat * i.size = 0
    · rw [if_pos hl]
      have : l.toNat = 0 := by
        rcases Nat.mul_eq_zero.1 hl with h | h
        · exact h
        · omega
      rw [this]; rfl
    · rw [if_neg hl]
      simp only [Sem.run_bind, run_zero hze, Result.andThen_ok, Sem.run_pure]
      have : Builtin.zeroCells z.cells l.toNat = (zc l.toNat z.cells.toList).toArray := by
        unfold Builtin.zeroCells
        exact zc_range rfl
      rw [this]
  by_cases hc : n + l.toNat ≤ cap
  · obtain ⟨hw, hk⟩ := h2 hc
    cases base with
    | none =>
      refine ⟨_, _, hk _ rfl, ?_⟩
      unfold Builtin.append_
      simp only [et, e0, e1, eu, Sem.run_bind, run_underlying ht, run_sizeOf hsz, Result.andThen_ok, run_underlying hdu, Sem.run_pure, if_true, hai, hw0, hn0, if_false, run_typeInfo hi, hb3, hc, Bool.not_true, Bool.false_eq_true, happ w, appSet]
    | some p =>
      refine ⟨_, _, hk _ rfl, ?_⟩
      have hst : (storeCells (p.add (n * i.size)) (zc l.toNat z.cells.toList)).run P w = .ok () (setSpan w (p.add (n * i.size)) (zc l.toNat z.cells.toList)) := by
        cases hys0 : zc l.toNat z.cells.toList with
        | nil => simp [storeCells, setSpan, setSpanFrom]
        | cons y0 ys0 =>
          obtain ⟨p', hp', hwr⟩ := hw (by rw [hys0]; simp)
          cases hp'
          rw [← hys0]
          exact storeSpan_run (P := P) h1 hwr
      unfold Builtin.append_
      simp only [et, e0, e1, eu, Sem.run_bind, run_underlying ht, run_sizeOf hsz, Result.andThen_ok, run_underlying hdu, Sem.run_pure, if_true, hai, hw0, hn0, if_false, run_typeInfo hi, hb3, hc, Bool.not_true, Bool.false_eq_true, happ w, hst, appSet]
  · obtain ⟨hroom, xs, hxs, hk⟩ := h3 (by omega)
    have hcap : n + l.toNat ≤ (Question.appendCap (n + l.toNat) cap e).cut (w.tape w.drawn (.appendCap (n + l.toNat) cap e)) := by simp only [Question.cut]; omega
    refine ⟨_, _, hk _ _ _ hcap rfl rfl, ?_⟩
    have hm2 : ¬ ((n + l.toNat : Nat) : Int) > IntKind.i64.max := by omega
    have hrm : ¬ (Builtin.nextslicecap (n + l.toNat) cap * i.bytes > 2 ^ 48) := by omega
    have hrow : RowAt w.drew base (n * i.size) xs := hxs
    have hzc : Builtin.zeroCells z.cells ((Question.appendCap (n + l.toNat) cap e).cut (w.tape w.drawn (.appendCap (n + l.toNat) cap e)) - (n + l.toNat)) = (zc ((Question.appendCap (n + l.toNat) cap e).cut (w.tape w.drawn (.appendCap (n + l.toNat) cap e)) - (n + l.toNat)) z.cells.toList).toArray := by
      unfold Builtin.zeroCells
      exact zc_range rfl
    have hf : (Question.appendCap (n + l.toNat) cap e).forced = false := rfl
    unfold Builtin.append_
    simp only [et, e0, e1, eu, Sem.run_bind, run_underlying ht, run_sizeOf hsz, Result.andThen_ok, run_underlying hdu, Sem.run_pure, if_true, hai, hw0, hn0, if_false, run_typeInfo hi, hb3, hc, Bool.not_true, Bool.false_eq_true, Sem.run_ite, hm2, false_and, hrm, run_choose_drew, hf, run_askRoom, hrow.run, happ w.drew, run_zero hze, newRow, run_newObj_alloc]
    rw [hzc]
    by_cases hl : l.toNat * i.size = 0
    · have h0' : l.toNat = 0 := by
        rcases Nat.mul_eq_zero.1 hl with h | h
        · exact h
        · omega
      have hz0 : zc l.toNat z.cells.toList = [] := by rw [h0']; rfl
      rw [hz0]
      simp [hl]
    · have hzn : Builtin.zeroCells z.cells l.toNat = (zc l.toNat z.cells.toList).toArray := by
        unfold Builtin.zeroCells
        exact zc_range rfl
      simp [hl, Sem.run_bind, run_zero hze, hzn]

/-- A call, by what its operation comes to. -/
theorem opW_enter {o : Oper} {w : World} {f : FuncId} {args : Array Value} {K : Value → World → Prop} (hd : ∀ c, o.op ≠ .defer c) (hv : (execOp a.eval o).run P w = .ok (.enter f args) w) (h : Cl P f args w K) : opW r P o a w (Res a o.dst K) := by
  unfold opW
  rw [Oper.semAt_eq _ _ _ hd, hv]
  refine ⟨fun h => by simp [Fn] at h, callsIn_round (CallsIn.mono h fun e w' => ?_)⟩
  rintro ⟨v, rfl, hk⟩
  exact ⟨v, rfl, hk⟩

theorem ex_eq {sh : Sh} {u : Value} {K : Value → Prop} (h : sh.ex fun v => u = v ∧ K v) : K u := by
  obtain ⟨v, rfl, hk⟩ := Sh.ex_imp h
  exact hk

theorem ve_sound (hr : Rel N ρ ds a) {o : Oper} {w : World} {K : Value → World → Prop} (h : ve P ρ o w K) : opW r P o a w (Res a o.dst K) := by
  unfold ve at h
  split at h
  · rename_i t hx
    split at h
    · rename_i z hz
      refine opW_ok (by simp [hx]) ?_ ⟨_, rfl, h _ _ rfl rfl⟩
      simp only [execOp, hx, Instr.alloc, Sem.run_bind, run_zero hz, Result.andThen_ok, newVar, newRow, run_newObj_alloc, Sem.run_pure]
    · exact h.elim
  · rename_i t x hx
    have h1 := hr.vx h
    refine opW_ok (by simp [hx]) ?_ ⟨_, rfl, h1 _ _ rfl rfl⟩
    simp only [execOp, hx, Instr.box, newVar, newRow, Sem.run_bind, run_newObj_alloc, Result.andThen_ok, Sem.run_pure]
  · rename_i t len ps hx
    split at h
    · rename_i e hu
      split at h
      · rename_i sz hsz
        cases he : Nat.beq len 0 && ps.toList.isEmpty with
        | true =>
          rw [he] at h
          simp only [Bool.and_eq_true, List.isEmpty_iff] at he
          obtain ⟨e1, e2⟩ := he
          obtain rfl := Nat.eq_of_beq_eq_true e1
          refine opW_ok (by simp [hx]) ?_ ⟨_, rfl, h _ _ rfl rfl⟩
          have n1 : ¬ (0 > 2 ^ 24) := by omega
          have n2 : 0 * sz = 0 := by omega
          have hr0 : ∀ f : Nat → Value, (Array.range 0).map f = #[] := fun f => Array.ext' (by rw [Array.toList_map, Array.toList_range]; rfl)
          have hf : ∀ g : Nat → Option (Nat × Nat), Instr.fill g #[] [] = some #[] := fun _ => rfl
          simp only [execOp, hx, Instr.buildSlice, Sem.run_bind, run_underlying hu, run_sizeOf hsz, Result.andThen_ok, n1, if_false, n2, if_true, Sem.run_pure, hr0, e2, Array.toList_map, List.map_nil, hf, newRow, run_newObj_alloc]
        | false =>
        rw [he] at h
        simp only [cond_false] at h
        split at h
        · rename_i z hz
          split at h
          · rename_i qs hqs
            have hq := map_evp ps hr hqs
            cases hb : Nat.ble 1 (len * sz) && Nat.ble (len * sz) 16777216 && Nat.beq z.cells.size sz with
            | false => rw [hb] at h; exact h.elim
            | true =>
              rw [hb] at h
              simp only [Bool.and_eq_true] at hb
              simp only [cond_true] at h
              split at h
              · rename_i cs hcs
                have hb1 := Nat.le_of_ble_eq_true hb.1.1
                have hb2 := Nat.le_of_ble_eq_true hb.1.2
                have hb3 := Nat.eq_of_beq_eq_true hb.2
                have n1 : ¬ (len * sz > 2 ^ 24) := by omega
                have n2 : ¬ (len * sz = 0) := by omega
                refine opW_ok (by simp [hx]) ?_ ⟨_, rfl, h _ _ rfl rfl⟩
                have hr1 := zc_range (z := z.cells) (n := len) (m := len * sz) (by rw [hb3])
                simp only [execOp, hx, Instr.buildSlice, Sem.run_bind, run_underlying hu, run_sizeOf hsz, Result.andThen_ok, n1, if_false, n2, run_zero hz, Sem.run_pure, hr1, hq, hcs, newRow, run_newObj_alloc]
              · exact h.elim
          · exact h.elim
        · exact h.elim
      · exact h.elim
    · exact h.elim
  · rename_i t q hx
    split at h
    · refine opW_ok (by simp [hx]) ?_ ⟨_, rfl, h _ _ rfl rfl⟩
      simp only [execOp, hx, Instr.makeMap, Option.map_none, Sem.run_bind, run_newObj_alloc, Result.andThen_ok, Sem.run_pure]
    · exact h.elim
  · rename_i t l c hx
    split at h
    · rename_i e hu
      split at h
      · rename_i i hi
        split at h
        · rename_i z hz
          cases hb : Nat.ble 1 i.bytes && Nat.beq z.cells.size i.size with
          | false => rw [hb] at h; exact h.elim
          | true =>
            rw [hb] at h
            simp only [Bool.and_eq_true] at hb
            have hb1 := Nat.le_of_ble_eq_true hb.1
            have hb2 := Nat.eq_of_beq_eq_true hb.2
            obtain ⟨k1, n, hl, h1⟩ := isI_spec (hr.vx h)
            obtain ⟨k2, m, hc, h2⟩ := isI_spec (hr.vx h1)
            obtain ⟨h3, h4, h5, h6⟩ := h2
            have hze : zeroOf P e = some z := by simp [zeroOf, hi, hz]
            have hsz : szOf P e = some i.size := by simp [szOf, hi]
            have hbm : m ≤ 2 ^ 48 := by
              have : (1 : Int) * m ≤ i.bytes * m := Int.mul_le_mul_of_nonneg_right (by omega) (by omega)
              omega
            have wm : IntKind.i64.wrap m = m := wrap_i64 (by omega) (by omega)
            have wn : IntKind.i64.wrap n = n := wrap_i64 (by omega) (by omega)
            refine opW_ok (by simp [hx]) ?_ ⟨_, rfl, h6 _ _ rfl rfl⟩
            have hr1 := zc_range (z := z.cells) (n := m.toNat) (m := m.toNat * i.size) (by rw [hb2])
            have m0 : ¬ m < 0 := by omega
            have n0 : ¬ n < 0 := by omega
            have nm : ¬ n > m := by omega
            have bm : ¬ ((i.bytes : Int) * m > 2 ^ 48) := by omega
            by_cases hz0 : m.toNat * i.size = 0
            · have he : (zc m.toNat z.cells.toList).toArray = #[] := by rw [← hr1, hz0]; simp
              rw [he]
              simp only [execOp, hx, Instr.makeSlice, Sem.run_bind, run_underlying hu, Result.andThen_ok, hl, hc, asInt, asIntOf, Sem.run_pure, run_typeInfo hi, wm, wn, Sem.run_ite, Bool.or_eq_true, decide_eq_true_eq, run_askRoom, run_sizeOf hsz, m0, n0, nm, bm, or_self, if_false, newRow, run_newObj_alloc, hz0, if_true]
              have hr0 : ∀ f : Nat → Value, (Array.range 0).map f = #[] := fun f => Array.ext' (by rw [Array.toList_map, Array.toList_range]; rfl)
              rw [hr0]
            · simp only [execOp, hx, Instr.makeSlice, Sem.run_bind, run_underlying hu, Result.andThen_ok, hl, hc, asInt, asIntOf, Sem.run_pure, run_typeInfo hi, wm, wn, Sem.run_ite, Bool.or_eq_true, decide_eq_true_eq, run_askRoom, run_sizeOf hsz, m0, n0, nm, bm, or_self, if_false, newRow, run_newObj_alloc, hz0, run_zero hze]
              rw [hr1]
        · exact h.elim
      · exact h.elim
    · exact h.elim
  · rename_i t x v hx
    split at h
    · rename_i n hn
      have h1 := hr.vx (hr.vx h)
      split at h1
      · rename_i q0 hp
        obtain ⟨p, rfl⟩ : ∃ p, q0 = some p := (onSome_spec h1).imp fun _ h => h.1
        rw [onSome_some] at h1
        obtain ⟨w', hk, hs⟩ := vstore_sound hn h1
        refine opW_skip (by simp [hx]) ?_ ⟨_, rfl, hk⟩
        simp only [execOp, hx, Instr.storeAt, hp, Instr.sureAddr, Sem.run_bind, Sem.run_pure, Result.andThen_ok, hs]
      · exact h1.elim
    · exact h.elim
  · rename_i t m k v hx
    split at h
    · rename_i kt e hm
      have hm := mapOf_spec hm
      split at h
      · rename_i kk hkk
        have h1 := hr.vx (hr.vx (hr.vx h))
        split at h1
        · rename_i q0 hp
          obtain ⟨q, rfl⟩ : ∃ p, q0 = some p := (onSome_spec h1).imp fun _ h => h.1
          rw [onSome_some] at h1
          cases hf : kFits kk (a.eval k) with
          | false => rw [hf] at h1; exact h1.elim
          | true =>
            rw [hf] at h1
            obtain ⟨es, c, hh, hks, h2⟩ := h1
            refine opW_skip (by simp [hx]) ?_ ⟨_, rfl, h2 _ rfl⟩
            simp only [execOp, hx, hp, Sem.run_bind, mput_run hm hkk hf hh hks, Result.andThen_ok, Sem.run_pure]
        · exact h1.elim
      · exact h.elim
    · exact h.elim
  · rename_i args ats hx
    split at h
    · rename_i m k t ts hargs hats
      split at h
      · rename_i kt e hm
        have hm := mapOf_spec hm
        split at h
        · rename_i kk hkk
          have h1 := hr.vx (hr.vx h)
          split at h1
          · rename_i q0 hp
            obtain ⟨q, rfl⟩ : ∃ p, q0 = some p := (onSome_spec h1).imp fun _ h => h.1
            rw [onSome_some] at h1
            cases hf : kFits kk (a.eval k) with
            | false => rw [hf] at h1; exact h1.elim
            | true =>
              rw [hf] at h1
              obtain ⟨es, c, hh, hks, h2⟩ := h1
              refine opW_ok (by simp [hx]) ?_ ⟨_, rfl, h2 _ rfl⟩
              have et : ats[0]? = some t := by rw [← Array.getElem?_toList, hats]; rfl
              have e0 : (args.map a.eval)[0]? = some (.map (some q)) := by rw [Array.getElem?_map, ← Array.getElem?_toList, hargs]; simp [hp]
              have e1 : (args.map a.eval)[1]? = some (a.eval k) := by rw [Array.getElem?_map, ← Array.getElem?_toList, hargs]; simp
              simp only [execOp, hx, resolve, Sem.run_bind, Sem.run_pure, Result.andThen_ok, invoke, builtin, mdel_run et e0 e1 hm hkk hf hh hks]
          · exact h1.elim
        · exact h.elim
      · exact h.elim
    · exact h.elim
  · rename_i args ats hx
    split at h
    · rename_i x t ts hargs hats
      split at h
      · rename_i e hu
        split at h
        · rename_i z hz
          cases hb : z.cells.toList.all Value.oneCell' with
          | false => rw [hb] at h; exact h.elim
          | true =>
            rw [hb] at h
            have h1 := hr.vx h
            have et : ats[0]? = some t := by rw [← Array.getElem?_toList, hats]; rfl
            have e0 : (args.map a.eval)[0]? = some (a.eval x) := by rw [Array.getElem?_map, ← Array.getElem?_toList, hargs]; simp
            split at h1
            · rename_i base n cap hp
              obtain ⟨h2, h3⟩ := h1
              refine opW_ok (by simp [hx]) ?_ ⟨_, rfl, h3 _ rfl⟩
              have hz0 : OneC (zc n z.cells.toList) := fun u hu => by
                obtain ⟨l, hl, hul⟩ := List.mem_flatten.1 hu
                rw [List.eq_of_mem_replicate hl] at hul
                exact List.all_eq_true.1 hb u hul
              have hrun : (Builtin.clear_ ats o.type (args.map a.eval)).run P w = .ok (.tuple #[]) (clrSet base n z.cells.toList w) := by
                unfold Builtin.clear_
                rw [et, e0, hp]
                simp only [Sem.run_bind, run_underlying hu, Result.andThen_ok]
                cases base with
                | none => simp only [clrSet, Sem.run_pure]
                | some p =>
                  cases n with
                  | zero => simp only [clrSet, Sem.run_pure]; rfl
                  | succ n =>
                    obtain ⟨p', hp', hwr⟩ := h2 (by omega)
                    cases hp'
                    have hze : Builtin.zeroCells z.cells (n + 1) = (zc (n + 1) z.cells.toList).toArray := by
                      unfold Builtin.zeroCells
                      exact zc_range rfl
                    simp only [clrSet, Sem.run_bind, run_zero hz, Result.andThen_ok, hze, Sem.run_pure]
                    rw [storeSpan_run (P := P) hz0 (by rw [zc_length]; exact hwr)]
                    rfl
              simp only [execOp, hx, resolve, Sem.run_bind, Sem.run_pure, Result.andThen_ok, invoke, builtin, hrun]
            · exact h1.elim
        · exact h.elim
      · exact h.elim
    · exact h.elim
  · rename_i args ats hx
    split at h
    · rename_i x y t u ts hargs hats
      split at h
      · rename_i e hu
        split at h
        · rename_i i hi
          split at h
          · rename_i z hz
            cases hb : Nat.ble 1 i.bytes && Nat.ble 1 i.size && Nat.beq z.cells.size i.size with
            | false => rw [hb] at h; exact h.elim
            | true =>
              rw [hb] at h
              simp only [Bool.and_eq_true] at hb
              have hb1 := Nat.le_of_ble_eq_true hb.1.1
              have h1 := hr.vx (hr.vx h)
              have et : ats[0]? = some t := by rw [← Array.getElem?_toList, hats]; rfl
              have eu : ats[1]? = some u := by rw [← Array.getElem?_toList, hats]; rfl
              have e0 : (args.map a.eval)[0]? = some (a.eval x) := by rw [Array.getElem?_map, ← Array.getElem?_toList, hargs]; simp
              have e1 : (args.map a.eval)[1]? = some (a.eval y) := by rw [Array.getElem?_map, ← Array.getElem?_toList, hargs]; simp
              have fin : ∀ {v w'}, K v w' → (Builtin.append_ ats o.type (args.map a.eval)).run P w = .ok v w' → opW r P o a w (Res a o.dst K) := fun hk hrun => by
                refine opW_ok (by simp [hx]) ?_ ⟨_, rfl, hk⟩
                simp only [execOp, hx, resolve, Sem.run_bind, Sem.run_pure, Result.andThen_ok, invoke, builtin, hrun]
              split at h1
              · rename_i base n cap hp
                cases hs : sliceT (P.underlying u) with
                | true =>
                  rw [hs] at h1
                  obtain ⟨e', he'⟩ := sliceT_spec hs
                  simp only [cond_true] at h1
                  split at h1
                  · rename_i yb m yc hy
                    obtain ⟨ys, hrow, happ⟩ := h1
                    obtain ⟨v, w', hk, hrun⟩ := app_run et eu e0 e1 hu he' (.inl ⟨_, rfl⟩) hi hz hb1 hp (fun w => by rw [hy]; rfl) (fun w' hw' => by
                      rw [hy]
                      have : RowAt w' yb (m * i.size) ys := ⟨hrow.1, by
                        have h2 := hrow.2
                        cases yb with
                        | none => exact h2
                        | some p => exact fun j v hj => hw' _ _ (h2 j v hj)⟩
                      exact this.run) happ
                    exact fin hk hrun
                  · exact h1.elim
                | false =>
                  rw [hs] at h1
                  cases hs2 : strT (P.underlying u) && Nat.beq i.size 1 with
                  | false =>
                    rw [hs2] at h1
                    cases hs3 : i64T (P.underlying u) with
                    | false => rw [hs3] at h1; exact h1.elim
                    | true =>
                      rw [hs3] at h1
                      simp only [cond_true, cond_false] at h1
                      split at h1
                      · rename_i k l hy
                        obtain ⟨q1, q2, q3, q4⟩ := h1
                        obtain ⟨v, w', hk, hrun⟩ := app_run0 et eu e0 e1 hu (i64T_spec hs3) hi hz hb1 (Nat.eq_of_beq_eq_true hb.2) (Nat.le_of_ble_eq_true hb.1.2) hp hy q1 q2 q3 q4
                        exact fin hk hrun
                      · exact h1.elim
                  | true =>
                    rw [hs2] at h1
                    simp only [Bool.and_eq_true] at hs2
                    have hsz1 := Nat.eq_of_beq_eq_true hs2.2
                    simp only [cond_true, cond_false] at h1
                    split at h1
                    · rename_i s hy
                      obtain ⟨v, w', hk, hrun⟩ := app_run et eu e0 e1 hu (strT_spec hs2.1) (.inr rfl) hi hz hb1 hp (fun w => by rw [hy]; rfl) (fun w' _ => by
                        rw [hy, hsz1]
                        simp only [Builtin.firstCells, Sem.run_pure, Result.ok.injEq, and_true]
                        apply Array.ext'
                        simp [bytesV]) h1
                      exact fin hk hrun
                    · exact h1.elim
              · exact h1.elim
          · exact h.elim
        · exact h.elim
      · exact h.elim
    · exact h.elim
  · rename_i g args ats hx
    split at h
    · rename_i vs hvs
      have hm := evs_map hr hvs
      have nd : ∀ c, o.op ≠ .defer c := by simp [hx]
      split at h
      · rename_i f
        unfold vcall at h
        split at h
        · rename_i sh hsh
          cases he : entersB P f with
          | true =>
            rw [he] at h
            refine opW_mono ?_ (opW_enter (K := fun u w' => sh.ex fun v => u = v ∧ K v w') nd ?_ h)
            · rintro a' w' ⟨u, rfl, hk⟩
              exact ⟨u, rfl, ex_eq hk⟩
            · simp only [execOp, hx, resolve, Act.eval, Deferred.ofValue, Sem.run_bind, Sem.run_pure, Result.andThen_ok, invoke, hm]
              simp only [Array.empty_append, Array.append_empty, callFunc_enter he]
          | false =>
            rw [he] at h
            obtain ⟨v, hrun, hk⟩ := h
            refine opW_ok nd ?_ ⟨v, rfl, ex_eq hk⟩
            simp only [execOp, hx, resolve, Act.eval, Deferred.ofValue, Sem.run_bind, Sem.run_pure, Result.andThen_ok, invoke, hm]
            simp only [Array.empty_append, Array.append_empty, hrun]
        · exact h.elim
      · split at h
        · rename_i sh hsh
          have h1 := hr.vx h
          unfold FvCall at h1
          split at h1
          · rename_i f fs cs hf
            obtain ⟨he, hcl⟩ := h1
            have ea : ∀ vs : List Value, (fs.toList ++ vs ++ cs.toList).toArray = fs ++ vs.toArray ++ cs := fun vs => by simp
            rw [ea] at hcl
            refine opW_mono ?_ (opW_enter (K := fun u w' => sh.ex fun v => u = v ∧ K v w') nd ?_ hcl)
            · rintro a' w' ⟨u, rfl, hk⟩
              exact ⟨u, rfl, ex_eq hk⟩
            · simp only [execOp, hx, resolve, hf, Deferred.ofValue, Sem.run_bind, Sem.run_pure, Result.andThen_ok, invoke, hm, callFunc_enter he]
          · rename_i l fs cs hf
            obtain ⟨rfl, fn, tmps, assign, body, hy, hR⟩ := h1
            unfold opW
            rw [Oper.semAt_eq _ _ _ nd]
            have : (execOp a.eval o).run P w = .ok (.round l fn tmps assign body) w := by
              simp only [execOp, hx, resolve, hf, Deferred.ofValue, Sem.run_bind, Sem.run_pure, Result.andThen_ok, invoke, hm, Array.empty_append, hy]
            rw [this]
            refine ⟨fun h => by simp [Fn] at h, roundIn_round (RoundIn.mono hR fun e w' => ?_)⟩
            rintro ⟨v, rfl, hk⟩
            exact ⟨v, rfl, ex_eq hk⟩
          · exact h1.elim
        · exact h.elim
    · exact h.elim
  · exact h.elim
end
end Go.Bty

namespace Go.Bty
open Go

/-- 0: alike in whatever world; 1: reads; 2: the rest. -/
def cls (P : Program) (o : Op) : Nat :=
  match o with
  | .load .. => 1
  | .lookup .. => 1
  | .convert s d _ => match P.underlying d with
    | some (.int _) => 0
    | some .string => bif strT (P.underlying s) then 0 else 1
    | _ => 2
  | .call { callee := .builtin .len, argTypes, .. } => match argTypes.toList with
    | t :: _ => bif mapT (P.underlying t) then 1 else 0
    | [] => 0
  | o => bif isP o then 0 else 2

/-- One operation. -/
def vo (P : Program) (ρ : Env) (o : Oper) (w : World) (K : Value → World → Prop) : Prop :=
  match cls P o.op with
  | 0 => vp P ρ o.op fun v => K v w
  | 1 => vr P ρ o.op w fun v => K v w
  | _ => ve P ρ o w K
def dstB (N : Nat) (o : Oper) : Bool :=
  match o.dst with
  | none => true
  | some d => Nat.blt d N
def slotOf (ops : Array Oper) (o : Oper) : Option (Nat × Bool) :=
  match o.guard with
  | none => none
  | some (j, want) => match ops.toList[j]? with
    | some oj => match oj.dst with
      | some d => some (d, want)
      | none => none
    | none => none
def guardB (o : Oper) : Bool := o.guard.isSome
/-- An operation, under its guard: 'run' or 'pass'. -/
def vg (ops : Array Oper) (ρ : Env) (o : Oper) (run pass : Prop) : Prop :=
  bif guardB o then match slotOf ops o with
    | some (d, want) => match ρ.get d with
      | some (.bool x) => match x with
        | true => bif want then run else pass
        | false => bif want then pass else run
      | some (.tuple _) => pass
      | _ => False
    | none => False
  else run

/-- A region in the order of the text; 'bs': ahead of which operations the guard is to be parted. -/
def vops (P : Program) (N : Nat) (ops : Array Oper) : List Oper → List Bool → Env → World → (Env → World → Prop) → Prop
  | [], _, ρ, w, K => K ρ w
  | o :: l, bs, ρ, w, K =>
    bif dstB N o then
      let go : Env → Prop := fun ρ => vg ops ρ o (vo P ρ o w fun v w' => vops P N ops l bs.tail (ρ.put o.dst v) w' K) (vops P N ops l bs.tail (ρ.put o.dst undef) w K)
      match bs with
      | true :: _ => match slotOf ops o with
        | some (d, _) => match ρ.get d with
          | some (.bool x) => bif x then go ((d, .bool true) :: ρ) else go ((d, .bool false) :: ρ)
          | some (.tuple _) => go ρ
          | _ => False
        | none => False
      | _ => go ρ
    else False

/-- An order: reads and the rest. -/
inductive RT where
  | fin
  | rd (i : Nat) (k : RT)
  | ef (i : Nat) (k more : RT)
  | no
  | sp (d : Nat) (k : RT)

def RT.ok (ops : Array Oper) : RT → Nat → Array Bool → Option (List Nat) → Bool
  | .fin, _, listed, none => (Region.ready .any ops listed).isEmpty
  | .rd i k, f + 1, listed, none => (Region.ready .any ops listed).contains i && RT.ok ops k f (listed.setIfInBounds i true) none
  | .ef i k more, f + 1, listed, none => (Region.ready .any ops listed).contains i && RT.ok ops k f (listed.setIfInBounds i true) none && RT.ok ops more (f + 1) listed (some [i])
  | .ef i k more, f + 1, listed, some acc => (Region.ready .any ops listed).contains i && RT.ok ops k f (listed.setIfInBounds i true) none && RT.ok ops more (f + 1) listed (some (i :: acc))
  | .no, _, listed, some acc => (Region.ready .any ops listed).all fun j => acc.contains j
  | .sp _ k, f, listed, none => RT.ok ops k f listed none
  | _, _, _, _ => false

def RT.strict (st : Nat → Bool) : RT → Bool
  | .rd i k => st i && RT.strict st k
  | .ef _ k more => RT.strict st k && RT.strict st more
  | .sp _ k => RT.strict st k
  | _ => true

/-- Reads that must stay: the operation, what it read, what must hold that it reads that. -/
abbrev Pds := List (Nat × Value × (World → Prop))
def Pds.left (an : Nat → List Nat) (S : Pds) (j : Nat) : Pds := S.filter fun p => !((an j).any fun t => Nat.beq t p.1)
def Pds.all : Pds → World → Prop → Prop
  | [], _, K => K
  | p :: S, w, K => p.2.2 w ∧ Pds.all S w K

/-- A region in any order. -/
def vt (P : Program) (N : Nat) (ops : Array Oper) (an : Nat → List Nat) : RT → Env → Pds → World → (Env → World → Prop) → Prop
  | .fin, ρ, _, w, K => K ρ w
  | .rd i k, ρ, S, w, K => match ops.toList[i]? with
    | none => False
    | some o => bif dstB N o then vg ops ρ o (match cls P o.op with
        | 0 => vp P ρ o.op fun v => vt P N ops an k (ρ.put o.dst v) S w K
        | 1 => vr P ρ o.op w fun v => vt P N ops an k (ρ.put o.dst v) ((i, v, fun w' => vr P ρ o.op w' fun u => u = v) :: S) w K
        | _ => False) (vt P N ops an k (ρ.put o.dst undef) S w K) else False
  | .ef i k more, ρ, S, w, K => match ops.toList[i]? with
    | none => False
    | some o => bif dstB N o then match more with
        | .no => vg ops ρ o (vo P ρ o w fun v w' => Pds.all (Pds.left an S i) w' (vt P N ops an k (ρ.put o.dst v) (Pds.left an S i) w' K)) (Pds.all (Pds.left an S i) w (vt P N ops an k (ρ.put o.dst undef) (Pds.left an S i) w K))
        | more => vg ops ρ o (vo P ρ o w fun v w' => Pds.all (Pds.left an S i) w' (vt P N ops an k (ρ.put o.dst v) (Pds.left an S i) w' K)) (Pds.all (Pds.left an S i) w (vt P N ops an k (ρ.put o.dst undef) (Pds.left an S i) w K)) ∧ vt P N ops an more ρ S w K
      else False
  | .no, _, _, _, _ => True
  | .sp d k, ρ, S, w, K => match ρ.get d with
    | some (.bool x) => bif x then vt P N ops an k ((d, .bool true) :: ρ) S w K else vt P N ops an k ((d, .bool false) :: ρ) S w K
    | some (.tuple _) => vt P N ops an k ρ S w K
    | _ => False

section
variable {r : Option Nat} {P : Program} {N : Nat} {ρ : Env} {ds : List Nat} {a : Act} {ops : Array Oper} {an : Nat → List Nat}

theorem cls_pure {o : Oper} {K : Value → Prop} (h : vp P ρ o.op K) : ∀ c, o.op ≠ .defer c := fun c hc => by
  rw [hc] at h; exact h.elim
theorem vr_nd {o : Oper} {w : World} {K : Value → Prop} (h : vr P ρ o.op w K) : ∀ c, o.op ≠ .defer c := fun c hc => by
  rw [hc] at h; exact h.elim

theorem vo_sound (hr : Rel N ρ ds a) {o : Oper} {w : World} {K : Value → World → Prop} (h : vo P ρ o w K) : opW r P o a w (Res a o.dst K) := by
  unfold vo at h
  split at h
  · obtain ⟨v, hk, hv⟩ := vp_sound hr h
    exact opW_ok (cls_pure h) (hv w) ⟨v, rfl, hk⟩
  · obtain ⟨v, hk, hv⟩ := vr_sound hr h
    exact opW_ok (vr_nd h) hv ⟨v, rfl, hk⟩
  · exact ve_sound hr h

theorem slotOf_spec {o : Oper} {d : Nat} {want : Bool} (h : slotOf ops o = some (d, want)) : ∃ j oj, o.guard = some (j, want) ∧ ops[j]? = some oj ∧ oj.dst = some d := by
  unfold slotOf at h
  split at h
  · cases h
  · rename_i j w' hg
    split at h
    · rename_i oj hoj
      split at h
      · rename_i d' hd
        cases h
        exact ⟨j, oj, hg, by simpa using hoj, hd⟩
      · cases h
    · cases h

theorem wanted_of {o : Oper} {d : Nat} {want x : Bool} (hr : Rel N ρ ds a) (h : slotOf ops o = some (d, want)) (hg : ρ.get d = some (.bool x)) : Region.wanted o (yielded ops a.tmps) = (x == want) := by
  obtain ⟨j, oj, h1, h2, h3⟩ := slotOf_spec h
  have hv := hr.val d _ hg
  have ht : a.tmps[d]? = some (.bool x) := by
    rw [Array.getD_eq_getD_getElem?] at hv
    cases ht : a.tmps[d]? with
    | none => rw [ht] at hv; cases hv
    | some u => rw [ht] at hv; simp only [Option.getD_some] at hv; rw [hv]
  simp only [Region.wanted, h1, yielded, h2, Option.bind_some, h3, ht]
  cases x <;> cases want <;> rfl

theorem unwanted_of {o : Oper} {d : Nat} {want : Bool} {us : Array Value} (hr : Rel N ρ ds a) (h : slotOf ops o = some (d, want)) (hg : ρ.get d = some (.tuple us)) : Region.wanted o (yielded ops a.tmps) = false := by
  obtain ⟨j, oj, h1, h2, h3⟩ := slotOf_spec h
  have hv := hr.val d _ hg
  simp only [Region.wanted, h1, yielded, h2, Option.bind_some, h3]
  rw [Array.getD_eq_getD_getElem?] at hv
  cases ht : a.tmps[d]? with
  | none => rfl
  | some u => rw [ht] at hv; simp only [Option.getD_some] at hv; rw [hv]; rfl

/-- What a guarded operation comes to. -/
theorem vg_sound {o : Oper} {run pass : Prop} (hr : Rel N ρ ds a) (h : vg ops ρ o run pass) : (Region.wanted o (yielded ops a.tmps) = true ∧ run) ∨ (Region.wanted o (yielded ops a.tmps) = false ∧ pass) := by
  unfold vg at h
  cases hg : guardB o with
  | false =>
    rw [hg] at h
    refine .inl ⟨?_, h⟩
    cases hgd : o.guard with
    | none => simp [Region.wanted, hgd]
    | some g => simp [guardB, hgd] at hg
  | true =>
    rw [hg] at h
    simp only [cond_true] at h
    split at h
    · rename_i d want hs
      split at h
      · rename_i x hx
        have hw := wanted_of hr hs hx
        cases x <;> cases want <;> simp only [cond_true, cond_false] at h
        · exact .inl ⟨hw, h⟩
        · exact .inr ⟨hw, h⟩
        · exact .inr ⟨hw, h⟩
        · exact .inl ⟨hw, h⟩
      · rename_i us hx
        exact .inr ⟨unwanted_of hr hs hx, h⟩
      · exact h.elim
    · exact h.elim

theorem dstB_spec {o : Oper} (h : dstB N o = true) : ∀ d, o.dst = some d → d < N := fun d hd => by
  unfold dstB at h
  rw [hd] at h
  exact Nat.le_of_ble_eq_true h

theorem Rel.same {d : Nat} {x : Bool} (hr : Rel N ρ ds a) (hg : ρ.get d = some (.bool x)) : Rel N ((d, .bool x) :: ρ) ds a :=
  hr.forget fun t v hv => by
    rcases Env.get_put hv with ⟨rfl, rfl⟩ | ⟨_, h⟩
    · exact hg
    · exact h

/-- Frames that agree but for some temporaries. -/
def KeepsF (ts : List Nat) (a a' : Act) : Prop := ∀ t, t ∉ ts → a'.tmps.getD t undef = a.tmps.getD t undef
theorem KeepsF.refl {ts : List Nat} {a : Act} : KeepsF ts a a := fun _ _ => rfl
theorem KeepsF.trans {ts : List Nat} {a b c : Act} (h : KeepsF ts a b) (h' : KeepsF ts b c) : KeepsF ts a c := fun t ht => (h' t ht).trans (h t ht)
theorem KeepsF.more {ts us : List Nat} {a b : Act} (h : KeepsF ts a b) (hs : ∀ t ∈ ts, t ∈ us) : KeepsF us a b := fun t ht => h t (fun hm => ht (hs t hm))
theorem KeepsF.put {dst : Option Nat} {v : Value} {ts : List Nat} {a b : Act} (h : ∀ d, dst = some d → d ∈ ts) (hk : KeepsF ts a b) : KeepsF ts a (b.put dst v) := fun t ht => by
  rw [← hk t ht]
  cases dst with
  | none => rfl
  | some d =>
    have hne : d ≠ t := fun e => ht (e ▸ h d rfl)
    simp only [Act.put, Array.getD_eq_getD_getElem?]
    rw [Array.getElem?_setIfInBounds_ne hne]

def wrOps : List Oper → List Nat
  | [] => []
  | o :: l => match o.dst with
    | some d => d :: wrOps l
    | none => wrOps l
theorem mem_wrOps {o : Oper} {d : Nat} (hd : o.dst = some d) : ∀ {l : List Oper}, o ∈ l → d ∈ wrOps l
  | o' :: l, hm => by
    unfold wrOps
    rcases List.mem_cons.1 hm with rfl | hm
    · rw [hd]; exact List.mem_cons_self ..
    · split
      · exact List.mem_cons_of_mem _ (mem_wrOps hd hm)
      · exact mem_wrOps hd hm

/-- What is asked at a region's end. -/
def RQ (N : Nat) (ds : List Nat) (ts : List Nat) (a0 : Act) (K : Env → World → Prop) : Exit → Act → World → Prop := fun e a w => e = .normal ∧ ∃ ρ', Rel N ρ' ds a ∧ KeepsF ts a0 a ∧ K ρ' w

theorem vops_sound {K : Env → World → Prop} {a0 : Act} {ts : List Nat} (l : List Oper) : ∀ (k : Nat) (bs : List Bool) (ρ : Env) (a : Act) (w : World), (∀ j, l[j]? = ops[k + j]?) → (∀ o ∈ l, ∀ d, o.dst = some d → d ∈ ts) → Rel N ρ ds a → KeepsF ts a0 a →
    vops P N ops l bs ρ w K → wpOpsIn (Fn r) 0 P ops (RQ N ds ts a0 K) (List.range' k l.length) a w := by
  induction l with
  | nil => intro k bs ρ a w _ _ hr hk h; exact ⟨rfl, ρ, hr, hk, h⟩
  | cons o l ih =>
    intro k bs ρ a w hl hts hr hk h
    have h0 : ops[k]? = some o := by simpa using (hl 0).symm
    have hl' : ∀ j, l[j]? = ops[k + 1 + j]? := fun j => by have := hl (j + 1); simpa [Nat.add_assoc, Nat.add_comm 1 j] using this
    unfold vops at h
    cases hd : dstB N o with
    | false => rw [hd] at h; exact h.elim
    | true =>
      rw [hd] at h
      have hdst := dstB_spec hd
      simp only [cond_true] at h
      have go : ∀ (bs : List Bool) (ρ : Env), Rel N ρ ds a → vg ops ρ o (vo P ρ o w fun v w' => vops P N ops l bs (ρ.put o.dst v) w' K) (vops P N ops l bs (ρ.put o.dst undef) w K) →
          wpOpsIn (Fn r) 0 P ops (RQ N ds ts a0 K) (List.range' k (l.length + 1)) a w := by
        intro bs ρ hr hg
        rw [List.range'_succ]
        simp only [wpOpsIn, h0]
        rcases vg_sound hr hg with ⟨hw, hrun⟩ | ⟨hw, hpass⟩
        · rw [if_pos hw]
          refine Oper.wpIn_mono ?_ (opW_in (r := r) (RQ N ds ts a0 K) (vo_sound hr hrun))
          rintro a' w' ⟨v, rfl, hv⟩
          exact ih (k + 1) _ _ _ _ hl' (fun o ho => hts o (List.mem_cons_of_mem _ ho)) (hr.put hdst v) (hk.put (fun d hd => hts o (List.mem_cons_self ..) d hd)) hv
        · rw [hw]
          exact ⟨fun _ _ => trivial, ih (k + 1) _ _ _ _ hl' (fun o ho => hts o (List.mem_cons_of_mem _ ho)) (hr.put hdst undef) (hk.put (fun d hd => hts o (List.mem_cons_self ..) d hd)) hpass⟩
      split at h
      · split at h
        · rename_i d want hs
          split at h
          · rename_i x hx
            cases x with
            | true => exact go _ _ (hr.same hx) h
            | false => exact go _ _ (hr.same hx) h
          · exact go _ _ hr h
          · exact h.elim
        · exact h.elim
      · exact go _ _ hr h
end
end Go.Bty

namespace Go.Bty
open Go

section
variable {r : Option Nat} {P : Program} {N : Nat} {ds : List Nat} {ops : Array Oper} {an : Nat → List Nat}

/-- What is read may be asked for once more. -/
theorem S1.ex_split {s : S1} {A : Value → Prop} {K : Value → Prop} (h : s.ex fun v => A v ∧ K v) : ∃ v, K v ∧ s.ex fun u => A u ∧ u = v := by
  cases s <;> simp only [S1.ex] at h ⊢
  case slice => obtain ⟨a, n, c, h1, h2⟩ := h; exact ⟨_, h2, a, n, c, h1, rfl⟩
  all_goals (obtain ⟨v, h1, h2⟩ := h; exact ⟨_, h2, v, h1, rfl⟩)
theorem S1.ex_split' {s : S1} {A : Value → Prop} {K : Value → Prop} {f : Value → Value} (h : s.ex fun v => A v ∧ K (f v)) : ∃ v, K v ∧ s.ex fun u => A u ∧ f u = v := by
  cases s <;> simp only [S1.ex] at h ⊢
  case slice => obtain ⟨a, n, c, h1, h2⟩ := h; exact ⟨_, h2, a, n, c, h1, rfl⟩
  all_goals (obtain ⟨v, h1, h2⟩ := h; exact ⟨_, h2, v, h1, rfl⟩)
theorem S1.ex_mono {s : S1} {K K' : Value → Prop} (hk : ∀ v, K v → K' v) (h : s.ex K) : s.ex K' := by
  cases s <;> simp only [S1.ex] at h ⊢
  case slice => obtain ⟨a, n, c, h⟩ := h; exact ⟨a, n, c, hk _ h⟩
  all_goals (obtain ⟨v, h⟩ := h; exact ⟨v, hk _ h⟩)
theorem exs_split : ∀ {ss : List S1} {A K : List Value → Prop}, (exs ss fun vs => A vs ∧ K vs) → ∃ vs, K vs ∧ exs ss fun us => A us ∧ us = vs
  | [], _, _, h => ⟨[], h.2, h.1, rfl⟩
  | s :: ss, A, K, h => by
    have : ∃ v vs, K (v :: vs) ∧ s.ex fun u => exs ss fun us => A (u :: us) ∧ u :: us = v :: vs := by
      cases s <;> simp only [exs, S1.ex] at h ⊢
      case slice =>
        obtain ⟨a, n, c, h⟩ := h
        obtain ⟨vs, hk, h⟩ := exs_split h
        exact ⟨_, vs, hk, a, n, c, exs_mono (fun us hu => ⟨hu.1, by rw [hu.2]⟩) h⟩
      all_goals
        obtain ⟨v, h⟩ := h
        obtain ⟨vs, hk, h⟩ := exs_split h
        exact ⟨_, vs, hk, v, exs_mono (fun us hu => ⟨hu.1, by rw [hu.2]⟩) h⟩
    obtain ⟨v, vs, hk, h⟩ := this
    exact ⟨v :: vs, hk, h⟩
  where exs_mono : ∀ {ss : List S1} {K K' : List Value → Prop}, (∀ vs, K vs → K' vs) → exs ss K → exs ss K'
  | [], _, _, hk, h => hk _ h
  | _ :: _, _, _, hk, h => S1.ex_mono (fun _ h => exs_mono (fun _ h => hk _ h) h) h

theorem vload_split {t : TypeId} {p : Addr} {w : World} {K : Value → Prop} (h : vload P t p w K) : ∃ v, K v ∧ vload P t p w fun u => u = v := by
  unfold vload at h ⊢
  split at h
  · exact S1.ex_split h
  · rename_i ss _
    obtain ⟨vs, hk, h⟩ := exs_split (ss := ss) (A := fun vs => SpanAt w p vs) (K := fun vs => K (.agg vs.toArray)) h
    exact ⟨_, hk, exs_split.exs_mono (fun us hu => ⟨hu.1, by rw [hu.2]⟩) h⟩
  · exact h.elim

theorem vx_split {ρ : Env} {x : Operand} {K : Value → Prop} (h : vx ρ x K) : ∃ v, ev ρ x = some v ∧ K v := by
  unfold vx at h
  split at h
  · rename_i v hv; exact ⟨v, hv, h⟩
  · exact h.elim
theorem vx_mk {ρ : Env} {x : Operand} {K : Value → Prop} {v : Value} (hv : ev ρ x = some v) (h : K v) : vx ρ x K := by
  unfold vx; rw [hv]; exact h

theorem vr_split {ρ : Env} {o : Op} {w : World} {K : Value → Prop} (h : vr P ρ o w K) : ∃ v, K v ∧ vr P ρ o w fun u => u = v := by
  unfold vr at h ⊢
  split at h
  · obtain ⟨v, hv, h⟩ := vx_split h
    split at h
    · rename_i q0
      obtain ⟨p, rfl⟩ : ∃ p, q0 = some p := (onSome_spec h).imp fun _ h => h.1
      rw [onSome_some] at h
      obtain ⟨u, hk, h⟩ := vload_split h
      exact ⟨u, hk, vx_mk hv h⟩
    · exact h.elim
  · split at h
    · split at h
      · split at h
        · split at h
          · obtain ⟨m, hm, h⟩ := vx_split h
            obtain ⟨k, hkey, h⟩ := vx_split h
            split at h
            · rename_i kk _ _ _ _ _ _ _ _ q0 _
              obtain ⟨p, rfl⟩ : ∃ p, q0 = some p := (onSome_spec h).imp fun _ h => h.1
              rw [onSome_some] at h
              cases hf : kFits _ k with
              | false => rw [hf] at h; exact h.elim
              | true =>
                rw [hf] at h
                obtain ⟨es, c, h1, h2, h3⟩ := h
                obtain ⟨u, hu, h3⟩ := S1.ex_split' (f := fun v => vok _ v _) h3
                refine ⟨u, hu, vx_mk hm (vx_mk hkey ?_)⟩
                simp only [hf, cond_true]
                exact ⟨es, c, h1, h2, h3⟩
            · exact h.elim
          · exact h.elim
        · exact h.elim
      · exact h.elim
    · exact h.elim
  · rename_i s d x
    cases hd : strT (P.underlying d) with
    | false => rw [hd] at h; exact h.elim
    | true =>
      rw [hd] at h
      simp only [cond_true] at h ⊢
      split at h
      · rename_i e _
        cases hu : u8T (P.underlying e) with
        | false => rw [hu] at h; exact h.elim
        | true =>
          rw [hu] at h
          simp only [cond_true] at h ⊢
          obtain ⟨v, hv, h⟩ := vx_split h
          split at h
          · obtain ⟨bs, h1, h2⟩ := h
            exact ⟨_, h2, vx_mk hv ⟨bs, h1, rfl⟩⟩
          · exact h.elim
      · exact h.elim
  · split at h
    · rename_i x t _ _ _
      cases hm : mapT (P.underlying t) with
      | false => rw [hm] at h; exact h.elim
      | true =>
        rw [hm] at h
        simp only [cond_true] at h ⊢
        obtain ⟨v, hv, h⟩ := vx_split h
        split at h
        · rename_i q0
          obtain ⟨p, rfl⟩ : ∃ p, q0 = some p := (onSome_spec h).imp fun _ h => h.1
          rw [onSome_some] at h
          obtain ⟨es, c, h1, h2⟩ := h
          exact ⟨_, h2, vx_mk hv ⟨es, c, h1, rfl⟩⟩
        · exact h.elim
    · exact h.elim
  · exact h.elim

def Pds.pend (S : Pds) : Pend := S.map fun p => (p.1, p.2.1)

structure PdsOk (r : Option Nat) (P : Program) (ops : Array Oper) (S : Pds) (listed : Array Bool) (a : Act) (w : World) : Prop where
  lst : ∀ p ∈ S, listed.getD p.1 false = true
  inv : ∀ p ∈ S, ∀ w', p.2.2 w' → RdAt r P ops p.1 p.2.1 a w'
  now : ∀ p ∈ S, p.2.2 w

theorem Pds.all_spec : ∀ {S : Pds} {w : World} {K : Prop}, Pds.all S w K → (∀ p ∈ S, p.2.2 w) ∧ K
  | [], _, _, h => ⟨(fun _ hp => by cases hp), h⟩
  | q :: S, w, K, h => by
    obtain ⟨h1, h2⟩ := Pds.all_spec (S := S) h.2
    exact ⟨fun p hp => by
      rcases List.mem_cons.1 hp with rfl | hp
      · exact h.1
      · exact h1 p hp, h2⟩

theorem mem_left {S : Pds} {j : Nat} {p : Nat × Value × (World → Prop)} : p ∈ Pds.left an S j ↔ p ∈ S ∧ p.1 ∉ an j := by
  unfold Pds.left
  rw [List.mem_filter]
  have : ((an j).any fun t => Nat.beq t p.1) = true ↔ p.1 ∈ an j := by
    simp only [List.any_eq_true]
    constructor
    · rintro ⟨x, hx, hb⟩; rw [← Nat.eq_of_beq_eq_true hb]; exact hx
    · intro hm; exact ⟨p.1, hm, by simp⟩
  constructor
  · rintro ⟨h1, h2⟩
    exact ⟨h1, fun hm => by rw [this.2 hm] at h2; cases h2⟩
  · rintro ⟨h1, h2⟩
    refine ⟨h1, ?_⟩
    cases hb : (an j).any fun t => Nat.beq t p.1 with
    | true => exact absurd (this.1 hb) h2
    | false => rfl

theorem pend_left {S : Pds} {j : Nat} : ∀ q ∈ Pend.left an S.pend j, ∃ p ∈ Pds.left an S j, q = (p.1, p.2.1) := fun q hq => by
  rw [Pend.left, List.mem_filter] at hq
  obtain ⟨p, hp, rfl⟩ := List.mem_map.1 hq.1
  exact ⟨p, mem_left.2 ⟨hp, by simpa using hq.2⟩, rfl⟩

theorem look_listed (hS : Sure ops an) {listed : Array Bool} (hc : Shut ops an listed) {i p : Nat} (hpi : p ∉ an i) {oi op : Oper} (hi : ops[i]? = some oi) (hp : ops[p]? = some op) (hun : listed.getD i false = false) (hl : listed.getD p false = true) :
    ∀ d, oi.dst = some d → d ∉ op.looksAt ops := fun d hd hm => by
  have hne : i ≠ p := fun e => by rw [e, hl] at hun; cases hun
  have h1 := ((hS.tmp i p oi op hi hp hne d hd).1 hm).resolve_right hpi
  have h2 := hc.2 p hl i h1
  rw [hun] at h2; cases h2

theorem vt_sound (hS : Sure ops an) {st : Nat → Bool} (hstr : ∀ i, st i = true → Strict ops an i) {K : Env → World → Prop} {a0 : Act} {ts : List Nat} (hts : ∀ o ∈ ops.toList, ∀ d, o.dst = some d → d ∈ ts) (t : RT) :
    ∀ (fuel : Nat) (listed : Array Bool) (acc : Option (List Nat)) (ρ : Env) (S : Pds) (a : Act) (w : World), RT.strict st t = true → RT.ok ops t fuel listed acc = true → Shut ops an listed → PdsOk r P ops S listed a w → Rel N ρ ds a → KeepsF ts a0 a →
      vt P N ops an t ρ S w K →
      match acc with
      | none => wpR r P ops an (RQ N ds ts a0 K) fuel S.pend listed a w
      | some l => ∀ j ∈ Region.ready .any ops listed, j ∈ l ∨ ∃ f, fuel = f + 1 ∧ opAt r P ops j (fun a' w' => (∀ p ∈ Pend.left an S.pend j, RdAt r P ops p.1 p.2 a' w') ∧ wpR r P ops an (RQ N ds ts a0 K) f (Pend.left an S.pend j) (listed.setIfInBounds j true) a' w') a w := by
  have hsel := Region.noSelect_spec hS.sel
  have hgd : ∀ {listed : Array Bool}, Shut ops an listed → ∀ {i : Nat} {o : Oper}, ops[i]? = some o → i ∈ Region.ready .any ops listed → listed.getD i false = false := fun hc i o ho hi => by
    rw [← getD_two (by rw [hc.1]; exact (Array.getElem?_eq_some_iff.1 ho).1)]; exact (mem_ready.1 hi).1
  induction t with
  | fin =>
    intro fuel listed acc ρ S a w hs hok hc hp hr hk h
    cases acc with
    | some l => cases hok
    | none =>
      have hnil : Region.ready .any ops listed = [] := by simpa [RT.ok] using hok
      have hq : RQ N ds ts a0 K .normal a w := ⟨rfl, ρ, hr, hk, h⟩
      cases fuel with
      | zero => exact ⟨hnil, hq⟩
      | succ f => exact ⟨fun _ => hq, (fun j hj => by rw [hnil] at hj; cases hj)⟩
  | no =>
    intro fuel listed acc ρ S a w hs hok hc hp hr hk h
    cases acc with
    | none => cases fuel <;> cases hok
    | some l =>
      intro j hj
      have : (Region.ready .any ops listed).all (fun j => l.contains j) = true := by cases fuel <;> exact hok
      exact .inl (by simpa using List.all_eq_true.1 this j hj)
  | sp d k ih =>
    intro fuel listed acc ρ S a w hs hok hc hp hr hk h
    cases acc with
    | some l => cases fuel <;> cases hok
    | none =>
      have hok' : RT.ok ops k fuel listed none = true := by cases fuel <;> exact hok
      simp only [vt] at h
      split at h
      · rename_i x hx
        cases x with
        | true => exact ih fuel listed none _ S a w hs hok' hc hp (hr.same hx) hk h
        | false => exact ih fuel listed none _ S a w hs hok' hc hp (hr.same hx) hk h
      · exact ih fuel listed none _ S a w hs hok' hc hp hr hk h
      · exact h.elim
  | rd i k ih =>
    intro fuel listed acc ρ S a w hs hok hc hp hr hk h
    simp only [RT.strict, Bool.and_eq_true] at hs
    cases acc with
    | some l => cases fuel <;> cases hok
    | none =>
      cases fuel with
      | zero => cases hok
      | succ f =>
        simp only [RT.ok, Bool.and_eq_true] at hok
        have hi : i ∈ Region.ready .any ops listed := by simpa using hok.1
        simp only [vt] at h
        split at h
        · exact h.elim
        · rename_i o ho'
          have ho : ops[i]? = some o := by simpa using ho'
          cases hd : dstB N o with
          | false => rw [hd] at h; exact h.elim
          | true =>
            rw [hd] at h
            have hdst := dstB_spec hd
            have hmem : ∀ d, o.dst = some d → d ∈ ts := fun d hd => hts o (by rw [← Array.mem_def]; exact Array.mem_of_getElem? ho) d hd
            have hun := hgd hc ho hi
            -- what was read before stays read
            have keepInv : ∀ v, PdsOk r P ops S (listed.setIfInBounds i true) (a.put o.dst v) w := fun v => ⟨fun p hps => getD_set_true (hp.lst p hps), fun p hps w' hw' => by
                have h1 := hp.inv p hps w' hw'
                obtain ⟨op, hop, _⟩ := id h1
                exact (RdAt.put hop (fun cs b => hsel p.1 op cs b hop) (fun d hd hm => by
                  have h2 := hc.2 p.1 (hp.lst p hps) i (hstr i hs.1 p.1 o op ho hop (fun e => by have h3 := hp.lst p hps; rw [← e, hun] at h3; cases h3) d hd hm)
                  rw [hun] at h2; cases h2)).2 h1, hp.now⟩
            have hSr : ∀ p ∈ S.pend, RdAt r P ops p.1 p.2 a w := fun q hq => by
              obtain ⟨p, hps, rfl⟩ := List.mem_map.1 hq
              exact hp.inv p hps w (hp.now p hps)
            have hSl : ∀ p ∈ S.pend, listed.getD p.1 false = true := fun q hq => by
              obtain ⟨p, hps, rfl⟩ := List.mem_map.1 hq
              exact hp.lst p hps
            have kput : ∀ v, KeepsF ts a0 (a.put o.dst v) := fun v => hk.put hmem
            rcases vg_sound hr h with ⟨hw, hrun⟩ | ⟨hw, hpass⟩
            · split at hrun
              · obtain ⟨v, hv, hall⟩ := vp_sound hr hrun
                have hrd : ∀ w, RdAt r P ops i v a w := fun w => ⟨o, ho, .inl ⟨hw, by rw [Oper.semAt_eq _ _ _ (cls_pure hrun)]; exact hall w⟩⟩
                exact wpR_take hS (hstr i hs.1) ho true f S.pend listed a w hc hSl hSr hi (hrd w) (fun _ => hrd) (ih f _ none _ S _ w hs.2 hok.2 (hc.set hS hi) (keepInv v) (hr.put hdst v) (kput v) hv)
              · obtain ⟨v, hv, hsame⟩ := vr_split hrun
                have hat : ∀ w', (vr P ρ o.op w' fun u => u = v) → RdAt r P ops i v a w' := fun w' hw' => by
                  obtain ⟨u, rfl, hu⟩ := vr_sound hr hw'
                  exact ⟨o, ho, .inl ⟨hw, by rw [Oper.semAt_eq _ _ _ (vr_nd hw')]; exact hu⟩⟩
                have hin : PdsOk r P ops ((i, v, fun w' => vr P ρ o.op w' fun u => u = v) :: S) (listed.setIfInBounds i true) (a.put o.dst v) w := by
                  refine ⟨fun p hps => ?_, fun p hps => ?_, fun p hps => ?_⟩
                  · rcases List.mem_cons.1 hps with rfl | hps
                    · have : i < listed.size := by rw [hc.1]; exact (Array.getElem?_eq_some_iff.1 ho).1
                      simp [this]
                    · exact (keepInv v).lst p hps
                  · rcases List.mem_cons.1 hps with rfl | hps
                    · intro w' hw'
                      exact (RdAt.put ho (fun cs b => hsel i o cs b ho) (fun d hd => hS.own i o d ho hd)).2 (hat w' hw')
                    · exact (keepInv v).inv p hps
                  · rcases List.mem_cons.1 hps with rfl | hps
                    · exact hsame
                    · exact hp.now p hps
                exact wpR_take hS (hstr i hs.1) ho false f S.pend listed a w hc hSl hSr hi (hat w hsame) (fun h => by cases h) (ih f _ none _ _ _ w hs.2 hok.2 (hc.set hS hi) hin (hr.put hdst v) (kput v) hv)
              · exact hrun.elim
            · have hrd : ∀ w, RdAt r P ops i undef a w := fun w => ⟨o, ho, .inr ⟨hw, rfl⟩⟩
              exact wpR_take hS (hstr i hs.1) ho true f S.pend listed a w hc hSl hSr hi (hrd w) (fun _ => hrd) (ih f _ none _ S _ w hs.2 hok.2 (hc.set hS hi) (keepInv undef) (hr.put hdst undef) (kput undef) hpass)
  | ef i k more ihk ihm =>
    intro fuel listed acc ρ S a w hs hok hc hp hr hk h
    simp only [RT.strict, Bool.and_eq_true] at hs
    cases fuel with
    | zero => cases acc <;> cases hok
    | succ f =>
      have hok' : (Region.ready .any ops listed).contains i = true ∧ RT.ok ops k f (listed.setIfInBounds i true) none = true ∧ RT.ok ops more (f + 1) listed (some (i :: acc.getD [])) = true := by
        cases acc <;> simp only [RT.ok, Bool.and_eq_true] at hok <;> exact ⟨hok.1.1, hok.1.2, hok.2⟩
      have hi : i ∈ Region.ready .any ops listed := by simpa using hok'.1
      simp only [vt] at h
      split at h
      · exact h.elim
      · rename_i o ho'
        have ho : ops[i]? = some o := by simpa using ho'
        cases hd : dstB N o with
        | false => rw [hd] at h; exact h.elim
        | true =>
          rw [hd] at h
          have hdst := dstB_spec hd
          have hmem : ∀ d, o.dst = some d → d ∈ ts := fun d hd => hts o (by rw [← Array.mem_def]; exact Array.mem_of_getElem? ho) d hd
          have hun := hgd hc ho hi
          have kput : ∀ v, KeepsF ts a0 (a.put o.dst v) := fun v => hk.put hmem
          have hboth : vg ops ρ o (vo P ρ o w fun v w' => Pds.all (Pds.left an S i) w' (vt P N ops an k (ρ.put o.dst v) (Pds.left an S i) w' K)) (Pds.all (Pds.left an S i) w (vt P N ops an k (ρ.put o.dst undef) (Pds.left an S i) w K)) ∧ vt P N ops an more ρ S w K := by
            simp only [cond_true] at h
            split at h
            · exact ⟨h, trivial⟩
            · exact h
          have hmore := ihm (f + 1) listed (some (i :: acc.getD [])) ρ S a w hs.2 hok'.2.2 hc hp hr hk hboth.2
          have hleft : ∀ v w', (∀ p ∈ Pds.left an S i, p.2.2 w') → PdsOk r P ops (Pds.left an S i) (listed.setIfInBounds i true) (a.put o.dst v) w' := fun v w' hall =>
            ⟨fun p hps => getD_set_true (hp.lst p (mem_left.1 hps).1), fun p hps w'' hw'' => by
              have h1 := hp.inv p (mem_left.1 hps).1 w'' hw''
              obtain ⟨op, hop, _⟩ := id h1
              exact (RdAt.put hop (fun cs b => hsel p.1 op cs b hop) (look_listed hS hc (mem_left.1 hps).2 ho hop hun (hp.lst p (mem_left.1 hps).1))).2 h1, hall⟩
          have hend : ∀ v w', Pds.all (Pds.left an S i) w' (vt P N ops an k (ρ.put o.dst v) (Pds.left an S i) w' K) →
              (∀ p ∈ Pend.left an S.pend i, RdAt r P ops p.1 p.2 (a.put o.dst v) w') ∧ wpR r P ops an (RQ N ds ts a0 K) f (Pend.left an S.pend i) (listed.setIfInBounds i true) (a.put o.dst v) w' := fun v w' hall => by
            obtain ⟨h1, h2⟩ := Pds.all_spec hall
            have hpl := hleft v w' h1
            refine ⟨fun q hq => ?_, ?_⟩
            · obtain ⟨p, hps, rfl⟩ := pend_left q hq
              exact hpl.inv p hps w' (h1 p hps)
            · have := ihk f (listed.setIfInBounds i true) none _ (Pds.left an S i) (a.put o.dst v) w' hs.1 hok'.2.1 (hc.set hS hi) hpl (hr.put hdst v) (kput v) h2
              refine wpR_sub _ (fun q hq => ?_) this
              obtain ⟨p, hps, rfl⟩ := pend_left q hq
              exact List.mem_map.2 ⟨p, hps, rfl⟩
          have hthis : opAt r P ops i (fun a' w' => (∀ p ∈ Pend.left an S.pend i, RdAt r P ops p.1 p.2 a' w') ∧ wpR r P ops an (RQ N ds ts a0 K) f (Pend.left an S.pend i) (listed.setIfInBounds i true) a' w') a w := by
            unfold opAt
            simp only [ho]
            rcases vg_sound hr hboth.1 with ⟨hw, hrun⟩ | ⟨hw, hpass⟩
            · rw [if_pos hw]
              refine opW_mono ?_ (vo_sound hr hrun)
              rintro a' w' ⟨v, rfl, hv⟩
              exact hend v w' hv
            · rw [hw]
              exact hend undef w hpass
          have hall : ∀ j ∈ Region.ready .any ops listed, j ∈ acc.getD [] ∨ opAt r P ops j (fun a' w' => (∀ p ∈ Pend.left an S.pend j, RdAt r P ops p.1 p.2 a' w') ∧ wpR r P ops an (RQ N ds ts a0 K) f (Pend.left an S.pend j) (listed.setIfInBounds j true) a' w') a w := fun j hj => by
            rcases hmore j hj with hm | ⟨f', hf', ho⟩
            · rcases List.mem_cons.1 hm with rfl | hm
              · exact .inr hthis
              · exact .inl hm
            · cases hf'
              exact .inr ho
          cases acc with
          | none =>
            refine ⟨(fun h0 => by rw [h0] at hi; cases hi), fun j hj => ?_⟩
            rcases hall j hj with hm | ho
            · cases hm
            · exact ho
          | some l => exact fun j hj => (hall j hj).imp id fun ho => ⟨f, rfl, ho⟩
end
end Go.Bty

namespace Go.Bty
open Go

inductive H where
  | z
  | s (a b : H)
  | cut (live : List (Nat × S2)) (a b : H)
  | one (a : H)
  | ct (a : H)
  | cf (a : H)
  | loop (live : List (Nat × S2)) (a : H)
  | reg (bs : List Bool)
  | any (an : Array (List Nat)) (t : RT)
  | rf (sh : List S2) (a b : H)

abbrev CPost := Exit → Env → List Nat → World → Prop

def wrC : Code → List Nat
  | .region _ ops _ => wrOps ops.toList
  | .seq a b => wrC a ++ wrC b
  | .cond _ a b => wrC a ++ wrC b
  | .block _ a => wrC a
  | .loop a => wrC a
  | .scope a => wrC a
  | _ => []

/-- The values of temporaries. -/
def lives (ρ : Env) : List (Nat × S2) → (List Value → Prop) → Prop
  | [], K => K []
  | p :: l, K => match ρ.get p.1 with
    | some v => lives ρ l fun vs => K (v :: vs)
    | none => False
/-- Values of known shapes, as temporaries. -/
def takes : List (Nat × S2) → List Value → (Env → Prop) → Prop
  | [], vs, K => vs = [] → K []
  | p :: l, vs, K => takes' p l vs K
  where takes' (p : Nat × S2) (l : List (Nat × S2)) (vs : List Value) (K : Env → Prop) : Prop := exs2 ((p :: l).map (·.2)) fun xs => vs = xs ∧ K (((p :: l).map (·.1)).zip xs)

/-- The end of a round: the record, read; then turned. -/
def endR (l : Nat) (jump : Option Code) (w : World) (R : Value → World → Prop) : Prop :=
  ∃ lp, w.heap[l]? = some (.loop lp) ∧ ∀ w', w' = w.putObj l (.loop { lp with state := if jump.isNone then .ready else .done, pending := jump }) → R (.bool jump.isNone) w'

def nodupB : List Nat → Bool
  | [] => true
  | t :: ts => !(ts.any fun u => Nat.beq t u) && nodupB ts

/-- A function that is ranged over. -/
def RfV (fv : Value) (K : FuncId → List Value → List Value → Prop) : Prop :=
  match fv with
  | .func (.func gf) fs cs => K gf fs.toList cs.toList
  | _ => False
/-- What a round's end leaves behind. -/
def pendR (p : Option Code) (n r : Prop) (x : Nat → Prop) : Prop :=
  match p with
  | none => n
  | some .ret => r
  | some (.exit i) => x i
  | _ => False

def vc (P : Program) (N : Nat) (inR : Bool) : Code → H → CPost → Env → List Nat → World → Prop
  | .skip, _, Q, ρ, ds, w => Q .normal ρ ds w
  | .label _, _, Q, ρ, ds, w => Q .normal ρ ds w
  | .ret, _, Q, ρ, ds, w => Q .ret ρ ds w
  | .exit i, _, Q, ρ, ds, w => Q (.exit i) ρ ds w
  | .seq a b, .s ha hb, Q, ρ, ds, w => vc P N inR a ha (fun e ρ ds w => match e with
      | .normal => vc P N inR b hb Q ρ ds w
      | e => Q e ρ ds w) ρ ds w
  | .seq a b, .cut live ha hb, Q, ρ, ds, w => match ds with
    | [] => ∃ I : List Value → World → Prop, vc P N inR a ha (fun e ρ' ds' w' => match e with
        | .normal => match ds' with
          | [] => lives ρ' live fun vs => I vs w'
          | _ => False
        | e => Q e ρ' ds' w') ρ [] w ∧ ∀ vs w', I vs w' → takes live vs fun σ => vc P N inR b hb Q (σ ++ ρ.drop (wrC a)) [] w'
    | _ => False
  | .cond c a b, .s ha hb, Q, ρ, ds, w => vx ρ c fun v => match v with
    | .bool x => bif x then vc P N inR a ha Q ρ ds w else vc P N inR b hb Q ρ ds w
    | _ => False
  | .cond c a _, .ct ha, Q, ρ, ds, w => vx ρ c fun v => match v with
    | .bool true => vc P N inR a ha Q ρ ds w
    | _ => False
  | .cond c _ b, .cf hb, Q, ρ, ds, w => vx ρ c fun v => match v with
    | .bool false => vc P N inR b hb Q ρ ds w
    | _ => False
  | .block i a, .one ha, Q, ρ, ds, w => vc P N inR a ha (fun e ρ ds w => match e with
      | .exit j => bif Nat.beq j i then Q .normal ρ ds w else Q (.exit j) ρ ds w
      | e => Q e ρ ds w) ρ ds w
  | .scope a, .one ha, Q, ρ, ds, w => vc P N inR a ha (fun e ρ ds w => match e with
      | .goto _ => False
      | e => Q e ρ ds w) ρ ds w
  | .loop a, .loop live ha, Q, ρ, ds, w => match ds with
    | [] => ∃ (I : List Value → World → Prop) (μ : List Value → World → Nat), (lives ρ live fun vs => I vs w) ∧
        ∀ vs w', I vs w' → takes live vs fun σ => vc P N inR a ha (fun e ρ' ds' w'' => match e with
          | .normal => match ds' with
            | [] => lives ρ' live fun vs' => I vs' w'' ∧ μ vs' w'' < μ vs w'
            | _ => False
          | e => Q e ρ' ds' w'') (σ ++ ρ.drop (wrC a)) [] w'
    | _ => False
  | .region _ ops draw, .reg bs, Q, ρ, ds, w => bif draw then False else vops P N ops ops.toList bs ρ w fun ρ w => Q .normal ρ ds w
  | .region _ ops draw, .any an t, Q, ρ, ds, w => bif draw && sureB ops an && RT.strict (strictB ops an) t && RT.ok ops t ops.size (Array.replicate ops.size false) none then
      ∀ w', w' = w.drew → vt P N ops (fun j => an.getD j []) t ρ [] w' fun ρ w => Q .normal ρ ds w
    else False
  | .rangeFunc g ps as bd, .rf sh ha hb, Q, ρ, ds, w => bif inR || !(nodupB ps.toList) || !(ps.toList.all fun t => Nat.blt t N) || !(Nat.beq sh.length ps.toList.length) then False else vx ρ g fun fv => RfV fv fun gf fs cs => entersB P gf = true ∧ ∀ (Lp : Loop → Prop) (lp : Loop) (D l : Nat) (w1 : World), D = w.heap.size → l = w.heap.size + 1 →
        w1 = (w.alloc (.deferred (some []))).alloc (.loop lp) → Lp lp → lp.state = .ready → lp.pending = none → (∀ lp s p, Lp lp → Lp { lp with state := s, pending := p }) →
        (∀ (W : World) (lp : Loop) (xs : List Value) (R : Value → World → Prop), Lp lp → W.heap[l]? = some (.loop lp) → lp.state = .ready → xs.length = ps.toList.length →
          takes (ps.toList.zip sh) xs (fun σ => vc P N true as ha (fun e ρ1 ds1 W1 => match e with
            | .normal => match ds1 with
              | [] => ∃ lp1, W1.heap[l]? = some (.loop lp1) ∧ lp1.state = .ready ∧ ∀ W2, W2 = W1.putObj l (.loop { lp1 with state := .busy }) →
                  vc P N true bd hb (fun e _ _ W3 => match e with
                    | .normal => endR l none W3 R
                    | .ret => endR l (some .ret) W3 R
                    | .exit i => endR l (some (.exit i)) W3 R
                    | _ => False) ρ1 [] W2
              | _ => False
            | _ => False) (σ ++ ρ) [] W) → Yl P l xs.toArray W R) →
        Cl P gf (fs ++ [Value.func (.yield l) #[] #[]] ++ cs).toArray w1 fun _ w2 => ∃ lp2, w2.heap[l]? = some (.loop lp2) ∧ lp2.state ≠ .busy ∧ ∀ w3, w3 = w2.putObj l (.loop { lp2 with state := .exhausted }) →
          pendR lp2.pending (Q .normal ρ (D :: ds) w3) (Q .ret ρ (D :: ds) w3) (fun i => Q (.exit i) ρ (D :: ds) w3)
  | _, _, _, _, _, _ => False

/-- The marks that loops over functions have left are paid. -/
def leave : List Nat → World → (World → Prop) → Prop
  | [], w, K => K w
  | D :: ds, w, K => w.heap[D]? = some (.deferred (some [])) ∧ ∀ w', w' = w.putObj D (.deferred none) → leave ds w' K
/-- The results. -/
def resultsV (P : Program) (ρ : Env) : List ResultVar → World → (List Value → Prop) → Prop
  | [], _, K => K []
  | .tmp t :: l, w, K => match ρ.get t with
    | some v => resultsV P ρ l w fun vs => K (v :: vs)
    | none => False
  | .cell t ty :: l, w, K => match ρ.get t with
    | some (.pointer (some a)) => vload P ty a w fun v => resultsV P ρ l w fun vs => K (v :: vs)
    | _ => False
def oneOf : List Value → Value
  | [v] => v
  | vs => .tuple vs.toArray
def argEnv : List Value → Nat → Env
  | [], _ => []
  | v :: vs, i => (i, v) :: argEnv vs (i + 1)
/-- A function's condition. -/
def vf (P : Program) (f : FuncId) (h : H) (args : List Value) (w : World) (R : Value → World → Prop) : Prop :=
  match P.funcs[f]? with
  | some fn => match fn.body with
    | some c => bif Nat.ble args.length fn.ntmps then vc P fn.ntmps false c h (fun e ρ ds w => match e with
        | .normal => leave ds w fun w => resultsV P ρ fn.results.toList w fun vs => R (oneOf vs) w
        | .ret => leave ds w fun w => resultsV P ρ fn.results.toList w fun vs => R (oneOf vs) w
        | _ => False) (argEnv args 0) [] w
      else False
    | none => False
  | none => False
end Go.Bty

namespace Go.Bty
open Go

section scope
variable {F : Fence} {n : Nat} {P : Program} {b : Frame} {a : Act} {k : List Item} {cs : List Frame} {w : World} {Q : Exit → Act → World → Prop}
theorem stepR_scope {c : Code} : step P (lone (b.atR a (.code (.scope c) :: k)) cs w) = .next (lone (b.atR a (.code c :: .inScope c :: k)) cs w) :=
  step_lone_go (by simp [stepG, stepG.exec, Frame.atR])
theorem stepR_inScope {c : Code} : step P (lone (b.atR a (.inScope c :: k)) cs w) = .next (lone (b.atR a k) cs w) :=
  step_lone_go (by simp [stepG, stepG.exec, Frame.atR])
theorem wpIn_scope {c : Code} (hg : ∀ l a w, ¬ Q (.goto l) a w) (h : c.wpIn F n P Q a w) : (Code.scope c).wpIn F n P Q a w := by
  intro b k cs hro hb hr
  have h0 : (lone (b.atR a (.code (.scope c) :: k)) cs w).fenced P F := fenced_calm hb hr rfl
  obtain ⟨e, a₁, w₁, hq, harr⟩ := h b (.inScope c :: k) cs hro hb hr
  cases e with
  | normal => exact ⟨.normal, a₁, w₁, hq, .head h0 stepR_scope (StepsIn.trans harr (.one (fenced_calm hb hr rfl) stepR_inScope))⟩
  | exit id =>
    have hx : exitTo id (.inScope c :: k) = exitTo id k := by simp [exitTo]
    exact ⟨_, a₁, w₁, hq, fun k' hk => .head h0 stepR_scope (harr.1 k' (by rw [hx]; exact hk)), fun hr' hk => let ⟨k₁, h1, h2⟩ := harr.2 hr' (by rw [hx]; exact hk); ⟨k₁, h1, .head h0 stepR_scope h2⟩⟩
  | goto l => exact absurd hq (hg l a₁ w₁)
  | ret => exact ⟨_, a₁, w₁, hq, .of_steps (.one h0 stepR_scope) harr⟩
  | panic ch => exact ⟨_, a₁, w₁, hq, .of_steps (.one h0 stepR_scope) harr⟩
  | outgrown => exact ⟨_, a₁, w₁, hq, .of_steps (.one h0 stepR_scope) harr⟩
end scope

section
variable {r : Option Nat} {P : Program} {N : Nat}

/-- A condition on environments, of frames. -/
def CQ (N : Nat) (ts : List Nat) (a0 : Act) (Q : CPost) : Exit → Act → World → Prop := fun e a w => KeepsF ts a0 a ∧ ∃ ρ' ds', Rel N ρ' ds' a ∧ Q e ρ' ds' w

theorem lives_spec : ∀ {live : List (Nat × S2)} {ρ : Env} {K : List Value → Prop} {ds : List Nat} {a : Act}, Rel N ρ ds a → lives ρ live K → K (live.map fun p => a.tmps.getD p.1 undef)
  | [], _, _, _, _, _, h => h
  | p :: l, ρ, K, ds, a, hr, h => by
    unfold lives at h
    split at h
    · rename_i v hv
      have := lives_spec (live := l) hr h
      rw [← hr.val p.1 v hv] at this
      exact this
    · exact h.elim

theorem takes_spec {live : List (Nat × S2)} {vs : List Value} {K : Env → Prop} (hl : vs.length = live.length) (h : takes live vs K) : K ((live.map (·.1)).zip vs) := by
  cases live with
  | nil =>
    have : vs = [] := List.eq_nil_of_length_eq_zero (by simpa using hl)
    exact h this
  | cons p l =>
    obtain ⟨xs, rfl, hk⟩ := exs2_imp h
    exact hk

theorem zip_get {ρ : Env} {t : Nat} {v : Value} : ∀ {l : List Nat} {vs : List Value}, Env.get (l.zip vs ++ ρ) t = some v → (∃ i : Nat, l[i]? = some t ∧ vs[i]? = some v) ∨ ρ.get t = some v
  | [], vs, h => .inr h
  | k :: l, [], h => .inr h
  | k :: l, u :: vs, h => by
    simp only [List.zip_cons_cons, List.cons_append] at h
    rcases Env.get_put h with ⟨rfl, rfl⟩ | ⟨_, h⟩
    · exact .inl ⟨0, rfl, rfl⟩
    · rcases zip_get h with ⟨i, h1, h2⟩ | h2
      · exact .inl ⟨i + 1, by simpa using h1, by simpa using h2⟩
      · exact .inr h2

/-- Temporaries with the values that they have. -/
theorem Rel.take {live : List (Nat × S2)} {ρ : Env} {ds : List Nat} {a : Act} (hr : Rel N ρ ds a) : Rel N ((live.map (·.1)).zip (live.map fun p => a.tmps.getD p.1 undef) ++ ρ) ds a :=
  ⟨hr.size, fun t v h => by
    rcases zip_get h with ⟨i, h1, h2⟩ | h
    · simp only [List.getElem?_map, Option.map_eq_some_iff] at h1 h2
      obtain ⟨p, hp, rfl⟩ := h1
      obtain ⟨q, hq, rfl⟩ := h2
      rw [hp] at hq; cases hq; rfl
    · exact hr.val t v h, hr.defs⟩

/-- What a piece of code has not written is known behind it. -/
theorem Rel.keep {ρ ρ' : Env} {ts ds ds' : List Nat} {a a' : Act} (hr : Rel N ρ ds a) (hr' : Rel N ρ' ds' a') (hk : KeepsF ts a a') : Rel N (ρ.drop ts) ds' a' :=
  ⟨hr'.size, fun t v hv => let ⟨h1, h2⟩ := Env.get_drop hv; (hk t h2).trans (hr.val t v h1), hr'.defs⟩

theorem nodupB_spec : ∀ {ts : List Nat}, nodupB ts = true → ts.Nodup
  | [], _ => List.nodup_nil
  | t :: ts, h => by
    simp only [nodupB, Bool.and_eq_true, Bool.not_eq_true'] at h
    refine List.nodup_cons.2 ⟨fun hm => ?_, nodupB_spec h.2⟩
    have : (ts.any fun u => Nat.beq t u) = true := List.any_eq_true.2 ⟨t, hm, by simp⟩
    rw [this] at h; exact absurd h.1 (by simp)

theorem foldl_size {A : Array Value} : ∀ (ps : List Nat) (xs : List Value), ((ps.zip xs).foldl (fun tmps (p : Nat × Value) => tmps.setIfInBounds p.1 p.2) A).size = A.size
  | [], _ => rfl
  | _ :: _, [] => rfl
  | p :: ps, x :: xs => by
    simp only [List.zip_cons_cons, List.foldl_cons]
    rw [foldl_size ps xs]; simp
theorem foldl_other {t : Nat} : ∀ (ps : List Nat) (xs : List Value) {A : Array Value}, t ∉ ps → ((ps.zip xs).foldl (fun tmps (p : Nat × Value) => tmps.setIfInBounds p.1 p.2) A).getD t undef = A.getD t undef
  | [], _, _, _ => rfl
  | _ :: _, [], _, _ => rfl
  | p :: ps, x :: xs, A, h => by
    simp only [List.mem_cons, not_or] at h
    simp only [List.zip_cons_cons, List.foldl_cons]
    rw [foldl_other ps xs h.2]
    simp only [Array.getD_eq_getD_getElem?]
    rw [Array.getElem?_setIfInBounds_ne (Ne.symm h.1)]
theorem foldl_get {t : Nat} {v : Value} : ∀ (ps : List Nat) (xs : List Value) {A : Array Value}, ps.Nodup → (∀ t ∈ ps, t < A.size) → (∃ i : Nat, ps[i]? = some t ∧ xs[i]? = some v) →
    ((ps.zip xs).foldl (fun tmps (p : Nat × Value) => tmps.setIfInBounds p.1 p.2) A).getD t undef = v
  | [], _, _, _, _, ⟨i, h, _⟩ => by simp at h
  | _ :: _, [], _, _, _, ⟨i, _, h⟩ => by simp at h
  | p :: ps, x :: xs, A, hn, hlt, ⟨i, h1, h2⟩ => by
    simp only [List.zip_cons_cons, List.foldl_cons]
    rw [List.nodup_cons] at hn
    cases i with
    | zero =>
      simp only [List.getElem?_cons_zero, Option.some.injEq] at h1 h2
      subst h1; subst h2
      rw [foldl_other ps xs hn.1]
      have := hlt p (List.mem_cons_self ..)
      simp [this]
    | succ i => exact foldl_get ps xs hn.2 (fun t ht => by simpa using hlt t (List.mem_cons_of_mem _ ht)) ⟨i, by simpa using h1, by simpa using h2⟩

/-- A round's frame. -/
theorem Rel.round {ρ : Env} {A : Array Value} {ps : List Nat} {xs : List Value} (hr : Rel N ρ [] ⟨A, []⟩) (hn : ps.Nodup) (hlt : ∀ t ∈ ps, t < N) :
    Rel N (ps.zip xs ++ ρ) [] ⟨(ps.zip xs).foldl (fun tmps (p : Nat × Value) => tmps.setIfInBounds p.1 p.2) A, []⟩ := by
  refine ⟨by rw [foldl_size]; exact hr.size, fun t v h => ?_, rfl⟩
  by_cases hm : t ∈ ps
  · rcases zip_get h with h | h
    · exact foldl_get ps xs hn (fun t ht => by rw [hr.size]; exact hlt t ht) h
    · -- t is a parameter without a value: too few values
      by_cases hi : ∃ i : Nat, ps[i]? = some t ∧ i < xs.length
      · obtain ⟨i, hi1, hi2⟩ := hi
        have hx : xs[i]? = some xs[i] := List.getElem?_eq_getElem hi2
        have e1 := foldl_get (v := xs[i]) ps xs hn (fun t ht => by rw [hr.size]; exact hlt t ht) ⟨i, hi1, hx⟩
        have : ∀ (l : List Nat) (ys : List Value) (i : Nat) (hi2 : i < ys.length), l.Nodup → l[i]? = some t → Env.get (l.zip ys ++ ρ) t = some ys[i] := by
          intro l
          induction l with
          | nil => intro ys i _ _ h; simp at h
          | cons k l ih =>
            intro ys i hi2 hnd h
            cases ys with
            | nil => simp at hi2
            | cons y ys =>
              simp only [List.zip_cons_cons, List.cons_append, Env.get]
              cases i with
              | zero =>
                simp only [List.getElem?_cons_zero, Option.some.injEq] at h
                subst h
                simp
              | succ i =>
                rw [List.nodup_cons] at hnd
                have hl : l[i]? = some t := by simpa using h
                have hne : k ≠ t := fun e => hnd.1 (e ▸ List.mem_of_getElem? hl)
                have hb : Nat.beq k t = false := by
                  cases hb : Nat.beq k t with
                  | true => exact absurd (Nat.eq_of_beq_eq_true hb) hne
                  | false => rfl
                rw [hb]
                simp only [cond_false, List.getElem_cons_succ]
                exact ih ys i (by simpa using hi2) hnd.2 hl
        rw [this ps xs i hi2 hn hi1] at *
        simp only [Option.some.injEq] at *
        rw [e1]; assumption
      · have : ∀ (l : List Nat) (ys : List Value) (A : Array Value), (¬ ∃ i : Nat, l[i]? = some t ∧ i < ys.length) → ((l.zip ys).foldl (fun tmps (p : Nat × Value) => tmps.setIfInBounds p.1 p.2) A).getD t undef = A.getD t undef := by
          intro l
          induction l with
          | nil => intro _ _ _; rfl
          | cons k l ih =>
            intro ys A hno
            cases ys with
            | nil => rfl
            | cons y ys =>
              simp only [List.zip_cons_cons, List.foldl_cons]
              rw [ih ys _ (fun ⟨i, h1, h2⟩ => hno ⟨i + 1, by simpa using h1, by simpa using h2⟩)]
              have hne : k ≠ t := fun e => hno ⟨0, by simp [e], by simp⟩
              simp only [Array.getD_eq_getD_getElem?]
              rw [Array.getElem?_setIfInBounds_ne hne]
        rw [this ps xs A hi]
        exact hr.val t v h
  · rw [foldl_other ps xs hm]
    rcases zip_get h with ⟨i, h1, _⟩ | h
    · exact absurd (List.mem_of_getElem? h1) hm
    · exact hr.val t v h
end
end Go.Bty

namespace Go.Bty
open Go

section
variable {P : Program} {N : Nat}

theorem region_any {an : Nat → List Nat} {r : Option Nat} {id : Nat} {ops : Array Oper} {Q : Exit → Act → World → Prop} {a : Act} {w : World} (hm : P.follows .mixedOrders = true) (h : wpR r P ops an Q ops.size [] (Array.replicate ops.size false) a w.drew) :
    (Code.region id ops true).wpIn (Fn r) 0 P Q a w := wpIn_region_any hm (wpR_any _ h)

theorem round_unit (l : Nat) : Fn (some l) = (Fn none).inRound l := rfl

/-- What is asked behind the function that is ranged over. -/
def rfEnd (l : Nat) (Q : CPost) (ρ : Env) (ds : List Nat) (w2 : World) : Prop :=
  ∃ lp2, w2.heap[l]? = some (.loop lp2) ∧ lp2.state ≠ .busy ∧ ∀ w3, w3 = w2.putObj l (.loop { lp2 with state := .exhausted }) →
    pendR lp2.pending (Q .normal ρ ds w3) (Q .ret ρ ds w3) (fun i => Q (.exit i) ρ ds w3)

theorem rf_sound {ps : Array Nat} {as bd : Code} {g : Operand} {gf : FuncId} {fs cs : Array Value} {Q : CPost} {ρ : Env} {ds ts : List Nat} {a0 a : Act} {w : World} {Y : Nat → World → Loop → List Value → (Value → World → Prop) → Prop} (hent : entersB P gf = true) (hg : a.eval g = .func (.func gf) fs cs) (hr : Rel N ρ ds a) (hk0 : KeepsF ts a0 a)
    (h1 : ∀ (lp : Loop) (D l : Nat) (w1 : World), D = w.heap.size → l = w.heap.size + 1 → w1 = (w.alloc (.deferred (some []))).alloc (.loop lp) →
      (lp.tmps = a.tmps ∧ lp.params = ps ∧ lp.assign = as ∧ lp.body = bd) → lp.state = .ready → lp.pending = none → (∀ (lp : Loop) (_ : LoopState) (_ : Option Code), (lp.tmps = a.tmps ∧ lp.params = ps ∧ lp.assign = as ∧ lp.body = bd) → (lp.tmps = a.tmps ∧ lp.params = ps ∧ lp.assign = as ∧ lp.body = bd)) →
      (∀ (W : World) (lp : Loop) (xs : List Value) (R : Value → World → Prop), (lp.tmps = a.tmps ∧ lp.params = ps ∧ lp.assign = as ∧ lp.body = bd) → W.heap[l]? = some (.loop lp) → lp.state = .ready → xs.length = ps.toList.length → Y l W lp xs R → Yl P l xs.toArray W R) →
      Cl P gf (fs.toList ++ [Value.func (.yield l) #[] #[]] ++ cs.toList).toArray w1 fun _ w2 => rfEnd l Q ρ (D :: ds) w2)
    (hY : ∀ (l : Nat) (W : World) (lp : Loop) (xs : List Value) (R : Value → World → Prop), (lp.tmps = a.tmps ∧ lp.params = ps ∧ lp.assign = as ∧ lp.body = bd) → W.heap[l]? = some (.loop lp) → lp.state = .ready → xs.length = ps.toList.length → Y l W lp xs R → Yl P l xs.toArray W R) :
    (Code.rangeFunc g ps as bd).wpIn (Fn none) 0 P (CQ N ts a0 Q) a w := by
  refine wpIn_rangeFunc fun fn _ => ?_
  have hcl := h1 { state := .ready, pending := none, fn := fn, tmps := a.tmps, params := ps, assign := as, body := bd, defers := w.heap.size } w.heap.size (w.heap.size + 1) _ rfl rfl rfl ⟨rfl, rfl, rfl, rfl⟩ rfl rfl (fun _ _ _ h => h) (hY (w.heap.size + 1))
  rw [show (fs.toList ++ [Value.func (.yield (w.heap.size + 1)) #[] #[]] ++ cs.toList).toArray = fs ++ #[.func (.yield (w.heap.size + 1)) #[] #[]] ++ cs by simp] at hcl
  have hres : (resolve a.eval (rangeCall g (w.heap.size + 1)) 0).run P ((w.alloc (.deferred (some []))).alloc (.loop { state := .ready, pending := none, fn := fn, tmps := a.tmps, params := ps, assign := as, body := bd, defers := w.heap.size })) =
      .ok { target := .fn (.func gf) cs, args := fs ++ #[.func (.yield (w.heap.size + 1)) #[] #[]] } ((w.alloc (.deferred (some []))).alloc (.loop { state := .ready, pending := none, fn := fn, tmps := a.tmps, params := ps, assign := as, body := bd, defers := w.heap.size })) := by
    simp only [resolve, hg, Deferred.ofValue, Sem.run_pure]
    simp [Act.eval]
  have hinv : (invoke (.fn (.func gf) cs) (fs ++ #[.func (.yield (w.heap.size + 1)) #[] #[]])).run P ((w.alloc (.deferred (some []))).alloc (.loop { state := .ready, pending := none, fn := fn, tmps := a.tmps, params := ps, assign := as, body := bd, defers := w.heap.size })) =
      .ok (.enter gf (fs ++ #[.func (.yield (w.heap.size + 1)) #[] #[]] ++ cs)) ((w.alloc (.deferred (some []))).alloc (.loop { state := .ready, pending := none, fn := fn, tmps := a.tmps, params := ps, assign := as, body := bd, defers := w.heap.size })) := by
    simp only [invoke, callFunc_enter hent]
  have hdep : (Fn none).depth.isSome = true → 1 ≤ 0 := fun h => by cases h
  refine ⟨_, _, _, _, _, gf, _, _, run_enterLoop_outer fn a.tmps ps as bd, hres, fun _ _ => trivial, hinv, hdep, CallsIn.mono hcl ?_⟩
  rintro e w2 ⟨v, rfl, lp2, hlp2, hbusy, hw3⟩
  refine ⟨lp2.pending, _, run_endLoop hlp2 hbusy, ?_⟩
  have h3 := hw3 _ rfl
  have hr3 : Rel N ρ (w.heap.size :: ds) { a with defers := [{ target := .collected w.heap.size, args := #[] }] ++ a.defers } := ⟨hr.size, hr.val, by simp [hr.defs]⟩
  cases hp : lp2.pending with
  | none => rw [hp] at h3; exact ⟨hk0, ρ, _, hr3, h3⟩
  | some c =>
    rw [hp] at h3
    cases c with
    | ret => exact wpIn_ret ⟨hk0, ρ, _, hr3, h3⟩
    | exit i => exact wpIn_exit ⟨hk0, ρ, _, hr3, h3⟩
    | _ => exact h3.elim

theorem vc_sound (hm : P.follows .mixedOrders = true) (c : Code) : ∀ (h : H) (r : Option Nat) (inR : Bool) (Q : CPost) (ρ : Env) (ds : List Nat) (a : Act) (w : World), (inR = false → r = none) → Rel N ρ ds a → vc P N inR c h Q ρ ds w →
    c.wpIn (Fn r) 0 P (CQ N (wrC c) a Q) a w := by
  induction c with
  | skip => intro h r inR Q ρ ds a w hri hr hv; exact wpIn_skip ⟨KeepsF.refl, ρ, ds, hr, by cases h <;> exact hv⟩
  | label l => intro h r inR Q ρ ds a w hri hr hv; exact wpIn_label ⟨KeepsF.refl, ρ, ds, hr, by cases h <;> exact hv⟩
  | ret => intro h r inR Q ρ ds a w hri hr hv; exact wpIn_ret ⟨KeepsF.refl, ρ, ds, hr, by cases h <;> exact hv⟩
  | exit i => intro h r inR Q ρ ds a w hri hr hv; exact wpIn_exit ⟨KeepsF.refl, ρ, ds, hr, by cases h <;> exact hv⟩
  | goto l => intro h r inR Q ρ ds a w hri hr hv; cases h <;> exact hv.elim
  | refuse s => intro h r inR Q ρ ds a w hri hr hv; cases h <;> exact hv.elim
  | region id ops draw =>
    intro h r inR Q ρ ds a w hri hr hv
    have hts : ∀ o ∈ ops.toList, ∀ d, o.dst = some d → d ∈ wrOps ops.toList := fun o ho d hd => mem_wrOps hd ho
    have hend : ∀ e a' w', RQ N ds (wrOps ops.toList) a (fun ρ w => Q .normal ρ ds w) e a' w' → CQ N (wrC (.region id ops draw)) a Q e a' w' := by
      rintro e a' w' ⟨rfl, ρ', h1, h2, h3⟩
      exact ⟨h2, ρ', ds, h1, h3⟩
    cases h with
    | reg bs =>
      simp only [vc] at hv
      cases draw with
      | true => exact hv.elim
      | false =>
        simp only [cond_false] at hv
        refine wpIn_mono (wpIn_region ?_) hend
        rw [List.range_eq_range', ← Array.length_toList]
        exact vops_sound ops.toList 0 bs ρ a w (fun j => by simp) hts hr KeepsF.refl hv
    | any an t =>
      simp only [vc] at hv
      cases hb : draw && sureB ops an && RT.strict (strictB ops an) t && RT.ok ops t ops.size (Array.replicate ops.size false) none with
      | false => rw [hb] at hv; exact hv.elim
      | true =>
        rw [hb] at hv
        simp only [Bool.and_eq_true] at hb
        obtain ⟨⟨⟨rfl, h1⟩, hstr⟩, h2⟩ := hb
        have hS := sure_of h1
        have hshut : Shut ops (fun j => an.getD j []) (Array.replicate ops.size false) := ⟨by simp, fun j hj => by
          exfalso
          rw [Array.getD_eq_getD_getElem?, Array.getElem?_replicate] at hj
          split at hj <;> simp at hj⟩
        have := vt_sound (r := r) (ds := ds) hS (st := strictB ops an) (fun i hi => strict_of hi) (K := fun ρ w => Q .normal ρ ds w) (a0 := a) hts t ops.size (Array.replicate ops.size false) none ρ [] a w.drew hstr h2 hshut ⟨(fun _ h => by cases h), (fun _ h => by cases h), (fun _ h => by cases h)⟩ hr KeepsF.refl (hv _ rfl)
        exact wpIn_mono (region_any hm this) hend
    | _ => exact hv.elim
  | seq x y ihx ihy =>
    intro h r inR Q ρ ds a w hri hr hv
    have keepR : ∀ {a1 a2 : Act}, KeepsF (wrC x) a a1 → KeepsF (wrC y) a1 a2 → KeepsF (wrC (.seq x y)) a a2 := fun h1 h2 => (h1.more fun t ht => List.mem_append_left _ ht).trans (h2.more fun t ht => List.mem_append_right _ ht)
    have keepL : ∀ {a1 : Act}, KeepsF (wrC x) a a1 → KeepsF (wrC (.seq x y)) a a1 := fun h1 => h1.more fun t ht => List.mem_append_left _ ht
    cases h with
    | s ha hb =>
      simp only [vc] at hv
      refine wpIn_seq (wpIn_mono (ihx ha r inR _ ρ ds a w hri hr hv) ?_)
      rintro e a1 w1 ⟨hk, ρ', ds', hr', hq⟩
      cases e with
      | normal =>
        refine wpIn_mono (ihy hb r inR Q ρ' ds' a1 w1 hri hr' hq) ?_
        rintro e2 a2 w2 ⟨hk2, h2⟩
        exact ⟨keepR hk hk2, h2⟩
      | _ => exact ⟨keepL hk, ρ', ds', hr', hq⟩
    | cut live ha hb =>
      simp only [vc] at hv
      cases ds with
      | cons D ds => exact hv.elim
      | nil =>
        obtain ⟨I, hx, hy⟩ := hv
        refine wpIn_seq (wpIn_mono (ihx ha r inR _ ρ [] a w hri hr hx) ?_)
        rintro e a1 w1 ⟨hk, ρ', ds', hr', hq⟩
        cases e with
        | normal =>
          cases ds' with
          | cons D ds => exact hq.elim
          | nil =>
            have hI := lives_spec hr' hq
            have hbv := takes_spec (by simp) (hy _ _ hI)
            refine wpIn_mono (ihy hb r inR Q _ [] a1 w1 hri (Rel.take (hr.keep hr' hk)) hbv) ?_
            rintro e2 a2 w2 ⟨hk2, h2⟩
            exact ⟨keepR hk hk2, h2⟩
        | _ => exact ⟨keepL hk, ρ', ds', hr', hq⟩
    | _ => exact hv.elim
  | cond g x y ihx ihy =>
    intro h r inR Q ρ ds a w hri hr hv
    have kx : ∀ e a' w', CQ N (wrC x) a Q e a' w' → CQ N (wrC (.cond g x y)) a Q e a' w' := fun e a' w' ⟨h1, h2⟩ => ⟨h1.more fun t ht => List.mem_append_left _ ht, h2⟩
    have ky : ∀ e a' w', CQ N (wrC y) a Q e a' w' → CQ N (wrC (.cond g x y)) a Q e a' w' := fun e a' w' ⟨h1, h2⟩ => ⟨h1.more fun t ht => List.mem_append_right _ ht, h2⟩
    cases h with
    | s ha hb =>
      simp only [vc] at hv
      have h1 := hr.vx hv
      split at h1
      · rename_i b hb'
        cases b with
        | true => exact wpIn_cond_true hb' (wpIn_mono (ihx ha r inR Q ρ ds a w hri hr h1) kx)
        | false => exact wpIn_cond_false hb' (wpIn_mono (ihy hb r inR Q ρ ds a w hri hr h1) ky)
      · exact h1.elim
    | ct ha =>
      simp only [vc] at hv
      have h1 := hr.vx hv
      split at h1
      · rename_i hb'; exact wpIn_cond_true hb' (wpIn_mono (ihx ha r inR Q ρ ds a w hri hr h1) kx)
      · exact h1.elim
    | cf hb =>
      simp only [vc] at hv
      have h1 := hr.vx hv
      split at h1
      · rename_i hb'; exact wpIn_cond_false hb' (wpIn_mono (ihy hb r inR Q ρ ds a w hri hr h1) ky)
      · exact h1.elim
    | _ => exact hv.elim
  | block i x ih =>
    intro h r inR Q ρ ds a w hri hr hv
    cases h with
    | one ha =>
      simp only [vc] at hv
      refine wpIn_block (wpIn_mono (ih ha r inR _ ρ ds a w hri hr hv) ?_)
      rintro e a1 w1 ⟨hk, ρ', ds', hr', hq⟩
      cases e with
      | exit j =>
        cases hb : Nat.beq j i with
        | true =>
          simp only [hb, cond_true] at hq
          simp only [Exit.inBlock, Nat.eq_of_beq_eq_true hb, if_true]
          exact ⟨hk, ρ', ds', hr', hq⟩
        | false =>
          simp only [hb, cond_false] at hq
          simp only [Exit.inBlock, Nat.ne_of_beq_eq_false hb, if_false]
          exact ⟨hk, ρ', ds', hr', hq⟩
      | _ => exact ⟨hk, ρ', ds', hr', hq⟩
    | _ => exact hv.elim
  | scope x ih =>
    intro h r inR Q ρ ds a w hri hr hv
    cases h with
    | one ha =>
      simp only [vc] at hv
      refine wpIn_mono (wpIn_scope (Q := fun e a' w' => (∀ l, e ≠ .goto l) ∧ CQ N (wrC (.scope x)) a Q e a' w') (fun l a w h => h.1 l rfl) (wpIn_mono (ih ha r inR _ ρ ds a w hri hr hv) ?_)) fun e a w h => h.2
      rintro e a1 w1 ⟨hk, ρ', ds', hr', hq⟩
      cases e with
      | goto l => exact hq.elim
      | _ => exact ⟨(fun l h => by cases h), hk, ρ', ds', hr', hq⟩
    | _ => exact hv.elim
  | loop x ih =>
    intro h r inR Q ρ ds a w hri hr hv
    cases h with
    | loop live ha =>
      simp only [vc] at hv
      cases ds with
      | cons D ds => exact hv.elim
      | nil =>
        obtain ⟨I, μ, h0, hrnd⟩ := hv
        refine wpIn_loop (fun a' w' => I (live.map fun p => a'.tmps.getD p.1 undef) w' ∧ Rel N (ρ.drop (wrC x)) [] a' ∧ KeepsF (wrC x) a a') (fun a' w' => μ (live.map fun p => a'.tmps.getD p.1 undef) w')
          ⟨lives_spec hr h0, hr.keep hr KeepsF.refl, KeepsF.refl⟩ ?_
        rintro a' w' ⟨hI, hr', hk'⟩
        have hbv := takes_spec (by simp) (hrnd _ _ hI)
        refine wpIn_mono (ih ha r inR _ _ [] a' w' hri (Rel.take hr') hbv) ?_
        rintro e a2 w2 ⟨hk2, ρ2, ds2, hr2, hq⟩
        cases e with
        | normal =>
          cases ds2 with
          | cons D ds => exact hq.elim
          | nil =>
            have h3 := lives_spec hr2 hq
            exact ⟨⟨h3.1, hr.keep hr2 (hk'.trans hk2), hk'.trans hk2⟩, h3.2⟩
        | _ => exact ⟨hk'.trans hk2, ρ2, ds2, hr2, hq⟩
    | _ => exact hv.elim
  | rangeFunc g ps as bd iha ihb =>
    intro h r inR Q ρ ds a w hri hr hv
    cases h with
    | rf sh ha hb =>
      simp only [vc] at hv
      cases hc : inR || !(nodupB ps.toList) || !(ps.toList.all fun t => Nat.blt t N) || !(Nat.beq sh.length ps.toList.length) with
      | true => rw [hc] at hv; exact hv.elim
      | false =>
        rw [hc] at hv
        simp only [Bool.or_eq_false_iff, Bool.not_eq_false'] at hc
        obtain ⟨⟨⟨hin, hnd⟩, hlt⟩, hsl⟩ := hc
        have hsl := Nat.eq_of_beq_eq_true hsl
        obtain rfl := hri hin
        have hnd := nodupB_spec hnd
        have hlt : ∀ t ∈ ps.toList, t < N := fun t ht => Nat.le_of_ble_eq_true (List.all_eq_true.1 hlt t ht)
        have h1 := hr.vx hv
        unfold RfV at h1
        split at h1
        · rename_i gf fs cs hg
          obtain ⟨hent, h1⟩ := h1
          refine rf_sound hent hg hr (KeepsF.refl) (fun lp D l w1 => h1 (fun lp => lp.tmps = a.tmps ∧ lp.params = ps ∧ lp.assign = as ∧ lp.body = bd) lp D l w1) ?_
          rintro l W lp xs R ⟨e1, e2, e3, e4⟩ hW hst hlen hbody
          have hsz : xs.toArray.size = lp.params.size := by rw [e2]; simpa using hlen
          refine ⟨_, _, _, _, run_yield hW hsz, roundIn_of_wpIn trivial ?_⟩
          have htm : (lp.params.zip xs.toArray).foldl (fun tmps (x : Nat × Value) => tmps.setIfInBounds x.1 x.2) lp.tmps = (ps.toList.zip xs).foldl (fun tmps (p : Nat × Value) => tmps.setIfInBounds p.1 p.2) a.tmps := by
            rw [e1, e2, ← Array.foldl_toList, Array.toList_zip]
          have hr0 : Rel N ρ [] ⟨a.tmps, []⟩ := ⟨hr.size, hr.val, rfl⟩
          have hrr := hr0.round (xs := xs) hnd hlt
          have hbody := takes_spec (by simp [hlen, hsl]) hbody
          rw [show (ps.toList.zip sh).map (·.1) = ps.toList from List.map_fst_zip (by omega)] at hbody
          rw [e3, e4]
          show as.wpIn (Fn (some l)) 0 P _ { tmps := (lp.params.zip xs.toArray).foldl (fun tmps (x : Nat × Value) => tmps.setIfInBounds x.1 x.2) lp.tmps, defers := [] } W
          rw [htm]
          refine wpIn_mono (iha ha (some l) true _ _ [] _ W (fun h => by cases h) hrr hbody) ?_
          rintro e a1 W1 ⟨_, ρ1, ds1, hr1, hq⟩
          cases e with
          | normal =>
            cases ds1 with
            | cons D ds => exact hq.elim
            | nil =>
              obtain ⟨lp1, hlp1, hst1, hW2⟩ := hq
              refine ⟨_, run_beginRound hlp1 hst1, ?_⟩
              refine wpIn_mono (ihb hb (some l) true _ ρ1 [] a1 _ (fun h => by cases h) hr1 (hW2 _ rfl)) ?_
              rintro e a3 W3 ⟨_, ρ3, ds3, hr3, hq3⟩
              cases e with
              | normal =>
                obtain ⟨lp3, hlp3, hk⟩ := hq3
                exact ⟨_, _, run_endRound none hlp3, _, rfl, hk _ rfl⟩
              | ret =>
                obtain ⟨lp3, hlp3, hk⟩ := hq3
                exact ⟨_, _, run_endRound (some .ret) hlp3, _, rfl, hk _ rfl⟩
              | exit i =>
                obtain ⟨lp3, hlp3, hk⟩ := hq3
                exact ⟨_, _, run_endRound (some (.exit i)) hlp3, _, rfl, hk _ rfl⟩
              | _ => exact hq3.elim
          | _ => exact hq.elim
        · exact h1.elim
    | _ => exact hv.elim

theorem resultsV_run {ρ : Env} {ds : List Nat} {a : Act} (hr : Rel N ρ ds a) (f : ResultVar → Sem Value) (hf1 : ∀ t, f (.tmp t) = pure (a.tmps.getD t undef)) (hf2 : ∀ c t, f (.cell c t) = do loadVar t (← asAddr (a.tmps.getD c undef))) :
    ∀ {l : List ResultVar} {w : World} {K : List Value → Prop}, resultsV P ρ l w K → ∃ vs, K vs ∧ (l.mapM f).run P w = .ok vs w
  | [], w, K, h => ⟨[], h, rfl⟩
  | .tmp t :: l, w, K, h => by
    simp only [resultsV] at h
    split at h
    · rename_i v hv
      obtain ⟨vs, hk, hrun⟩ := resultsV_run hr f hf1 hf2 h
      refine ⟨v :: vs, hk, ?_⟩
      simp only [List.mapM_cons, hf1, Sem.run_bind, Sem.run_pure, Result.andThen_ok, hr.val t v hv, hrun]
    · exact h.elim
  | .cell c ty :: l, w, K, h => by
    simp only [resultsV] at h
    split at h
    · rename_i p hp
      obtain ⟨v, hk, hl⟩ := vload_sound h
      obtain ⟨vs, hk, hrun⟩ := resultsV_run hr f hf1 hf2 hk
      refine ⟨v :: vs, hk, ?_⟩
      have ha : (asAddr (a.tmps.getD c undef)).run P w = .ok p w := by rw [hr.val c _ hp]; rfl
      simp only [List.mapM_cons, hf2, Sem.run_bind, Sem.run_pure, Result.andThen_ok, ha, hl, hrun]
    · exact h.elim

def resF (a : Act) (x : ResultVar) : Sem Value :=
  match x with
  | .tmp t => pure (a.tmps.getD t undef)
  | .cell c t => do loadVar t (← asAddr (a.tmps.getD c undef))
theorem results_run {fn : Func} {ρ : Env} {ds : List Nat} {a : Act} (hr : Rel N ρ ds a) {w : World} {K : List Value → Prop} (h : resultsV P ρ fn.results.toList w K) : ∃ vs, K vs ∧ (results fn a.tmps).run P w = .ok (oneOf vs) w := by
  obtain ⟨vs, hk, hrun⟩ := resultsV_run hr (resF a) (fun _ => rfl) (fun _ _ => rfl) h
  refine ⟨vs, hk, ?_⟩
  have he : results fn a.tmps = (do
      let vs ← fn.results.mapM (resF a)
      pure (if h : vs.size = 1 then vs[0] else .tuple vs) : Sem Value) := rfl
  rw [he, Sem.run_bind, Array.mapM_eq_mapM_toList, Sem.run_map, hrun]
  simp only [Result.andThen_ok, Sem.run_pure]
  congr 1
  match vs with
  | [] => rfl
  | [v] => rfl
  | v :: u :: vs => rfl

theorem argEnv_get : ∀ (args : List Value) (i t : Nat) (v : Value), Env.get (argEnv args i) t = some v → ∃ j, t = i + j ∧ args[j]? = some v
  | [], _, _, _, h => by cases h
  | x :: xs, i, t, v, h => by
    rcases Env.get_put h with ⟨rfl, rfl⟩ | ⟨_, h⟩
    · exact ⟨0, rfl, rfl⟩
    · obtain ⟨j, rfl, hj⟩ := argEnv_get xs (i + 1) t v h
      exact ⟨j + 1, by omega, by simpa using hj⟩

theorem leave_in {fn : Func} {tmps : Array Value} {R : Ending → World → Prop} {K : World → Prop} (hK : ∀ w, K w → ∃ v, (results fn tmps).run P w = .ok v w ∧ R (.returned v) w) : ∀ {ds : List Nat} {w : World}, leave ds w K →
    LeavesInM (Fn none) 0 P fn tmps R (ds.map fun D => { target := .collected D, args := #[] }) .returning w
  | [], w, h => hK w h
  | D :: ds, w, h => ⟨(by simp), .inl ⟨D, _, rfl, run_takeDeferred h.1, leave_in hK (h.2 _ rfl)⟩⟩

/-- **A function whose condition holds does what it says.** -/
theorem vf_sound (hm : P.follows .mixedOrders = true) {f : FuncId} {h : H} {args : List Value} {w : World} {R : Value → World → Prop} (hv : vf P f h args w R) : Cl P f args.toArray w R := by
  unfold vf at hv
  split at hv
  · rename_i fn hf
    split at hv
    · rename_i c hc
      cases hb : Nat.ble args.length fn.ntmps with
      | false => rw [hb] at hv; exact hv.elim
      | true =>
        rw [hb] at hv
        have hle := Nat.le_of_ble_eq_true hb
        refine callsIn_of_wp_marks hf hc trivial ?_ rfl
        have hr : Rel fn.ntmps (argEnv args 0) [] { tmps := args.toArray ++ Array.replicate (fn.ntmps - args.toArray.size) undef, defers := [] } := by
          refine ⟨by simp; omega, fun t v hv => ?_, rfl⟩
          obtain ⟨j, rfl, hj⟩ := argEnv_get args 0 t v hv
          have hlt : j < args.length := (List.getElem?_eq_some_iff.1 hj).1
          rw [Nat.zero_add, Array.getD_eq_getD_getElem?, Array.getElem?_append_left (by simpa using hlt)]
          simp [hj]
        refine wpIn_mono (vc_sound hm c h none false _ _ [] _ w (fun _ => rfl) hr hv) ?_
        rintro e a' w' ⟨_, ρ', ds', hr', hq⟩
        cases e with
        | normal =>
          show LeavesInM (Fn none) 0 P fn a'.tmps _ a'.defers .returning w'
          rw [hr'.defs]
          exact leave_in (fun w hk => by
            obtain ⟨vs, hR, hrun⟩ := results_run hr' hk
            exact ⟨_, hrun, _, rfl, hR⟩) hq
        | ret =>
          show LeavesInM (Fn none) 0 P fn a'.tmps _ a'.defers .returning w'
          rw [hr'.defs]
          exact leave_in (fun w hk => by
            obtain ⟨vs, hR, hrun⟩ := results_run hr' hk
            exact ⟨_, hrun, _, rfl, hR⟩) hq
        | _ => exact hq.elim
    · exact hv.elim
  · exact hv.elim
theorem cl_of (hm : P.follows .mixedOrders = true) {f : FuncId} {h : H} {args : List Value} {w : World} {R : Value → World → Prop} {c : Prop} (e : vf P f h args w R = c) (hc : c) : Cl P f args.toArray w R := vf_sound hm (h := h) (e ▸ hc)
end
end Go.Bty
