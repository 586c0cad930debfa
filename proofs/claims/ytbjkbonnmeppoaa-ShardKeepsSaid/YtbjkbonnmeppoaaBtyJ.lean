/- append; and 've' holds what it says. -/
import Derived.Test.YtbjkbonnmeppoaaBtyI
namespace Go.Bty
open Go

section
variable {r : Option Nat} {P : Program} {N : Nat} {ρ : Env} {ds : List Nat} {a : Act}

theorem RowAt.run {w : World} {base : Option Addr} {n cap sz : Nat} {xs : List Value} (h : RowAt w base (n * sz) xs) : (Builtin.firstCells sz n (.slice base n cap)).run P w = .ok xs.toArray w := by
  obtain ⟨hl, h⟩ := h
  cases base with
  | none =>
    simp only at h
    have : xs = [] := List.eq_nil_of_length_eq_zero (by omega)
    subst this
    rfl
  | some p =>
    have := run_loadCells_list (P := P) w p xs h
    rw [hl] at this
    exact this

theorem bytesV_oneC (bs : List UInt8) : OneC (bytesV bs) := fun u hu => by
  obtain ⟨b, _, rfl⟩ := List.mem_map.1 hu
  rfl

theorem app_run {ats : Array TypeId} {ty t u e : TypeId} {args : Array Value} {i : TypeInfo} {z x y : Value} {base : Option Addr} {n cap m : Nat} {ys : List Value} {w : World} {K : Value → World → Prop}
    (et : ats[0]? = some t) (eu : ats[1]? = some u) (e0 : args[0]? = some x) (e1 : args[1]? = some y) (ht : P.underlying t = some (.slice e)) {du : TypeDesc} (hdu : P.underlying u = some du) (hu : (∃ e', du = .slice e') ∨ du = .string)
    (hi : P.info? e = some i) (hz : i.zero = some z) (hb : 1 ≤ i.bytes) (hx : x = .slice base n cap) (hlen : ∀ w, (Builtin.lenOf y).run P w = .ok m w)
    (hys : ∀ w', (∀ p v, w.cell? p = some v → w'.cell? p = some v) → (Builtin.firstCells i.size m y).run P w' = .ok ys.toArray w') (h : vapp e i.size i.bytes z.cells.toList base n cap m ys w K) :
    ∃ v w', K v w' ∧ (Builtin.append_ ats ty args).run P w = .ok v w' := by
  obtain ⟨h1, h2, h3⟩ := vapp_old h
  have hsz : szOf P e = some i.size := by simp [szOf, hi]
  have hze : zeroOf P e = some z := by simp [zeroOf, hi, hz]
  subst hx
  by_cases hc : n + m ≤ cap
  · obtain ⟨hw, hk⟩ := h2 hc
    cases base with
    | none =>
      refine ⟨_, _, hk _ rfl, ?_⟩
      unfold Builtin.append_
      rcases hu with ⟨e', rfl⟩ | rfl
      all_goals
        simp only [et, e0, e1, eu, Sem.run_bind, run_underlying ht, run_sizeOf hsz, Result.andThen_ok, run_underlying hdu, Sem.run_pure, Bool.false_eq_true, if_false, hlen, hc, if_true, Bool.not_false, hys w (fun _ _ h => h), appSet]
    | some p =>
      refine ⟨_, _, hk _ rfl, ?_⟩
      have hst : (storeCells (p.add (n * i.size)) ys).run P w = .ok () (setSpan w (p.add (n * i.size)) ys) := by
        cases hys0 : ys with
        | nil => simp [storeCells, setSpan, setSpanFrom]
        | cons y0 ys0 =>
          obtain ⟨p', hp', hwr⟩ := hw (by rw [hys0]; simp)
          cases hp'
          rw [← hys0]
          exact storeSpan_run (P := P) h1 hwr
      unfold Builtin.append_
      rcases hu with ⟨e', rfl⟩ | rfl
      all_goals
        simp only [et, e0, e1, eu, Sem.run_bind, run_underlying ht, run_sizeOf hsz, Result.andThen_ok, run_underlying hdu, Sem.run_pure, Bool.false_eq_true, if_false, hlen, hc, if_true, Bool.not_false, hys w (fun _ _ h => h), hst, appSet]
  · obtain ⟨hroom, xs, hxs, hk⟩ := h3 (by omega)
    have hcap : n + m ≤ (Question.appendCap (n + m) cap e).cut (w.tape w.drawn (.appendCap (n + m) cap e)) := by simp only [Question.cut]; omega
    refine ⟨_, _, hk _ _ _ hcap rfl rfl, ?_⟩
    have hb0 : ¬ (i.bytes = 0) := by omega
    have hrm : ¬ (Builtin.nextslicecap (n + m) cap * i.bytes > 2 ^ 48) := by omega
    have hrow : RowAt w.drew base (n * i.size) xs := hxs
    have hzc : Builtin.zeroCells z.cells ((Question.appendCap (n + m) cap e).cut (w.tape w.drawn (.appendCap (n + m) cap e)) - (n + m)) = (zc ((Question.appendCap (n + m) cap e).cut (w.tape w.drawn (.appendCap (n + m) cap e)) - (n + m)) z.cells.toList).toArray := by
      unfold Builtin.zeroCells
      exact zc_range rfl
    have hf : (Question.appendCap (n + m) cap e).forced = false := rfl
    unfold Builtin.append_
    rcases hu with ⟨e', rfl⟩ | rfl
    all_goals
      simp only [et, e0, e1, eu, Sem.run_bind, run_underlying ht, run_sizeOf hsz, Result.andThen_ok, run_underlying hdu, Sem.run_pure, Bool.false_eq_true, if_false, hlen, hc, Bool.not_false, run_typeInfo hi, Sem.run_ite, false_or, hb0, and_false, hrm, run_choose_drew, hf, run_askRoom, hrow.run, hys w.drew (fun _ _ h => h), if_true, run_zero hze, newRow, run_newObj_alloc]
      rw [hzc]
      simp

theorem callsIn_round {n : Nat} {f : FuncId} {args : Array Value} {w : World} {R : Ending → World → Prop} (h : CallsIn (Fn none) n P f args w R) : CallsIn (Fn r) n P f args w R := by
  cases r with
  | none => exact h
  | some l => exact h
theorem roundIn_round {n l : Nat} {f : FuncId} {tmps : Array Value} {assign body : Code} {w : World} {R : Ending → World → Prop} (h : RoundIn (Fn none) n P l f tmps assign body w R) : RoundIn (Fn r) n P l f tmps assign body w R := by
  cases r with
  | none => exact h
  | some l => exact h

theorem callFunc_enter {f : FuncId} {args : Array Value} (h : entersB P f = true) (w : World) : (callFunc f args).run P w = .ok (.enter f args) w := by
  unfold entersB at h
  cases hf : P.funcs[f]? with
  | none => rw [hf] at h; cases h
  | some fn =>
    rw [hf] at h
    simp only [Bool.and_eq_true, bne_iff_ne, ne_eq] at h
    have hb : fn.body.isNone = false := by cases hb : fn.body <;> simp_all
    have hn : (fn.name == "runtime.NumGoroutine") = false := by simpa using h.2
    simp only [callFunc, Sem.run_bind, run_program, Result.andThen_ok, hf, hn, hb, Bool.false_eq_true, if_false, Sem.run_pure]

theorem wrap_i64 {n : Int} (h1 : -9223372036854775808 ≤ n) (h2 : n ≤ 9223372036854775807) : IntKind.i64.wrap n = n := by
  show (if (true && decide (n % (18446744073709551616 : Int) ≥ (9223372036854775808 : Int))) = true then n % (18446744073709551616 : Int) - (18446744073709551616 : Int) else n % (18446744073709551616 : Int)) = n
  simp only [Bool.true_and, decide_eq_true_eq]
  split <;> omega
theorem wrap_u64 {n : Int} (h1 : 0 ≤ n) (h2 : n ≤ 18446744073709551615) : IntKind.u64.wrap n = n := by
  show (if (false && decide (n % (18446744073709551616 : Int) ≥ (9223372036854775808 : Int))) = true then n % (18446744073709551616 : Int) - (18446744073709551616 : Int) else n % (18446744073709551616 : Int)) = n
  simp only [Bool.false_and, Bool.false_eq_true, if_false]
  omega

theorem i64T_spec {d : Option TypeDesc} (h : i64T d = true) : d = some (.int .i64) := by
  unfold i64T at h
  split at h
  · rfl
  · cases h
/-- 'append' of zeros. -/
theorem app_run0 {ats : Array TypeId} {ty t u e : TypeId} {args : Array Value} {i : TypeInfo} {z x y : Value} {base : Option Addr} {n cap : Nat} {k : IntKind} {l : Int} {w : World} {K : Value → World → Prop}
    (et : ats[0]? = some t) (eu : ats[1]? = some u) (e0 : args[0]? = some x) (e1 : args[1]? = some y) (ht : P.underlying t = some (.slice e)) (hdu : P.underlying u = some (.int .i64))
    (hi : P.info? e = some i) (hz : i.zero = some z) (hb : 1 ≤ i.bytes) (hzs : z.cells.size = i.size) (hs1 : 1 ≤ i.size) (hx : x = .slice base n cap) (hy : y = .int k l) (h0 : 0 ≤ l) (hb2 : l * i.bytes ≤ 2 ^ 48) (hmax : ((n + l.toNat : Nat) : Int) ≤ IntKind.i64.max)
    (h : vapp e i.size i.bytes z.cells.toList base n cap l.toNat (zc l.toNat z.cells.toList) w K) :
    ∃ v w', K v w' ∧ (Builtin.append_ ats ty args).run P w = .ok v w' := by
  obtain ⟨h1, h2, h3⟩ := vapp_old h
  have hsz : szOf P e = some i.size := by simp [szOf, hi]
  have hze : zeroOf P e = some z := by simp [zeroOf, hi, hz]
  subst hx hy
  have hl48 : l ≤ 2 ^ 48 := by
    have : l * 1 ≤ l * i.bytes := Int.mul_le_mul_of_nonneg_left (by omega) h0
    omega
  have hw0 : IntKind.i64.wrap l = l := wrap_i64 (by omega) (by omega)
  have hai : ∀ w, (asInt (.int k l)).run P w = .ok l w := fun w => rfl
  have hn0 : ¬ l < 0 := by omega
  have hb3 : ¬ l * (i.bytes : Int) > 2 ^ 48 := by omega
  have happ : ∀ w, ((if l.toNat * i.size = 0 then pure #[] else do pure (Builtin.zeroCells (← zeroValue e).cells l.toNat)) : Sem (Array Value)).run P w = .ok (zc l.toNat z.cells.toList).toArray w := fun w => by
    by_cases hl : l.toNat * i.size = 0
    · rw [if_pos hl]
      have : l.toNat = 0 := by
        rcases Nat.mul_eq_zero.1 hl with h | h
        · exact h
        · omega
      rw [this]; rfl
    · rw [if_neg hl]
      simp only [Sem.run_bind, run_zero hze, Result.andThen_ok, Sem.run_pure]
      have : Builtin.zeroCells z.cells l.toNat = (zc l.toNat z.cells.toList).toArray := by
        unfold Builtin.zeroCells
        exact zc_range rfl
      rw [this]
  by_cases hc : n + l.toNat ≤ cap
  · obtain ⟨hw, hk⟩ := h2 hc
    cases base with
    | none =>
      refine ⟨_, _, hk _ rfl, ?_⟩
      unfold Builtin.append_
      simp only [et, e0, e1, eu, Sem.run_bind, run_underlying ht, run_sizeOf hsz, Result.andThen_ok, run_underlying hdu, Sem.run_pure, if_true, hai, hw0, hn0, if_false, run_typeInfo hi, hb3, hc, Bool.not_true, Bool.false_eq_true, happ w, appSet]
    | some p =>
      refine ⟨_, _, hk _ rfl, ?_⟩
      have hst : (storeCells (p.add (n * i.size)) (zc l.toNat z.cells.toList)).run P w = .ok () (setSpan w (p.add (n * i.size)) (zc l.toNat z.cells.toList)) := by
        cases hys0 : zc l.toNat z.cells.toList with
        | nil => simp [storeCells, setSpan, setSpanFrom]
        | cons y0 ys0 =>
          obtain ⟨p', hp', hwr⟩ := hw (by rw [hys0]; simp)
          cases hp'
          rw [← hys0]
          exact storeSpan_run (P := P) h1 hwr
      unfold Builtin.append_
      simp only [et, e0, e1, eu, Sem.run_bind, run_underlying ht, run_sizeOf hsz, Result.andThen_ok, run_underlying hdu, Sem.run_pure, if_true, hai, hw0, hn0, if_false, run_typeInfo hi, hb3, hc, Bool.not_true, Bool.false_eq_true, happ w, hst, appSet]
  · obtain ⟨hroom, xs, hxs, hk⟩ := h3 (by omega)
    have hcap : n + l.toNat ≤ (Question.appendCap (n + l.toNat) cap e).cut (w.tape w.drawn (.appendCap (n + l.toNat) cap e)) := by simp only [Question.cut]; omega
    refine ⟨_, _, hk _ _ _ hcap rfl rfl, ?_⟩
    have hm2 : ¬ ((n + l.toNat : Nat) : Int) > IntKind.i64.max := by omega
    have hrm : ¬ (Builtin.nextslicecap (n + l.toNat) cap * i.bytes > 2 ^ 48) := by omega
    have hrow : RowAt w.drew base (n * i.size) xs := hxs
    have hzc : Builtin.zeroCells z.cells ((Question.appendCap (n + l.toNat) cap e).cut (w.tape w.drawn (.appendCap (n + l.toNat) cap e)) - (n + l.toNat)) = (zc ((Question.appendCap (n + l.toNat) cap e).cut (w.tape w.drawn (.appendCap (n + l.toNat) cap e)) - (n + l.toNat)) z.cells.toList).toArray := by
      unfold Builtin.zeroCells
      exact zc_range rfl
    have hf : (Question.appendCap (n + l.toNat) cap e).forced = false := rfl
    unfold Builtin.append_
    simp only [et, e0, e1, eu, Sem.run_bind, run_underlying ht, run_sizeOf hsz, Result.andThen_ok, run_underlying hdu, Sem.run_pure, if_true, hai, hw0, hn0, if_false, run_typeInfo hi, hb3, hc, Bool.not_true, Bool.false_eq_true, Sem.run_ite, hm2, false_and, hrm, run_choose_drew, hf, run_askRoom, hrow.run, happ w.drew, run_zero hze, newRow, run_newObj_alloc]
    rw [hzc]
    by_cases hl : l.toNat * i.size = 0
    · have h0' : l.toNat = 0 := by
        rcases Nat.mul_eq_zero.1 hl with h | h
        · exact h
        · omega
      have hz0 : zc l.toNat z.cells.toList = [] := by rw [h0']; rfl
      rw [hz0]
      simp [hl]
    · have hzn : Builtin.zeroCells z.cells l.toNat = (zc l.toNat z.cells.toList).toArray := by
        unfold Builtin.zeroCells
        exact zc_range rfl
      simp [hl, Sem.run_bind, run_zero hze, hzn]

/-- A call, by what its operation comes to. -/
theorem opW_enter {o : Oper} {w : World} {f : FuncId} {args : Array Value} {K : Value → World → Prop} (hd : ∀ c, o.op ≠ .defer c) (hv : (execOp a.eval o).run P w = .ok (.enter f args) w) (h : Cl P f args w K) : opW r P o a w (Res a o.dst K) := by
  unfold opW
  rw [Oper.semAt_eq _ _ _ hd, hv]
  refine ⟨fun h => by simp [Fn] at h, callsIn_round (CallsIn.mono h fun e w' => ?_)⟩
  rintro ⟨v, rfl, hk⟩
  exact ⟨v, rfl, hk⟩

theorem ex_eq {sh : Sh} {u : Value} {K : Value → Prop} (h : sh.ex fun v => u = v ∧ K v) : K u := by
  obtain ⟨v, rfl, hk⟩ := Sh.ex_imp h
  exact hk

theorem ve_sound (hr : Rel N ρ ds a) {o : Oper} {w : World} {K : Value → World → Prop} (h : ve P ρ o w K) : opW r P o a w (Res a o.dst K) := by
  unfold ve at h
  split at h
  · rename_i t hx
    split at h
    · rename_i z hz
      refine opW_ok (by simp [hx]) ?_ ⟨_, rfl, h _ _ rfl rfl⟩
      simp only [execOp, hx, Instr.alloc, Sem.run_bind, run_zero hz, Result.andThen_ok, newVar, newRow, run_newObj_alloc, Sem.run_pure]
    · exact h.elim
  · rename_i t x hx
    have h1 := hr.vx h
    refine opW_ok (by simp [hx]) ?_ ⟨_, rfl, h1 _ _ rfl rfl⟩
    simp only [execOp, hx, Instr.box, newVar, newRow, Sem.run_bind, run_newObj_alloc, Result.andThen_ok, Sem.run_pure]
  · rename_i t len ps hx
    split at h
    · rename_i e hu
      split at h
      · rename_i sz hsz
        cases he : Nat.beq len 0 && ps.toList.isEmpty with
        | true =>
          rw [he] at h
          simp only [Bool.and_eq_true, List.isEmpty_iff] at he
          obtain ⟨e1, e2⟩ := he
          obtain rfl := Nat.eq_of_beq_eq_true e1
          refine opW_ok (by simp [hx]) ?_ ⟨_, rfl, h _ _ rfl rfl⟩
          have n1 : ¬ (0 > 2 ^ 24) := by omega
          have n2 : 0 * sz = 0 := by omega
          have hr0 : ∀ f : Nat → Value, (Array.range 0).map f = #[] := fun f => Array.ext' (by rw [Array.toList_map, Array.toList_range]; rfl)
          have hf : ∀ g : Nat → Option (Nat × Nat), Instr.fill g #[] [] = some #[] := fun _ => rfl
          simp only [execOp, hx, Instr.buildSlice, Sem.run_bind, run_underlying hu, run_sizeOf hsz, Result.andThen_ok, n1, if_false, n2, if_true, Sem.run_pure, hr0, e2, Array.toList_map, List.map_nil, hf, newRow, run_newObj_alloc]
        | false =>
        rw [he] at h
        simp only [cond_false] at h
        split at h
        · rename_i z hz
          split at h
          · rename_i qs hqs
            have hq := map_evp ps hr hqs
            cases hb : Nat.ble 1 (len * sz) && Nat.ble (len * sz) 16777216 && Nat.beq z.cells.size sz with
            | false => rw [hb] at h; exact h.elim
            | true =>
              rw [hb] at h
              simp only [Bool.and_eq_true] at hb
              simp only [cond_true] at h
              split at h
              · rename_i cs hcs
                have hb1 := Nat.le_of_ble_eq_true hb.1.1
                have hb2 := Nat.le_of_ble_eq_true hb.1.2
                have hb3 := Nat.eq_of_beq_eq_true hb.2
                have n1 : ¬ (len * sz > 2 ^ 24) := by omega
                have n2 : ¬ (len * sz = 0) := by omega
                refine opW_ok (by simp [hx]) ?_ ⟨_, rfl, h _ _ rfl rfl⟩
                have hr1 := zc_range (z := z.cells) (n := len) (m := len * sz) (by rw [hb3])
                simp only [execOp, hx, Instr.buildSlice, Sem.run_bind, run_underlying hu, run_sizeOf hsz, Result.andThen_ok, n1, if_false, n2, run_zero hz, Sem.run_pure, hr1, hq, hcs, newRow, run_newObj_alloc]
              · exact h.elim
          · exact h.elim
        · exact h.elim
      · exact h.elim
    · exact h.elim
  · rename_i t q hx
    split at h
    · refine opW_ok (by simp [hx]) ?_ ⟨_, rfl, h _ _ rfl rfl⟩
      simp only [execOp, hx, Instr.makeMap, Option.map_none, Sem.run_bind, run_newObj_alloc, Result.andThen_ok, Sem.run_pure]
    · exact h.elim
  · rename_i t l c hx
    split at h
    · rename_i e hu
      split at h
      · rename_i i hi
        split at h
        · rename_i z hz
          cases hb : Nat.ble 1 i.bytes && Nat.beq z.cells.size i.size with
          | false => rw [hb] at h; exact h.elim
          | true =>
            rw [hb] at h
            simp only [Bool.and_eq_true] at hb
            have hb1 := Nat.le_of_ble_eq_true hb.1
            have hb2 := Nat.eq_of_beq_eq_true hb.2
            obtain ⟨k1, n, hl, h1⟩ := isI_spec (hr.vx h)
            obtain ⟨k2, m, hc, h2⟩ := isI_spec (hr.vx h1)
            obtain ⟨h3, h4, h5, h6⟩ := h2
            have hze : zeroOf P e = some z := by simp [zeroOf, hi, hz]
            have hsz : szOf P e = some i.size := by simp [szOf, hi]
            have hbm : m ≤ 2 ^ 48 := by
              have : (1 : Int) * m ≤ i.bytes * m := Int.mul_le_mul_of_nonneg_right (by omega) (by omega)
              omega
            have wm : IntKind.i64.wrap m = m := wrap_i64 (by omega) (by omega)
            have wn : IntKind.i64.wrap n = n := wrap_i64 (by omega) (by omega)
            refine opW_ok (by simp [hx]) ?_ ⟨_, rfl, h6 _ _ rfl rfl⟩
            have hr1 := zc_range (z := z.cells) (n := m.toNat) (m := m.toNat * i.size) (by rw [hb2])
            have m0 : ¬ m < 0 := by omega
            have n0 : ¬ n < 0 := by omega
            have nm : ¬ n > m := by omega
            have bm : ¬ ((i.bytes : Int) * m > 2 ^ 48) := by omega
            by_cases hz0 : m.toNat * i.size = 0
            · have he : (zc m.toNat z.cells.toList).toArray = #[] := by rw [← hr1, hz0]; simp
              rw [he]
              simp only [execOp, hx, Instr.makeSlice, Sem.run_bind, run_underlying hu, Result.andThen_ok, hl, hc, asInt, asIntOf, Sem.run_pure, run_typeInfo hi, wm, wn, Sem.run_ite, Bool.or_eq_true, decide_eq_true_eq, run_askRoom, run_sizeOf hsz, m0, n0, nm, bm, or_self, if_false, newRow, run_newObj_alloc, hz0, if_true]
              have hr0 : ∀ f : Nat → Value, (Array.range 0).map f = #[] := fun f => Array.ext' (by rw [Array.toList_map, Array.toList_range]; rfl)
              rw [hr0]
            · simp only [execOp, hx, Instr.makeSlice, Sem.run_bind, run_underlying hu, Result.andThen_ok, hl, hc, asInt, asIntOf, Sem.run_pure, run_typeInfo hi, wm, wn, Sem.run_ite, Bool.or_eq_true, decide_eq_true_eq, run_askRoom, run_sizeOf hsz, m0, n0, nm, bm, or_self, if_false, newRow, run_newObj_alloc, hz0, run_zero hze]
              rw [hr1]
        · exact h.elim
      · exact h.elim
    · exact h.elim
  · rename_i t x v hx
    split at h
    · rename_i n hn
      have h1 := hr.vx (hr.vx h)
      split at h1
      · rename_i q0 hp
        obtain ⟨p, rfl⟩ : ∃ p, q0 = some p := (onSome_spec h1).imp fun _ h => h.1
        rw [onSome_some] at h1
        obtain ⟨w', hk, hs⟩ := vstore_sound hn h1
        refine opW_skip (by simp [hx]) ?_ ⟨_, rfl, hk⟩
        simp only [execOp, hx, Instr.storeAt, hp, Instr.sureAddr, Sem.run_bind, Sem.run_pure, Result.andThen_ok, hs]
      · exact h1.elim
    · exact h.elim
  · rename_i t m k v hx
    split at h
    · rename_i kt e hm
      have hm := mapOf_spec hm
      split at h
      · rename_i kk hkk
        have h1 := hr.vx (hr.vx (hr.vx h))
        split at h1
        · rename_i q0 hp
          obtain ⟨q, rfl⟩ : ∃ p, q0 = some p := (onSome_spec h1).imp fun _ h => h.1
          rw [onSome_some] at h1
          cases hf : kFits kk (a.eval k) with
          | false => rw [hf] at h1; exact h1.elim
          | true =>
            rw [hf] at h1
            obtain ⟨es, c, hh, hks, h2⟩ := h1
            refine opW_skip (by simp [hx]) ?_ ⟨_, rfl, h2 _ rfl⟩
            simp only [execOp, hx, hp, Sem.run_bind, mput_run hm hkk hf hh hks, Result.andThen_ok, Sem.run_pure]
        · exact h1.elim
      · exact h.elim
    · exact h.elim
  · rename_i args ats hx
    split at h
    · rename_i m k t ts hargs hats
      split at h
      · rename_i kt e hm
        have hm := mapOf_spec hm
        split at h
        · rename_i kk hkk
          have h1 := hr.vx (hr.vx h)
          split at h1
          · rename_i q0 hp
            obtain ⟨q, rfl⟩ : ∃ p, q0 = some p := (onSome_spec h1).imp fun _ h => h.1
            rw [onSome_some] at h1
            cases hf : kFits kk (a.eval k) with
            | false => rw [hf] at h1; exact h1.elim
            | true =>
              rw [hf] at h1
              obtain ⟨es, c, hh, hks, h2⟩ := h1
              refine opW_ok (by simp [hx]) ?_ ⟨_, rfl, h2 _ rfl⟩
              have et : ats[0]? = some t := by rw [← Array.getElem?_toList, hats]; rfl
              have e0 : (args.map a.eval)[0]? = some (.map (some q)) := by rw [Array.getElem?_map, ← Array.getElem?_toList, hargs]; simp [hp]
              have e1 : (args.map a.eval)[1]? = some (a.eval k) := by rw [Array.getElem?_map, ← Array.getElem?_toList, hargs]; simp
              simp only [execOp, hx, resolve, Sem.run_bind, Sem.run_pure, Result.andThen_ok, invoke, builtin, mdel_run et e0 e1 hm hkk hf hh hks]
          · exact h1.elim
        · exact h.elim
      · exact h.elim
    · exact h.elim
  · rename_i args ats hx
    split at h
    · rename_i x t ts hargs hats
      split at h
      · rename_i e hu
        split at h
        · rename_i z hz
          cases hb : z.cells.toList.all Value.oneCell' with
          | false => rw [hb] at h; exact h.elim
          | true =>
            rw [hb] at h
            have h1 := hr.vx h
            have et : ats[0]? = some t := by rw [← Array.getElem?_toList, hats]; rfl
            have e0 : (args.map a.eval)[0]? = some (a.eval x) := by rw [Array.getElem?_map, ← Array.getElem?_toList, hargs]; simp
            split at h1
            · rename_i base n cap hp
              obtain ⟨h2, h3⟩ := h1
              refine opW_ok (by simp [hx]) ?_ ⟨_, rfl, h3 _ rfl⟩
              have hz0 : OneC (zc n z.cells.toList) := fun u hu => by
                obtain ⟨l, hl, hul⟩ := List.mem_flatten.1 hu
                rw [List.eq_of_mem_replicate hl] at hul
                exact List.all_eq_true.1 hb u hul
              have hrun : (Builtin.clear_ ats o.type (args.map a.eval)).run P w = .ok (.tuple #[]) (clrSet base n z.cells.toList w) := by
                unfold Builtin.clear_
                rw [et, e0, hp]
                simp only [Sem.run_bind, run_underlying hu, Result.andThen_ok]
                cases base with
                | none => simp only [clrSet, Sem.run_pure]
                | some p =>
                  cases n with
                  | zero => simp only [clrSet, Sem.run_pure]; rfl
                  | succ n =>
                    obtain ⟨p', hp', hwr⟩ := h2 (by omega)
                    cases hp'
                    have hze : Builtin.zeroCells z.cells (n + 1) = (zc (n + 1) z.cells.toList).toArray := by
                      unfold Builtin.zeroCells
                      exact zc_range rfl
                    simp only [clrSet, Sem.run_bind, run_zero hz, Result.andThen_ok, hze, Sem.run_pure]
                    rw [storeSpan_run (P := P) hz0 (by rw [zc_length]; exact hwr)]
                    rfl
              simp only [execOp, hx, resolve, Sem.run_bind, Sem.run_pure, Result.andThen_ok, invoke, builtin, hrun]
            · exact h1.elim
        · exact h.elim
      · exact h.elim
    · exact h.elim
  · rename_i args ats hx
    split at h
    · rename_i x y t u ts hargs hats
      split at h
      · rename_i e hu
        split at h
        · rename_i i hi
          split at h
          · rename_i z hz
            cases hb : Nat.ble 1 i.bytes && Nat.ble 1 i.size && Nat.beq z.cells.size i.size with
            | false => rw [hb] at h; exact h.elim
            | true =>
              rw [hb] at h
              simp only [Bool.and_eq_true] at hb
              have hb1 := Nat.le_of_ble_eq_true hb.1.1
              have h1 := hr.vx (hr.vx h)
              have et : ats[0]? = some t := by rw [← Array.getElem?_toList, hats]; rfl
              have eu : ats[1]? = some u := by rw [← Array.getElem?_toList, hats]; rfl
              have e0 : (args.map a.eval)[0]? = some (a.eval x) := by rw [Array.getElem?_map, ← Array.getElem?_toList, hargs]; simp
              have e1 : (args.map a.eval)[1]? = some (a.eval y) := by rw [Array.getElem?_map, ← Array.getElem?_toList, hargs]; simp
              have fin : ∀ {v w'}, K v w' → (Builtin.append_ ats o.type (args.map a.eval)).run P w = .ok v w' → opW r P o a w (Res a o.dst K) := fun hk hrun => by
                refine opW_ok (by simp [hx]) ?_ ⟨_, rfl, hk⟩
                simp only [execOp, hx, resolve, Sem.run_bind, Sem.run_pure, Result.andThen_ok, invoke, builtin, hrun]
              split at h1
              · rename_i base n cap hp
                cases hs : sliceT (P.underlying u) with
                | true =>
                  rw [hs] at h1
                  obtain ⟨e', he'⟩ := sliceT_spec hs
                  simp only [cond_true] at h1
                  split at h1
                  · rename_i yb m yc hy
                    obtain ⟨ys, hrow, happ⟩ := h1
                    obtain ⟨v, w', hk, hrun⟩ := app_run et eu e0 e1 hu he' (.inl ⟨_, rfl⟩) hi hz hb1 hp (fun w => by rw [hy]; rfl) (fun w' hw' => by
                      rw [hy]
                      have : RowAt w' yb (m * i.size) ys := ⟨hrow.1, by
                        have h2 := hrow.2
                        cases yb with
                        | none => exact h2
                        | some p => exact fun j v hj => hw' _ _ (h2 j v hj)⟩
                      exact this.run) happ
                    exact fin hk hrun
                  · exact h1.elim
                | false =>
                  rw [hs] at h1
                  cases hs2 : strT (P.underlying u) && Nat.beq i.size 1 with
                  | false =>
                    rw [hs2] at h1
                    cases hs3 : i64T (P.underlying u) with
                    | false => rw [hs3] at h1; exact h1.elim
                    | true =>
                      rw [hs3] at h1
                      simp only [cond_true, cond_false] at h1
                      split at h1
                      · rename_i k l hy
                        obtain ⟨q1, q2, q3, q4⟩ := h1
                        obtain ⟨v, w', hk, hrun⟩ := app_run0 et eu e0 e1 hu (i64T_spec hs3) hi hz hb1 (Nat.eq_of_beq_eq_true hb.2) (Nat.le_of_ble_eq_true hb.1.2) hp hy q1 q2 q3 q4
                        exact fin hk hrun
                      · exact h1.elim
                  | true =>
                    rw [hs2] at h1
                    simp only [Bool.and_eq_true] at hs2
                    have hsz1 := Nat.eq_of_beq_eq_true hs2.2
                    simp only [cond_true, cond_false] at h1
                    split at h1
                    · rename_i s hy
                      obtain ⟨v, w', hk, hrun⟩ := app_run et eu e0 e1 hu (strT_spec hs2.1) (.inr rfl) hi hz hb1 hp (fun w => by rw [hy]; rfl) (fun w' _ => by
                        rw [hy, hsz1]
                        simp only [Builtin.firstCells, Sem.run_pure, Result.ok.injEq, and_true]
                        apply Array.ext'
                        simp [bytesV]) h1
                      exact fin hk hrun
                    · exact h1.elim
              · exact h1.elim
          · exact h.elim
        · exact h.elim
      · exact h.elim
    · exact h.elim
  · rename_i g args ats hx
    split at h
    · rename_i vs hvs
      have hm := evs_map hr hvs
      have nd : ∀ c, o.op ≠ .defer c := by simp [hx]
      split at h
      · rename_i f
        unfold vcall at h
        split at h
        · rename_i sh hsh
          cases he : entersB P f with
          | true =>
            rw [he] at h
            refine opW_mono ?_ (opW_enter (K := fun u w' => sh.ex fun v => u = v ∧ K v w') nd ?_ h)
            · rintro a' w' ⟨u, rfl, hk⟩
              exact ⟨u, rfl, ex_eq hk⟩
            · simp only [execOp, hx, resolve, Act.eval, Deferred.ofValue, Sem.run_bind, Sem.run_pure, Result.andThen_ok, invoke, hm]
              simp only [Array.empty_append, Array.append_empty, callFunc_enter he]
          | false =>
            rw [he] at h
            obtain ⟨v, hrun, hk⟩ := h
            refine opW_ok nd ?_ ⟨v, rfl, ex_eq hk⟩
            simp only [execOp, hx, resolve, Act.eval, Deferred.ofValue, Sem.run_bind, Sem.run_pure, Result.andThen_ok, invoke, hm]
            simp only [Array.empty_append, Array.append_empty, hrun]
        · exact h.elim
      · split at h
        · rename_i sh hsh
          have h1 := hr.vx h
          unfold FvCall at h1
          split at h1
          · rename_i f fs cs hf
            obtain ⟨he, hcl⟩ := h1
            have ea : ∀ vs : List Value, (fs.toList ++ vs ++ cs.toList).toArray = fs ++ vs.toArray ++ cs := fun vs => by simp
            rw [ea] at hcl
            refine opW_mono ?_ (opW_enter (K := fun u w' => sh.ex fun v => u = v ∧ K v w') nd ?_ hcl)
            · rintro a' w' ⟨u, rfl, hk⟩
              exact ⟨u, rfl, ex_eq hk⟩
            · simp only [execOp, hx, resolve, hf, Deferred.ofValue, Sem.run_bind, Sem.run_pure, Result.andThen_ok, invoke, hm, callFunc_enter he]
          · rename_i l fs cs hf
            obtain ⟨rfl, fn, tmps, assign, body, hy, hR⟩ := h1
            unfold opW
            rw [Oper.semAt_eq _ _ _ nd]
            have : (execOp a.eval o).run P w = .ok (.round l fn tmps assign body) w := by
              simp only [execOp, hx, resolve, hf, Deferred.ofValue, Sem.run_bind, Sem.run_pure, Result.andThen_ok, invoke, hm, Array.empty_append, hy]
            rw [this]
            refine ⟨fun h => by simp [Fn] at h, roundIn_round (RoundIn.mono hR fun e w' => ?_)⟩
            rintro ⟨v, rfl, hk⟩
            exact ⟨v, rfl, ex_eq hk⟩
          · exact h1.elim
        · exact h.elim
    · exact h.elim
  · exact h.elim
end
end Go.Bty
