/- 'vp' holds what it says. -/
import Derived.Test.YtbjkbonnmeppoaaBtyD
namespace Go.Bty
open Go

def AllN (P : Program) (s : Sem Next) (K : Value → Prop) : Prop := ∃ v, K v ∧ ∀ w, s.run P w = .ok (.value v) w
theorem AllN.mk {P : Program} {s : Sem Next} {K : Value → Prop} {v : Value} (h : K v) (hs : ∀ w, s.run P w = .ok (.value v) w) : AllN P s K := ⟨v, h, hs⟩
theorem AllN.of {P : Program} {s : Sem Value} {K : Value → Prop} (h : AllW P s K) : AllN P (do pure (Next.value (← s))) K :=
  let ⟨v, hv, hs⟩ := h
  ⟨v, hv, fun w => by simp only [Sem.run_bind, hs, Result.andThen_ok, Sem.run_pure]⟩

theorem isI_spec {K : IntKind → Int → Prop} {v : Value} (h : isI K v) : ∃ k n, v = .int k n ∧ K k n := by
  cases v <;> simp only [isI] at h
  exact ⟨_, _, rfl, h⟩

section
variable {P : Program} {N : Nat} {ρ : Env} {ds : List Nat} {a : Act}

theorem run_sizeOf {t : TypeId} {n : Nat} (h : szOf P t = some n) (w : World) : (sizeOf t).run P w = .ok n w := by
  unfold szOf at h
  cases hi : P.info? t with
  | none => rw [hi] at h; cases h
  | some i => rw [hi] at h; cases h; simp [sizeOf, typeInfo, hi]
theorem run_typeInfo {t : TypeId} {i : TypeInfo} (h : P.info? t = some i) (w : World) : (typeInfo t).run P w = .ok i w := by simp [typeInfo, h]
theorem run_zero {t : TypeId} {z : Value} (h : zeroOf P t = some z) (w : World) : (zeroValue t).run P w = .ok z w := by
  unfold zeroOf at h
  cases hi : P.info? t with
  | none => rw [hi] at h; cases h
  | some i => rw [hi] at h; simp only [Option.bind_some] at h; simp [zeroValue, typeInfo, hi, h]
theorem run_isAgg {t : TypeId} {g : Bool} (h : aggB P t = some g) (w : World) : (isAgg t).run P w = .ok g w := by
  cases hu : P.underlying t with
  | none => simp [aggB, hu] at h
  | some d =>
    simp only [aggB, hu] at h
    simp only [isAgg, Sem.run_bind, run_underlying hu, Result.andThen_ok]
    cases d <;> (cases h; rfl)

theorem fieldOf_spec {s : TypeId} {i off n : Nat} {g : Bool} (h : fieldOf P s i = some (off, n, g)) :
    ∃ fs f, P.underlying s = some (.struct fs) ∧ fs[i]? = some f ∧ f.offset = off ∧ szOf P f.type = some n ∧ aggB P f.type = some g := by
  unfold fieldOf at h
  split at h
  · rename_i fs hu
    split at h
    · rename_i f hf
      split at h
      · rename_i m hm
        split at h
        · rename_i g' hg
          cases h
          exact ⟨fs, f, hu, hf, rfl, hm, hg⟩
        · cases h
      · cases h
    · cases h
  · cases h

theorem bound_sound {x : Option Operand} {dflt bound : Nat} {K : Nat → Prop} (hr : Rel N ρ ds a) (code : BoundsCode) (h : vbd ρ x dflt bound K) :
    ∃ n, K n ∧ ∀ w, (match x.map a.eval with | some v => Instr.sliceBound v bound code | none => pure dflt : Sem Nat).run P w = .ok n w := by
  unfold vbd at h
  cases x with
  | none => exact ⟨dflt, h, fun _ => rfl⟩
  | some x =>
    obtain ⟨k, n, hv, h0, h1, hk⟩ := isI_spec (hr.vx h)
    refine ⟨n.toNat, hk, fun w => ?_⟩
    simp only [Option.map_some, hv, Instr.sliceBound, asIntOf, Sem.run_bind, Sem.run_pure, Result.andThen_ok, h0, h1, and_self, if_true]

theorem vcv_sound {s d : TypeId} {x : Operand} {K : Value → Prop} (hr : Rel N ρ ds a) (h : vcv ρ (P.underlying s) (P.underlying d) x K) : AllW P (convert s d (a.eval x)) K := by
  unfold vcv at h
  split at h
  · rename_i k hd
    split at h
    · rename_i t hs
      obtain ⟨k', n, hv, hk⟩ := isI_spec (hr.vx h)
      refine .mk hk fun w => ?_
      rw [hv]
      simp only [convert, Sem.run_bind, run_underlying hs, run_underlying hd, Result.andThen_ok]
      rfl
    · exact h.elim
  · rename_i hd
    cases hs : strT (P.underlying s) with
    | false => rw [hs] at h; exact h.elim
    | true =>
      rw [hs] at h
      have h := hr.vx h
      cases hu : P.underlying s with
      | none => rw [hu] at hs; cases hs
      | some t =>
        rw [hu] at hs
        cases t <;> simp only [strT, Bool.false_eq_true] at hs
        split at h
        · rename_i u hv
          refine .mk h fun w => ?_
          rw [hv]
          simp only [convert, Sem.run_bind, run_underlying hu, run_underlying hd, Result.andThen_ok]
          rfl
        · exact h.elim
  · exact h.elim

theorem structFields_run : ∀ (fs : List Field) {l : List (Nat × Nat)}, structFields P fs = some l → ∀ w, (fs.mapM (fun f => do pure (f.offset, ← sizeOf f.type) : Field → Sem (Nat × Nat))).run P w = .ok l w
  | [], l, h, w => by cases h; rfl
  | f :: fs, l, h, w => by
    simp only [structFields] at h
    split at h
    · rename_i n hn
      split at h
      · rename_i l' hl
        cases h
        simp only [List.mapM_cons, Sem.run_bind, run_sizeOf hn, Result.andThen_ok, Sem.run_pure, structFields_run fs hl]
      · cases h
    · cases h

theorem map_evp (ps : Array (Nat × Operand)) {qs : List (Nat × Value)} (hr : Rel N ρ ds a) (h : evp ρ ps.toList = some qs) : (ps.map fun (i, x) => (i, a.eval x)).toList = qs := by
  rw [Array.toList_map]; exact hr.evp h

theorem evs_map (hr : Rel N ρ ds a) {xs : Array Operand} {vs : List Value} (h : evs ρ xs.toList = some vs) : xs.map a.eval = vs.toArray := by
  apply Array.ext'
  rw [Array.toList_map]; exact hr.evs h

theorem part_run {t : TypeId} {cs : Array Value} {off : Nat} {v : Value} (ha : aggB P t = some false) (hv : cs[off]? = some v) (w : World) : (part t cs off).run P w = .ok v w := by
  simp only [part, Sem.run_bind, run_isAgg ha, Result.andThen_ok, Bool.false_eq_true, if_false, hv, Sem.run_pure]

theorem one1_spec {e : TypeId} (h : one1 P e = true) : szOf P e = some 1 ∧ aggB P e = some false := by
  unfold one1 at h
  split at h
  · rename_i n g hn hg
    simp only [Bool.and_eq_true, Bool.not_eq_true'] at h
    exact ⟨by rw [hn, Nat.eq_of_beq_eq_true h.1], by rw [hg, h.2]⟩
  · cases h

theorem vp_sound (hr : Rel N ρ ds a) {o : Oper} {K : Value → Prop} (h : vp P ρ o.op K) : AllN P (execOp a.eval o) K := by
  unfold vp at h
  split at h
  case h_1 x hx => exact .mk (hr.vx h) fun w => by simp [execOp, hx]
  case h_2 x hx => exact .mk (hr.vx h) fun w => by simp [execOp, hx]
  case h_3 c x y hx =>
    have h1 := hr.vx (hr.vx (hr.vx h))
    split at h1
    · rename_i b hc
      refine .mk h1 fun w => ?_
      simp only [execOp, hx, hc, asBool, Sem.run_bind, Sem.run_pure, Result.andThen_ok]
      cases b <;> rfl
    · exact h1.elim
  case h_4 x hx =>
    have h1 := hr.vx h
    split at h1
    · rename_i p hp
      obtain ⟨q, rfl, hk⟩ := h1
      exact .mk hk fun w => by simp only [execOp, hx, hp, Sem.run_pure]
    · exact h1.elim
  case h_5 op t x y _ hx =>
    have h1 := bin_sound (x := x) (hr.vx (hr.vx h))
    simp only [execOp, hx]
    exact .of h1
  case h_6 op _ x hx =>
    have h1 := hr.vx h
    simp only [execOp, hx]
    split at h1
    · rename_i k n hv; exact .of (.mk h1 fun w => by rw [hv]; rfl)
    · rename_i b hv; exact .of (.mk h1 fun w => by rw [hv]; rfl)
    · exact h1.elim
  case h_7 s d x hx =>
    simp only [execOp, hx]
    exact .of (vcv_sound hr h)
  case h_8 s x i hx =>
    simp only [execOp, hx]
    split at h
    · rename_i off n g hf
      obtain ⟨fs, f, hu, hi, rfl, hn, hg⟩ := fieldOf_spec hf
      cases hb : Nat.ble 1 n with
      | false => rw [hb] at h; exact h.elim
      | true =>
        rw [hb] at h
        have hn1 : n ≠ 0 := by have := Nat.le_of_ble_eq_true hb; omega
        have h1 := hr.vx h
        split at h1
        · rename_i q0 hp
          obtain ⟨p, rfl⟩ : ∃ p, q0 = some p := (onSome_spec h1).imp fun _ h => h.1
          rw [onSome_some] at h1
          refine .of (.mk h1 fun w => ?_)
          simp only [Instr.fieldAt, Sem.run_bind, run_underlying hu, Result.andThen_ok, hi, hp, Instr.sureAddr, Sem.run_pure, fieldPlace, run_sizeOf hn, hn1, if_false, Sem.run_ite]
        · exact h1.elim
    · exact h.elim
  case h_9 s x i hx =>
    simp only [execOp, hx]
    split at h
    · rename_i off n g hf
      obtain ⟨fs, f, hu, hi, rfl, hn, hg⟩ := fieldOf_spec hf
      have h1 := hr.vx h
      split at h1
      · rename_i cs hp
        cases g with
        | true =>
          refine .of (.mk h1 fun w => ?_)
          simp only [Instr.field, Sem.run_bind, run_underlying hu, Result.andThen_ok, hi, hp, asAgg, Sem.run_pure, part, run_isAgg hg, if_true, run_sizeOf hn]
          congr 3
          apply Array.ext'
          simp [Array.toList_extract, List.extract_eq_take_drop]
        | false =>
          simp only [cond_false] at h1
          split at h1
          · rename_i u hu'
            refine .of (.mk h1 fun w => ?_)
            have hu'' : cs[f.offset]? = some u := by simpa using hu'
            simp only [Instr.field, Sem.run_bind, run_underlying hu, Result.andThen_ok, hi, hp, asAgg, Sem.run_pure, part, run_isAgg hg, if_false, Bool.false_eq_true, hu'']
          · exact h1.elim
      · exact h1.elim
    · exact h.elim
  case h_10 t x ix hx =>
    simp only [execOp, hx]
    split at h
    · rename_i len e hu
      split at h
      · rename_i sz hsz
        have h1 := hr.vx (hr.vx h)
        split at h1
        · rename_i q0 k i hp hj
          obtain ⟨p, rfl⟩ : ∃ p, q0 = some p := (onSome_spec h1).imp fun _ h => h.1
          rw [onSome_some] at h1
          refine .of (.mk h1.2.2 fun w => ?_)
          simp only [Instr.indexAt, hj, hp, asIntOf, Sem.run_bind, Sem.run_pure, Result.andThen_ok, run_underlying hu, Instr.sureAddr, Sem.run_ite]
          rw [if_pos (⟨h1.1, h1.2.1⟩ : 0 ≤ i ∧ i < (len : Int))]
          simp only [Result.andThen_ok, run_sizeOf hsz]
        · exact h1.elim
      · exact h.elim
    · rename_i e hu
      split at h
      · rename_i sz hsz
        have h1 := hr.vx (hr.vx h)
        split at h1
        · rename_i b n c k i hp hj
          obtain ⟨p, rfl, h0, hn, hk⟩ := h1
          refine .of (.mk hk fun w => ?_)
          simp only [Instr.indexAt, hj, hp, asIntOf, Sem.run_bind, Sem.run_pure, Result.andThen_ok, run_underlying hu, Sem.run_ite]
          rw [if_pos (⟨h0, hn⟩ : 0 ≤ i ∧ i < (n : Int))]
          simp only [Result.andThen_ok, run_sizeOf hsz]
        · exact h1.elim
      · exact h.elim
    · exact h.elim
  case h_11 t x ix hx =>
    simp only [execOp, hx]
    cases hs : strT (P.underlying t) with
    | false =>
      rw [hs] at h
      simp only [cond_false] at h
      split at h
      · rename_i len e hae
        have hu : P.underlying t = some (.array len e) := by
          unfold arrT at hae
          split at hae
          · rename_i hu; cases hae; exact hu
          · cases hae
        split at h
        · rename_i s hsh
          cases ho : one1 P e with
          | false => rw [ho] at h; exact h.elim
          | true =>
            rw [ho] at h
            obtain ⟨hsz, hag⟩ := one1_spec ho
            have h1 := hr.vx (hr.vx h)
            split at h1
            · rename_i cs k i hp hj
              obtain ⟨h0, hn, h2⟩ := h1
              obtain ⟨u, hu', hk⟩ := S1.ex_imp h2
              refine .of (.mk hk fun w => ?_)
              simp only [Instr.index, hj, hp, asIntOf, Sem.run_bind, Sem.run_pure, Result.andThen_ok, run_underlying hu, Sem.run_ite]
              rw [if_pos (⟨h0, hn⟩ : 0 ≤ i ∧ i < (len : Int))]
              simp only [Sem.run_bind, run_sizeOf hsz, Result.andThen_ok, Nat.mul_one]
              exact part_run hag (by simpa using hu') w
            · exact h1.elim
        · exact h.elim
      · exact h.elim
    | true =>
      rw [hs] at h
      cases hu : P.underlying t with
      | none => rw [hu] at hs; cases hs
      | some d =>
        rw [hu] at hs
        cases d <;> simp only [strT, Bool.false_eq_true] at hs
        have h1 := hr.vx (hr.vx h)
        split at h1
        · rename_i s k i hp hj
          obtain ⟨h0, b, hb, hk⟩ := h1
          refine .of (.mk hk fun w => ?_)
          simp only [Instr.index, hj, hp, asIntOf, Sem.run_bind, Sem.run_pure, Result.andThen_ok, run_underlying hu, h0, if_true, hb]
        · exact h1.elim
  case h_12 t x lo hi mx hx =>
    simp only [execOp, hx]
    split at h
    · rename_i hu
      split at h
      · have h1 := hr.vx h
        split at h1
        · rename_i s hp
          obtain ⟨hh, h2, e1⟩ := bound_sound (P := P) hr (code := .sliceAlen) h1
          obtain ⟨ll, h3, e2⟩ := bound_sound (P := P) hr (code := .sliceB) h2
          refine .of (.mk h3 fun w => ?_)
          have e1 := e1 w
          have e2 := e2 w
          simp only [Instr.sliceAt, Instr.slice, Sem.run_bind, run_underlying hu, Result.andThen_ok, hp, Option.map_none, Option.isSome_none, Bool.false_eq_true, if_false, Instr.sliceBounds, Sem.run_pure]
          cases hi <;> cases lo <;> simp only [Option.map_none, Option.map_some, Sem.run_pure, Result.ok.injEq, and_true] at e1 e2 ⊢ <;> simp [e1, e2]
        · exact h1.elim
      · exact h.elim
    · rename_i e hu
      split at h
      · rename_i sz hsz
        split at h
        · have h1 := hr.vx h
          split at h1
          · rename_i p n c hp
            obtain ⟨hh, h2, e1⟩ := bound_sound (P := P) hr (code := .sliceAcap) h1
            obtain ⟨ll, h3, e2⟩ := bound_sound (P := P) hr (code := .sliceB) h2
            refine .of (.mk h3 fun w => ?_)
            have e1 := e1 w
            have e2 := e2 w
            simp only [Instr.sliceAt, Instr.slice, Sem.run_bind, run_underlying hu, Result.andThen_ok, hp, Option.map_none, Instr.sliceBounds, Sem.run_pure]
            cases hi <;> cases lo <;> simp only [Option.map_none, Option.map_some, Sem.run_pure, Result.ok.injEq, and_true] at e1 e2 ⊢ <;> simp [e1, e2, run_sizeOf hsz, offA]
          · exact h1.elim
        · rename_i mx
          have h1 := hr.vx h
          split at h1
          · rename_i p n c hp
            obtain ⟨m, h1', e0⟩ := bound_sound (P := P) hr (code := .slice3Acap) h1
            obtain ⟨hh, h2, e1⟩ := bound_sound (P := P) hr (code := .slice3B) h1'
            obtain ⟨ll, h3, e2⟩ := bound_sound (P := P) hr (code := .slice3C) h2
            cases hi with
            | none => exact h3.elim
            | some hi =>
              refine .of (.mk h3 fun w => ?_)
              have e0 := e0 w
              have e1 := e1 w
              have e2 := e2 w
              simp only [Instr.sliceAt, Instr.slice, Sem.run_bind, run_underlying hu, Result.andThen_ok, hp, Instr.sliceBounds, Sem.run_pure]
              cases lo <;> simp only [Option.map_none, Option.map_some, Sem.run_pure, Result.ok.injEq, and_true] at e0 e1 e2 ⊢ <;> simp [e0, e1, e2, run_sizeOf hsz, offA]
          · exact h1.elim
      · exact h.elim
    · rename_i n e hu
      split at h
      · rename_i sz hsz
        split at h
        · have h1 := hr.vx h
          split at h1
          · rename_i q0 hp
            obtain ⟨p, rfl⟩ : ∃ p, q0 = some p := (onSome_spec h1).imp fun _ h => h.1
            rw [onSome_some] at h1
            obtain ⟨hh, h2, e1⟩ := bound_sound (P := P) hr (code := .sliceAlen) h1
            obtain ⟨ll, h3, e2⟩ := bound_sound (P := P) hr (code := .sliceB) h2
            refine .of (.mk h3 fun w => ?_)
            have e1 := e1 w
            have e2 := e2 w
            simp only [Instr.sliceAt, Sem.run_bind, run_underlying hu, Result.andThen_ok, hp, Option.map_none, Instr.sliceBounds, Sem.run_pure, Instr.sureAddr]
            cases hi <;> cases lo <;> simp only [Option.map_none, Option.map_some, Sem.run_pure, Result.ok.injEq, and_true] at e1 e2 ⊢ <;> simp [e1, e2, run_sizeOf hsz, offB]
          · exact h1.elim
        · exact h.elim
      · exact h.elim
    · exact h.elim
  case h_13 x i hx =>
    simp only [execOp, hx]
    have h1 := hr.vx h
    split at h1
    · rename_i vs hp
      split at h1
      · rename_i u hu
        have hu' : vs[i]? = some u := by simpa using hu
        exact .of (.mk h1 fun w => by simp only [Instr.extract, hp, hu', Sem.run_pure])
      · exact h1.elim
    · exact h1.elim
  case h_14 t x hx =>
    simp only [execOp, hx]
    split at h
    · exact h.elim
    · rename_i d hne hu
      refine .of (.mk (K := K) (v := .iface t (a.eval x)) (hr.vx h) fun w => ?_)
      simp only [Instr.makeInterface, Sem.run_bind, run_underlying hu, Result.andThen_ok]
      cases d <;> first | rfl | exact absurd rfl (hne _)
    · exact h.elim
  case h_15 fn fs cs hx =>
    simp only [execOp, hx]
    split at h
    · rename_i us hus
      split at h
      · rename_i vs hvs
        exact .of (.mk h fun w => by simp only [Instr.makeFunc, Sem.run_pure, evs_map hr hus, evs_map hr hvs])
      · exact h.elim
    · exact h.elim
  case h_16 t ps hx =>
    simp only [execOp, hx]
    split at h
    · rename_i z hz
      split at h
      · rename_i qs hqs
        have hq := map_evp ps hr hqs
        split at h
        · rename_i fs hu
          split at h
          · rename_i pl hpl
            split at h
            · rename_i cs hcs
              refine .of (.mk h fun w => ?_)
              simp only [Instr.build, Sem.run_bind, run_zero hz, run_underlying hu, Result.andThen_ok]
              have hm := structFields_run fs.toList hpl w
              have hm' : (fs.mapM (fun f => do pure (f.offset, ← sizeOf f.type) : Field → Sem (Nat × Nat))).run P w = .ok pl.toArray w := by
                rw [Array.mapM_eq_mapM_toList, Sem.run_map, hm]; rfl
              rw [hm']
              simp only [Result.andThen_ok, hq]
              have he : (fun i : Nat => pl.toArray[i]?) = fun i => pl[i]? := by funext i; simp
              rw [he, hcs]
              simp
            · exact h.elim
          · exact h.elim
        · rename_i n e hu
          split at h
          · rename_i sz hsz
            split at h
            · rename_i cs hcs
              refine .of (.mk h fun w => ?_)
              simp only [Instr.build, Sem.run_bind, run_zero hz, run_underlying hu, Result.andThen_ok, run_sizeOf hsz, hq, hcs]
              simp
            · exact h.elim
          · exact h.elim
        · exact h.elim
      · exact h.elim
    · exact h.elim
  case h_17 args ats hx =>
    split at h
    · rename_i x t ts hargs hats
      have ea : args[0]? = some x := by rw [← Array.getElem?_toList, hargs]; rfl
      have et : ats[0]? = some t := by rw [← Array.getElem?_toList, hats]; rfl
      have ev : (args.map a.eval)[0]? = some (a.eval x) := by rw [Array.getElem?_map, ea]; rfl
      obtain ⟨v, hv, hw⟩ : AllW P (Builtin.len_ ats o.type (args.map a.eval)) K := by
        split at h
        · rename_i hu
          have h1 := hr.vx h
          generalize a.eval x = v at ev h1
          cases v <;> simp only [vlenS] at h1
          exact .mk h1 fun w => by simp only [Builtin.len_, et, ev, Sem.run_bind, run_underlying hu, Result.andThen_ok]; rfl
        · rename_i hu
          have h1 := hr.vx h
          generalize a.eval x = v at ev h1
          cases v <;> simp only [vlenL] at h1
          exact .mk h1 fun w => by simp only [Builtin.len_, et, ev, Sem.run_bind, run_underlying hu, Result.andThen_ok]; rfl
        · exact h.elim
      refine ⟨v, hv, fun w => ?_⟩
      simp only [execOp, hx, resolve, Sem.run_bind, Sem.run_pure, Result.andThen_ok, invoke, builtin, hw]
    · exact h.elim
  case h_18 args ats hx =>
    split at h
    · rename_i x t ts hargs hats
      have ea : args[0]? = some x := by rw [← Array.getElem?_toList, hargs]; rfl
      have et : ats[0]? = some t := by rw [← Array.getElem?_toList, hats]; rfl
      have ev : (args.map a.eval)[0]? = some (a.eval x) := by rw [Array.getElem?_map, ea]; rfl
      obtain ⟨v, hv, hw⟩ : AllW P (Builtin.cap_ ats o.type (args.map a.eval)) K := by
        cases hs : sliceT (P.underlying t) with
        | false => rw [hs] at h; exact h.elim
        | true =>
          rw [hs] at h
          cases hu : P.underlying t with
          | none => rw [hu] at hs; cases hs
          | some d =>
            rw [hu] at hs
            cases d <;> simp only [sliceT, Bool.false_eq_true] at hs
            have h1 := hr.vx h
            generalize a.eval x = v at ev h1
            cases v <;> simp only [vcap] at h1
            exact .mk h1 fun w => by simp only [Builtin.cap_, et, ev, Sem.run_bind, run_underlying hu, Result.andThen_ok]; rfl
      refine ⟨v, hv, fun w => ?_⟩
      simp only [execOp, hx, resolve, Sem.run_bind, Sem.run_pure, Result.andThen_ok, invoke, builtin, hw]
    · exact h.elim
  case h_19 args ats hx =>
    split at h
    · rename_i x y hargs
      have h1 := hr.vx (hr.vx h)
      have ev : (args.map a.eval).toList = [a.eval x, a.eval y] := by rw [Array.toList_map, hargs]; rfl
      obtain ⟨v, hv, hw⟩ : AllW P (Builtin.max_ ats o.type (args.map a.eval)) K := by
        generalize a.eval x = u at ev h1
        generalize a.eval y = v at ev h1
        cases u <;> simp only [mx2] at h1
        cases v <;> simp only at h1
        exact .mk h1 fun w => by rw [Builtin.max_, ev]; rfl
      refine ⟨v, hv, fun w => ?_⟩
      simp only [execOp, hx, resolve, Sem.run_bind, Sem.run_pure, Result.andThen_ok, invoke, builtin, hw]
    · exact h.elim
  case h_20 args ats hx =>
    split at h
    · rename_i x y hargs
      have h1 := hr.vx (hr.vx h)
      have ev : (args.map a.eval).toList = [a.eval x, a.eval y] := by rw [Array.toList_map, hargs]; rfl
      obtain ⟨v, hv, hw⟩ : AllW P (Builtin.min_ ats o.type (args.map a.eval)) K := by
        generalize a.eval x = u at ev h1
        generalize a.eval y = v at ev h1
        cases u <;> simp only [mn2] at h1
        cases v <;> simp only at h1
        exact .mk h1 fun w => by rw [Builtin.min_, ev]; rfl
      refine ⟨v, hv, fun w => ?_⟩
      simp only [execOp, hx, resolve, Sem.run_bind, Sem.run_pure, Result.andThen_ok, invoke, builtin, hw]
    · exact h.elim
  case h_21 => exact h.elim
end
end Go.Bty
