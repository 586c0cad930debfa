/- 'vr' and 've' hold what they say. -/
import Derived.Test.YtbjkbonnmeppoaaBtyG
namespace Go.Bty
open Go

section
variable {P : Program} {N : Nat} {ρ : Env} {ds : List Nat} {a : Act}

theorem shOf_one {t : TypeId} {s : S1} (h : shOf P t = some (.one s)) : aggB P t = some false := by
  unfold shOf at h
  split at h
  · cases h
  · rename_i agg hagg
    split at h
    · cases h
    · split at h
      · cases h
      · split at h
        · cases hb : Nat.beq _ _ <;> rw [hb] at h <;> cases h
        · cases h
        · cases h
        · exact hagg
theorem shOf_agg {t : TypeId} {ss : List S1} (h : shOf P t = some (.agg ss)) : aggB P t = some true ∧ szOf P t = some ss.length := by
  unfold shOf at h
  split at h
  · cases h
  · rename_i agg hagg
    split at h
    · cases h
    · rename_i i hi
      split at h
      · cases h
      · split at h
        · rename_i cs hz
          cases hb : Nat.beq cs.size i.size with
          | false => rw [hb] at h; cases h
          | true =>
            rw [hb] at h
            cases h
            refine ⟨hagg, ?_⟩
            simp [szOf, hi, Nat.eq_of_beq_eq_true hb]
        · cases h
        · cases h
        · cases hb : Nat.beq i.size 1 <;> rw [hb] at h <;> cases h

theorem vload_sound {t : TypeId} {p : Addr} {w : World} {K : Value → Prop} (h : vload P t p w K) : ∃ v, K v ∧ (loadVar t p).run P w = .ok v w := by
  unfold vload at h
  split at h
  · rename_i s hs
    obtain ⟨v, hv, hk⟩ := S1.ex_imp h
    refine ⟨v, hk, ?_⟩
    simp only [loadVar, Sem.run_bind, run_isAgg (shOf_one hs), Result.andThen_ok, Bool.false_eq_true, if_false, run_load, hv]
  · rename_i ss hs
    obtain ⟨vs, hl, hv, hk⟩ := exs_imp h
    obtain ⟨h1, h2⟩ := shOf_agg hs
    refine ⟨_, hk, ?_⟩
    simp only [loadVar, Sem.run_bind, run_isAgg h1, Result.andThen_ok, if_true, run_sizeOf h2, ← hl, run_loadCells_list w p vs hv, Sem.run_pure]
  · exact h.elim

theorem mapOf_spec {d : Option TypeDesc} {k e : TypeId} (h : mapOf d = some (k, e)) : d = some (.map k e) := by
  unfold mapOf at h
  split at h
  · cases h; rfl
  · cases h
theorem strT_spec {d : Option TypeDesc} (h : strT d = true) : d = some .string := by
  unfold strT at h; split at h
  · rfl
  · cases h
theorem sliceT_spec {d : Option TypeDesc} (h : sliceT d = true) : ∃ e, d = some (.slice e) := by
  unfold sliceT at h; split at h
  · exact ⟨_, rfl⟩
  · cases h
theorem mapT_spec {d : Option TypeDesc} (h : mapT d = true) : ∃ k e, d = some (.map k e) := by
  unfold mapT at h; split at h
  · exact ⟨_, _, rfl⟩
  · cases h
theorem u8T_spec {d : Option TypeDesc} (h : u8T d = true) : d = some (.int .u8) := by
  unfold u8T at h; split at h
  · rfl
  · cases h
theorem run_getObj_map {r c : Nat} {es : Array MapEntry} {w : World} (h : w.heap[r]? = some (.map es c)) : (getObj r).run P w = .ok (.map es c) w := by simp [getObj, Sem.run, h]

theorem bytesFold (f : Value → ByteArray → Sem (ForInStep ByteArray)) (hf : ∀ (b : Int) (s : ByteArray), f (.int .u8 b) s = pure (.yield (s.push (UInt8.ofNat b.toNat)))) (w : World) :
    ∀ (bs : List UInt8) (acc : ByteArray), (forIn (bytesV bs) acc f).run P w = .ok (⟨acc.data ++ bs.toArray⟩ : ByteArray) w
  | [], acc => by simp [bytesV]
  | b :: bs, acc => by
    have ih := bytesFold f hf w bs (acc.push b)
    simp only [bytesV, List.map_cons, List.forIn_cons, Sem.run_bind, hf, Sem.run_pure, Result.andThen_ok, Int.toNat_natCast, UInt8.ofNat_toNat] at ih ⊢
    rw [ih]
    congr 2
    simp [ByteArray.push]

theorem vr_sound (hr : Rel N ρ ds a) {o : Oper} {w : World} {K : Value → Prop} (h : vr P ρ o.op w K) : ∃ v, K v ∧ (execOp a.eval o).run P w = .ok (.value v) w := by
  unfold vr at h
  split at h
  · rename_i t x hx
    have h1 := hr.vx h
    split at h1
    · rename_i q0 hp
      obtain ⟨p, rfl⟩ : ∃ p, q0 = some p := (onSome_spec h1).imp fun _ h => h.1
      rw [onSome_some] at h1
      obtain ⟨v, hk, hl⟩ := vload_sound h1
      exact ⟨v, hk, by simp only [execOp, hx, Instr.loadAt, hp, Instr.sureAddr, Sem.run_bind, Sem.run_pure, Result.andThen_ok, hl]⟩
    · exact h1.elim
  · rename_i t x ix ok hx
    split at h
    · rename_i kt e hm
      have hm := mapOf_spec hm
      split at h
      · rename_i kk hkk
        split at h
        · rename_i z hz
          split at h
          · rename_i s hs
            have h1 := hr.vx (hr.vx h)
            split at h1
            · rename_i q0 hp
              obtain ⟨r, rfl⟩ : ∃ p, q0 = some p := (onSome_spec h1).imp fun _ h => h.1
              rw [onSome_some] at h1
              cases hf : kFits kk (a.eval ix) with
              | false => rw [hf] at h1; exact h1.elim
              | true =>
                rw [hf] at h1
                obtain ⟨es, c, hh, hks, h2⟩ := h1
                obtain ⟨v, hv, hk⟩ := S1.ex_imp h2
                refine ⟨_, hk, ?_⟩
                simp only [execOp, hx, Instr.lookup, Sem.run_bind, run_underlying hm, Result.andThen_ok, hp, run_getObj_map hh, Sem.run_pure, checkKey_run hkk hf, findKey_run hkk hf hks]
                simp only [mget] at hv ⊢
                cases hq : mfind (a.eval ix) es.toList 0 with
                | none =>
                  rw [hq] at hv
                  simp only [Option.map_none, Option.getD_none] at hv
                  subst hv
                  simp only [Sem.run_bind, run_zero hz, Result.andThen_ok, Sem.run_pure]
                  cases ok <;> rfl
                | some q =>
                  obtain ⟨i, u⟩ := q
                  rw [hq] at hv
                  simp only [Option.map_some, Option.getD_some] at hv
                  subst hv
                  cases ok <;> rfl
            · exact h1.elim
          · exact h.elim
        · exact h.elim
      · exact h.elim
    · exact h.elim
  · rename_i s d x hx
    cases hd : strT (P.underlying d) with
    | false => rw [hd] at h; exact h.elim
    | true =>
      rw [hd] at h
      have hd := strT_spec hd
      simp only [cond_true] at h
      split at h
      · rename_i e hs
        cases hu : u8T (P.underlying e) with
        | false => rw [hu] at h; exact h.elim
        | true =>
          rw [hu] at h
          have hu := u8T_spec hu
          have h1 := hr.vx h
          split at h1
          · rename_i b n c hp
            obtain ⟨bs, hb, hk⟩ := h1
            refine ⟨_, hk, ?_⟩
            simp only [execOp, hx, convert, Sem.run_bind, run_underlying hs, run_underlying hd, Result.andThen_ok, hp, run_underlying hu, Conv.bytesToString]
            unfold BytesAt at hb
            split at hb
            · subst hb; rfl
            · rename_i p
              obtain ⟨hl, hsp⟩ := hb
              have hll : (bytesV bs).length = n := by simp [bytesV, hl]
              have e1 := run_loadCells_list (P := P) w p (bytesV bs) hsp
              rw [hll] at e1
              simp only [Sem.run_bind, e1, Result.andThen_ok, List.forIn_toArray]
              rw [bytesFold (P := P) _ (fun _ _ => rfl) w bs ByteArray.empty]
              have he : (ByteArray.empty).data = #[] := rfl
              simp only [Result.andThen_ok, Sem.run_pure, he, Array.empty_append]
          · exact h1.elim
      · exact h.elim
  · rename_i args ats hx
    split at h
    · rename_i x t ts hargs hats
      cases hm : mapT (P.underlying t) with
      | false => rw [hm] at h; exact h.elim
      | true =>
        rw [hm] at h
        obtain ⟨k, e, hu⟩ := mapT_spec hm
        have h1 := hr.vx h
        have ea : args[0]? = some x := by rw [← Array.getElem?_toList, hargs]; rfl
        have et : ats[0]? = some t := by rw [← Array.getElem?_toList, hats]; rfl
        have ev : (args.map a.eval)[0]? = some (a.eval x) := by rw [Array.getElem?_map, ea]; rfl
        split at h1
        · rename_i q0 hp
          obtain ⟨r, rfl⟩ : ∃ p, q0 = some p := (onSome_spec h1).imp fun _ h => h.1
          rw [onSome_some] at h1
          obtain ⟨es, c, hh, hk⟩ := h1
          refine ⟨_, hk, ?_⟩
          simp only [execOp, hx, resolve, Sem.run_bind, Sem.run_pure, Result.andThen_ok, invoke, builtin, Builtin.len_, et, ev, hp, run_underlying hu, run_getObj_map hh]
          rfl
        · exact h1.elim
    · exact h.elim
  · exact h.elim
end
end Go.Bty
