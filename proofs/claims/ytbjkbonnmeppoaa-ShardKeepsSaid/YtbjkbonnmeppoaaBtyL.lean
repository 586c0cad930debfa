/- 'vt' holds what it says: whatever order is picked. -/
import Derived.Test.YtbjkbonnmeppoaaBtyK
namespace Go.Bty
open Go

section
variable {r : Option Nat} {P : Program} {N : Nat} {ds : List Nat} {ops : Array Oper} {an : Nat → List Nat}

/-- What is read may be asked for once more. -/
theorem S1.ex_split {s : S1} {A : Value → Prop} {K : Value → Prop} (h : s.ex fun v => A v ∧ K v) : ∃ v, K v ∧ s.ex fun u => A u ∧ u = v := by
  cases s <;> simp only [S1.ex] at h ⊢
  case slice => obtain ⟨a, n, c, h1, h2⟩ := h; exact ⟨_, h2, a, n, c, h1, rfl⟩
  all_goals (obtain ⟨v, h1, h2⟩ := h; exact ⟨_, h2, v, h1, rfl⟩)
theorem S1.ex_split' {s : S1} {A : Value → Prop} {K : Value → Prop} {f : Value → Value} (h : s.ex fun v => A v ∧ K (f v)) : ∃ v, K v ∧ s.ex fun u => A u ∧ f u = v := by
  cases s <;> simp only [S1.ex] at h ⊢
  case slice => obtain ⟨a, n, c, h1, h2⟩ := h; exact ⟨_, h2, a, n, c, h1, rfl⟩
  all_goals (obtain ⟨v, h1, h2⟩ := h; exact ⟨_, h2, v, h1, rfl⟩)
theorem S1.ex_mono {s : S1} {K K' : Value → Prop} (hk : ∀ v, K v → K' v) (h : s.ex K) : s.ex K' := by
  cases s <;> simp only [S1.ex] at h ⊢
  case slice => obtain ⟨a, n, c, h⟩ := h; exact ⟨a, n, c, hk _ h⟩
  all_goals (obtain ⟨v, h⟩ := h; exact ⟨v, hk _ h⟩)
theorem exs_split : ∀ {ss : List S1} {A K : List Value → Prop}, (exs ss fun vs => A vs ∧ K vs) → ∃ vs, K vs ∧ exs ss fun us => A us ∧ us = vs
  | [], _, _, h => ⟨[], h.2, h.1, rfl⟩
  | s :: ss, A, K, h => by
    have : ∃ v vs, K (v :: vs) ∧ s.ex fun u => exs ss fun us => A (u :: us) ∧ u :: us = v :: vs := by
      cases s <;> simp only [exs, S1.ex] at h ⊢
      case slice =>
        obtain ⟨a, n, c, h⟩ := h
        obtain ⟨vs, hk, h⟩ := exs_split h
        exact ⟨_, vs, hk, a, n, c, exs_mono (fun us hu => ⟨hu.1, by rw [hu.2]⟩) h⟩
      all_goals
        obtain ⟨v, h⟩ := h
        obtain ⟨vs, hk, h⟩ := exs_split h
        exact ⟨_, vs, hk, v, exs_mono (fun us hu => ⟨hu.1, by rw [hu.2]⟩) h⟩
    obtain ⟨v, vs, hk, h⟩ := this
    exact ⟨v :: vs, hk, h⟩
  where exs_mono : ∀ {ss : List S1} {K K' : List Value → Prop}, (∀ vs, K vs → K' vs) → exs ss K → exs ss K'
  | [], _, _, hk, h => hk _ h
  | _ :: _, _, _, hk, h => S1.ex_mono (fun _ h => exs_mono (fun _ h => hk _ h) h) h

theorem vload_split {t : TypeId} {p : Addr} {w : World} {K : Value → Prop} (h : vload P t p w K) : ∃ v, K v ∧ vload P t p w fun u => u = v := by
  unfold vload at h ⊢
  split at h
  · exact S1.ex_split h
  · rename_i ss _
    obtain ⟨vs, hk, h⟩ := exs_split (ss := ss) (A := fun vs => SpanAt w p vs) (K := fun vs => K (.agg vs.toArray)) h
    exact ⟨_, hk, exs_split.exs_mono (fun us hu => ⟨hu.1, by rw [hu.2]⟩) h⟩
  · exact h.elim

theorem vx_split {ρ : Env} {x : Operand} {K : Value → Prop} (h : vx ρ x K) : ∃ v, ev ρ x = some v ∧ K v := by
  unfold vx at h
  split at h
  · rename_i v hv; exact ⟨v, hv, h⟩
  · exact h.elim
theorem vx_mk {ρ : Env} {x : Operand} {K : Value → Prop} {v : Value} (hv : ev ρ x = some v) (h : K v) : vx ρ x K := by
  unfold vx; rw [hv]; exact h

theorem vr_split {ρ : Env} {o : Op} {w : World} {K : Value → Prop} (h : vr P ρ o w K) : ∃ v, K v ∧ vr P ρ o w fun u => u = v := by
  unfold vr at h ⊢
  split at h
  · obtain ⟨v, hv, h⟩ := vx_split h
    split at h
    · rename_i q0
      obtain ⟨p, rfl⟩ : ∃ p, q0 = some p := (onSome_spec h).imp fun _ h => h.1
      rw [onSome_some] at h
      obtain ⟨u, hk, h⟩ := vload_split h
      exact ⟨u, hk, vx_mk hv h⟩
    · exact h.elim
  · split at h
    · split at h
      · split at h
        · split at h
          · obtain ⟨m, hm, h⟩ := vx_split h
            obtain ⟨k, hkey, h⟩ := vx_split h
            split at h
            · rename_i kk _ _ _ _ _ _ _ _ q0 _
              obtain ⟨p, rfl⟩ : ∃ p, q0 = some p := (onSome_spec h).imp fun _ h => h.1
              rw [onSome_some] at h
              cases hf : kFits _ k with
              | false => rw [hf] at h; exact h.elim
              | true =>
                rw [hf] at h
                obtain ⟨es, c, h1, h2, h3⟩ := h
                obtain ⟨u, hu, h3⟩ := S1.ex_split' (f := fun v => vok _ v _) h3
                refine ⟨u, hu, vx_mk hm (vx_mk hkey ?_)⟩
                simp only [hf, cond_true]
                exact ⟨es, c, h1, h2, h3⟩
            · exact h.elim
          · exact h.elim
        · exact h.elim
      · exact h.elim
    · exact h.elim
  · rename_i s d x
    cases hd : strT (P.underlying d) with
    | false => rw [hd] at h; exact h.elim
    | true =>
      rw [hd] at h
      simp only [cond_true] at h ⊢
      split at h
      · rename_i e _
        cases hu : u8T (P.underlying e) with
        | false => rw [hu] at h; exact h.elim
        | true =>
          rw [hu] at h
          simp only [cond_true] at h ⊢
          obtain ⟨v, hv, h⟩ := vx_split h
          split at h
          · obtain ⟨bs, h1, h2⟩ := h
            exact ⟨_, h2, vx_mk hv ⟨bs, h1, rfl⟩⟩
          · exact h.elim
      · exact h.elim
  · split at h
    · rename_i x t _ _ _
      cases hm : mapT (P.underlying t) with
      | false => rw [hm] at h; exact h.elim
      | true =>
        rw [hm] at h
        simp only [cond_true] at h ⊢
        obtain ⟨v, hv, h⟩ := vx_split h
        split at h
        · rename_i q0
          obtain ⟨p, rfl⟩ : ∃ p, q0 = some p := (onSome_spec h).imp fun _ h => h.1
          rw [onSome_some] at h
          obtain ⟨es, c, h1, h2⟩ := h
          exact ⟨_, h2, vx_mk hv ⟨es, c, h1, rfl⟩⟩
        · exact h.elim
    · exact h.elim
  · exact h.elim

def Pds.pend (S : Pds) : Pend := S.map fun p => (p.1, p.2.1)

structure PdsOk (r : Option Nat) (P : Program) (ops : Array Oper) (S : Pds) (listed : Array Bool) (a : Act) (w : World) : Prop where
  lst : ∀ p ∈ S, listed.getD p.1 false = true
  inv : ∀ p ∈ S, ∀ w', p.2.2 w' → RdAt r P ops p.1 p.2.1 a w'
  now : ∀ p ∈ S, p.2.2 w

theorem Pds.all_spec : ∀ {S : Pds} {w : World} {K : Prop}, Pds.all S w K → (∀ p ∈ S, p.2.2 w) ∧ K
  | [], _, _, h => ⟨(fun _ hp => by cases hp), h⟩
  | q :: S, w, K, h => by
    obtain ⟨h1, h2⟩ := Pds.all_spec (S := S) h.2
    exact ⟨fun p hp => by
      rcases List.mem_cons.1 hp with rfl | hp
      · exact h.1
      · exact h1 p hp, h2⟩

theorem mem_left {S : Pds} {j : Nat} {p : Nat × Value × (World → Prop)} : p ∈ Pds.left an S j ↔ p ∈ S ∧ p.1 ∉ an j := by
  unfold Pds.left
  rw [List.mem_filter]
  have : ((an j).any fun t => Nat.beq t p.1) = true ↔ p.1 ∈ an j := by
    simp only [List.any_eq_true]
    constructor
    · rintro ⟨x, hx, hb⟩; rw [← Nat.eq_of_beq_eq_true hb]; exact hx
    · intro hm; exact ⟨p.1, hm, by simp⟩
  constructor
  · rintro ⟨h1, h2⟩
    exact ⟨h1, fun hm => by rw [this.2 hm] at h2; cases h2⟩
  · rintro ⟨h1, h2⟩
    refine ⟨h1, ?_⟩
    cases hb : (an j).any fun t => Nat.beq t p.1 with
    | true => exact absurd (this.1 hb) h2
    | false => rfl

theorem pend_left {S : Pds} {j : Nat} : ∀ q ∈ Pend.left an S.pend j, ∃ p ∈ Pds.left an S j, q = (p.1, p.2.1) := fun q hq => by
  rw [Pend.left, List.mem_filter] at hq
  obtain ⟨p, hp, rfl⟩ := List.mem_map.1 hq.1
  exact ⟨p, mem_left.2 ⟨hp, by simpa using hq.2⟩, rfl⟩

theorem look_listed (hS : Sure ops an) {listed : Array Bool} (hc : Shut ops an listed) {i p : Nat} (hpi : p ∉ an i) {oi op : Oper} (hi : ops[i]? = some oi) (hp : ops[p]? = some op) (hun : listed.getD i false = false) (hl : listed.getD p false = true) :
    ∀ d, oi.dst = some d → d ∉ op.looksAt ops := fun d hd hm => by
  have hne : i ≠ p := fun e => by rw [e, hl] at hun; cases hun
  have h1 := ((hS.tmp i p oi op hi hp hne d hd).1 hm).resolve_right hpi
  have h2 := hc.2 p hl i h1
  rw [hun] at h2; cases h2

theorem vt_sound (hS : Sure ops an) {st : Nat → Bool} (hstr : ∀ i, st i = true → Strict ops an i) {K : Env → World → Prop} {a0 : Act} {ts : List Nat} (hts : ∀ o ∈ ops.toList, ∀ d, o.dst = some d → d ∈ ts) (t : RT) :
    ∀ (fuel : Nat) (listed : Array Bool) (acc : Option (List Nat)) (ρ : Env) (S : Pds) (a : Act) (w : World), RT.strict st t = true → RT.ok ops t fuel listed acc = true → Shut ops an listed → PdsOk r P ops S listed a w → Rel N ρ ds a → KeepsF ts a0 a →
      vt P N ops an t ρ S w K →
      match acc with
      | none => wpR r P ops an (RQ N ds ts a0 K) fuel S.pend listed a w
      | some l => ∀ j ∈ Region.ready .any ops listed, j ∈ l ∨ ∃ f, fuel = f + 1 ∧ opAt r P ops j (fun a' w' => (∀ p ∈ Pend.left an S.pend j, RdAt r P ops p.1 p.2 a' w') ∧ wpR r P ops an (RQ N ds ts a0 K) f (Pend.left an S.pend j) (listed.setIfInBounds j true) a' w') a w := by
  have hsel := Region.noSelect_spec hS.sel
  have hgd : ∀ {listed : Array Bool}, Shut ops an listed → ∀ {i : Nat} {o : Oper}, ops[i]? = some o → i ∈ Region.ready .any ops listed → listed.getD i false = false := fun hc i o ho hi => by
    rw [← getD_two (by rw [hc.1]; exact (Array.getElem?_eq_some_iff.1 ho).1)]; exact (mem_ready.1 hi).1
  induction t with
  | fin =>
    intro fuel listed acc ρ S a w hs hok hc hp hr hk h
    cases acc with
    | some l => cases hok
    | none =>
      have hnil : Region.ready .any ops listed = [] := by simpa [RT.ok] using hok
      have hq : RQ N ds ts a0 K .normal a w := ⟨rfl, ρ, hr, hk, h⟩
      cases fuel with
      | zero => exact ⟨hnil, hq⟩
      | succ f => exact ⟨fun _ => hq, (fun j hj => by rw [hnil] at hj; cases hj)⟩
  | no =>
    intro fuel listed acc ρ S a w hs hok hc hp hr hk h
    cases acc with
    | none => cases fuel <;> cases hok
    | some l =>
      intro j hj
      have : (Region.ready .any ops listed).all (fun j => l.contains j) = true := by cases fuel <;> exact hok
      exact .inl (by simpa using List.all_eq_true.1 this j hj)
  | sp d k ih =>
    intro fuel listed acc ρ S a w hs hok hc hp hr hk h
    cases acc with
    | some l => cases fuel <;> cases hok
    | none =>
      have hok' : RT.ok ops k fuel listed none = true := by cases fuel <;> exact hok
      simp only [vt] at h
      split at h
      · rename_i x hx
        cases x with
        | true => exact ih fuel listed none _ S a w hs hok' hc hp (hr.same hx) hk h
        | false => exact ih fuel listed none _ S a w hs hok' hc hp (hr.same hx) hk h
      · exact ih fuel listed none _ S a w hs hok' hc hp hr hk h
      · exact h.elim
  | rd i k ih =>
    intro fuel listed acc ρ S a w hs hok hc hp hr hk h
    simp only [RT.strict, Bool.and_eq_true] at hs
    cases acc with
    | some l => cases fuel <;> cases hok
    | none =>
      cases fuel with
      | zero => cases hok
      | succ f =>
        simp only [RT.ok, Bool.and_eq_true] at hok
        have hi : i ∈ Region.ready .any ops listed := by simpa using hok.1
        simp only [vt] at h
        split at h
        · exact h.elim
        · rename_i o ho'
          have ho : ops[i]? = some o := by simpa using ho'
          cases hd : dstB N o with
          | false => rw [hd] at h; exact h.elim
          | true =>
            rw [hd] at h
            have hdst := dstB_spec hd
            have hmem : ∀ d, o.dst = some d → d ∈ ts := fun d hd => hts o (by rw [← Array.mem_def]; exact Array.mem_of_getElem? ho) d hd
            have hun := hgd hc ho hi
            -- what was read before stays read
            have keepInv : ∀ v, PdsOk r P ops S (listed.setIfInBounds i true) (a.put o.dst v) w := fun v => ⟨fun p hps => getD_set_true (hp.lst p hps), fun p hps w' hw' => by
                have h1 := hp.inv p hps w' hw'
                obtain ⟨op, hop, _⟩ := id h1
                exact (RdAt.put hop (fun cs b => hsel p.1 op cs b hop) (fun d hd hm => by
                  have h2 := hc.2 p.1 (hp.lst p hps) i (hstr i hs.1 p.1 o op ho hop (fun e => by have h3 := hp.lst p hps; rw [← e, hun] at h3; cases h3) d hd hm)
                  rw [hun] at h2; cases h2)).2 h1, hp.now⟩
            have hSr : ∀ p ∈ S.pend, RdAt r P ops p.1 p.2 a w := fun q hq => by
              obtain ⟨p, hps, rfl⟩ := List.mem_map.1 hq
              exact hp.inv p hps w (hp.now p hps)
            have hSl : ∀ p ∈ S.pend, listed.getD p.1 false = true := fun q hq => by
              obtain ⟨p, hps, rfl⟩ := List.mem_map.1 hq
              exact hp.lst p hps
            have kput : ∀ v, KeepsF ts a0 (a.put o.dst v) := fun v => hk.put hmem
            rcases vg_sound hr h with ⟨hw, hrun⟩ | ⟨hw, hpass⟩
            · split at hrun
              · obtain ⟨v, hv, hall⟩ := vp_sound hr hrun
                have hrd : ∀ w, RdAt r P ops i v a w := fun w => ⟨o, ho, .inl ⟨hw, by rw [Oper.semAt_eq _ _ _ (cls_pure hrun)]; exact hall w⟩⟩
                exact wpR_take hS (hstr i hs.1) ho true f S.pend listed a w hc hSl hSr hi (hrd w) (fun _ => hrd) (ih f _ none _ S _ w hs.2 hok.2 (hc.set hS hi) (keepInv v) (hr.put hdst v) (kput v) hv)
              · obtain ⟨v, hv, hsame⟩ := vr_split hrun
                have hat : ∀ w', (vr P ρ o.op w' fun u => u = v) → RdAt r P ops i v a w' := fun w' hw' => by
                  obtain ⟨u, rfl, hu⟩ := vr_sound hr hw'
                  exact ⟨o, ho, .inl ⟨hw, by rw [Oper.semAt_eq _ _ _ (vr_nd hw')]; exact hu⟩⟩
                have hin : PdsOk r P ops ((i, v, fun w' => vr P ρ o.op w' fun u => u = v) :: S) (listed.setIfInBounds i true) (a.put o.dst v) w := by
                  refine ⟨fun p hps => ?_, fun p hps => ?_, fun p hps => ?_⟩
                  · rcases List.mem_cons.1 hps with rfl | hps
                    · have : i < listed.size := by rw [hc.1]; exact (Array.getElem?_eq_some_iff.1 ho).1
                      simp [this]
                    · exact (keepInv v).lst p hps
                  · rcases List.mem_cons.1 hps with rfl | hps
                    · intro w' hw'
                      exact (RdAt.put ho (fun cs b => hsel i o cs b ho) (fun d hd => hS.own i o d ho hd)).2 (hat w' hw')
                    · exact (keepInv v).inv p hps
                  · rcases List.mem_cons.1 hps with rfl | hps
                    · exact hsame
                    · exact hp.now p hps
                exact wpR_take hS (hstr i hs.1) ho false f S.pend listed a w hc hSl hSr hi (hat w hsame) (fun h => by cases h) (ih f _ none _ _ _ w hs.2 hok.2 (hc.set hS hi) hin (hr.put hdst v) (kput v) hv)
              · exact hrun.elim
            · have hrd : ∀ w, RdAt r P ops i undef a w := fun w => ⟨o, ho, .inr ⟨hw, rfl⟩⟩
              exact wpR_take hS (hstr i hs.1) ho true f S.pend listed a w hc hSl hSr hi (hrd w) (fun _ => hrd) (ih f _ none _ S _ w hs.2 hok.2 (hc.set hS hi) (keepInv undef) (hr.put hdst undef) (kput undef) hpass)
  | ef i k more ihk ihm =>
    intro fuel listed acc ρ S a w hs hok hc hp hr hk h
    simp only [RT.strict, Bool.and_eq_true] at hs
    cases fuel with
    | zero => cases acc <;> cases hok
    | succ f =>
      have hok' : (Region.ready .any ops listed).contains i = true ∧ RT.ok ops k f (listed.setIfInBounds i true) none = true ∧ RT.ok ops more (f + 1) listed (some (i :: acc.getD [])) = true := by
        cases acc <;> simp only [RT.ok, Bool.and_eq_true] at hok <;> exact ⟨hok.1.1, hok.1.2, hok.2⟩
      have hi : i ∈ Region.ready .any ops listed := by simpa using hok'.1
      simp only [vt] at h
      split at h
      · exact h.elim
      · rename_i o ho'
        have ho : ops[i]? = some o := by simpa using ho'
        cases hd : dstB N o with
        | false => rw [hd] at h; exact h.elim
        | true =>
          rw [hd] at h
          have hdst := dstB_spec hd
          have hmem : ∀ d, o.dst = some d → d ∈ ts := fun d hd => hts o (by rw [← Array.mem_def]; exact Array.mem_of_getElem? ho) d hd
          have hun := hgd hc ho hi
          have kput : ∀ v, KeepsF ts a0 (a.put o.dst v) := fun v => hk.put hmem
          have hboth : vg ops ρ o (vo P ρ o w fun v w' => Pds.all (Pds.left an S i) w' (vt P N ops an k (ρ.put o.dst v) (Pds.left an S i) w' K)) (Pds.all (Pds.left an S i) w (vt P N ops an k (ρ.put o.dst undef) (Pds.left an S i) w K)) ∧ vt P N ops an more ρ S w K := by
            simp only [cond_true] at h
            split at h
            · exact ⟨h, trivial⟩
            · exact h
          have hmore := ihm (f + 1) listed (some (i :: acc.getD [])) ρ S a w hs.2 hok'.2.2 hc hp hr hk hboth.2
          have hleft : ∀ v w', (∀ p ∈ Pds.left an S i, p.2.2 w') → PdsOk r P ops (Pds.left an S i) (listed.setIfInBounds i true) (a.put o.dst v) w' := fun v w' hall =>
            ⟨fun p hps => getD_set_true (hp.lst p (mem_left.1 hps).1), fun p hps w'' hw'' => by
              have h1 := hp.inv p (mem_left.1 hps).1 w'' hw''
              obtain ⟨op, hop, _⟩ := id h1
              exact (RdAt.put hop (fun cs b => hsel p.1 op cs b hop) (look_listed hS hc (mem_left.1 hps).2 ho hop hun (hp.lst p (mem_left.1 hps).1))).2 h1, hall⟩
          have hend : ∀ v w', Pds.all (Pds.left an S i) w' (vt P N ops an k (ρ.put o.dst v) (Pds.left an S i) w' K) →
              (∀ p ∈ Pend.left an S.pend i, RdAt r P ops p.1 p.2 (a.put o.dst v) w') ∧ wpR r P ops an (RQ N ds ts a0 K) f (Pend.left an S.pend i) (listed.setIfInBounds i true) (a.put o.dst v) w' := fun v w' hall => by
            obtain ⟨h1, h2⟩ := Pds.all_spec hall
            have hpl := hleft v w' h1
            refine ⟨fun q hq => ?_, ?_⟩
            · obtain ⟨p, hps, rfl⟩ := pend_left q hq
              exact hpl.inv p hps w' (h1 p hps)
            · have := ihk f (listed.setIfInBounds i true) none _ (Pds.left an S i) (a.put o.dst v) w' hs.1 hok'.2.1 (hc.set hS hi) hpl (hr.put hdst v) (kput v) h2
              refine wpR_sub _ (fun q hq => ?_) this
              obtain ⟨p, hps, rfl⟩ := pend_left q hq
              exact List.mem_map.2 ⟨p, hps, rfl⟩
          have hthis : opAt r P ops i (fun a' w' => (∀ p ∈ Pend.left an S.pend i, RdAt r P ops p.1 p.2 a' w') ∧ wpR r P ops an (RQ N ds ts a0 K) f (Pend.left an S.pend i) (listed.setIfInBounds i true) a' w') a w := by
            unfold opAt
            simp only [ho]
            rcases vg_sound hr hboth.1 with ⟨hw, hrun⟩ | ⟨hw, hpass⟩
            · rw [if_pos hw]
              refine opW_mono ?_ (vo_sound hr hrun)
              rintro a' w' ⟨v, rfl, hv⟩
              exact hend v w' hv
            · rw [hw]
              exact hend undef w hpass
          have hall : ∀ j ∈ Region.ready .any ops listed, j ∈ acc.getD [] ∨ opAt r P ops j (fun a' w' => (∀ p ∈ Pend.left an S.pend j, RdAt r P ops p.1 p.2 a' w') ∧ wpR r P ops an (RQ N ds ts a0 K) f (Pend.left an S.pend j) (listed.setIfInBounds j true) a' w') a w := fun j hj => by
            rcases hmore j hj with hm | ⟨f', hf', ho⟩
            · rcases List.mem_cons.1 hm with rfl | hm
              · exact .inr hthis
              · exact .inl hm
            · cases hf'
              exact .inr ho
          cases acc with
          | none =>
            refine ⟨(fun h0 => by rw [h0] at hi; cases hi), fun j hj => ?_⟩
            rcases hall j hj with hm | ho
            · cases hm
            · exact ho
          | some l => exact fun j hj => (hall j hj).imp id fun ho => ⟨f, rfl, ho⟩
end
end Go.Bty
