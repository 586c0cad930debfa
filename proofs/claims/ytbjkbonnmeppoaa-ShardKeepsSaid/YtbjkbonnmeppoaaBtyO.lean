/- A function whose condition holds does what it says: the theorem. -/
import Derived.Test.YtbjkbonnmeppoaaBtyN
namespace Go.Bty
open Go

section
variable {P : Program} {N : Nat}

theorem region_any {an : Nat → List Nat} {r : Option Nat} {id : Nat} {ops : Array Oper} {Q : Exit → Act → World → Prop} {a : Act} {w : World} (hm : P.follows .mixedOrders = true) (h : wpR r P ops an Q ops.size [] (Array.replicate ops.size false) a w.drew) :
    (Code.region id ops true).wpIn (Fn r) 0 P Q a w := wpIn_region_any hm (wpR_any _ h)

theorem round_unit (l : Nat) : Fn (some l) = (Fn none).inRound l := rfl

/-- What is asked behind the function that is ranged over. -/
def rfEnd (l : Nat) (Q : CPost) (ρ : Env) (ds : List Nat) (w2 : World) : Prop :=
  ∃ lp2, w2.heap[l]? = some (.loop lp2) ∧ lp2.state ≠ .busy ∧ ∀ w3, w3 = w2.putObj l (.loop { lp2 with state := .exhausted }) →
    pendR lp2.pending (Q .normal ρ ds w3) (Q .ret ρ ds w3) (fun i => Q (.exit i) ρ ds w3)

theorem rf_sound {ps : Array Nat} {as bd : Code} {g : Operand} {gf : FuncId} {fs cs : Array Value} {Q : CPost} {ρ : Env} {ds ts : List Nat} {a0 a : Act} {w : World} {Y : Nat → World → Loop → List Value → (Value → World → Prop) → Prop} (hent : entersB P gf = true) (hg : a.eval g = .func (.func gf) fs cs) (hr : Rel N ρ ds a) (hk0 : KeepsF ts a0 a)
    (h1 : ∀ (lp : Loop) (D l : Nat) (w1 : World), D = w.heap.size → l = w.heap.size + 1 → w1 = (w.alloc (.deferred (some []))).alloc (.loop lp) →
      (lp.tmps = a.tmps ∧ lp.params = ps ∧ lp.assign = as ∧ lp.body = bd) → lp.state = .ready → lp.pending = none → (∀ (lp : Loop) (_ : LoopState) (_ : Option Code), (lp.tmps = a.tmps ∧ lp.params = ps ∧ lp.assign = as ∧ lp.body = bd) → (lp.tmps = a.tmps ∧ lp.params = ps ∧ lp.assign = as ∧ lp.body = bd)) →
      (∀ (W : World) (lp : Loop) (xs : List Value) (R : Value → World → Prop), (lp.tmps = a.tmps ∧ lp.params = ps ∧ lp.assign = as ∧ lp.body = bd) → W.heap[l]? = some (.loop lp) → lp.state = .ready → xs.length = ps.toList.length → Y l W lp xs R → Yl P l xs.toArray W R) →
      Cl P gf (fs.toList ++ [Value.func (.yield l) #[] #[]] ++ cs.toList).toArray w1 fun _ w2 => rfEnd l Q ρ (D :: ds) w2)
    (hY : ∀ (l : Nat) (W : World) (lp : Loop) (xs : List Value) (R : Value → World → Prop), (lp.tmps = a.tmps ∧ lp.params = ps ∧ lp.assign = as ∧ lp.body = bd) → W.heap[l]? = some (.loop lp) → lp.state = .ready → xs.length = ps.toList.length → Y l W lp xs R → Yl P l xs.toArray W R) :
    (Code.rangeFunc g ps as bd).wpIn (Fn none) 0 P (CQ N ts a0 Q) a w := by
  refine wpIn_rangeFunc fun fn _ => ?_
  have hcl := h1 { state := .ready, pending := none, fn := fn, tmps := a.tmps, params := ps, assign := as, body := bd, defers := w.heap.size } w.heap.size (w.heap.size + 1) _ rfl rfl rfl ⟨rfl, rfl, rfl, rfl⟩ rfl rfl (fun _ _ _ h => h) (hY (w.heap.size + 1))
  rw [show (fs.toList ++ [Value.func (.yield (w.heap.size + 1)) #[] #[]] ++ cs.toList).toArray = fs ++ #[.func (.yield (w.heap.size + 1)) #[] #[]] ++ cs by simp] at hcl
  have hres : (resolve a.eval (rangeCall g (w.heap.size + 1)) 0).run P ((w.alloc (.deferred (some []))).alloc (.loop { state := .ready, pending := none, fn := fn, tmps := a.tmps, params := ps, assign := as, body := bd, defers := w.heap.size })) =
      .ok { target := .fn (.func gf) cs, args := fs ++ #[.func (.yield (w.heap.size + 1)) #[] #[]] } ((w.alloc (.deferred (some []))).alloc (.loop { state := .ready, pending := none, fn := fn, tmps := a.tmps, params := ps, assign := as, body := bd, defers := w.heap.size })) := by
    simp only [resolve, hg, Deferred.ofValue, Sem.run_pure]
    simp [Act.eval]
  have hinv : (invoke (.fn (.func gf) cs) (fs ++ #[.func (.yield (w.heap.size + 1)) #[] #[]])).run P ((w.alloc (.deferred (some []))).alloc (.loop { state := .ready, pending := none, fn := fn, tmps := a.tmps, params := ps, assign := as, body := bd, defers := w.heap.size })) =
      .ok (.enter gf (fs ++ #[.func (.yield (w.heap.size + 1)) #[] #[]] ++ cs)) ((w.alloc (.deferred (some []))).alloc (.loop { state := .ready, pending := none, fn := fn, tmps := a.tmps, params := ps, assign := as, body := bd, defers := w.heap.size })) := by
    simp only [invoke, callFunc_enter hent]
  have hdep : (Fn none).depth.isSome = true → 1 ≤ 0 := fun h => by cases h
  refine ⟨_, _, _, _, _, gf, _, _, run_enterLoop_outer fn a.tmps ps as bd, hres, fun _ _ => trivial, hinv, hdep, CallsIn.mono hcl ?_⟩
  rintro e w2 ⟨v, rfl, lp2, hlp2, hbusy, hw3⟩
  refine ⟨lp2.pending, _, run_endLoop hlp2 hbusy, ?_⟩
  have h3 := hw3 _ rfl
  have hr3 : Rel N ρ (w.heap.size :: ds) { a with defers := [{ target := .collected w.heap.size, args := #[] }] ++ a.defers } := ⟨hr.size, hr.val, by simp [hr.defs]⟩
  cases hp : lp2.pending with
  | none => rw [hp] at h3; exact ⟨hk0, ρ, _, hr3, h3⟩
  | some c =>
    rw [hp] at h3
    cases c with
    | ret => exact wpIn_ret ⟨hk0, ρ, _, hr3, h3⟩
    | exit i => exact wpIn_exit ⟨hk0, ρ, _, hr3, h3⟩
    | _ => exact h3.elim

theorem vc_sound (hm : P.follows .mixedOrders = true) (c : Code) : ∀ (h : H) (r : Option Nat) (inR : Bool) (Q : CPost) (ρ : Env) (ds : List Nat) (a : Act) (w : World), (inR = false → r = none) → Rel N ρ ds a → vc P N inR c h Q ρ ds w →
    c.wpIn (Fn r) 0 P (CQ N (wrC c) a Q) a w := by
  induction c with
  | skip => intro h r inR Q ρ ds a w hri hr hv; exact wpIn_skip ⟨KeepsF.refl, ρ, ds, hr, by cases h <;> exact hv⟩
  | label l => intro h r inR Q ρ ds a w hri hr hv; exact wpIn_label ⟨KeepsF.refl, ρ, ds, hr, by cases h <;> exact hv⟩
  | ret => intro h r inR Q ρ ds a w hri hr hv; exact wpIn_ret ⟨KeepsF.refl, ρ, ds, hr, by cases h <;> exact hv⟩
  | exit i => intro h r inR Q ρ ds a w hri hr hv; exact wpIn_exit ⟨KeepsF.refl, ρ, ds, hr, by cases h <;> exact hv⟩
  | goto l => intro h r inR Q ρ ds a w hri hr hv; cases h <;> exact hv.elim
  | refuse s => intro h r inR Q ρ ds a w hri hr hv; cases h <;> exact hv.elim
  | region id ops draw =>
    intro h r inR Q ρ ds a w hri hr hv
    have hts : ∀ o ∈ ops.toList, ∀ d, o.dst = some d → d ∈ wrOps ops.toList := fun o ho d hd => mem_wrOps hd ho
    have hend : ∀ e a' w', RQ N ds (wrOps ops.toList) a (fun ρ w => Q .normal ρ ds w) e a' w' → CQ N (wrC (.region id ops draw)) a Q e a' w' := by
      rintro e a' w' ⟨rfl, ρ', h1, h2, h3⟩
      exact ⟨h2, ρ', ds, h1, h3⟩
    cases h with
    | reg bs =>
      simp only [vc] at hv
      cases draw with
      | true => exact hv.elim
      | false =>
        simp only [cond_false] at hv
        refine wpIn_mono (wpIn_region ?_) hend
        rw [List.range_eq_range', ← Array.length_toList]
        exact vops_sound ops.toList 0 bs ρ a w (fun j => by simp) hts hr KeepsF.refl hv
    | any an t =>
      simp only [vc] at hv
      cases hb : draw && sureB ops an && RT.strict (strictB ops an) t && RT.ok ops t ops.size (Array.replicate ops.size false) none with
      | false => rw [hb] at hv; exact hv.elim
      | true =>
        rw [hb] at hv
        simp only [Bool.and_eq_true] at hb
        obtain ⟨⟨⟨rfl, h1⟩, hstr⟩, h2⟩ := hb
        have hS := sure_of h1
        have hshut : Shut ops (fun j => an.getD j []) (Array.replicate ops.size false) := ⟨by simp, fun j hj => by
          exfalso
          rw [Array.getD_eq_getD_getElem?, Array.getElem?_replicate] at hj
          split at hj <;> simp at hj⟩
        have := vt_sound (r := r) (ds := ds) hS (st := strictB ops an) (fun i hi => strict_of hi) (K := fun ρ w => Q .normal ρ ds w) (a0 := a) hts t ops.size (Array.replicate ops.size false) none ρ [] a w.drew hstr h2 hshut ⟨(fun _ h => by cases h), (fun _ h => by cases h), (fun _ h => by cases h)⟩ hr KeepsF.refl (hv _ rfl)
        exact wpIn_mono (region_any hm this) hend
    | _ => exact hv.elim
  | seq x y ihx ihy =>
    intro h r inR Q ρ ds a w hri hr hv
    have keepR : ∀ {a1 a2 : Act}, KeepsF (wrC x) a a1 → KeepsF (wrC y) a1 a2 → KeepsF (wrC (.seq x y)) a a2 := fun h1 h2 => (h1.more fun t ht => List.mem_append_left _ ht).trans (h2.more fun t ht => List.mem_append_right _ ht)
    have keepL : ∀ {a1 : Act}, KeepsF (wrC x) a a1 → KeepsF (wrC (.seq x y)) a a1 := fun h1 => h1.more fun t ht => List.mem_append_left _ ht
    cases h with
    | s ha hb =>
      simp only [vc] at hv
      refine wpIn_seq (wpIn_mono (ihx ha r inR _ ρ ds a w hri hr hv) ?_)
      rintro e a1 w1 ⟨hk, ρ', ds', hr', hq⟩
      cases e with
      | normal =>
        refine wpIn_mono (ihy hb r inR Q ρ' ds' a1 w1 hri hr' hq) ?_
        rintro e2 a2 w2 ⟨hk2, h2⟩
        exact ⟨keepR hk hk2, h2⟩
      | _ => exact ⟨keepL hk, ρ', ds', hr', hq⟩
    | cut live ha hb =>
      simp only [vc] at hv
      cases ds with
      | cons D ds => exact hv.elim
      | nil =>
        obtain ⟨I, hx, hy⟩ := hv
        refine wpIn_seq (wpIn_mono (ihx ha r inR _ ρ [] a w hri hr hx) ?_)
        rintro e a1 w1 ⟨hk, ρ', ds', hr', hq⟩
        cases e with
        | normal =>
          cases ds' with
          | cons D ds => exact hq.elim
          | nil =>
            have hI := lives_spec hr' hq
            have hbv := takes_spec (by simp) (hy _ _ hI)
            refine wpIn_mono (ihy hb r inR Q _ [] a1 w1 hri (Rel.take (hr.keep hr' hk)) hbv) ?_
            rintro e2 a2 w2 ⟨hk2, h2⟩
            exact ⟨keepR hk hk2, h2⟩
        | _ => exact ⟨keepL hk, ρ', ds', hr', hq⟩
    | _ => exact hv.elim
  | cond g x y ihx ihy =>
    intro h r inR Q ρ ds a w hri hr hv
    have kx : ∀ e a' w', CQ N (wrC x) a Q e a' w' → CQ N (wrC (.cond g x y)) a Q e a' w' := fun e a' w' ⟨h1, h2⟩ => ⟨h1.more fun t ht => List.mem_append_left _ ht, h2⟩
    have ky : ∀ e a' w', CQ N (wrC y) a Q e a' w' → CQ N (wrC (.cond g x y)) a Q e a' w' := fun e a' w' ⟨h1, h2⟩ => ⟨h1.more fun t ht => List.mem_append_right _ ht, h2⟩
    cases h with
    | s ha hb =>
      simp only [vc] at hv
      have h1 := hr.vx hv
      split at h1
      · rename_i b hb'
        cases b with
        | true => exact wpIn_cond_true hb' (wpIn_mono (ihx ha r inR Q ρ ds a w hri hr h1) kx)
        | false => exact wpIn_cond_false hb' (wpIn_mono (ihy hb r inR Q ρ ds a w hri hr h1) ky)
      · exact h1.elim
    | ct ha =>
      simp only [vc] at hv
      have h1 := hr.vx hv
      split at h1
      · rename_i hb'; exact wpIn_cond_true hb' (wpIn_mono (ihx ha r inR Q ρ ds a w hri hr h1) kx)
      · exact h1.elim
    | cf hb =>
      simp only [vc] at hv
      have h1 := hr.vx hv
      split at h1
      · rename_i hb'; exact wpIn_cond_false hb' (wpIn_mono (ihy hb r inR Q ρ ds a w hri hr h1) ky)
      · exact h1.elim
    | _ => exact hv.elim
  | block i x ih =>
    intro h r inR Q ρ ds a w hri hr hv
    cases h with
    | one ha =>
      simp only [vc] at hv
      refine wpIn_block (wpIn_mono (ih ha r inR _ ρ ds a w hri hr hv) ?_)
      rintro e a1 w1 ⟨hk, ρ', ds', hr', hq⟩
      cases e with
      | exit j =>
        cases hb : Nat.beq j i with
        | true =>
          simp only [hb, cond_true] at hq
          simp only [Exit.inBlock, Nat.eq_of_beq_eq_true hb, if_true]
          exact ⟨hk, ρ', ds', hr', hq⟩
        | false =>
          simp only [hb, cond_false] at hq
          simp only [Exit.inBlock, Nat.ne_of_beq_eq_false hb, if_false]
          exact ⟨hk, ρ', ds', hr', hq⟩
      | _ => exact ⟨hk, ρ', ds', hr', hq⟩
    | _ => exact hv.elim
  | scope x ih =>
    intro h r inR Q ρ ds a w hri hr hv
    cases h with
    | one ha =>
      simp only [vc] at hv
      refine wpIn_mono (wpIn_scope (Q := fun e a' w' => (∀ l, e ≠ .goto l) ∧ CQ N (wrC (.scope x)) a Q e a' w') (fun l a w h => h.1 l rfl) (wpIn_mono (ih ha r inR _ ρ ds a w hri hr hv) ?_)) fun e a w h => h.2
      rintro e a1 w1 ⟨hk, ρ', ds', hr', hq⟩
      cases e with
      | goto l => exact hq.elim
      | _ => exact ⟨(fun l h => by cases h), hk, ρ', ds', hr', hq⟩
    | _ => exact hv.elim
  | loop x ih =>
    intro h r inR Q ρ ds a w hri hr hv
    cases h with
    | loop live ha =>
      simp only [vc] at hv
      cases ds with
      | cons D ds => exact hv.elim
      | nil =>
        obtain ⟨I, μ, h0, hrnd⟩ := hv
        refine wpIn_loop (fun a' w' => I (live.map fun p => a'.tmps.getD p.1 undef) w' ∧ Rel N (ρ.drop (wrC x)) [] a' ∧ KeepsF (wrC x) a a') (fun a' w' => μ (live.map fun p => a'.tmps.getD p.1 undef) w')
          ⟨lives_spec hr h0, hr.keep hr KeepsF.refl, KeepsF.refl⟩ ?_
        rintro a' w' ⟨hI, hr', hk'⟩
        have hbv := takes_spec (by simp) (hrnd _ _ hI)
        refine wpIn_mono (ih ha r inR _ _ [] a' w' hri (Rel.take hr') hbv) ?_
        rintro e a2 w2 ⟨hk2, ρ2, ds2, hr2, hq⟩
        cases e with
        | normal =>
          cases ds2 with
          | cons D ds => exact hq.elim
          | nil =>
            have h3 := lives_spec hr2 hq
            exact ⟨⟨h3.1, hr.keep hr2 (hk'.trans hk2), hk'.trans hk2⟩, h3.2⟩
        | _ => exact ⟨hk'.trans hk2, ρ2, ds2, hr2, hq⟩
    | _ => exact hv.elim
  | rangeFunc g ps as bd iha ihb =>
    intro h r inR Q ρ ds a w hri hr hv
    cases h with
    | rf sh ha hb =>
      simp only [vc] at hv
      cases hc : inR || !(nodupB ps.toList) || !(ps.toList.all fun t => Nat.blt t N) || !(Nat.beq sh.length ps.toList.length) with
      | true => rw [hc] at hv; exact hv.elim
      | false =>
        rw [hc] at hv
        simp only [Bool.or_eq_false_iff, Bool.not_eq_false'] at hc
        obtain ⟨⟨⟨hin, hnd⟩, hlt⟩, hsl⟩ := hc
        have hsl := Nat.eq_of_beq_eq_true hsl
        obtain rfl := hri hin
        have hnd := nodupB_spec hnd
        have hlt : ∀ t ∈ ps.toList, t < N := fun t ht => Nat.le_of_ble_eq_true (List.all_eq_true.1 hlt t ht)
        have h1 := hr.vx hv
        unfold RfV at h1
        split at h1
        · rename_i gf fs cs hg
          obtain ⟨hent, h1⟩ := h1
          refine rf_sound hent hg hr (KeepsF.refl) (fun lp D l w1 => h1 (fun lp => lp.tmps = a.tmps ∧ lp.params = ps ∧ lp.assign = as ∧ lp.body = bd) lp D l w1) ?_
          rintro l W lp xs R ⟨e1, e2, e3, e4⟩ hW hst hlen hbody
          have hsz : xs.toArray.size = lp.params.size := by rw [e2]; simpa using hlen
          refine ⟨_, _, _, _, run_yield hW hsz, roundIn_of_wpIn trivial ?_⟩
          have htm : (lp.params.zip xs.toArray).foldl (fun tmps (x : Nat × Value) => tmps.setIfInBounds x.1 x.2) lp.tmps = (ps.toList.zip xs).foldl (fun tmps (p : Nat × Value) => tmps.setIfInBounds p.1 p.2) a.tmps := by
            rw [e1, e2, ← Array.foldl_toList, Array.toList_zip]
          have hr0 : Rel N ρ [] ⟨a.tmps, []⟩ := ⟨hr.size, hr.val, rfl⟩
          have hrr := hr0.round (xs := xs) hnd hlt
          have hbody := takes_spec (by simp [hlen, hsl]) hbody
          rw [show (ps.toList.zip sh).map (·.1) = ps.toList from List.map_fst_zip (by omega)] at hbody
          rw [e3, e4]
          show as.wpIn (Fn (some l)) 0 P _ { tmps := (lp.params.zip xs.toArray).foldl (fun tmps (x : Nat × Value) => tmps.setIfInBounds x.1 x.2) lp.tmps, defers := [] } W
          rw [htm]
          refine wpIn_mono (iha ha (some l) true _ _ [] _ W (fun h => by cases h) hrr hbody) ?_
          rintro e a1 W1 ⟨_, ρ1, ds1, hr1, hq⟩
          cases e with
          | normal =>
            cases ds1 with
            | cons D ds => exact hq.elim
            | nil =>
              obtain ⟨lp1, hlp1, hst1, hW2⟩ := hq
              refine ⟨_, run_beginRound hlp1 hst1, ?_⟩
              refine wpIn_mono (ihb hb (some l) true _ ρ1 [] a1 _ (fun h => by cases h) hr1 (hW2 _ rfl)) ?_
              rintro e a3 W3 ⟨_, ρ3, ds3, hr3, hq3⟩
              cases e with
              | normal =>
                obtain ⟨lp3, hlp3, hk⟩ := hq3
                exact ⟨_, _, run_endRound none hlp3, _, rfl, hk _ rfl⟩
              | ret =>
                obtain ⟨lp3, hlp3, hk⟩ := hq3
                exact ⟨_, _, run_endRound (some .ret) hlp3, _, rfl, hk _ rfl⟩
              | exit i =>
                obtain ⟨lp3, hlp3, hk⟩ := hq3
                exact ⟨_, _, run_endRound (some (.exit i)) hlp3, _, rfl, hk _ rfl⟩
              | _ => exact hq3.elim
          | _ => exact hq.elim
        · exact h1.elim
    | _ => exact hv.elim

theorem resultsV_run {ρ : Env} {ds : List Nat} {a : Act} (hr : Rel N ρ ds a) (f : ResultVar → Sem Value) (hf1 : ∀ t, f (.tmp t) = pure (a.tmps.getD t undef)) (hf2 : ∀ c t, f (.cell c t) = do loadVar t (← asAddr (a.tmps.getD c undef))) :
    ∀ {l : List ResultVar} {w : World} {K : List Value → Prop}, resultsV P ρ l w K → ∃ vs, K vs ∧ (l.mapM f).run P w = .ok vs w
  | [], w, K, h => ⟨[], h, rfl⟩
  | .tmp t :: l, w, K, h => by
    simp only [resultsV] at h
    split at h
    · rename_i v hv
      obtain ⟨vs, hk, hrun⟩ := resultsV_run hr f hf1 hf2 h
      refine ⟨v :: vs, hk, ?_⟩
      simp only [List.mapM_cons, hf1, Sem.run_bind, Sem.run_pure, Result.andThen_ok, hr.val t v hv, hrun]
    · exact h.elim
  | .cell c ty :: l, w, K, h => by
    simp only [resultsV] at h
    split at h
    · rename_i p hp
      obtain ⟨v, hk, hl⟩ := vload_sound h
      obtain ⟨vs, hk, hrun⟩ := resultsV_run hr f hf1 hf2 hk
      refine ⟨v :: vs, hk, ?_⟩
      have ha : (asAddr (a.tmps.getD c undef)).run P w = .ok p w := by rw [hr.val c _ hp]; rfl
      simp only [List.mapM_cons, hf2, Sem.run_bind, Sem.run_pure, Result.andThen_ok, ha, hl, hrun]
    · exact h.elim

def resF (a : Act) (x : ResultVar) : Sem Value :=
  match x with
  | .tmp t => pure (a.tmps.getD t undef)
  | .cell c t => do loadVar t (← asAddr (a.tmps.getD c undef))
theorem results_run {fn : Func} {ρ : Env} {ds : List Nat} {a : Act} (hr : Rel N ρ ds a) {w : World} {K : List Value → Prop} (h : resultsV P ρ fn.results.toList w K) : ∃ vs, K vs ∧ (results fn a.tmps).run P w = .ok (oneOf vs) w := by
  obtain ⟨vs, hk, hrun⟩ := resultsV_run hr (resF a) (fun _ => rfl) (fun _ _ => rfl) h
  refine ⟨vs, hk, ?_⟩
  have he : results fn a.tmps = (do
      let vs ← fn.results.mapM (resF a)
      pure (if h : vs.size = 1 then vs[0] else .tuple vs) : Sem Value) := rfl
  rw [he, Sem.run_bind, Array.mapM_eq_mapM_toList, Sem.run_map, hrun]
  simp only [Result.andThen_ok, Sem.run_pure]
  congr 1
  match vs with
  | [] => rfl
  | [v] => rfl
  | v :: u :: vs => rfl

theorem argEnv_get : ∀ (args : List Value) (i t : Nat) (v : Value), Env.get (argEnv args i) t = some v → ∃ j, t = i + j ∧ args[j]? = some v
  | [], _, _, _, h => by cases h
  | x :: xs, i, t, v, h => by
    rcases Env.get_put h with ⟨rfl, rfl⟩ | ⟨_, h⟩
    · exact ⟨0, rfl, rfl⟩
    · obtain ⟨j, rfl, hj⟩ := argEnv_get xs (i + 1) t v h
      exact ⟨j + 1, by omega, by simpa using hj⟩

theorem leave_in {fn : Func} {tmps : Array Value} {R : Ending → World → Prop} {K : World → Prop} (hK : ∀ w, K w → ∃ v, (results fn tmps).run P w = .ok v w ∧ R (.returned v) w) : ∀ {ds : List Nat} {w : World}, leave ds w K →
    LeavesInM (Fn none) 0 P fn tmps R (ds.map fun D => { target := .collected D, args := #[] }) .returning w
  | [], w, h => hK w h
  | D :: ds, w, h => ⟨(by simp), .inl ⟨D, _, rfl, run_takeDeferred h.1, leave_in hK (h.2 _ rfl)⟩⟩

/-- **A function whose condition holds does what it says.** -/
theorem vf_sound (hm : P.follows .mixedOrders = true) {f : FuncId} {h : H} {args : List Value} {w : World} {R : Value → World → Prop} (hv : vf P f h args w R) : Cl P f args.toArray w R := by
  unfold vf at hv
  split at hv
  · rename_i fn hf
    split at hv
    · rename_i c hc
      cases hb : Nat.ble args.length fn.ntmps with
      | false => rw [hb] at hv; exact hv.elim
      | true =>
        rw [hb] at hv
        have hle := Nat.le_of_ble_eq_true hb
        refine callsIn_of_wp_marks hf hc trivial ?_ rfl
        have hr : Rel fn.ntmps (argEnv args 0) [] { tmps := args.toArray ++ Array.replicate (fn.ntmps - args.toArray.size) undef, defers := [] } := by
          refine ⟨by simp; omega, fun t v hv => ?_, rfl⟩
          obtain ⟨j, rfl, hj⟩ := argEnv_get args 0 t v hv
          have hlt : j < args.length := (List.getElem?_eq_some_iff.1 hj).1
          rw [Nat.zero_add, Array.getD_eq_getD_getElem?, Array.getElem?_append_left (by simpa using hlt)]
          simp [hj]
        refine wpIn_mono (vc_sound hm c h none false _ _ [] _ w (fun _ => rfl) hr hv) ?_
        rintro e a' w' ⟨_, ρ', ds', hr', hq⟩
        cases e with
        | normal =>
          show LeavesInM (Fn none) 0 P fn a'.tmps _ a'.defers .returning w'
          rw [hr'.defs]
          exact leave_in (fun w hk => by
            obtain ⟨vs, hR, hrun⟩ := results_run hr' hk
            exact ⟨_, hrun, _, rfl, hR⟩) hq
        | ret =>
          show LeavesInM (Fn none) 0 P fn a'.tmps _ a'.defers .returning w'
          rw [hr'.defs]
          exact leave_in (fun w hk => by
            obtain ⟨vs, hR, hrun⟩ := results_run hr' hk
            exact ⟨_, hrun, _, rfl, hR⟩) hq
        | _ => exact hq.elim
    · exact hv.elim
  · exact hv.elim
theorem cl_of (hm : P.follows .mixedOrders = true) {f : FuncId} {h : H} {args : List Value} {w : World} {R : Value → World → Prop} {c : Prop} (e : vf P f h args w R = c) (hc : c) : Cl P f args.toArray w R := vf_sound hm (h := h) (e ▸ hc)
end
end Go.Bty
