/- A region that draws its order of evaluation: reads are taken as early as they may be, effects in the order that the edges force; a read that may also come behind an effect must read the same there. -/
import Derived.OrdersIn
import Derived.RangeFuncRecord
import Derived.KernelRfl
namespace Go.Bty
open Go

def Fn (r : Option Nat) : Fence := { fn := fun _ => True, depth := none, alive := false, round := r }
def Qno : Exit → Act → World → Prop := fun _ _ _ => False

/-- One operation, carried out; no panic, nothing outgrown. -/
def opW (r : Option Nat) (P : Program) (o : Oper) (a : Act) (w : World) (K : Act → World → Prop) : Prop :=
  o.uponIn (Fn r) 0 P a K Qno ((o.semAt r a.eval).run P w)

section
variable {r : Option Nat} {P : Program}

theorem upon_mono {o : Oper} {a a' : Act} {K K' : Act → World → Prop} {Q : Exit → Act → World → Prop} {x : Result Next}
    (hv : ∀ v w, K (a.put o.dst v) w → K' (a'.put o.dst v) w)
    (hd : ∀ d w, K ({ a with defers := d :: a.defers }.put o.dst undef) w → K' ({ a' with defers := d :: a'.defers }.put o.dst undef) w)
    (h : o.uponIn (Fn r) 0 P a K Qno x) : o.uponIn (Fn r) 0 P a' K' Q x := by
  have hl : LetsOut Qno → LetsOut Q := fun ⟨_, _, h⟩ => h.elim
  cases x with
  | ok n w' =>
    cases n <;> simp only [Oper.uponIn] at h ⊢
    case value v => exact hv _ _ h
    case skip => exact hv _ _ h
    case defer d => exact hd _ _ h
    case enter f args => exact ⟨h.1, CallsIn.mono h.2 fun e w'' he => by cases e <;> first | exact hv _ _ he | exact he.elim | exact hl he⟩
    case row row args => exact ⟨h.1, RowsIn.mono h.2 fun _ _ he => hv _ _ he⟩
    case round l f tmps assign body => exact ⟨h.1, RoundIn.mono h.2 fun e w'' he => by cases e <;> first | exact hv _ _ he | exact he.elim | exact hl he⟩
  | halt x w' =>
    cases x <;> simp only [Oper.uponIn] at h ⊢
    case panic => exact h.elim

theorem opW_mono {o : Oper} {a : Act} {w : World} {K K' : Act → World → Prop} (hk : ∀ a w, K a w → K' a w) (h : opW r P o a w K) : opW r P o a w K' :=
  upon_mono (fun _ _ => hk _ _) (fun _ _ => hk _ _) h

theorem opW_in {o : Oper} {a : Act} {w : World} {K : Act → World → Prop} (Q : Exit → Act → World → Prop) (h : opW r P o a w K) : o.wpIn (Fn r) 0 P a w K Q :=
  ⟨fun _ _ => trivial, upon_mono (fun _ _ h => h) (fun _ _ h => h) h⟩

variable {ops : Array Oper}

/-- Operation i, at this state, yields v and leaves the world alone (or is passed over). -/
def RdAt (r : Option Nat) (P : Program) (ops : Array Oper) (i : Nat) (v : Value) (a : Act) (w : World) : Prop :=
  ∃ o, ops[i]? = some o ∧ ((Region.wanted o (yielded ops a.tmps) = true ∧ (o.semAt r a.eval).run P w = .ok (.value v) w) ∨
    (Region.wanted o (yielded ops a.tmps) = false ∧ v = undef))

def opAt (r : Option Nat) (P : Program) (ops : Array Oper) (i : Nat) (K : Act → World → Prop) (a : Act) (w : World) : Prop :=
  match ops[i]? with
  | none => K a w
  | some o => if Region.wanted o (yielded ops a.tmps) then opW r P o a w K else K (a.put o.dst undef) w

theorem opAt_mono {i : Nat} {a : Act} {w : World} {K K' : Act → World → Prop} (hk : ∀ a w, K a w → K' a w) (h : opAt r P ops i K a w) : opAt r P ops i K' a w := by
  unfold opAt at *
  split at h
  · exact hk _ _ h
  · split at h
    · rename_i hw; rw [if_pos hw]; exact opW_mono hk h
    · rename_i hw; rw [if_neg hw]; exact hk _ _ h

theorem opAt_in {i : Nat} {a : Act} {w : World} {K : Act → World → Prop} (Q : Exit → Act → World → Prop) (h : opAt r P ops i K a w) : wpOpIn (Fn r) 0 P ops Q i K a w := by
  unfold opAt at h
  unfold wpOpIn
  cases ho : ops[i]? with
  | none => simp only [ho] at h ⊢; exact h
  | some o =>
    simp only [ho] at h ⊢
    split at h
    · rename_i hw; rw [if_pos hw]; exact opW_in Q h
    · rename_i hw; rw [if_neg hw]; exact ⟨fun _ _ => trivial, h⟩

theorem RdAt.opAt {i : Nat} {v : Value} {a : Act} {w : World} {K : Act → World → Prop} {o : Oper} (hi : ops[i]? = some o) (hy : RdAt r P ops i v a w) (h : K (a.put o.dst v) w) : opAt r P ops i K a w := by
  obtain ⟨o', hi', hy⟩ := hy
  rw [hi] at hi'; cases hi'
  unfold Bty.opAt
  simp only [hi]
  rcases hy with ⟨hw, hv⟩ | ⟨hw, rfl⟩
  · rw [if_pos hw]; unfold opW; rw [hv]; exact h
  · rw [hw]; exact h

theorem semAt_put (o : Oper) (hs : ∀ cs b, o.op ≠ .select cs b) (a : Act) (dst : Option Tmp) (v : Value) (h : ∀ d, dst = some d → d ∉ o.looksAt ops) :
    o.semAt r (a.put dst v).eval = o.semAt r a.eval := by
  cases r with
  | none => simp only [Oper.semAt_none]; exact execOp_put o hs a dst v h
  | some l =>
    by_cases hd : ∃ c, o.op = .defer c
    · obtain ⟨c, hc⟩ := hd
      unfold Oper.semAt
      simp only [hc]
      rw [resolve_congr (ρ := (a.put dst v).eval) (ρ' := a.eval) c o.type (fun x hx => Act.eval_put fun d hd hxd => h d hd (by
        subst hxd
        exact List.mem_append_left _ (List.mem_filterMap.2 ⟨.tmp d, by rw [hc]; simpa [Op.operands] using hx, rfl⟩)))]
    · have hd' : ∀ c, o.op ≠ .defer c := fun c hc => hd ⟨c, hc⟩
      rw [Oper.semAt_eq _ _ _ hd', Oper.semAt_eq _ _ _ hd']
      exact execOp_put o hs a dst v h

theorem RdAt.put {i : Nat} {o : Oper} {v u : Value} {a : Act} {w : World} {dst : Option Tmp} (hi : ops[i]? = some o) (hs : ∀ cs b, o.op ≠ .select cs b) (h : ∀ d, dst = some d → d ∉ o.looksAt ops) :
    RdAt r P ops i v (a.put dst u) w ↔ RdAt r P ops i v a w := by
  unfold RdAt
  constructor
  · rintro ⟨o', hi', h'⟩
    rw [hi] at hi'; cases hi'
    exact ⟨o, hi, by rwa [semAt_put o hs a dst u h, wanted_put o a dst u h] at h'⟩
  · rintro ⟨o', hi', h'⟩
    rw [hi] at hi'; cases hi'
    exact ⟨o, hi, by rwa [semAt_put o hs a dst u h, wanted_put o a dst u h]⟩

theorem RdAt.defers {i : Nat} {v : Value} {a : Act} {w : World} {d : List Deferred} : RdAt r P ops i v { a with defers := d } w ↔ RdAt r P ops i v a w := Iff.rfl

/-- Operation j, whether or not i's value is already laid. -/
theorem opAt_put {j : Nat} {oj : Oper} {dst : Option Tmp} {v : Value} (hj : ops[j]? = some oj) (hsj : ∀ cs b, oj.op ≠ .select cs b)
    (h1 : ∀ d, dst = some d → d ∉ oj.looksAt ops) (h2 : ∀ d, dst = some d → oj.dst ≠ some d) {K : Act → World → Prop} {a : Act} {w : World}
    (h : opAt r P ops j K (a.put dst v) w) : opAt r P ops j (fun a' w' => K (a'.put dst v) w') a w := by
  unfold opAt at *
  simp only [hj] at *
  rw [wanted_put oj a dst v h1] at h
  split
  · rename_i hw
    rw [if_pos hw] at h
    unfold opW at *
    rw [semAt_put oj hsj a dst v h1] at h
    refine upon_mono (fun u w' hk => ?_) (fun d w' hk => ?_) h
    · rw [← Act.put_comm a v u h2]; exact hk
    · rw [← Act.put_comm _ v undef h2, ← Act.put_defers]; exact hk
  · rename_i hw
    rw [if_neg hw] at h
    rw [← Act.put_comm a v undef h2]; exact h
end

/- ### What may be checked of a region once and for all -/

/-- 'an j': operations that always lie ahead of j. -/
structure Sure (ops : Array Oper) (an : Nat → List Nat) : Prop where
  sel : Region.noSelect ops = true
  anc : ∀ (j : Nat) (o : Oper), ops[j]? = some o → ∀ i ∈ an j, ∃ e ∈ o.after, Region.binds .any e = true ∧ (e.on = i ∨ i ∈ an e.on)
  tmp : ∀ (i j : Nat) (oi oj : Oper), ops[i]? = some oi → ops[j]? = some oj → i ≠ j → ∀ d, oi.dst = some d → (d ∈ oj.looksAt ops → i ∈ an j ∨ j ∈ an i) ∧ (oj.dst = some d → i ∈ an j ∨ j ∈ an i)
  own : ∀ (i : Nat) (o : Oper) (d : Tmp), ops[i]? = some o → o.dst = some d → d ∉ o.looksAt ops

def sureB (ops : Array Oper) (an : Array (List Nat)) : Bool :=
  Region.noSelect ops &&
  ((List.range ops.size).all fun j => match ops[j]? with
    | none => true
    | some o => ((an.getD j []).all fun i => o.after.any fun e => Region.binds .any e && (e.on == i || (an.getD e.on []).contains i)) &&
      (match o.dst with | some d => !(o.looksAt ops).contains d | none => true) &&
      ((List.range ops.size).all fun i => i == j || match ops[i]? with
        | none => true
        | some oi => match oi.dst with
          | none => true
          | some d => (!(o.looksAt ops).contains d || (an.getD j []).contains i || (an.getD i []).contains j) && (o.dst != some d || (an.getD j []).contains i || (an.getD i []).contains j)))

theorem sure_of {ops : Array Oper} {an : Array (List Nat)} (h : sureB ops an = true) : Sure ops (fun j => an.getD j []) := by
  simp only [sureB, Bool.and_eq_true, List.all_eq_true, List.mem_range] at h
  obtain ⟨hsel, h⟩ := h
  have hlt : ∀ {j : Nat} {o : Oper}, ops[j]? = some o → j < ops.size := fun ho => (Array.getElem?_eq_some_iff.1 ho).1
  refine ⟨hsel, fun j o ho i hi => ?_, fun i j oi oj hoi hoj hne d hd => ?_, fun i o d ho hd => ?_⟩
  · have h1 := h j (hlt ho)
    simp only [ho, Bool.and_eq_true, List.all_eq_true] at h1
    have h2 := h1.1.1 i hi
    obtain ⟨e, he, hb⟩ := Array.any_eq_true'.1 h2
    simp only [Bool.and_eq_true, Bool.or_eq_true, beq_iff_eq, List.contains_iff_mem] at hb
    exact ⟨e, he, hb.1, hb.2⟩
  · have h1 := h j (hlt hoj)
    simp only [hoj, Bool.and_eq_true, List.all_eq_true] at h1
    have h2 := h1.2 i (List.mem_range.2 (hlt hoi))
    simp only [hoi, hd, Bool.or_eq_true, beq_iff_eq, Bool.and_eq_true, Bool.not_eq_true', bne_iff_ne, ne_eq] at h2
    rcases h2 with h2 | ⟨h2, h3⟩
    · exact absurd h2 hne
    · refine ⟨fun hm => ?_, fun hm => ?_⟩
      · rcases h2 with (h2 | h2) | h2
        · have : (oj.looksAt ops).contains d = true := by simpa using hm
          rw [this] at h2; cases h2
        · exact .inl (by simpa using h2)
        · exact .inr (by simpa using h2)
      · rcases h3 with (h3 | h3) | h3
        · exact absurd hm h3
        · exact .inl (by simpa using h3)
        · exact .inr (by simpa using h3)
  · have h1 := h i (hlt ho)
    simp only [ho, hd, Bool.and_eq_true, Bool.not_eq_true'] at h1
    intro hm
    have : (o.looksAt ops).contains d = true := by simpa using hm
    rw [this] at h1; exact absurd h1.1.2 (by simp)

section
variable {r : Option Nat} {P : Program} {ops : Array Oper} {Q : Exit → Act → World → Prop} {an : Nat → List Nat}

abbrev Pend := List (Nat × Value)
def Pend.left (an : Nat → List Nat) (S : Pend) (j : Nat) : Pend := S.filter fun p => !(an j).contains p.1

/-- Whatever order is picked from here on; the reads in S, which have come up early, stay what they are. -/
def wpR (r : Option Nat) (P : Program) (ops : Array Oper) (an : Nat → List Nat) (Q : Exit → Act → World → Prop) : Nat → Pend → Array Bool → Act → World → Prop
  | 0, _, listed, a, w => Region.ready .any ops listed = [] ∧ Q .normal a w
  | fuel + 1, S, listed, a, w =>
    (Region.ready .any ops listed = [] → Q .normal a w) ∧
    ∀ j ∈ Region.ready .any ops listed, opAt r P ops j (fun a' w' => (∀ p ∈ Pend.left an S j, RdAt r P ops p.1 p.2 a' w') ∧ wpR r P ops an Q fuel (Pend.left an S j) (listed.setIfInBounds j true) a' w') a w

theorem Pend.left_sub {S S' : Pend} (h : ∀ p ∈ S', p ∈ S) (j : Nat) : ∀ p ∈ Pend.left an S' j, p ∈ Pend.left an S j := fun p hp => by
  rw [Pend.left, List.mem_filter] at *
  exact ⟨h p hp.1, hp.2⟩

theorem wpR_sub : ∀ (fuel : Nat) {S S' : Pend} (_ : ∀ p ∈ S', p ∈ S) {listed : Array Bool} {a : Act} {w : World}, wpR r P ops an Q fuel S listed a w → wpR r P ops an Q fuel S' listed a w
  | 0, _, _, _, _, _, _, h => h
  | fuel + 1, _, _, hs, _, _, _, h => ⟨h.1, fun j hj => opAt_mono (fun _ _ ⟨h1, h2⟩ => ⟨fun p hp => h1 p (Pend.left_sub hs j p hp), wpR_sub fuel (Pend.left_sub hs j) h2⟩) (h.2 j hj)⟩

theorem wpR_any : ∀ (fuel : Nat) {S : Pend} {listed : Array Bool} {a : Act} {w : World}, wpR r P ops an Q fuel S listed a w → wpAnyIn (Fn r) 0 P .any ops Q fuel listed a w
  | 0, _, _, _, _, h => h
  | fuel + 1, _, _, _, _, h => ⟨h.1, fun j hj => wpOpIn_mono (fun _ _ h => wpR_any fuel h.2) (opAt_in Q (h.2 j hj))⟩

/-- What is listed is listed with all that lies ahead of it. -/
def Shut (ops : Array Oper) (an : Nat → List Nat) (listed : Array Bool) : Prop := listed.size = ops.size ∧ ∀ j, listed.getD j false = true → ∀ i ∈ an j, listed.getD i false = true

theorem Shut.ready (hS : Sure ops an) {listed : Array Bool} (hc : Shut ops an listed) {j : Nat} (hj : j ∈ Region.ready .any ops listed) : ∀ i ∈ an j, listed.getD i false = true := fun i hi => by
  obtain ⟨_, o, ho, hall⟩ := mem_ready.1 hj
  obtain ⟨e, he, hb, h | h⟩ := hS.anc j o ho i hi
  · exact h ▸ hall e he hb
  · exact hc.2 _ (hall e he hb) i h

theorem Shut.set (hS : Sure ops an) {listed : Array Bool} (hc : Shut ops an listed) {j : Nat} (hj : j ∈ Region.ready .any ops listed) : Shut ops an (listed.setIfInBounds j true) := by
  refine ⟨by simpa using hc.1, fun k hk i hi => ?_⟩
  by_cases hkj : j = k
  · subst hkj; exact getD_set_true (hc.ready hS hj i hi)
  · rw [getD_set_ne false hkj] at hk; exact getD_set_true (hc.2 k hk i hi)

theorem getD_two {listed : Array Bool} {i : Nat} (h : i < listed.size) : listed.getD i true = listed.getD i false := by simp [h]

/-- What operation i lays is looked at behind it alone. -/
def Strict (ops : Array Oper) (an : Nat → List Nat) (i : Nat) : Prop := ∀ (j : Nat) (oi oj : Oper), ops[i]? = some oi → ops[j]? = some oj → i ≠ j → ∀ d, oi.dst = some d → d ∈ oj.looksAt ops → i ∈ an j
def strictB (ops : Array Oper) (an : Array (List Nat)) (i : Nat) : Bool :=
  match ops[i]? with
  | none => true
  | some oi => match oi.dst with
    | none => true
    | some d => (List.range ops.size).all fun j => i == j || match ops[j]? with
      | none => true
      | some oj => !(oj.looksAt ops).contains d || (an.getD j []).contains i
theorem strict_of {an : Array (List Nat)} {i : Nat} (h : strictB ops an i = true) : Strict ops (fun j => an.getD j []) i := fun j oi oj hoi hoj hne d hd hm => by
  simp only [strictB, hoi, hd, List.all_eq_true, List.mem_range] at h
  have h1 := h j (Array.getElem?_eq_some_iff.1 hoj).1
  simp only [hoj, Bool.or_eq_true, beq_iff_eq, Bool.not_eq_true'] at h1
  rcases h1 with h1 | h1 | h1
  · exact absurd h1 hne
  · have : (oj.looksAt ops).contains d = true := by simpa using hm
    rw [this] at h1; cases h1
  · simpa using h1

/-- **A read may be taken now.** 'all': it reads the same in whatever world; else it is kept among the reads that must stay. -/
theorem wpR_take (hS : Sure ops an) {i : Nat} (hst : Strict ops an i) {oi : Oper} {v : Value} (hi : ops[i]? = some oi) (all : Bool) :
    ∀ (fuel : Nat) (S : Pend) (listed : Array Bool) (a : Act) (w : World), Shut ops an listed → (∀ p ∈ S, listed.getD p.1 false = true) → (∀ p ∈ S, RdAt r P ops p.1 p.2 a w) → i ∈ Region.ready .any ops listed → RdAt r P ops i v a w →
      (all = true → ∀ w, RdAt r P ops i v a w) → wpR r P ops an Q fuel (if all then S else (i, v) :: S) (listed.setIfInBounds i true) (a.put oi.dst v) w → wpR r P ops an Q (fuel + 1) S listed a w := by
  have hsel := Region.noSelect_spec hS.sel
  have hil : i < ops.size := (Array.getElem?_eq_some_iff.1 hi).1
  intro fuel
  induction fuel with
  | zero =>
    intro S listed a w hc hSl hSr hr hy hall H
    refine ⟨fun h => (by rw [h] at hr; cases hr), fun j hj => ?_⟩
    by_cases hji : j = i
    · subst hji
      refine hy.opAt hi ⟨fun p hp => ?_, ?_⟩
      · rw [Pend.left, List.mem_filter] at hp
        obtain ⟨o, ho, _⟩ := hSr p hp.1
        have hpj : p.1 ≠ j := fun e => by
          have h1 := hSl p hp.1
          rw [e] at h1
          have h0 := (mem_ready.1 hr).1
          rw [getD_two (by rw [hc.1]; exact hil), h1] at h0; cases h0
        refine (RdAt.put ho (fun cs b => hsel p.1 o cs b ho) (fun d hd hm => ?_)).2 (hSr p hp.1)
        have h1 := hst p.1 oi o hi ho (Ne.symm hpj) d hd hm
        have h2 := hc.2 p.1 (hSl p hp.1) j h1
        have h0 := (mem_ready.1 hr).1
        rw [getD_two (by rw [hc.1]; exact hil), h2] at h0; cases h0
      · exact H
    · have := ready_mono hj hji
      rw [H.1] at this
      cases this
  | succ fuel ih =>
    intro S listed a w hc hSl hSr hr hy hall H
    have hun : listed.getD i false = false := by rw [← getD_two (by rw [hc.1]; exact hil)]; exact (mem_ready.1 hr).1
    have lookp : ∀ p ∈ S, ∀ o, ops[p.1]? = some o → ∀ d, oi.dst = some d → d ∉ o.looksAt ops := fun p hp o ho d hd hm => by
      have hpj : i ≠ p.1 := fun e => by have h1 := hSl p hp; rw [← e, hun] at h1; cases h1
      have h1 := hst p.1 oi o hi ho hpj d hd hm
      have h2 := hc.2 p.1 (hSl p hp) i h1
      rw [hun] at h2; cases h2
    refine ⟨fun h => (by rw [h] at hr; cases hr), fun j hj => ?_⟩
    by_cases hji : j = i
    · subst hji
      refine hy.opAt hi ⟨fun p hp => ?_, ?_⟩
      · rw [Pend.left, List.mem_filter] at hp
        obtain ⟨o, ho, _⟩ := hSr p hp.1
        exact (RdAt.put ho (fun cs b => hsel p.1 o cs b ho) (lookp p hp.1 o ho)).2 (hSr p hp.1)
      · refine wpR_sub _ (fun p hp => ?_) H
        rw [Pend.left, List.mem_filter] at hp
        split
        · exact hp.1
        · exact List.mem_cons_of_mem _ hp.1
    · have h1 := H.2 j (ready_mono hj hji)
      obtain ⟨hjun, oj, hoj, hallj⟩ := mem_ready.1 hj
      have hij : i ∉ an j := fun hm => by have := hc.ready hS hj i hm; rw [hun] at this; cases this
      have hji' : j ∉ an i := fun hm => by
        have := hc.ready hS hr j hm
        rw [← getD_two (by rw [hc.1]; exact (Array.getElem?_eq_some_iff.1 hoj).1), hjun] at this; cases this
      have k1 : ∀ d, oi.dst = some d → d ∉ oj.looksAt ops := fun d hd hm => hij (hst j oi oj hi hoj (Ne.symm hji) d hd hm)
      have k2 : ∀ d, oi.dst = some d → oj.dst ≠ some d := fun d hd hm => by
        rcases (hS.tmp i j oi oj hi hoj (Ne.symm hji) d hd).2 hm with h | h
        · exact hij h
        · exact hji' h
      have k3 : ∀ d, oj.dst = some d → d ∉ oi.looksAt ops := fun d hd hm => ((hS.tmp j i oj oi hoj hi hji d hd).1 hm).elim hji' hij
      have h2 := opAt_put hoj (fun cs b => hsel j oj cs b hoj) k1 k2 h1
      -- operation j keeps what i reads, where i reads the same in whatever world
      have h3 : opAt r P ops j (fun a' w' => ((all = true → ∀ w, RdAt r P ops i v a' w) ∧ ((∀ p ∈ Pend.left an (if all then S else (i, v) :: S) j, RdAt r P ops p.1 p.2 (a'.put oi.dst v) w') ∧
          wpR r P ops an Q fuel (Pend.left an (if all then S else (i, v) :: S) j) ((listed.setIfInBounds i true).setIfInBounds j true) (a'.put oi.dst v) w'))) a w := by
        have keep : all = true → ∀ u w, RdAt r P ops i v (a.put oj.dst u) w := fun ha u w => (RdAt.put hi (fun cs b => hsel i oi cs b hi) k3).2 (hall ha w)
        unfold opAt at *
        simp only [hoj] at *
        split
        · rename_i hw
          rw [if_pos hw] at h2
          unfold opW at *
          exact upon_mono (fun u w' hk => ⟨fun ha w => keep ha u w, hk⟩) (fun d w' hk => ⟨fun ha w => (RdAt.put hi (fun cs b => hsel i oi cs b hi) k3).2 (hall ha w), hk⟩) h2
        · rename_i hw
          rw [if_neg hw] at h2
          exact ⟨fun ha w => keep ha _ w, h2⟩
      refine opAt_mono (fun a' w' ⟨ha, hb, hcn⟩ => ?_) h3
      have hrd : ∀ p ∈ Pend.left an S j, RdAt r P ops p.1 p.2 a' w' := fun p hp => by
        have hp' : p ∈ Pend.left an (if all then S else (i, v) :: S) j := by
          rw [Pend.left, List.mem_filter] at *
          refine ⟨?_, hp.2⟩
          split
          · exact hp.1
          · exact List.mem_cons_of_mem _ hp.1
        have h := hb p hp'
        rw [Pend.left, List.mem_filter] at hp
        obtain ⟨o, ho, _⟩ := id h
        exact (RdAt.put ho (fun cs b => hsel p.1 o cs b ho) (lookp p hp.1 o ho)).1 h
      have hyi : RdAt r P ops i v a' w' := by
        cases hall' : all with
        | true => exact ha hall' w'
        | false =>
          have hp' : (i, v) ∈ Pend.left an (if all then S else (i, v) :: S) j := by
            rw [Pend.left, List.mem_filter, hall']
            exact ⟨by simp, by simpa using hij⟩
          exact (RdAt.put hi (fun cs b => hsel i oi cs b hi) (fun d hd => hS.own i oi d hi hd)).1 (hb (i, v) hp')
      refine ⟨hrd, ih (Pend.left an S j) (listed.setIfInBounds j true) a' w' (hc.set hS hj) (fun p hp => ?_) hrd (ready_mono hr (Ne.symm hji)) hyi ha ?_⟩
      · rw [Pend.left, List.mem_filter] at hp; exact getD_set_true (hSl p hp.1)
      · rw [Array.setIfInBounds_comm _ _ hji]
        refine wpR_sub _ (fun p hp => ?_) hcn
        rw [Pend.left, List.mem_filter]
        split at hp
        · rw [Pend.left, List.mem_filter] at hp
          rename_i ha'
          exact ⟨by rw [if_pos ha']; exact hp.1, hp.2⟩
        · rename_i ha'
          rw [if_neg ha']
          rcases List.mem_cons.1 hp with rfl | hp
          · exact ⟨by simp, by simpa using hij⟩
          · rw [Pend.left, List.mem_filter] at hp
            exact ⟨List.mem_cons_of_mem _ hp.1, hp.2⟩
end
end Go.Bty
