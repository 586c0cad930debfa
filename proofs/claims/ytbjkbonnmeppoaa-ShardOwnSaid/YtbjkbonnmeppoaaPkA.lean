/- A region that draws its order of evaluation: reads are taken as early as they may be, effects in the order that the edges force; a read that may also come behind an effect must read the same there. -/
/- The conditions of single operations: what must hold for an operation to go through, and what it leaves; over an environment of temporaries whose keys are numerals. -/
/- The conditions of operations that leave the world alone, in whatever world ('vp'), and that read it ('vr'), with their proofs. -/
/- 'vp': operations that go through alike in whatever world; 'vr': operations that read the world and leave it alone. -/
/- 'vp' holds what it says. -/
/- Maps: keys that are strings, integers, or pairs of ints. -/
/- 'vr': operations that read the world and leave it alone; 've': operations that turn it. -/
import Derived.OrdersIn
import Derived.RangeFuncRecord
import Derived.KernelRfl
import Derived.Laws.Cells
import Derived.Laws.NewFold
namespace Go.Bty
open Go

def Fn (r : Option Nat) : Fence := { fn := fun _ => True, depth := none, alive := false, round := r }
def Qno : Exit → Act → World → Prop := fun _ _ _ => False

/-- One operation, carried out; no panic, nothing outgrown. -/
def opW (r : Option Nat) (P : Program) (o : Oper) (a : Act) (w : World) (K : Act → World → Prop) : Prop :=
  o.uponIn (Fn r) 0 P a K Qno ((o.semAt r a.eval).run P w)

section
variable {r : Option Nat} {P : Program}

theorem upon_mono {o : Oper} {a a' : Act} {K K' : Act → World → Prop} {Q : Exit → Act → World → Prop} {x : Result Next}
    (hv : ∀ v w, K (a.put o.dst v) w → K' (a'.put o.dst v) w)
    (hd : ∀ d w, K ({ a with defers := d :: a.defers }.put o.dst undef) w → K' ({ a' with defers := d :: a'.defers }.put o.dst undef) w)
    (h : o.uponIn (Fn r) 0 P a K Qno x) : o.uponIn (Fn r) 0 P a' K' Q x := by
  have hl : LetsOut Qno → LetsOut Q := fun ⟨_, _, h⟩ => h.elim
  cases x with
  | ok n w' =>
    cases n <;> simp only [Oper.uponIn] at h ⊢
    case value v => exact hv _ _ h
    case skip => exact hv _ _ h
    case defer d => exact hd _ _ h
    case enter f args => exact ⟨h.1, CallsIn.mono h.2 fun e w'' he => by cases e <;> first | exact hv _ _ he | exact he.elim | exact hl he⟩
    case row row args => exact ⟨h.1, RowsIn.mono h.2 fun _ _ he => hv _ _ he⟩
    case round l f tmps assign body => exact ⟨h.1, RoundIn.mono h.2 fun e w'' he => by cases e <;> first | exact hv _ _ he | exact he.elim | exact hl he⟩
  | halt x w' =>
    cases x <;> simp only [Oper.uponIn] at h ⊢
    case panic => exact h.elim

theorem opW_mono {o : Oper} {a : Act} {w : World} {K K' : Act → World → Prop} (hk : ∀ a w, K a w → K' a w) (h : opW r P o a w K) : opW r P o a w K' :=
  upon_mono (fun _ _ => hk _ _) (fun _ _ => hk _ _) h

theorem opW_in {o : Oper} {a : Act} {w : World} {K : Act → World → Prop} (Q : Exit → Act → World → Prop) (h : opW r P o a w K) : o.wpIn (Fn r) 0 P a w K Q :=
  ⟨fun _ _ => trivial, upon_mono (fun _ _ h => h) (fun _ _ h => h) h⟩

variable {ops : Array Oper}

/-- Operation i, at this state, yields v and leaves the world alone (or is passed over). -/
def RdAt (r : Option Nat) (P : Program) (ops : Array Oper) (i : Nat) (v : Value) (a : Act) (w : World) : Prop :=
  ∃ o, ops[i]? = some o ∧ ((Region.wanted o (yielded ops a.tmps) = true ∧ (o.semAt r a.eval).run P w = .ok (.value v) w) ∨
    (Region.wanted o (yielded ops a.tmps) = false ∧ v = undef))

def opAt (r : Option Nat) (P : Program) (ops : Array Oper) (i : Nat) (K : Act → World → Prop) (a : Act) (w : World) : Prop :=
  match ops[i]? with
  | none => K a w
  | some o => if Region.wanted o (yielded ops a.tmps) then opW r P o a w K else K (a.put o.dst undef) w

theorem opAt_mono {i : Nat} {a : Act} {w : World} {K K' : Act → World → Prop} (hk : ∀ a w, K a w → K' a w) (h : opAt r P ops i K a w) : opAt r P ops i K' a w := by
  unfold opAt at *
  split at h
  · exact hk _ _ h
  · split at h
    · rename_i hw; rw [if_pos hw]; exact opW_mono hk h
    · rename_i hw; rw [if_neg hw]; exact hk _ _ h

theorem opAt_in {i : Nat} {a : Act} {w : World} {K : Act → World → Prop} (Q : Exit → Act → World → Prop) (h : opAt r P ops i K a w) : wpOpIn (Fn r) 0 P ops Q i K a w := by
  unfold opAt at h
  unfold wpOpIn
  cases ho : ops[i]? with
  | none => simp only [ho] at h ⊢; exact h
  | some o =>
    simp only [ho] at h ⊢
    split at h
    · rename_i hw; rw [if_pos hw]; exact opW_in Q h
    · rename_i hw; rw [if_neg hw]; exact ⟨fun _ _ => trivial, h⟩

theorem RdAt.opAt {i : Nat} {v : Value} {a : Act} {w : World} {K : Act → World → Prop} {o : Oper} (hi : ops[i]? = some o) (hy : RdAt r P ops i v a w) (h : K (a.put o.dst v) w) : opAt r P ops i K a w := by
  obtain ⟨o', hi', hy⟩ := hy
  rw [hi] at hi'; cases hi'
  unfold Bty.opAt
  simp only [hi]
  rcases hy with ⟨hw, hv⟩ | ⟨hw, rfl⟩
  · rw [if_pos hw]; unfold opW; rw [hv]; exact h
  · rw [hw]; exact h

theorem semAt_put (o : Oper) (hs : ∀ cs b, o.op ≠ .select cs b) (a : Act) (dst : Option Tmp) (v : Value) (h : ∀ d, dst = some d → d ∉ o.looksAt ops) :
    o.semAt r (a.put dst v).eval = o.semAt r a.eval := by
  cases r with
  | none => simp only [Oper.semAt_none]; exact execOp_put o hs a dst v h
  | some l =>
    by_cases hd : ∃ c, o.op = .defer c
    · obtain ⟨c, hc⟩ := hd
      unfold Oper.semAt
      simp only [hc]
      rw [resolve_congr (ρ := (a.put dst v).eval) (ρ' := a.eval) c o.type (fun x hx => Act.eval_put fun d hd hxd => h d hd (by
        subst hxd
        exact List.mem_append_left _ (List.mem_filterMap.2 ⟨.tmp d, by rw [hc]; simpa [Op.operands] using hx, rfl⟩)))]
    · have hd' : ∀ c, o.op ≠ .defer c := fun c hc => hd ⟨c, hc⟩
      rw [Oper.semAt_eq _ _ _ hd', Oper.semAt_eq _ _ _ hd']
      exact execOp_put o hs a dst v h

theorem RdAt.put {i : Nat} {o : Oper} {v u : Value} {a : Act} {w : World} {dst : Option Tmp} (hi : ops[i]? = some o) (hs : ∀ cs b, o.op ≠ .select cs b) (h : ∀ d, dst = some d → d ∉ o.looksAt ops) :
    RdAt r P ops i v (a.put dst u) w ↔ RdAt r P ops i v a w := by
  unfold RdAt
  constructor
  · rintro ⟨o', hi', h'⟩
    rw [hi] at hi'; cases hi'
    exact ⟨o, hi, by rwa [semAt_put o hs a dst u h, wanted_put o a dst u h] at h'⟩
  · rintro ⟨o', hi', h'⟩
    rw [hi] at hi'; cases hi'
    exact ⟨o, hi, by rwa [semAt_put o hs a dst u h, wanted_put o a dst u h]⟩

theorem RdAt.defers {i : Nat} {v : Value} {a : Act} {w : World} {d : List Deferred} : RdAt r P ops i v { a with defers := d } w ↔ RdAt r P ops i v a w := Iff.rfl

/-- Operation j, whether or not i's value is already laid. -/
theorem opAt_put {j : Nat} {oj : Oper} {dst : Option Tmp} {v : Value} (hj : ops[j]? = some oj) (hsj : ∀ cs b, oj.op ≠ .select cs b)
    (h1 : ∀ d, dst = some d → d ∉ oj.looksAt ops) (h2 : ∀ d, dst = some d → oj.dst ≠ some d) {K : Act → World → Prop} {a : Act} {w : World}
    (h : opAt r P ops j K (a.put dst v) w) : opAt r P ops j (fun a' w' => K (a'.put dst v) w') a w := by
  unfold opAt at *
  simp only [hj] at *
  rw [wanted_put oj a dst v h1] at h
  split
  · rename_i hw
    rw [if_pos hw] at h
    unfold opW at *
    rw [semAt_put oj hsj a dst v h1] at h
    refine upon_mono (fun u w' hk => ?_) (fun d w' hk => ?_) h
    · rw [← Act.put_comm a v u h2]; exact hk
    · rw [← Act.put_comm _ v undef h2, ← Act.put_defers]; exact hk
  · rename_i hw
    rw [if_neg hw] at h
    rw [← Act.put_comm a v undef h2]; exact h
end

/- ### What may be checked of a region once and for all -/

/-- 'an j': operations that always lie ahead of j. -/
structure Sure (ops : Array Oper) (an : Nat → List Nat) : Prop where
  sel : Region.noSelect ops = true
  anc : ∀ (j : Nat) (o : Oper), ops[j]? = some o → ∀ i ∈ an j, ∃ e ∈ o.after, Region.binds .any e = true ∧ (e.on = i ∨ i ∈ an e.on)
  tmp : ∀ (i j : Nat) (oi oj : Oper), ops[i]? = some oi → ops[j]? = some oj → i ≠ j → ∀ d, oi.dst = some d → (d ∈ oj.looksAt ops → i ∈ an j ∨ j ∈ an i) ∧ (oj.dst = some d → i ∈ an j ∨ j ∈ an i)
  own : ∀ (i : Nat) (o : Oper) (d : Tmp), ops[i]? = some o → o.dst = some d → d ∉ o.looksAt ops

def sureB (ops : Array Oper) (an : Array (List Nat)) : Bool :=
  Region.noSelect ops &&
  ((List.range ops.size).all fun j => match ops[j]? with
    | none => true
    | some o => ((an.getD j []).all fun i => o.after.any fun e => Region.binds .any e && (e.on == i || (an.getD e.on []).contains i)) &&
      (match o.dst with | some d => !(o.looksAt ops).contains d | none => true) &&
      ((List.range ops.size).all fun i => i == j || match ops[i]? with
        | none => true
        | some oi => match oi.dst with
          | none => true
          | some d => (!(o.looksAt ops).contains d || (an.getD j []).contains i || (an.getD i []).contains j) && (o.dst != some d || (an.getD j []).contains i || (an.getD i []).contains j)))

theorem sure_of {ops : Array Oper} {an : Array (List Nat)} (h : sureB ops an = true) : Sure ops (fun j => an.getD j []) := by
  simp only [sureB, Bool.and_eq_true, List.all_eq_true, List.mem_range] at h
  obtain ⟨hsel, h⟩ := h
  have hlt : ∀ {j : Nat} {o : Oper}, ops[j]? = some o → j < ops.size := fun ho => (Array.getElem?_eq_some_iff.1 ho).1
  refine ⟨hsel, fun j o ho i hi => ?_, fun i j oi oj hoi hoj hne d hd => ?_, fun i o d ho hd => ?_⟩
  · have h1 := h j (hlt ho)
    simp only [ho, Bool.and_eq_true, List.all_eq_true] at h1
    have h2 := h1.1.1 i hi
    obtain ⟨e, he, hb⟩ := Array.any_eq_true'.1 h2
    simp only [Bool.and_eq_true, Bool.or_eq_true, beq_iff_eq, List.contains_iff_mem] at hb
    exact ⟨e, he, hb.1, hb.2⟩
  · have h1 := h j (hlt hoj)
    simp only [hoj, Bool.and_eq_true, List.all_eq_true] at h1
    have h2 := h1.2 i (List.mem_range.2 (hlt hoi))
    simp only [hoi, hd, Bool.or_eq_true, beq_iff_eq, Bool.and_eq_true, Bool.not_eq_true', bne_iff_ne, ne_eq] at h2
    rcases h2 with h2 | ⟨h2, h3⟩
    · exact absurd h2 hne
    · refine ⟨fun hm => ?_, fun hm => ?_⟩
      · rcases h2 with (h2 | h2) | h2
        · have : (oj.looksAt ops).contains d = true := by simpa using hm
          rw [this] at h2; cases h2
        · exact .inl (by simpa using h2)
        · exact .inr (by simpa using h2)
      · rcases h3 with (h3 | h3) | h3
        · exact absurd hm h3
        · exact .inl (by simpa using h3)
        · exact .inr (by simpa using h3)
  · have h1 := h i (hlt ho)
    simp only [ho, hd, Bool.and_eq_true, Bool.not_eq_true'] at h1
    intro hm
    have : (o.looksAt ops).contains d = true := by simpa using hm
    rw [this] at h1; exact absurd h1.1.2 (by simp)

section
variable {r : Option Nat} {P : Program} {ops : Array Oper} {Q : Exit → Act → World → Prop} {an : Nat → List Nat}

abbrev Pend := List (Nat × Value)
def Pend.left (an : Nat → List Nat) (S : Pend) (j : Nat) : Pend := S.filter fun p => !(an j).contains p.1

/-- Whatever order is picked from here on; the reads in S, which have come up early, stay what they are. -/
def wpR (r : Option Nat) (P : Program) (ops : Array Oper) (an : Nat → List Nat) (Q : Exit → Act → World → Prop) : Nat → Pend → Array Bool → Act → World → Prop
  | 0, _, listed, a, w => Region.ready .any ops listed = [] ∧ Q .normal a w
  | fuel + 1, S, listed, a, w =>
    (Region.ready .any ops listed = [] → Q .normal a w) ∧
    ∀ j ∈ Region.ready .any ops listed, opAt r P ops j (fun a' w' => (∀ p ∈ Pend.left an S j, RdAt r P ops p.1 p.2 a' w') ∧ wpR r P ops an Q fuel (Pend.left an S j) (listed.setIfInBounds j true) a' w') a w

theorem Pend.left_sub {S S' : Pend} (h : ∀ p ∈ S', p ∈ S) (j : Nat) : ∀ p ∈ Pend.left an S' j, p ∈ Pend.left an S j := fun p hp => by
  rw [Pend.left, List.mem_filter] at *
  exact ⟨h p hp.1, hp.2⟩

theorem wpR_sub : ∀ (fuel : Nat) {S S' : Pend} (_ : ∀ p ∈ S', p ∈ S) {listed : Array Bool} {a : Act} {w : World}, wpR r P ops an Q fuel S listed a w → wpR r P ops an Q fuel S' listed a w
  | 0, _, _, _, _, _, _, h => h
  | fuel + 1, _, _, hs, _, _, _, h => ⟨h.1, fun j hj => opAt_mono (fun _ _ ⟨h1, h2⟩ => ⟨fun p hp => h1 p (Pend.left_sub hs j p hp), wpR_sub fuel (Pend.left_sub hs j) h2⟩) (h.2 j hj)⟩

theorem wpR_any : ∀ (fuel : Nat) {S : Pend} {listed : Array Bool} {a : Act} {w : World}, wpR r P ops an Q fuel S listed a w → wpAnyIn (Fn r) 0 P .any ops Q fuel listed a w
  | 0, _, _, _, _, h => h
  | fuel + 1, _, _, _, _, h => ⟨h.1, fun j hj => wpOpIn_mono (fun _ _ h => wpR_any fuel h.2) (opAt_in Q (h.2 j hj))⟩

/-- What is listed is listed with all that lies ahead of it. -/
def Shut (ops : Array Oper) (an : Nat → List Nat) (listed : Array Bool) : Prop := listed.size = ops.size ∧ ∀ j, listed.getD j false = true → ∀ i ∈ an j, listed.getD i false = true

theorem Shut.ready (hS : Sure ops an) {listed : Array Bool} (hc : Shut ops an listed) {j : Nat} (hj : j ∈ Region.ready .any ops listed) : ∀ i ∈ an j, listed.getD i false = true := fun i hi => by
  obtain ⟨_, o, ho, hall⟩ := mem_ready.1 hj
  obtain ⟨e, he, hb, h | h⟩ := hS.anc j o ho i hi
  · exact h ▸ hall e he hb
  · exact hc.2 _ (hall e he hb) i h

theorem Shut.set (hS : Sure ops an) {listed : Array Bool} (hc : Shut ops an listed) {j : Nat} (hj : j ∈ Region.ready .any ops listed) : Shut ops an (listed.setIfInBounds j true) := by
  refine ⟨by simpa using hc.1, fun k hk i hi => ?_⟩
  by_cases hkj : j = k
  · subst hkj; exact getD_set_true (hc.ready hS hj i hi)
  · rw [getD_set_ne false hkj] at hk; exact getD_set_true (hc.2 k hk i hi)

theorem getD_two {listed : Array Bool} {i : Nat} (h : i < listed.size) : listed.getD i true = listed.getD i false := by simp [h]

/-- What operation i lays is looked at behind it alone. -/
def Strict (ops : Array Oper) (an : Nat → List Nat) (i : Nat) : Prop := ∀ (j : Nat) (oi oj : Oper), ops[i]? = some oi → ops[j]? = some oj → i ≠ j → ∀ d, oi.dst = some d → d ∈ oj.looksAt ops → i ∈ an j
def strictB (ops : Array Oper) (an : Array (List Nat)) (i : Nat) : Bool :=
  match ops[i]? with
  | none => true
  | some oi => match oi.dst with
    | none => true
    | some d => (List.range ops.size).all fun j => i == j || match ops[j]? with
      | none => true
      | some oj => !(oj.looksAt ops).contains d || (an.getD j []).contains i
theorem strict_of {an : Array (List Nat)} {i : Nat} (h : strictB ops an i = true) : Strict ops (fun j => an.getD j []) i := fun j oi oj hoi hoj hne d hd hm => by
  simp only [strictB, hoi, hd, List.all_eq_true, List.mem_range] at h
  have h1 := h j (Array.getElem?_eq_some_iff.1 hoj).1
  simp only [hoj, Bool.or_eq_true, beq_iff_eq, Bool.not_eq_true'] at h1
  rcases h1 with h1 | h1 | h1
  · exact absurd h1 hne
  · have : (oj.looksAt ops).contains d = true := by simpa using hm
    rw [this] at h1; cases h1
  · simpa using h1

/-- **A read may be taken now.** 'all': it reads the same in whatever world; else it is kept among the reads that must stay. -/
theorem wpR_take (hS : Sure ops an) {i : Nat} (hst : Strict ops an i) {oi : Oper} {v : Value} (hi : ops[i]? = some oi) (all : Bool) :
    ∀ (fuel : Nat) (S : Pend) (listed : Array Bool) (a : Act) (w : World), Shut ops an listed → (∀ p ∈ S, listed.getD p.1 false = true) → (∀ p ∈ S, RdAt r P ops p.1 p.2 a w) → i ∈ Region.ready .any ops listed → RdAt r P ops i v a w →
      (all = true → ∀ w, RdAt r P ops i v a w) → wpR r P ops an Q fuel (if all then S else (i, v) :: S) (listed.setIfInBounds i true) (a.put oi.dst v) w → wpR r P ops an Q (fuel + 1) S listed a w := by
  have hsel := Region.noSelect_spec hS.sel
  have hil : i < ops.size := (Array.getElem?_eq_some_iff.1 hi).1
  intro fuel
  induction fuel with
  | zero =>
    intro S listed a w hc hSl hSr hr hy hall H
    refine ⟨fun h => (by rw [h] at hr; cases hr), fun j hj => ?_⟩
    by_cases hji : j = i
    · subst hji
      refine hy.opAt hi ⟨fun p hp => ?_, ?_⟩
      · rw [Pend.left, List.mem_filter] at hp
        obtain ⟨o, ho, _⟩ := hSr p hp.1
        have hpj : p.1 ≠ j := fun e => by
          have h1 := hSl p hp.1
          rw [e] at h1
          have h0 := (mem_ready.1 hr).1
          rw [getD_two (by rw [hc.1]; exact hil), h1] at h0; cases h0
        refine (RdAt.put ho (fun cs b => hsel p.1 o cs b ho) (fun d hd hm => ?_)).2 (hSr p hp.1)
        have h1 := hst p.1 oi o hi ho (Ne.symm hpj) d hd hm
        have h2 := hc.2 p.1 (hSl p hp.1) j h1
        have h0 := (mem_ready.1 hr).1
        rw [getD_two (by rw [hc.1]; exact hil), h2] at h0; cases h0
      · exact H
    · have := ready_mono hj hji
      rw [H.1] at this
      cases this
  | succ fuel ih =>
    intro S listed a w hc hSl hSr hr hy hall H
    have hun : listed.getD i false = false := by rw [← getD_two (by rw [hc.1]; exact hil)]; exact (mem_ready.1 hr).1
    have lookp : ∀ p ∈ S, ∀ o, ops[p.1]? = some o → ∀ d, oi.dst = some d → d ∉ o.looksAt ops := fun p hp o ho d hd hm => by
      have hpj : i ≠ p.1 := fun e => by have h1 := hSl p hp; rw [← e, hun] at h1; cases h1
      have h1 := hst p.1 oi o hi ho hpj d hd hm
      have h2 := hc.2 p.1 (hSl p hp) i h1
      rw [hun] at h2; cases h2
    refine ⟨fun h => (by rw [h] at hr; cases hr), fun j hj => ?_⟩
    by_cases hji : j = i
    · subst hji
      refine hy.opAt hi ⟨fun p hp => ?_, ?_⟩
      · rw [Pend.left, List.mem_filter] at hp
        obtain ⟨o, ho, _⟩ := hSr p hp.1
        exact (RdAt.put ho (fun cs b => hsel p.1 o cs b ho) (lookp p hp.1 o ho)).2 (hSr p hp.1)
      · refine wpR_sub _ (fun p hp => ?_) H
        rw [Pend.left, List.mem_filter] at hp
        split
        · exact hp.1
        · exact List.mem_cons_of_mem _ hp.1
    · have h1 := H.2 j (ready_mono hj hji)
      obtain ⟨hjun, oj, hoj, hallj⟩ := mem_ready.1 hj
      have hij : i ∉ an j := fun hm => by have := hc.ready hS hj i hm; rw [hun] at this; cases this
      have hji' : j ∉ an i := fun hm => by
        have := hc.ready hS hr j hm
        rw [← getD_two (by rw [hc.1]; exact (Array.getElem?_eq_some_iff.1 hoj).1), hjun] at this; cases this
      have k1 : ∀ d, oi.dst = some d → d ∉ oj.looksAt ops := fun d hd hm => hij (hst j oi oj hi hoj (Ne.symm hji) d hd hm)
      have k2 : ∀ d, oi.dst = some d → oj.dst ≠ some d := fun d hd hm => by
        rcases (hS.tmp i j oi oj hi hoj (Ne.symm hji) d hd).2 hm with h | h
        · exact hij h
        · exact hji' h
      have k3 : ∀ d, oj.dst = some d → d ∉ oi.looksAt ops := fun d hd hm => ((hS.tmp j i oj oi hoj hi hji d hd).1 hm).elim hji' hij
      have h2 := opAt_put hoj (fun cs b => hsel j oj cs b hoj) k1 k2 h1
      -- operation j keeps what i reads, where i reads the same in whatever world
      have h3 : opAt r P ops j (fun a' w' => ((all = true → ∀ w, RdAt r P ops i v a' w) ∧ ((∀ p ∈ Pend.left an (if all then S else (i, v) :: S) j, RdAt r P ops p.1 p.2 (a'.put oi.dst v) w') ∧
          wpR r P ops an Q fuel (Pend.left an (if all then S else (i, v) :: S) j) ((listed.setIfInBounds i true).setIfInBounds j true) (a'.put oi.dst v) w'))) a w := by
        have keep : all = true → ∀ u w, RdAt r P ops i v (a.put oj.dst u) w := fun ha u w => (RdAt.put hi (fun cs b => hsel i oi cs b hi) k3).2 (hall ha w)
        unfold opAt at *
        simp only [hoj] at *
        split
        · rename_i hw
          rw [if_pos hw] at h2
          unfold opW at *
          exact upon_mono (fun u w' hk => ⟨fun ha w => keep ha u w, hk⟩) (fun d w' hk => ⟨fun ha w => (RdAt.put hi (fun cs b => hsel i oi cs b hi) k3).2 (hall ha w), hk⟩) h2
        · rename_i hw
          rw [if_neg hw] at h2
          exact ⟨fun ha w => keep ha _ w, h2⟩
      refine opAt_mono (fun a' w' ⟨ha, hb, hcn⟩ => ?_) h3
      have hrd : ∀ p ∈ Pend.left an S j, RdAt r P ops p.1 p.2 a' w' := fun p hp => by
        have hp' : p ∈ Pend.left an (if all then S else (i, v) :: S) j := by
          rw [Pend.left, List.mem_filter] at *
          refine ⟨?_, hp.2⟩
          split
          · exact hp.1
          · exact List.mem_cons_of_mem _ hp.1
        have h := hb p hp'
        rw [Pend.left, List.mem_filter] at hp
        obtain ⟨o, ho, _⟩ := id h
        exact (RdAt.put ho (fun cs b => hsel p.1 o cs b ho) (lookp p hp.1 o ho)).1 h
      have hyi : RdAt r P ops i v a' w' := by
        cases hall' : all with
        | true => exact ha hall' w'
        | false =>
          have hp' : (i, v) ∈ Pend.left an (if all then S else (i, v) :: S) j := by
            rw [Pend.left, List.mem_filter, hall']
            exact ⟨by simp, by simpa using hij⟩
          exact (RdAt.put hi (fun cs b => hsel i oi cs b hi) (fun d hd => hS.own i oi d hi hd)).1 (hb (i, v) hp')
      refine ⟨hrd, ih (Pend.left an S j) (listed.setIfInBounds j true) a' w' (hc.set hS hj) (fun p hp => ?_) hrd (ready_mono hr (Ne.symm hji)) hyi ha ?_⟩
      · rw [Pend.left, List.mem_filter] at hp; exact getD_set_true (hSl p hp.1)
      · rw [Array.setIfInBounds_comm _ _ hji]
        refine wpR_sub _ (fun p hp => ?_) hcn
        rw [Pend.left, List.mem_filter]
        split at hp
        · rw [Pend.left, List.mem_filter] at hp
          rename_i ha'
          exact ⟨by rw [if_pos ha']; exact hp.1, hp.2⟩
        · rename_i ha'
          rw [if_neg ha']
          rcases List.mem_cons.1 hp with rfl | hp
          · exact ⟨by simp, by simpa using hij⟩
          · rw [Pend.left, List.mem_filter] at hp
            exact ⟨List.mem_cons_of_mem _ hp.1, hp.2⟩
end
end Go.Bty

namespace Go.Bty
open Go

/-- What is in an option. -/
def OnSome {α : Type} (p : Option α) (K : α → Prop) : Prop :=
  match p with
  | some a => K a
  | none => False
theorem onSome_some {α : Type} {a : α} {K : α → Prop} : OnSome (some a) K = K a := rfl
theorem onSome_spec {α : Type} {p : Option α} {K : α → Prop} (h : OnSome p K) : ∃ a, p = some a ∧ K a := by
  cases p with
  | none => exact h.elim
  | some a => exact ⟨a, rfl, h⟩

/- ### Shapes of values -/
inductive S1 where
  | int (k : IntKind) | bool | str | ptr | slice | map | any
  deriving DecidableEq
inductive S2 where
  | one (s : S1) | agg (ss : List S1)
inductive Sh where
  | one (s : S2) | tup (ss : List S2)

def S1.ex : S1 → (Value → Prop) → Prop
  | .int k, K => ∃ n : Int, K (.int k n)
  | .bool, K => ∃ b : Bool, K (.bool b)
  | .str, K => ∃ s : ByteArray, K (.string s)
  | .ptr, K => ∃ a : Option Addr, K (.pointer a)
  | .slice, K => ∃ (a : Option Addr) (n c : Nat), K (.slice a n c)
  | .map, K => ∃ r : Option Nat, K (.map r)
  | .any, K => ∃ v : Value, K v

def exs : List S1 → (List Value → Prop) → Prop
  | [], K => K []
  | s :: ss, K => s.ex fun v => exs ss fun vs => K (v :: vs)

def S2.ex : S2 → (Value → Prop) → Prop
  | .one s, K => s.ex K
  | .agg ss, K => exs ss fun vs => K (.agg vs.toArray)

def exs2 : List S2 → (List Value → Prop) → Prop
  | [], K => K []
  | s :: ss, K => s.ex fun v => exs2 ss fun vs => K (v :: vs)

def Sh.ex : Sh → (Value → Prop) → Prop
  | .one s, K => s.ex K
  | .tup ss, K => exs2 ss fun vs => K (.tuple vs.toArray)

def S1.of : Value → S1
  | .int k _ => .int k
  | .bool _ => .bool
  | .string _ => .str
  | .pointer _ => .ptr
  | .slice .. => .slice
  | .map _ => .map
  | _ => .any

section
theorem S1.ex_imp {s : S1} {K : Value → Prop} (h : s.ex K) : ∃ v, K v := by
  cases s <;> simp only [S1.ex] at h
  case slice => obtain ⟨a, n, c, h⟩ := h; exact ⟨_, h⟩
  all_goals (obtain ⟨v, h⟩ := h; exact ⟨_, h⟩)
theorem exs_imp : ∀ {ss : List S1} {K : List Value → Prop}, exs ss K → ∃ vs, vs.length = ss.length ∧ K vs
  | [], _, h => ⟨[], rfl, h⟩
  | _ :: ss, _, h => by
    obtain ⟨v, h⟩ := S1.ex_imp h
    obtain ⟨vs, hl, h⟩ := exs_imp (ss := ss) h
    exact ⟨v :: vs, by simp [hl], h⟩
theorem S2.ex_imp {s : S2} {K : Value → Prop} (h : s.ex K) : ∃ v, K v := by
  cases s with
  | one s => exact S1.ex_imp h
  | agg ss => obtain ⟨vs, _, h⟩ := exs_imp h; exact ⟨_, h⟩
theorem exs2_imp : ∀ {ss : List S2} {K : List Value → Prop}, exs2 ss K → ∃ vs, K vs
  | [], _, h => ⟨[], h⟩
  | _ :: ss, _, h => by
    obtain ⟨v, h⟩ := S2.ex_imp h
    obtain ⟨vs, h⟩ := exs2_imp (ss := ss) h
    exact ⟨v :: vs, h⟩
theorem Sh.ex_imp {s : Sh} {K : Value → Prop} (h : s.ex K) : ∃ v, K v := by
  cases s with
  | one s => exact S2.ex_imp h
  | tup ss => obtain ⟨vs, h⟩ := exs2_imp h; exact ⟨_, h⟩
end

/- ### The environment -/
abbrev Env := List (Nat × Value)
def Env.get : Env → Nat → Option Value
  | [], _ => none
  | p :: ρ, t => bif Nat.beq p.1 t then some p.2 else Env.get ρ t
def Env.put (ρ : Env) (dst : Option Nat) (v : Value) : Env :=
  match dst with
  | some d => (d, v) :: ρ
  | none => ρ
def Env.drop (ρ : Env) (ts : List Nat) : Env := ρ.filter fun p => !(ts.any fun t => Nat.beq p.1 t)
def ev (ρ : Env) : Operand → Option Value
  | .tmp t => ρ.get t
  | .const v => some v
  | .global g => some (.pointer (some ⟨g, 0, none⟩))
  | .func f => some (.func (.func f) #[] #[])
def evs (ρ : Env) : List Operand → Option (List Value)
  | [] => some []
  | x :: xs => match ev ρ x with
    | some v => match evs ρ xs with
      | some vs => some (v :: vs)
      | none => none
    | none => none
def evp (ρ : Env) : List (Nat × Operand) → Option (List (Nat × Value))
  | [] => some []
  | (i, x) :: xs => match ev ρ x with
    | some v => match evp ρ xs with
      | some vs => some ((i, v) :: vs)
      | none => none
    | none => none
def vx (ρ : Env) (x : Operand) (K : Value → Prop) : Prop :=
  match ev ρ x with
  | some v => K v
  | none => False

structure Rel (N : Nat) (ρ : Env) (ds : List Nat) (a : Act) : Prop where
  size : a.tmps.size = N
  val : ∀ t v, ρ.get t = some v → a.tmps.getD t undef = v
  defs : a.defers = ds.map fun D => { target := .collected D, args := #[] }

theorem Rel.ev {N : Nat} {ρ : Env} {ds : List Nat} {a : Act} (h : Rel N ρ ds a) {x : Operand} {v : Value} (hx : ev ρ x = some v) : a.eval x = v := by
  cases x with
  | tmp t => exact h.val t v hx
  | const c => simpa [Bty.ev, Act.eval] using hx
  | global g => simpa [Bty.ev, Act.eval] using hx
  | func f => simpa [Bty.ev, Act.eval] using hx

theorem Rel.vx {N : Nat} {ρ : Env} {ds : List Nat} {a : Act} (h : Rel N ρ ds a) {x : Operand} {K : Value → Prop} (hx : vx ρ x K) : K (a.eval x) := by
  unfold Bty.vx at hx
  split at hx
  · rename_i v hv; rw [h.ev hv]; exact hx
  · exact hx.elim

theorem Rel.evs {N : Nat} {ρ : Env} {ds : List Nat} {a : Act} (h : Rel N ρ ds a) : ∀ {xs : List Operand} {vs : List Value}, evs ρ xs = some vs → xs.map a.eval = vs
  | [], vs, hx => by simpa [Bty.evs] using hx
  | x :: xs, vs, hx => by
    simp only [Bty.evs] at hx
    split at hx
    · rename_i v hv
      split at hx
      · rename_i us hu
        cases hx
        simp [h.ev hv, Rel.evs h hu]
      · cases hx
    · cases hx

theorem Rel.evp {N : Nat} {ρ : Env} {ds : List Nat} {a : Act} (h : Rel N ρ ds a) : ∀ {xs : List (Nat × Operand)} {vs : List (Nat × Value)}, evp ρ xs = some vs → xs.map (fun p => (p.1, a.eval p.2)) = vs
  | [], vs, hx => by simpa [Bty.evp] using hx
  | (i, x) :: xs, vs, hx => by
    simp only [Bty.evp] at hx
    split at hx
    · rename_i v hv
      split at hx
      · rename_i us hu
        cases hx
        simp [h.ev hv, Rel.evp h hu]
      · cases hx
    · cases hx

theorem Env.get_put {ρ : Env} {d t : Nat} {v u : Value} (h : Env.get ((d, v) :: ρ) t = some u) : (d = t ∧ u = v) ∨ (d ≠ t ∧ ρ.get t = some u) := by
  simp only [Env.get] at h
  cases hb : Nat.beq d t with
  | true => rw [hb] at h; exact .inl ⟨Nat.eq_of_beq_eq_true hb, by simpa using h.symm⟩
  | false => rw [hb] at h; exact .inr ⟨Nat.ne_of_beq_eq_false hb, by simpa using h⟩

theorem Rel.put {N : Nat} {ρ : Env} {ds : List Nat} {a : Act} (h : Rel N ρ ds a) {dst : Option Nat} (hd : ∀ d, dst = some d → d < N) (v : Value) : Rel N (ρ.put dst v) ds (a.put dst v) := by
  cases dst with
  | none => exact h
  | some d =>
    have hlt := hd d rfl
    refine ⟨by simp [Act.put, h.size], fun t u hu => ?_, h.defs⟩
    rcases Env.get_put hu with ⟨rfl, rfl⟩ | ⟨hne, hu⟩
    · simp [Act.put, h.size, hlt]
    · have := h.val t u hu
      simp only [Act.put, Array.getD_eq_getD_getElem?] at *
      rw [Array.getElem?_setIfInBounds_ne hne]; exact this

theorem Rel.forget {N : Nat} {ρ ρ' : Env} {ds : List Nat} {a : Act} (h : Rel N ρ ds a) (hs : ∀ t v, ρ'.get t = some v → ρ.get t = some v) : Rel N ρ' ds a :=
  ⟨h.size, fun t v hv => h.val t v (hs t v hv), h.defs⟩

theorem Env.get_drop {ρ : Env} {ts : List Nat} {t : Nat} {v : Value} : (ρ.drop ts).get t = some v → ρ.get t = some v ∧ t ∉ ts := by
  induction ρ with
  | nil => intro h; cases h
  | cons p ρ ih =>
    intro h
    unfold Env.drop at h
    rw [List.filter_cons] at h
    have key : ∀ t', (ts.any fun t => Nat.beq t' t) = true ↔ t' ∈ ts := fun t' => by
      simp only [List.any_eq_true]
      constructor
      · rintro ⟨x, hx, hb⟩; rw [Nat.eq_of_beq_eq_true hb]; exact hx
      · intro hm; exact ⟨t', hm, by simp⟩
    split at h
    · rename_i hp
      obtain ⟨p1, p2⟩ := p
      rcases Env.get_put h with ⟨rfl, rfl⟩ | ⟨hne, hv⟩
      · refine ⟨by simp [Env.get], fun hm => ?_⟩
        have := (key p1).2 hm
        simp only [this] at hp; cases hp
      · obtain ⟨h1, h2⟩ := ih hv
        refine ⟨?_, h2⟩
        simp only [Env.get]
        have : Nat.beq p1 t = false := by
          cases hb : Nat.beq p1 t with
          | true => exact absurd (Nat.eq_of_beq_eq_true hb) hne
          | false => rfl
        rw [this]; exact h1
    · rename_i hp
      obtain ⟨h1, h2⟩ := ih h
      refine ⟨?_, h2⟩
      obtain ⟨p1, p2⟩ := p
      have hm : p1 ∈ ts := (key p1).1 (by simpa using hp)
      simp only [Env.get]
      have : Nat.beq p1 t = false := by
        cases hb : Nat.beq p1 t with
        | true => rw [Nat.eq_of_beq_eq_true hb] at hm; exact absurd hm h2
        | false => rfl
      rw [this]; exact h1

/- ### Facts of types -/
def aggB (P : Program) (t : TypeId) : Option Bool :=
  match P.underlying t with
  | some (.struct _) => some true
  | some (.array _ _) => some true
  | some _ => some false
  | none => none
def szOf (P : Program) (t : TypeId) : Option Nat := (P.info? t).map (·.size)
def zeroOf (P : Program) (t : TypeId) : Option Value := (P.info? t).bind (·.zero)
/-- The shape of a variable of a type, with its size. -/
def shOf (P : Program) (t : TypeId) : Option S2 :=
  match aggB P t with
  | none => none
  | some agg => match P.info? t with
    | none => none
    | some i => match i.zero with
      | none => none
      | some z => match agg, z with
        | true, .agg cs => bif Nat.beq cs.size i.size then some (.agg (cs.toList.map S1.of)) else none
        | true, _ => none
        | false, .agg _ => none
        | false, z => bif Nat.beq i.size 1 then some (.one (S1.of z)) else none
def shsOf (P : Program) : List TypeId → Option (List S2)
  | [] => some []
  | t :: ts => match shOf P t with
    | some s => match shsOf P ts with
      | some ss => some (s :: ss)
      | none => none
    | none => none
def shOfT (P : Program) (t : TypeId) : Option Sh :=
  match P.underlying t with
  | some (.tuple ts) => match shsOf P ts.toList with
    | some ss => some (.tup ss)
    | none => none
  | _ => match shOf P t with
    | some s => some (.one s)
    | none => none
/-- A field: where it begins, how many cells it has, whether it is an aggregate. -/
def fieldOf (P : Program) (s : TypeId) (i : Nat) : Option (Nat × Nat × Bool) :=
  match P.underlying s with
  | some (.struct fs) => match fs[i]? with
    | some f => match szOf P f.type with
      | some n => match aggB P f.type with
        | some g => some (f.offset, n, g)
        | none => none
      | none => none
    | none => none
  | _ => none

/- ### Memory words -/
/-- The cells from a on hold these values. -/
def SpanAt (w : World) (a : Addr) (vs : List Value) : Prop := ∀ i v, vs[i]? = some v → w.cell? (a.add i) = some v
/-- The n cells from a on may be written. -/
def Wr (w : World) (a : Addr) (n : Nat) : Prop := ∀ i, i < n → (∃ u, w.cell? (a.add i) = some u) ∧ w.frozen? (a.add i) = false
def setSpanFrom (w : World) (a : Addr) (i : Nat) : List Value → World
  | [] => w
  | v :: vs => setSpanFrom (w.setCell (a.add i) v) a (i + 1) vs
def setSpan (w : World) (a : Addr) (vs : List Value) : World := setSpanFrom w a 0 vs
end Go.Bty

namespace Go.Bty
open Go

def isNilV : Value → Option Bool
  | .nilIface => some true
  | .iface _ _ => some false
  | .nilFunc => some true
  | .func _ _ _ => some false
  | _ => none
def isConstO : Operand → Bool
  | .const _ => true
  | _ => false
def seq (a b : ByteArray) : Bool := a.toList == b.toList
def slt (a b : ByteArray) : Bool := Op.bytesLess a.toList b.toList

def vbinI' (op : BinOp) (k : IntKind) (m n : Int) (K : Value → Prop) : Prop :=
  match op with
  | .add => K (.int k (k.wrap (m + n)))
  | .sub => K (.int k (k.wrap (m - n)))
  | .mul => K (.int k (k.wrap (m * n)))
  | .quo => n ≠ 0 ∧ K (.int k (k.wrap (m.tdiv n)))
  | .rem => n ≠ 0 ∧ K (.int k (m.tmod n))
  | .and => K (.int k (k.wrap ((BitVec.ofInt k.bits m &&& BitVec.ofInt k.bits n).toNat : Int)))
  | .or => K (.int k (k.wrap ((BitVec.ofInt k.bits m ||| BitVec.ofInt k.bits n).toNat : Int)))
  | .xor => K (.int k (k.wrap ((BitVec.ofInt k.bits m ^^^ BitVec.ofInt k.bits n).toNat : Int)))
  | .eql => K (.bool (m == n))
  | .neq => K (.bool (m != n))
  | .lss => K (.bool (decide (m < n)))
  | .leq => K (.bool (decide (m ≤ n)))
  | .gtr => K (.bool (decide (m > n)))
  | .geq => K (.bool (decide (m ≥ n)))
  | _ => False
def vbinI (op : BinOp) (k : IntKind) (m : Int) (k' : IntKind) (n : Int) (K : Value → Prop) : Prop :=
  match op with
  | .shl => 0 ≤ n ∧ K (.int k (k.wrap (m * 2 ^ (min n.toNat k.bits))))
  | .shr => 0 ≤ n ∧ K (.int k (m.fdiv (2 ^ (min n.toNat k.bits))))
  | op => bif decide (k = k') then vbinI' op k m n K else False
def vbinS (op : BinOp) (s u : ByteArray) (K : Value → Prop) : Prop :=
  match op with
  | .add => ((s.size + u.size : Nat) : Int) ≤ IntKind.i64.max ∧ K (.string (s ++ u))
  | .eql => K (.bool (seq s u))
  | .neq => K (.bool !(seq s u))
  | .lss => K (.bool (slt s u))
  | .leq => K (.bool (slt s u || seq s u))
  | .gtr => K (.bool !(slt s u || seq s u))
  | .geq => K (.bool !(slt s u))
  | _ => False
def veq (op : BinOp) (b : Bool) (K : Value → Prop) : Prop :=
  match op with
  | .eql => K (.bool b)
  | .neq => K (.bool !b)
  | _ => False
def ptrT (d : Option TypeDesc) : Bool := match d with | some (.pointer _) => true | _ => false
def sliceT (d : Option TypeDesc) : Bool := match d with | some (.slice _) => true | _ => false
def mapT (d : Option TypeDesc) : Bool := match d with | some (.map _ _) => true | _ => false
def ifaceT (d : Option TypeDesc) : Bool := match d with | some (.interface _) => true | _ => false
def funcT (d : Option TypeDesc) : Bool := match d with | some (.func _ _ _) => true | _ => false
def boolT (d : Option TypeDesc) : Bool := match d with | some .bool => true | _ => false
def vbin (P : Program) (op : BinOp) (t : TypeId) (y : Operand) (a b : Value) (K : Value → Prop) : Prop :=
  match b with
  | .nilIface => bif isConstO y && ifaceT (P.underlying t) then ∃ c, isNilV a = some c ∧ (a ≠ .nilFunc ∧ (∀ f x z, a ≠ .func f x z)) ∧ veq op c K else False
  | .nilFunc => bif funcT (P.underlying t) then ∃ c, isNilV a = some c ∧ (a ≠ .nilIface ∧ (∀ u v, a ≠ .iface u v)) ∧ veq op c K else False
  | .pointer none => match a with
    | .pointer p => bif ptrT (P.underlying t) then veq op p.isNone K else False
    | _ => False
  | .slice none _ _ => match a with
    | .slice p _ _ => bif sliceT (P.underlying t) then veq op p.isNone K else False
    | _ => False
  | .map none => match a with
    | .map p => bif mapT (P.underlying t) then veq op p.isNone K else False
    | _ => False
  | .int k' n => match a with
    | .int k m => vbinI op k m k' n K
    | _ => False
  | .string u => match a with
    | .string s => vbinS op s u K
    | _ => False
  | .bool q => match a with
    | .bool p => bif boolT (P.underlying t) then veq op (p == q) K else False
    | _ => False
  | _ => False
end Go.Bty
namespace Go.Bty
open Go
/-- 'binOp' goes through, in whatever world. -/
def AllW (P : Program) (s : Sem Value) (K : Value → Prop) : Prop := ∃ v, K v ∧ ∀ w, s.run P w = .ok v w

theorem AllW.mk {P : Program} {s : Sem Value} {K : Value → Prop} {v : Value} (h : K v) (hs : ∀ w, s.run P w = .ok v w) : AllW P s K := ⟨v, h, hs⟩

theorem intBin_sound {P : Program} {op : BinOp} {t : TypeId} {k k' : IntKind} {m n : Int} {K : Value → Prop} (h : vbinI op k m k' n K) :
    AllW P (binOp op t (.int k m) (.int k' n)) K := by
  unfold vbinI at h
  cases op <;> simp only at h
  case shl => exact .mk h.2 fun w => by simp [binOp, Op.shift, Int.not_lt.2 h.1]
  case shr => exact .mk h.2 fun w => by simp [binOp, Op.shift, Int.not_lt.2 h.1]
  all_goals
    cases hk : decide (k = k') with
    | false => rw [hk] at h; exact h.elim
    | true =>
      rw [hk] at h
      obtain rfl : k = k' := of_decide_eq_true hk
      simp only [cond_true, vbinI'] at h <;> first
        | exact .mk h fun w => by simp [binOp, Op.intArith, Op.intBits, Op.intCmp]
        | exact .mk h.2 fun w => by simp [binOp, Op.intDiv, h.1]

theorem strBin_sound {P : Program} {op : BinOp} {t : TypeId} {s u : ByteArray} {K : Value → Prop} (h : vbinS op s u K) :
    AllW P (binOp op t (.string s) (.string u)) K := by
  unfold vbinS at h
  cases op <;> simp only at h
  case add =>
    have h1 : ¬ (((s.size + u.size : Nat) : Int) > IntKind.i64.max) := by have := h.1; omega
    exact .mk h.2 fun w => by simp only [binOp, Op.stringOp]; rw [if_neg h1]; rfl
  all_goals first
    | exact .mk h fun w => by simp [binOp, Op.stringOp, seq, slt]
    | exact h.elim

theorem eqGuard_plain {P : Program} {op : BinOp} {t : TypeId} {x y : Operand} {a b : Value} (h1 : ∀ cs, b ≠ .agg cs) (h2 : b = .nilIface → isConstO y = true) (w : World) :
    (eqGuard op t x y a b).run P w = .ok () w := by
  unfold eqGuard
  have key : ∀ s : Sem Unit, (∀ w, s.run P w = .ok () w) → ((if (!(match op with | .eql | .neq => true | _ => false)) = true then pure () else s : Sem Unit)).run P w = .ok () w := fun s hs => by
    cases op <;> first | rfl | exact hs w
  refine key _ fun w => ?_
  cases b with
  | agg cs => exact absurd rfl (h1 cs)
  | nilIface =>
    have hy := h2 rfl
    cases y <;> simp only [isConstO, Bool.false_eq_true] at hy
    cases a <;> simp
  | _ => cases a <;> rfl

theorem run_underlying {P : Program} {t : TypeId} {d : TypeDesc} (h : P.underlying t = some d) (w : World) : (underlying t).run P w = .ok d w := by simp [underlying, h]

theorem equal_bool {P : Program} {t : TypeId} (h : boolT (P.underlying t) = true) (p q : Bool) (w : World) : (Op.equal t (.bool p) (.bool q)).run P w = .ok (p == q) w := by
  cases hu : P.underlying t with
  | none => rw [hu] at h; cases h
  | some d =>
    rw [hu] at h
    cases d <;> simp only [boolT, Bool.false_eq_true] at h
    unfold Op.equal
    rw [show Op.maxDepth = 9999 + 1 from rfl, Op.equalIn, Sem.run_bind, run_underlying hu]
    rfl
theorem equal_ptr {P : Program} {t : TypeId} (h : ptrT (P.underlying t) = true) (p : Option Addr) (w : World) : (Op.equal t (.pointer p) (.pointer none)).run P w = .ok p.isNone w := by
  cases hu : P.underlying t with
  | none => rw [hu] at h; cases h
  | some d =>
    rw [hu] at h
    cases d <;> simp only [ptrT, Bool.false_eq_true] at h
    unfold Op.equal
    rw [show Op.maxDepth = 9999 + 1 from rfl, Op.equalIn, Sem.run_bind, run_underlying hu]
    cases p <;> rfl
theorem equal_slice {P : Program} {t : TypeId} (h : sliceT (P.underlying t) = true) (p : Option Addr) (n c m d : Nat) (w : World) : (Op.equal t (.slice p n c) (.slice none m d)).run P w = .ok p.isNone w := by
  cases hu : P.underlying t with
  | none => rw [hu] at h; cases h
  | some d =>
    rw [hu] at h
    cases d <;> simp only [sliceT, Bool.false_eq_true] at h
    unfold Op.equal
    rw [show Op.maxDepth = 9999 + 1 from rfl, Op.equalIn, Sem.run_bind, run_underlying hu]
    cases p <;> rfl
theorem equal_map {P : Program} {t : TypeId} (h : mapT (P.underlying t) = true) (p : Option Nat) (w : World) : (Op.equal t (.map p) (.map none)).run P w = .ok p.isNone w := by
  cases hu : P.underlying t with
  | none => rw [hu] at h; cases h
  | some d =>
    rw [hu] at h
    cases d <;> simp only [mapT, Bool.false_eq_true] at h
    unfold Op.equal
    rw [show Op.maxDepth = 9999 + 1 from rfl, Op.equalIn, Sem.run_bind, run_underlying hu]
    cases p <;> rfl
theorem equal_iface {P : Program} {t : TypeId} (h : ifaceT (P.underlying t) = true) {a : Value} {c : Bool} (hn : isNilV a = some c) (h1 : a ≠ .nilFunc) (h2 : ∀ f x z, a ≠ .func f x z) (w : World) : (Op.equal t a .nilIface).run P w = .ok c w := by
  cases hu : P.underlying t with
  | none => rw [hu] at h; cases h
  | some d =>
    rw [hu] at h
    cases d <;> simp only [ifaceT, Bool.false_eq_true] at h
    unfold Op.equal
    rw [show Op.maxDepth = 9999 + 1 from rfl, Op.equalIn, Sem.run_bind, run_underlying hu]
    cases a <;> simp only [isNilV, Option.some.injEq, reduceCtorEq] at hn
    case iface => subst hn; rfl
    case nilIface => subst hn; rfl
    case nilFunc => exact absurd rfl h1
    case func f x z => exact absurd rfl (h2 f x z)
theorem equal_func {P : Program} {t : TypeId} (h : funcT (P.underlying t) = true) {a : Value} {c : Bool} (hn : isNilV a = some c) (h1 : a ≠ .nilIface) (h2 : ∀ u v, a ≠ .iface u v) (w : World) : (Op.equal t a .nilFunc).run P w = .ok c w := by
  cases hu : P.underlying t with
  | none => rw [hu] at h; cases h
  | some d =>
    rw [hu] at h
    cases d <;> simp only [funcT, Bool.false_eq_true] at h
    unfold Op.equal
    rw [show Op.maxDepth = 9999 + 1 from rfl, Op.equalIn, Sem.run_bind, run_underlying hu]
    cases a <;> simp only [isNilV, Option.some.injEq, reduceCtorEq] at hn
    case func => subst hn; rfl
    case nilFunc => subst hn; rfl
    case nilIface => exact absurd rfl h1
    case iface u v => exact absurd rfl (h2 u v)

theorem veq_sound {P : Program} {op : BinOp} {t : TypeId} {a b : Value} {c : Bool} {K : Value → Prop} (h : veq op c K) (he : ∀ w, (Op.equal t a b).run P w = .ok c w)
    (hb : ∀ w, (binOp .eql t a b).run P w = (do pure (Value.bool (← Op.equal t a b)) : Sem Value).run P w) (hb' : ∀ w, (binOp .neq t a b).run P w = (do pure (Value.bool (!(← Op.equal t a b))) : Sem Value).run P w) :
    AllW P (binOp op t a b) K := by
  cases op <;> simp only [veq] at h
  case eql => exact .mk h fun w => by rw [hb, Sem.run_bind, he]; rfl
  case neq => exact .mk h fun w => by rw [hb', Sem.run_bind, he]; rfl
  all_goals exact h.elim

theorem bin_sound {P : Program} {op : BinOp} {t : TypeId} {x y : Operand} {a b : Value} {K : Value → Prop} (h : vbin P op t y a b K) :
    AllW P (do eqGuard op t x y a b; binOp op t a b) K := by
  have hg : (∀ cs, b ≠ .agg cs) ∧ (b = .nilIface → isConstO y = true) := by
    unfold vbin at h
    constructor
    · rintro cs rfl; exact h.elim
    · rintro rfl
      simp only at h
      cases hc : isConstO y with
      | true => rfl
      | false => rw [hc] at h; exact h.elim
  suffices hs : AllW P (binOp op t a b) K by
    obtain ⟨v, hv, hw⟩ := hs
    exact ⟨v, hv, fun w => by simp only [Sem.run_bind, eqGuard_plain hg.1 hg.2 w, Result.andThen_ok, hw]⟩
  unfold vbin at h
  split at h
  · cases hc : isConstO y && ifaceT (P.underlying t) with
    | false => rw [hc] at h; exact h.elim
    | true =>
      rw [hc] at h
      obtain ⟨c, hn, ⟨hx1, hx2⟩, h⟩ := h
      simp only [Bool.and_eq_true] at hc
      exact veq_sound h (equal_iface hc.2 hn hx1 hx2) (fun w => by cases a <;> first | rfl | (simp [isNilV] at hn)) (fun w => by cases a <;> first | rfl | (simp [isNilV] at hn))
  · cases hc : funcT (P.underlying t) with
    | false => rw [hc] at h; exact h.elim
    | true =>
      rw [hc] at h
      obtain ⟨c, hn, ⟨hx1, hx2⟩, h⟩ := h
      exact veq_sound h (equal_func hc hn hx1 hx2) (fun w => by cases a <;> first | rfl | (simp [isNilV] at hn)) (fun w => by cases a <;> first | rfl | (simp [isNilV] at hn))
  · split at h
    · cases hc : ptrT (P.underlying t) with
      | false => rw [hc] at h; exact h.elim
      | true => rw [hc] at h; exact veq_sound h (equal_ptr hc _) (fun _ => rfl) (fun _ => rfl)
    · exact h.elim
  · split at h
    · cases hc : sliceT (P.underlying t) with
      | false => rw [hc] at h; exact h.elim
      | true => rw [hc] at h; exact veq_sound h (equal_slice hc _ _ _ _ _) (fun _ => rfl) (fun _ => rfl)
    · exact h.elim
  · split at h
    · cases hc : mapT (P.underlying t) with
      | false => rw [hc] at h; exact h.elim
      | true => rw [hc] at h; exact veq_sound h (equal_map hc _) (fun _ => rfl) (fun _ => rfl)
    · exact h.elim
  · split at h
    · exact intBin_sound h
    · exact h.elim
  · split at h
    · exact strBin_sound h
    · exact h.elim
  · split at h
    · cases hc : boolT (P.underlying t) with
      | false => rw [hc] at h; exact h.elim
      | true => rw [hc] at h; exact veq_sound h (equal_bool hc _ _) (fun _ => rfl) (fun _ => rfl)
    · exact h.elim
  · exact h.elim
end Go.Bty

namespace Go.Bty
open Go

def isI (K : IntKind → Int → Prop) : Value → Prop
  | .int k n => K k n
  | _ => False
/-- A bound of a slice: left out, or given. -/
def vbd (ρ : Env) (x : Option Operand) (dflt bound : Nat) (K : Nat → Prop) : Prop :=
  match x with
  | none => K dflt
  | some x => vx ρ x (isI fun _ i => 0 ≤ i ∧ i ≤ (bound : Int) ∧ K i.toNat)
def offA (a : Option Addr) (m l sz : Nat) : Option Addr := if m = l then a else a.map (·.add (l * sz))
def offB (a : Addr) (m l sz : Nat) : Addr := if m = l then a else a.add (l * sz)
def strT (d : Option TypeDesc) : Bool := match d with | some .string => true | _ => false
def vcv (ρ : Env) (s d : Option TypeDesc) (x : Operand) (K : Value → Prop) : Prop :=
  match d with
  | some (.int k) => match s with
    | some _ => vx ρ x (isI fun _ n => K (.int k (k.wrap n)))
    | none => False
  | some .string => bif strT s then vx ρ x fun v => match v with
      | .string u => K (.string u)
      | _ => False
    else False
  | _ => False
def mx2 (a b : Value) (K : Value → Prop) : Prop := match a, b with
  | .int k m, .int _ n => K (.int k (if n > m then n else m))
  | _, _ => False
def mn2 (a b : Value) (K : Value → Prop) : Prop := match a, b with
  | .int k m, .int _ n => K (.int k (if n < m then n else m))
  | _, _ => False
def vlenS (K : Value → Prop) : Value → Prop
  | .string s => K (.int .i64 s.size)
  | _ => False
def vlenL (K : Value → Prop) : Value → Prop
  | .slice _ n _ => K (.int .i64 n)
  | _ => False
def vcap (K : Value → Prop) : Value → Prop
  | .slice _ _ c => K (.int .i64 c)
  | _ => False
def structFields (P : Program) : List Field → Option (List (Nat × Nat))
  | [] => some []
  | f :: fs => match szOf P f.type with
    | some n => match structFields P fs with
      | some l => some ((f.offset, n) :: l)
      | none => none
    | none => none

def arrT (d : Option TypeDesc) : Option (Nat × TypeId) := match d with | some (.array n e) => some (n, e) | _ => none
def one1 (P : Program) (e : TypeId) : Bool := match szOf P e, aggB P e with
  | some n, some g => Nat.beq n 1 && !g
  | _, _ => false
def vp (P : Program) (ρ : Env) (o : Op) (K : Value → Prop) : Prop :=
  match o with
  | .move x => vx ρ x K
  | .assign x => vx ρ x K
  | .pick c a b => vx ρ c fun c => vx ρ a fun a => vx ρ b fun b => match c with
    | .bool c => K (bif c then a else b)
    | _ => False
  | .nilCheck x => vx ρ x fun v => match v with
    | .pointer p => ∃ a, p = some a ∧ K (.pointer (some a))
    | _ => False
  | .binOp op t x y _ => vx ρ x fun a => vx ρ y fun b => vbin P op t y a b K
  | .unOp op _ x => vx ρ x fun a => match op, a with
    | .neg, .int k n => K (.int k (k.wrap (0 - n)))
    | .not, .bool b => K (.bool !b)
    | _, _ => False
  | .convert s d x => vcv ρ (P.underlying s) (P.underlying d) x K
  | .fieldAddr s x i => match fieldOf P s i with
    | some (off, n, _) => bif Nat.ble 1 n then vx ρ x fun v => match v with
        | .pointer q => OnSome q fun a => K (.pointer (some (a.add off)))
        | _ => False
      else False
    | none => False
  | .field s x i => match fieldOf P s i with
    | some (off, n, g) => vx ρ x fun v => match v with
      | .agg cs => bif g then K (.agg ((cs.toList.drop off).take n).toArray) else match cs.toList[off]? with
        | some u => K u
        | none => False
      | _ => False
    | none => False
  | .indexAddr t x ix => match P.underlying t with
    | some (.array len e) => match szOf P e with
      | some sz => vx ρ x fun v => vx ρ ix fun j => match v, j with
        | .pointer q, .int _ i => OnSome q fun a => 0 ≤ i ∧ i < (len : Int) ∧ K (.pointer (some (a.add (i.toNat * sz))))
        | _, _ => False
      | none => False
    | some (.slice e) => match szOf P e with
      | some sz => vx ρ x fun v => vx ρ ix fun j => match v, j with
        | .slice b n _, .int _ i => ∃ a, b = some a ∧ 0 ≤ i ∧ i < (n : Int) ∧ K (.pointer (some (a.add (i.toNat * sz))))
        | _, _ => False
      | none => False
    | _ => False
  | .index t x ix => bif strT (P.underlying t) then vx ρ x fun v => vx ρ ix fun j => match v, j with
      | .string s, .int _ i => 0 ≤ i ∧ ∃ b, s[i.toNat]? = some b ∧ K (.int .u8 b.toNat)
      | _, _ => False
    else match arrT (P.underlying t) with
      | some (len, e) => match shOf P e with
        | some (.one s) => bif one1 P e then vx ρ x fun v => vx ρ ix fun j => match v, j with
            | .agg cs, .int _ i => 0 ≤ i ∧ i < (len : Int) ∧ s.ex fun u => cs.toList[i.toNat]? = some u ∧ K u
            | _, _ => False
          else False
        | _ => False
      | none => False
  | .slice t x lo hi mx => match P.underlying t with
    | some .string => match mx with
      | none => vx ρ x fun v => match v with
        | .string s => vbd ρ hi s.size s.size fun h => vbd ρ lo 0 h fun l => K (.string (s.extract l h))
        | _ => False
      | some _ => False
    | some (.slice e) => match szOf P e with
      | some sz => match mx with
        | none => vx ρ x fun v => match v with
          | .slice a n c => vbd ρ hi n c fun h => vbd ρ lo 0 h fun l => K (.slice (offA a c l sz) (h - l) (c - l))
          | _ => False
        | some mx => vx ρ x fun v => match v with
          | .slice a n c => vbd ρ (some mx) c c fun m => vbd ρ hi n m fun h => vbd ρ lo 0 h fun l => bif hi.isSome then K (.slice (offA a m l sz) (h - l) (m - l)) else False
          | _ => False
      | none => False
    | some (.array n e) => match szOf P e with
      | some sz => match mx with
        | none => vx ρ x fun v => match v with
          | .pointer q => OnSome q fun a => vbd ρ hi n n fun h => vbd ρ lo 0 h fun l => K (.slice (some (offB a n l sz)) (h - l) (n - l))
          | _ => False
        | some _ => False
      | none => False
    | _ => False
  | .extract x i => vx ρ x fun v => match v with
    | .tuple vs => match vs.toList[i]? with
      | some u => K u
      | none => False
    | _ => False
  | .makeInterface t x => match P.underlying t with
    | some (.interface _) => False
    | some _ => vx ρ x fun v => K (.iface t v)
    | none => False
  | .makeFunc fn fs cs => match evs ρ fs.toList with
    | some us => match evs ρ cs.toList with
      | some vs => K (.func fn us.toArray vs.toArray)
      | none => False
    | none => False
  | .build t ps => match zeroOf P t with
    | some z => match evp ρ ps.toList with
      | some qs => match P.underlying t with
        | some (.struct fs) => match structFields P fs.toList with
          | some pl => match Instr.fill (fun i => pl[i]?) z.cells qs with
            | some cs => K (.agg cs.toList.toArray)
            | none => False
          | none => False
        | some (.array _ e) => match szOf P e with
          | some sz => match Instr.fill (fun i => some (i * sz, sz)) z.cells qs with
            | some cs => K (.agg cs.toList.toArray)
            | none => False
          | none => False
        | _ => False
      | none => False
    | none => False
  | .call { callee := .builtin .len, args, argTypes } => match args.toList, argTypes.toList with
    | [x], t :: _ => match P.underlying t with
      | some .string => vx ρ x (vlenS K)
      | some (.slice _) => vx ρ x (vlenL K)
      | _ => False
    | _, _ => False
  | .call { callee := .builtin .cap, args, argTypes } => match args.toList, argTypes.toList with
    | [x], t :: _ => bif sliceT (P.underlying t) then vx ρ x (vcap K) else False
    | _, _ => False
  | .call { callee := .builtin .max, args, .. } => match args.toList with
    | [x, y] => vx ρ x fun a => vx ρ y fun b => mx2 a b K
    | _ => False
  | .call { callee := .builtin .min, args, .. } => match args.toList with
    | [x, y] => vx ρ x fun a => vx ρ y fun b => mn2 a b K
    | _ => False
  | _ => False

/-- Whether an operation is one of 'vp's. -/
def isP : Op → Bool
  | .move _ | .assign _ | .pick .. | .nilCheck _ | .binOp .. | .unOp .. | .fieldAddr .. | .field .. | .indexAddr .. | .index .. | .slice .. | .extract .. | .makeInterface .. | .makeFunc .. | .build .. => true
  | .call { callee := .builtin .cap, .. } | .call { callee := .builtin .max, .. } | .call { callee := .builtin .min, .. } => true
  | _ => false
end Go.Bty

namespace Go.Bty
open Go

def AllN (P : Program) (s : Sem Next) (K : Value → Prop) : Prop := ∃ v, K v ∧ ∀ w, s.run P w = .ok (.value v) w
theorem AllN.mk {P : Program} {s : Sem Next} {K : Value → Prop} {v : Value} (h : K v) (hs : ∀ w, s.run P w = .ok (.value v) w) : AllN P s K := ⟨v, h, hs⟩
theorem AllN.of {P : Program} {s : Sem Value} {K : Value → Prop} (h : AllW P s K) : AllN P (do pure (Next.value (← s))) K :=
  let ⟨v, hv, hs⟩ := h
  ⟨v, hv, fun w => by simp only [Sem.run_bind, hs, Result.andThen_ok, Sem.run_pure]⟩

theorem isI_spec {K : IntKind → Int → Prop} {v : Value} (h : isI K v) : ∃ k n, v = .int k n ∧ K k n := by
  cases v <;> simp only [isI] at h
  exact ⟨_, _, rfl, h⟩

section
variable {P : Program} {N : Nat} {ρ : Env} {ds : List Nat} {a : Act}

theorem run_sizeOf {t : TypeId} {n : Nat} (h : szOf P t = some n) (w : World) : (sizeOf t).run P w = .ok n w := by
  unfold szOf at h
  cases hi : P.info? t with
  | none => rw [hi] at h; cases h
  | some i => rw [hi] at h; cases h; simp [sizeOf, typeInfo, hi]
theorem run_typeInfo {t : TypeId} {i : TypeInfo} (h : P.info? t = some i) (w : World) : (typeInfo t).run P w = .ok i w := by simp [typeInfo, h]
theorem run_zero {t : TypeId} {z : Value} (h : zeroOf P t = some z) (w : World) : (zeroValue t).run P w = .ok z w := by
  unfold zeroOf at h
  cases hi : P.info? t with
  | none => rw [hi] at h; cases h
  | some i => rw [hi] at h; simp only [Option.bind_some] at h; simp [zeroValue, typeInfo, hi, h]
theorem run_isAgg {t : TypeId} {g : Bool} (h : aggB P t = some g) (w : World) : (isAgg t).run P w = .ok g w := by
  cases hu : P.underlying t with
  | none => simp [aggB, hu] at h
  | some d =>
    simp only [aggB, hu] at h
    simp only [isAgg, Sem.run_bind, run_underlying hu, Result.andThen_ok]
    cases d <;> (cases h; rfl)

theorem fieldOf_spec {s : TypeId} {i off n : Nat} {g : Bool} (h : fieldOf P s i = some (off, n, g)) :
    ∃ fs f, P.underlying s = some (.struct fs) ∧ fs[i]? = some f ∧ f.offset = off ∧ szOf P f.type = some n ∧ aggB P f.type = some g := by
  unfold fieldOf at h
  split at h
  · rename_i fs hu
    split at h
    · rename_i f hf
      split at h
      · rename_i m hm
        split at h
        · rename_i g' hg
          cases h
          exact ⟨fs, f, hu, hf, rfl, hm, hg⟩
        · cases h
      · cases h
    · cases h
  · cases h

theorem bound_sound {x : Option Operand} {dflt bound : Nat} {K : Nat → Prop} (hr : Rel N ρ ds a) (code : BoundsCode) (h : vbd ρ x dflt bound K) :
    ∃ n, K n ∧ ∀ w, (match x.map a.eval with | some v => Instr.sliceBound v bound code | none => pure dflt : Sem Nat).run P w = .ok n w := by
  unfold vbd at h
  cases x with
  | none => exact ⟨dflt, h, fun _ => rfl⟩
  | some x =>
    obtain ⟨k, n, hv, h0, h1, hk⟩ := isI_spec (hr.vx h)
    refine ⟨n.toNat, hk, fun w => ?_⟩
    simp only [Option.map_some, hv, Instr.sliceBound, asIntOf, Sem.run_bind, Sem.run_pure, Result.andThen_ok, h0, h1, and_self, if_true]

theorem vcv_sound {s d : TypeId} {x : Operand} {K : Value → Prop} (hr : Rel N ρ ds a) (h : vcv ρ (P.underlying s) (P.underlying d) x K) : AllW P (convert s d (a.eval x)) K := by
  unfold vcv at h
  split at h
  · rename_i k hd
    split at h
    · rename_i t hs
      obtain ⟨k', n, hv, hk⟩ := isI_spec (hr.vx h)
      refine .mk hk fun w => ?_
      rw [hv]
      simp only [convert, Sem.run_bind, run_underlying hs, run_underlying hd, Result.andThen_ok]
      rfl
    · exact h.elim
  · rename_i hd
    cases hs : strT (P.underlying s) with
    | false => rw [hs] at h; exact h.elim
    | true =>
      rw [hs] at h
      have h := hr.vx h
      cases hu : P.underlying s with
      | none => rw [hu] at hs; cases hs
      | some t =>
        rw [hu] at hs
        cases t <;> simp only [strT, Bool.false_eq_true] at hs
        split at h
        · rename_i u hv
          refine .mk h fun w => ?_
          rw [hv]
          simp only [convert, Sem.run_bind, run_underlying hu, run_underlying hd, Result.andThen_ok]
          rfl
        · exact h.elim
  · exact h.elim

theorem structFields_run : ∀ (fs : List Field) {l : List (Nat × Nat)}, structFields P fs = some l → ∀ w, (fs.mapM (fun f => do pure (f.offset, ← sizeOf f.type) : Field → Sem (Nat × Nat))).run P w = .ok l w
  | [], l, h, w => by cases h; rfl
  | f :: fs, l, h, w => by
    simp only [structFields] at h
    split at h
    · rename_i n hn
      split at h
      · rename_i l' hl
        cases h
        simp only [List.mapM_cons, Sem.run_bind, run_sizeOf hn, Result.andThen_ok, Sem.run_pure, structFields_run fs hl]
      · cases h
    · cases h

theorem map_evp (ps : Array (Nat × Operand)) {qs : List (Nat × Value)} (hr : Rel N ρ ds a) (h : evp ρ ps.toList = some qs) : (ps.map fun (i, x) => (i, a.eval x)).toList = qs := by
  rw [Array.toList_map]; exact hr.evp h

theorem evs_map (hr : Rel N ρ ds a) {xs : Array Operand} {vs : List Value} (h : evs ρ xs.toList = some vs) : xs.map a.eval = vs.toArray := by
  apply Array.ext'
  rw [Array.toList_map]; exact hr.evs h

theorem part_run {t : TypeId} {cs : Array Value} {off : Nat} {v : Value} (ha : aggB P t = some false) (hv : cs[off]? = some v) (w : World) : (part t cs off).run P w = .ok v w := by
  simp only [part, Sem.run_bind, run_isAgg ha, Result.andThen_ok, Bool.false_eq_true, if_false, hv, Sem.run_pure]

theorem one1_spec {e : TypeId} (h : one1 P e = true) : szOf P e = some 1 ∧ aggB P e = some false := by
  unfold one1 at h
  split at h
  · rename_i n g hn hg
    simp only [Bool.and_eq_true, Bool.not_eq_true'] at h
    exact ⟨by rw [hn, Nat.eq_of_beq_eq_true h.1], by rw [hg, h.2]⟩
  · cases h

theorem vp_sound (hr : Rel N ρ ds a) {o : Oper} {K : Value → Prop} (h : vp P ρ o.op K) : AllN P (execOp a.eval o) K := by
  unfold vp at h
  split at h
  case h_1 x hx => exact .mk (hr.vx h) fun w => by simp [execOp, hx]
  case h_2 x hx => exact .mk (hr.vx h) fun w => by simp [execOp, hx]
  case h_3 c x y hx =>
    have h1 := hr.vx (hr.vx (hr.vx h))
    split at h1
    · rename_i b hc
      refine .mk h1 fun w => ?_
      simp only [execOp, hx, hc, asBool, Sem.run_bind, Sem.run_pure, Result.andThen_ok]
      cases b <;> rfl
    · exact h1.elim
  case h_4 x hx =>
    have h1 := hr.vx h
    split at h1
    · rename_i p hp
      obtain ⟨q, rfl, hk⟩ := h1
      exact .mk hk fun w => by simp only [execOp, hx, hp, Sem.run_pure]
    · exact h1.elim
  case h_5 op t x y _ hx =>
    have h1 := bin_sound (x := x) (hr.vx (hr.vx h))
    simp only [execOp, hx]
    exact .of h1
  case h_6 op _ x hx =>
    have h1 := hr.vx h
    simp only [execOp, hx]
    split at h1
    · rename_i k n hv; exact .of (.mk h1 fun w => by rw [hv]; rfl)
    · rename_i b hv; exact .of (.mk h1 fun w => by rw [hv]; rfl)
    · exact h1.elim
  case h_7 s d x hx =>
    simp only [execOp, hx]
    exact .of (vcv_sound hr h)
  case h_8 s x i hx =>
    simp only [execOp, hx]
    split at h
    · rename_i off n g hf
      obtain ⟨fs, f, hu, hi, rfl, hn, hg⟩ := fieldOf_spec hf
      cases hb : Nat.ble 1 n with
      | false => rw [hb] at h; exact h.elim
      | true =>
        rw [hb] at h
        have hn1 : n ≠ 0 := by have := Nat.le_of_ble_eq_true hb; omega
        have h1 := hr.vx h
        split at h1
        · rename_i q0 hp
          obtain ⟨p, rfl⟩ : ∃ p, q0 = some p := (onSome_spec h1).imp fun _ h => h.1
          rw [onSome_some] at h1
          refine .of (.mk h1 fun w => ?_)
          simp only [Instr.fieldAt, Sem.run_bind, run_underlying hu, Result.andThen_ok, hi, hp, Instr.sureAddr, Sem.run_pure, fieldPlace, run_sizeOf hn, hn1, if_false, Sem.run_ite]
        · exact h1.elim
    · exact h.elim
  case h_9 s x i hx =>
    simp only [execOp, hx]
    split at h
    · rename_i off n g hf
      obtain ⟨fs, f, hu, hi, rfl, hn, hg⟩ := fieldOf_spec hf
      have h1 := hr.vx h
      split at h1
      · rename_i cs hp
        cases g with
        | true =>
          refine .of (.mk h1 fun w => ?_)
          simp only [Instr.field, Sem.run_bind, run_underlying hu, Result.andThen_ok, hi, hp, asAgg, Sem.run_pure, part, run_isAgg hg, if_true, run_sizeOf hn]
          congr 3
          apply Array.ext'
          simp [Array.toList_extract, List.extract_eq_take_drop]
        | false =>
          simp only [cond_false] at h1
          split at h1
          · rename_i u hu'
            refine .of (.mk h1 fun w => ?_)
            have hu'' : cs[f.offset]? = some u := by simpa using hu'
            simp only [Instr.field, Sem.run_bind, run_underlying hu, Result.andThen_ok, hi, hp, asAgg, Sem.run_pure, part, run_isAgg hg, if_false, Bool.false_eq_true, hu'']
          · exact h1.elim
      · exact h1.elim
    · exact h.elim
  case h_10 t x ix hx =>
    simp only [execOp, hx]
    split at h
    · rename_i len e hu
      split at h
      · rename_i sz hsz
        have h1 := hr.vx (hr.vx h)
        split at h1
        · rename_i q0 k i hp hj
          obtain ⟨p, rfl⟩ : ∃ p, q0 = some p := (onSome_spec h1).imp fun _ h => h.1
          rw [onSome_some] at h1
          refine .of (.mk h1.2.2 fun w => ?_)
          simp only [Instr.indexAt, hj, hp, asIntOf, Sem.run_bind, Sem.run_pure, Result.andThen_ok, run_underlying hu, Instr.sureAddr, Sem.run_ite]
          rw [if_pos (⟨h1.1, h1.2.1⟩ : 0 ≤ i ∧ i < (len : Int))]
          simp only [Result.andThen_ok, run_sizeOf hsz]
        · exact h1.elim
      · exact h.elim
    · rename_i e hu
      split at h
      · rename_i sz hsz
        have h1 := hr.vx (hr.vx h)
        split at h1
        · rename_i b n c k i hp hj
          obtain ⟨p, rfl, h0, hn, hk⟩ := h1
          refine .of (.mk hk fun w => ?_)
          simp only [Instr.indexAt, hj, hp, asIntOf, Sem.run_bind, Sem.run_pure, Result.andThen_ok, run_underlying hu, Sem.run_ite]
          rw [if_pos (⟨h0, hn⟩ : 0 ≤ i ∧ i < (n : Int))]
          simp only [Result.andThen_ok, run_sizeOf hsz]
        · exact h1.elim
      · exact h.elim
    · exact h.elim
  case h_11 t x ix hx =>
    simp only [execOp, hx]
    cases hs : strT (P.underlying t) with
    | false =>
      rw [hs] at h
      simp only [cond_false] at h
      split at h
      · rename_i len e hae
        have hu : P.underlying t = some (.array len e) := by
          unfold arrT at hae
          split at hae
          · rename_i hu; cases hae; exact hu
          · cases hae
        split at h
        · rename_i s hsh
          cases ho : one1 P e with
          | false => rw [ho] at h; exact h.elim
          | true =>
            rw [ho] at h
            obtain ⟨hsz, hag⟩ := one1_spec ho
            have h1 := hr.vx (hr.vx h)
            split at h1
            · rename_i cs k i hp hj
              obtain ⟨h0, hn, h2⟩ := h1
              obtain ⟨u, hu', hk⟩ := S1.ex_imp h2
              refine .of (.mk hk fun w => ?_)
              simp only [Instr.index, hj, hp, asIntOf, Sem.run_bind, Sem.run_pure, Result.andThen_ok, run_underlying hu, Sem.run_ite]
              rw [if_pos (⟨h0, hn⟩ : 0 ≤ i ∧ i < (len : Int))]
              simp only [Sem.run_bind, run_sizeOf hsz, Result.andThen_ok, Nat.mul_one]
              exact part_run hag (by simpa using hu') w
            · exact h1.elim
        · exact h.elim
      · exact h.elim
    | true =>
      rw [hs] at h
      cases hu : P.underlying t with
      | none => rw [hu] at hs; cases hs
      | some d =>
        rw [hu] at hs
        cases d <;> simp only [strT, Bool.false_eq_true] at hs
        have h1 := hr.vx (hr.vx h)
        split at h1
        · rename_i s k i hp hj
          obtain ⟨h0, b, hb, hk⟩ := h1
          refine .of (.mk hk fun w => ?_)
          simp only [Instr.index, hj, hp, asIntOf, Sem.run_bind, Sem.run_pure, Result.andThen_ok, run_underlying hu, h0, if_true, hb]
        · exact h1.elim
  case h_12 t x lo hi mx hx =>
    simp only [execOp, hx]
    split at h
    · rename_i hu
      split at h
      · have h1 := hr.vx h
        split at h1
        · rename_i s hp
          obtain ⟨hh, h2, e1⟩ := bound_sound (P := P) hr (code := .sliceAlen) h1
          obtain ⟨ll, h3, e2⟩ := bound_sound (P := P) hr (code := .sliceB) h2
          refine .of (.mk h3 fun w => ?_)
          have e1 := e1 w
          have e2 := e2 w
          simp only [Instr.sliceAt, Instr.slice, Sem.run_bind, run_underlying hu, Result.andThen_ok, hp, Option.map_none, Option.isSome_none, Bool.false_eq_true, if_false, Instr.sliceBounds, Sem.run_pure]
          cases hi <;> cases lo <;> simp only [Option.map_none, Option.map_some, Sem.run_pure, Result.ok.injEq, and_true] at e1 e2 ⊢ <;> simp [e1, e2]
        · exact h1.elim
      · exact h.elim
    · rename_i e hu
      split at h
      · rename_i sz hsz
        split at h
        · have h1 := hr.vx h
          split at h1
          · rename_i p n c hp
            obtain ⟨hh, h2, e1⟩ := bound_sound (P := P) hr (code := .sliceAcap) h1
            obtain ⟨ll, h3, e2⟩ := bound_sound (P := P) hr (code := .sliceB) h2
            refine .of (.mk h3 fun w => ?_)
            have e1 := e1 w
            have e2 := e2 w
            simp only [Instr.sliceAt, Instr.slice, Sem.run_bind, run_underlying hu, Result.andThen_ok, hp, Option.map_none, Instr.sliceBounds, Sem.run_pure]
            cases hi <;> cases lo <;> simp only [Option.map_none, Option.map_some, Sem.run_pure, Result.ok.injEq, and_true] at e1 e2 ⊢ <;> simp [e1, e2, run_sizeOf hsz, offA]
          · exact h1.elim
        · rename_i mx
          have h1 := hr.vx h
          split at h1
          · rename_i p n c hp
            obtain ⟨m, h1', e0⟩ := bound_sound (P := P) hr (code := .slice3Acap) h1
            obtain ⟨hh, h2, e1⟩ := bound_sound (P := P) hr (code := .slice3B) h1'
            obtain ⟨ll, h3, e2⟩ := bound_sound (P := P) hr (code := .slice3C) h2
            cases hi with
            | none => exact h3.elim
            | some hi =>
              refine .of (.mk h3 fun w => ?_)
              have e0 := e0 w
              have e1 := e1 w
              have e2 := e2 w
              simp only [Instr.sliceAt, Instr.slice, Sem.run_bind, run_underlying hu, Result.andThen_ok, hp, Instr.sliceBounds, Sem.run_pure]
              cases lo <;> simp only [Option.map_none, Option.map_some, Sem.run_pure, Result.ok.injEq, and_true] at e0 e1 e2 ⊢ <;> simp [e0, e1, e2, run_sizeOf hsz, offA]
          · exact h1.elim
      · exact h.elim
    · rename_i n e hu
      split at h
      · rename_i sz hsz
        split at h
        · have h1 := hr.vx h
          split at h1
          · rename_i q0 hp
            obtain ⟨p, rfl⟩ : ∃ p, q0 = some p := (onSome_spec h1).imp fun _ h => h.1
            rw [onSome_some] at h1
            obtain ⟨hh, h2, e1⟩ := bound_sound (P := P) hr (code := .sliceAlen) h1
            obtain ⟨ll, h3, e2⟩ := bound_sound (P := P) hr (code := .sliceB) h2
            refine .of (.mk h3 fun w => ?_)
            have e1 := e1 w
            have e2 := e2 w
            simp only [Instr.sliceAt, Sem.run_bind, run_underlying hu, Result.andThen_ok, hp, Option.map_none, Instr.sliceBounds, Sem.run_pure, Instr.sureAddr]
            cases hi <;> cases lo <;> simp only [Option.map_none, Option.map_some, Sem.run_pure, Result.ok.injEq, and_true] at e1 e2 ⊢ <;> simp [e1, e2, run_sizeOf hsz, offB]
          · exact h1.elim
        · exact h.elim
      · exact h.elim
    · exact h.elim
  case h_13 x i hx =>
    simp only [execOp, hx]
    have h1 := hr.vx h
    split at h1
    · rename_i vs hp
      split at h1
      · rename_i u hu
        have hu' : vs[i]? = some u := by simpa using hu
        exact .of (.mk h1 fun w => by simp only [Instr.extract, hp, hu', Sem.run_pure])
      · exact h1.elim
    · exact h1.elim
  case h_14 t x hx =>
    simp only [execOp, hx]
    split at h
    · exact h.elim
    · rename_i d hne hu
      refine .of (.mk (K := K) (v := .iface t (a.eval x)) (hr.vx h) fun w => ?_)
      simp only [Instr.makeInterface, Sem.run_bind, run_underlying hu, Result.andThen_ok]
      cases d <;> first | rfl | exact absurd rfl (hne _)
    · exact h.elim
  case h_15 fn fs cs hx =>
    simp only [execOp, hx]
    split at h
    · rename_i us hus
      split at h
      · rename_i vs hvs
        exact .of (.mk h fun w => by simp only [Instr.makeFunc, Sem.run_pure, evs_map hr hus, evs_map hr hvs])
      · exact h.elim
    · exact h.elim
  case h_16 t ps hx =>
    simp only [execOp, hx]
    split at h
    · rename_i z hz
      split at h
      · rename_i qs hqs
        have hq := map_evp ps hr hqs
        split at h
        · rename_i fs hu
          split at h
          · rename_i pl hpl
            split at h
            · rename_i cs hcs
              refine .of (.mk h fun w => ?_)
              simp only [Instr.build, Sem.run_bind, run_zero hz, run_underlying hu, Result.andThen_ok]
              have hm := structFields_run fs.toList hpl w
              have hm' : (fs.mapM (fun f => do pure (f.offset, ← sizeOf f.type) : Field → Sem (Nat × Nat))).run P w = .ok pl.toArray w := by
                rw [Array.mapM_eq_mapM_toList, Sem.run_map, hm]; rfl
              rw [hm']
              simp only [Result.andThen_ok, hq]
              have he : (fun i : Nat => pl.toArray[i]?) = fun i => pl[i]? := by funext i; simp
              rw [he, hcs]
              simp
            · exact h.elim
          · exact h.elim
        · rename_i n e hu
          split at h
          · rename_i sz hsz
            split at h
            · rename_i cs hcs
              refine .of (.mk h fun w => ?_)
              simp only [Instr.build, Sem.run_bind, run_zero hz, run_underlying hu, Result.andThen_ok, run_sizeOf hsz, hq, hcs]
              simp
            · exact h.elim
          · exact h.elim
        · exact h.elim
      · exact h.elim
    · exact h.elim
  case h_17 args ats hx =>
    split at h
    · rename_i x t ts hargs hats
      have ea : args[0]? = some x := by rw [← Array.getElem?_toList, hargs]; rfl
      have et : ats[0]? = some t := by rw [← Array.getElem?_toList, hats]; rfl
      have ev : (args.map a.eval)[0]? = some (a.eval x) := by rw [Array.getElem?_map, ea]; rfl
      obtain ⟨v, hv, hw⟩ : AllW P (Builtin.len_ ats o.type (args.map a.eval)) K := by
        split at h
        · rename_i hu
          have h1 := hr.vx h
          generalize a.eval x = v at ev h1
          cases v <;> simp only [vlenS] at h1
          exact .mk h1 fun w => by simp only [Builtin.len_, et, ev, Sem.run_bind, run_underlying hu, Result.andThen_ok]; rfl
        · rename_i hu
          have h1 := hr.vx h
          generalize a.eval x = v at ev h1
          cases v <;> simp only [vlenL] at h1
          exact .mk h1 fun w => by simp only [Builtin.len_, et, ev, Sem.run_bind, run_underlying hu, Result.andThen_ok]; rfl
        · exact h.elim
      refine ⟨v, hv, fun w => ?_⟩
      simp only [execOp, hx, resolve, Sem.run_bind, Sem.run_pure, Result.andThen_ok, invoke, builtin, hw]
    · exact h.elim
  case h_18 args ats hx =>
    split at h
    · rename_i x t ts hargs hats
      have ea : args[0]? = some x := by rw [← Array.getElem?_toList, hargs]; rfl
      have et : ats[0]? = some t := by rw [← Array.getElem?_toList, hats]; rfl
      have ev : (args.map a.eval)[0]? = some (a.eval x) := by rw [Array.getElem?_map, ea]; rfl
      obtain ⟨v, hv, hw⟩ : AllW P (Builtin.cap_ ats o.type (args.map a.eval)) K := by
        cases hs : sliceT (P.underlying t) with
        | false => rw [hs] at h; exact h.elim
        | true =>
          rw [hs] at h
          cases hu : P.underlying t with
          | none => rw [hu] at hs; cases hs
          | some d =>
            rw [hu] at hs
            cases d <;> simp only [sliceT, Bool.false_eq_true] at hs
            have h1 := hr.vx h
            generalize a.eval x = v at ev h1
            cases v <;> simp only [vcap] at h1
            exact .mk h1 fun w => by simp only [Builtin.cap_, et, ev, Sem.run_bind, run_underlying hu, Result.andThen_ok]; rfl
      refine ⟨v, hv, fun w => ?_⟩
      simp only [execOp, hx, resolve, Sem.run_bind, Sem.run_pure, Result.andThen_ok, invoke, builtin, hw]
    · exact h.elim
  case h_19 args ats hx =>
    split at h
    · rename_i x y hargs
      have h1 := hr.vx (hr.vx h)
      have ev : (args.map a.eval).toList = [a.eval x, a.eval y] := by rw [Array.toList_map, hargs]; rfl
      obtain ⟨v, hv, hw⟩ : AllW P (Builtin.max_ ats o.type (args.map a.eval)) K := by
        generalize a.eval x = u at ev h1
        generalize a.eval y = v at ev h1
        cases u <;> simp only [mx2] at h1
        cases v <;> simp only at h1
        exact .mk h1 fun w => by rw [Builtin.max_, ev]; rfl
      refine ⟨v, hv, fun w => ?_⟩
      simp only [execOp, hx, resolve, Sem.run_bind, Sem.run_pure, Result.andThen_ok, invoke, builtin, hw]
    · exact h.elim
  case h_20 args ats hx =>
    split at h
    · rename_i x y hargs
      have h1 := hr.vx (hr.vx h)
      have ev : (args.map a.eval).toList = [a.eval x, a.eval y] := by rw [Array.toList_map, hargs]; rfl
      obtain ⟨v, hv, hw⟩ : AllW P (Builtin.min_ ats o.type (args.map a.eval)) K := by
        generalize a.eval x = u at ev h1
        generalize a.eval y = v at ev h1
        cases u <;> simp only [mn2] at h1
        cases v <;> simp only at h1
        exact .mk h1 fun w => by rw [Builtin.min_, ev]; rfl
      refine ⟨v, hv, fun w => ?_⟩
      simp only [execOp, hx, resolve, Sem.run_bind, Sem.run_pure, Result.andThen_ok, invoke, builtin, hw]
    · exact h.elim
  case h_21 => exact h.elim
end
end Go.Bty

namespace Go.Bty
open Go

theorem ba_beq (a b : ByteArray) : (a == b) = decide (a = b) := by
  cases a; cases b
  rename_i x y
  show (x == y) = _
  rw [show decide (ByteArray.mk x = ByteArray.mk y) = decide (x = y) by simp]
  rw [Bool.eq_iff_iff]; simp

inductive KK where
  | str | int (k : IntKind) | pair
  deriving DecidableEq

/-- A field of a pair: an int at its place. -/
def pairField (P : Program) (f : Field) (off : Nat) : Bool :=
  Nat.beq f.offset off && f.name != "_" && (match P.underlying f.type with | some (.int .i64) => true | _ => false) && (match aggB P f.type with | some g => !g | none => false)
def kkOf (P : Program) (t : TypeId) : Option KK :=
  match P.underlying t with
  | some .string => some .str
  | some (.int k) => some (.int k)
  | some (.struct fs) => match fs.toList with
    | [f, g] => bif pairField P f 0 && pairField P g 1 && !P.stoodInHeld t then some .pair else none
    | _ => none
  | _ => none
def pairOf : List Value → Option (Int × Int)
  | [.int .i64 a, .int .i64 b] => some (a, b)
  | _ => none
def kFits (kk : KK) (v : Value) : Bool :=
  match kk, v with
  | .str, .string _ => true
  | .int k, .int k' _ => decide (k = k')
  | .pair, .agg cs => (pairOf cs.toList).isSome
  | _, _ => false
/-- Are two keys one? -/
def kEq : Value → Value → Bool
  | .string a, .string b => decide (a = b)
  | .int _ a, .int _ b => a == b
  | .agg x, .agg y => pairOf x.toList == pairOf y.toList
  | _, _ => false
def KeysOk (kk : KK) (es : List MapEntry) : Prop := ∀ e ∈ es, kFits kk e.key = true
def mfind (k : Value) : List MapEntry → Nat → Option (Nat × Value)
  | [], _ => none
  | e :: es, i => bif kEq k e.key then some (i, e.val) else mfind k es (i + 1)
def mget (k : Value) (es : List MapEntry) : Option Value := (mfind k es 0).map (·.2)
def mput (k v : Value) (es : Array MapEntry) (c : Nat) : Obj :=
  match mfind k es.toList 0 with
  | some (i, _) => .map (es.modify i fun e => { e with key := k, val := v }) c
  | none => .map (es.push { key := k, val := v, born := c }) (c + 1)
def mdel (k : Value) (es : Array MapEntry) (c : Nat) : Obj :=
  match mfind k es.toList 0 with
  | some (i, _) => .map (es.eraseIdxIfInBounds i) c
  | none => .map es c

section
variable {P : Program}
theorem findNow_run {d : TypeDesc} {k : Value} (hd : (d = .string ∧ ∃ s, k = .string s) ∨ (∃ q n, d = .int q ∧ k = .int q n)) : ∀ (es : List MapEntry) (i : Nat),
    (∀ e ∈ es, (∃ s, k = .string s ∧ ∃ u, e.key = .string u) ∨ (∃ q n, k = .int q n ∧ ∃ m, e.key = .int q m)) → Instr.findNow d k es i = some (mfind k es i)
  | [], _, _ => rfl
  | e :: es, i, h => by
    have ih := findNow_run hd es (i + 1) (fun e he => h e (List.mem_cons_of_mem _ he))
    have hs : Instr.sameNow d k e.key = some (kEq k e.key) := by
      rcases h e (List.mem_cons_self ..) with ⟨s, rfl, u, hu⟩ | ⟨q, n, rfl, m, hm⟩
      · rw [hu]
        rcases hd with ⟨rfl, _⟩ | ⟨q, n, rfl, hk⟩
        · simp only [Instr.sameNow, kEq, ba_beq]
        · cases hk
      · rw [hm]
        rcases hd with ⟨rfl, s, hk⟩ | ⟨q', n', rfl, hk⟩
        · cases hk
        · cases hk; simp [Instr.sameNow, kEq]
    simp only [Instr.findNow, hs, mfind]
    cases kEq k e.key with
    | true => rfl
    | false => exact ih

theorem pairOf_spec {vs : List Value} {a b : Int} (h : pairOf vs = some (a, b)) : vs = [.int .i64 a, .int .i64 b] := by
  unfold pairOf at h
  split at h
  · cases h; rfl
  · cases h

theorem pairField_spec {f : Field} {off : Nat} (h : pairField P f off = true) : f.offset = off ∧ (f.name != "_") = true ∧ P.underlying f.type = some (.int .i64) ∧ aggB P f.type = some false := by
  simp only [pairField, Bool.and_eq_true] at h
  obtain ⟨⟨⟨h1, h2⟩, h3⟩, h4⟩ := h
  refine ⟨Nat.eq_of_beq_eq_true h1, h2, ?_, ?_⟩
  · split at h3
    · assumption
    · cases h3
  · split at h4
    · rename_i g hg
      cases g with
      | true => cases h4
      | false => exact hg
    · cases h4

theorem kkOf_pair {t : TypeId} (h : kkOf P t = some .pair) : ∃ fs f g, P.underlying t = some (.struct fs) ∧ fs.toList = [f, g] ∧ pairField P f 0 = true ∧ pairField P g 1 = true ∧ P.stoodInHeld t = false := by
  unfold kkOf at h
  split at h
  · cases h
  · cases h
  · rename_i fs hu
    split at h
    · rename_i f g hfs
      cases hb : pairField P f 0 && pairField P g 1 && !P.stoodInHeld t with
      | false => rw [hb] at h; cases h
      | true =>
        simp only [Bool.and_eq_true, Bool.not_eq_true'] at hb
        exact ⟨fs, f, g, hu, hfs, hb.1.1, hb.1.2, hb.2⟩
    · cases h
  · cases h
theorem kkOf_str {t : TypeId} (h : kkOf P t = some .str) : P.underlying t = some .string := by
  unfold kkOf at h
  split at h
  · assumption
  · cases h
  · split at h
    · rename_i f g hfs
      cases hb : pairField P f 0 && pairField P g 1 && !P.stoodInHeld t <;> rw [hb] at h <;> cases h
    · cases h
  · cases h
theorem kkOf_int {t : TypeId} {k : IntKind} (h : kkOf P t = some (.int k)) : P.underlying t = some (.int k) := by
  unfold kkOf at h
  split at h
  · cases h
  · cases h; assumption
  · split at h
    · rename_i f g hfs
      cases hb : pairField P f 0 && pairField P g 1 && !P.stoodInHeld t <;> rw [hb] at h <;> cases h
    · cases h
  · cases h

theorem equal_int {t : TypeId} {q : IntKind} (h : P.underlying t = some (.int q)) (d : Nat) (k : IntKind) (m n : Int) (w : World) : (Op.equalIn (d + 1) t (.int k m) (.int k n)).run P w = .ok (m == n) w := by
  rw [Op.equalIn, Sem.run_bind, run_underlying h]
  simp

theorem equal_pair {t : TypeId} (h : kkOf P t = some .pair) {x y : Array Value} (hx : (pairOf x.toList).isSome = true) (hy : (pairOf y.toList).isSome = true) (w : World) :
    (Op.equal t (.agg x) (.agg y)).run P w = .ok (kEq (.agg x) (.agg y)) w := by
  obtain ⟨fs, f, g, hu, hfs, hf, hg, hst⟩ := kkOf_pair h
  obtain ⟨hf1, hf2, hf3, hf4⟩ := pairField_spec hf
  obtain ⟨hg1, hg2, hg3, hg4⟩ := pairField_spec hg
  obtain ⟨⟨a, b⟩, hab⟩ := Option.isSome_iff_exists.1 hx
  obtain ⟨⟨c, d⟩, hcd⟩ := Option.isSome_iff_exists.1 hy
  have ex := pairOf_spec hab
  have ey := pairOf_spec hcd
  have x0 : x[f.offset]? = some (.int .i64 a) := by rw [hf1, ← Array.getElem?_toList, ex]; rfl
  have x1 : x[g.offset]? = some (.int .i64 b) := by rw [hg1, ← Array.getElem?_toList, ex]; rfl
  have y0 : y[f.offset]? = some (.int .i64 c) := by rw [hf1, ← Array.getElem?_toList, ey]; rfl
  have y1 : y[g.offset]? = some (.int .i64 d) := by rw [hg1, ← Array.getElem?_toList, ey]; rfl
  unfold Op.equal
  rw [show Op.maxDepth = 9998 + 1 + 1 from rfl, Op.equalIn, Sem.run_bind, run_underlying hu]
  simp only [Result.andThen_ok, Sem.run_bind, run_program, hst, Bool.false_eq_true, if_false]
  rw [← Array.forIn_toList, hfs]
  have n1 : f.name ≠ "_" := by simpa using hf2
  have n2 : g.name ≠ "_" := by simpa using hg2
  have r0 := part_run hf4 x0 w
  have r1 := part_run hf4 y0 w
  have r2 := part_run hg4 x1 w
  have r3 := part_run hg4 y1 w
  have q0 := equal_int (P := P) hf3 9998 .i64 a c w
  have q1 := equal_int (P := P) hg3 9998 .i64 b d w
  have e0 : kEq (.agg x) (.agg y) = (a == c && b == d) := by
    simp only [kEq, hab, hcd]
    rfl
  rw [e0]
  simp only [List.forIn_cons, List.forIn_nil, n1, n2, ne_eq, not_false_eq_true, if_true, Sem.run_bind, r0, r1, q0, Result.andThen_ok]
  cases (a == c) with
  | false => rfl
  | true =>
    simp only [Bool.not_true, Bool.false_eq_true, if_false, Sem.run_pure, Sem.run_bind, r2, r3, q1, Result.andThen_ok]
    cases (b == d) <;> rfl

theorem findAsking_pair {t : TypeId} (h : kkOf P t = some .pair) {x : Array Value} (hx : (pairOf x.toList).isSome = true) (w : World) : ∀ (es : List MapEntry) (i : Nat), KeysOk .pair es →
    (Instr.findAsking t (.agg x) es i).run P w = .ok (mfind (.agg x) es i) w
  | [], _, _ => rfl
  | e :: es, i, hk => by
    have he := hk e (List.mem_cons_self ..)
    have ih := findAsking_pair h hx w es (i + 1) (fun e he => hk e (List.mem_cons_of_mem _ he))
    cases hkey : e.key <;> rw [hkey] at he <;> simp only [kFits, Bool.false_eq_true] at he
    rename_i y
    simp only [Instr.findAsking, Sem.run_bind, hkey, equal_pair h hx he, Result.andThen_ok, mfind, Sem.run_ite]
    cases kEq (.agg x) (.agg y) with
    | true => simp
    | false => simpa using ih

theorem findKey_run {t : TypeId} {kk : KK} (h : kkOf P t = some kk) {k : Value} (hk : kFits kk k = true) {es : List MapEntry} (hes : KeysOk kk es) (w : World) : (Instr.findKey t k es).run P w = .ok (mfind k es 0) w := by
  cases kk with
  | str =>
    have hu := kkOf_str h
    cases k <;> simp only [kFits, Bool.false_eq_true] at hk
    rename_i s
    simp only [Instr.findKey, Sem.run_bind, run_underlying hu, Result.andThen_ok]
    rw [findNow_run (.inl ⟨rfl, s, rfl⟩) es 0 (fun e he => by
      have := hes e he
      cases hkey : e.key <;> rw [hkey] at this <;> simp only [kFits, Bool.false_eq_true] at this
      exact .inl ⟨s, rfl, _, rfl⟩)]
    rfl
  | int q =>
    have hu := kkOf_int h
    cases k <;> simp only [kFits, Bool.false_eq_true, decide_eq_true_eq] at hk
    subst hk
    rename_i n
    simp only [Instr.findKey, Sem.run_bind, run_underlying hu, Result.andThen_ok]
    rw [findNow_run (.inr ⟨_, n, rfl, rfl⟩) es 0 (fun e he => by
      have := hes e he
      cases hkey : e.key <;> rw [hkey] at this <;> simp only [kFits, Bool.false_eq_true, decide_eq_true_eq] at this
      subst this
      exact .inr ⟨_, n, rfl, _, rfl⟩)]
    rfl
  | pair =>
    obtain ⟨fs, f, g, hu, _⟩ := kkOf_pair h
    cases k <;> simp only [kFits, Bool.false_eq_true] at hk
    simp only [Instr.findKey, Sem.run_bind, run_underlying hu, Result.andThen_ok]
    cases es with
    | nil => rfl
    | cons e es =>
      rename_i x
      have : Instr.findNow (.struct fs) (.agg x) (e :: es) 0 = none := by simp only [Instr.findNow, Instr.sameNow]
      rw [this]
      exact findAsking_pair h hk w _ _ hes

theorem checkKey_run {t : TypeId} {kk : KK} (h : kkOf P t = some kk) {k : Value} (hk : kFits kk k = true) (b : Bool) (w : World) : (Instr.checkKey b 10000 t k).run P w = .ok () w := by
  cases kk with
  | str =>
    have hu := kkOf_str h
    rw [show 10000 = 9999 + 1 from rfl, Instr.checkKey, Sem.run_bind, run_underlying hu]
    cases k <;> rfl
  | int q =>
    have hu := kkOf_int h
    rw [show 10000 = 9999 + 1 from rfl, Instr.checkKey, Sem.run_bind, run_underlying hu]
    cases k <;> rfl
  | pair =>
    obtain ⟨fs, f, g, hu, hfs, hf, hg, hst⟩ := kkOf_pair h
    obtain ⟨hf1, hf2, hf3, hf4⟩ := pairField_spec hf
    obtain ⟨hg1, hg2, hg3, hg4⟩ := pairField_spec hg
    cases k <;> simp only [kFits, Bool.false_eq_true] at hk
    rename_i x
    obtain ⟨⟨a, c⟩, hab⟩ := Option.isSome_iff_exists.1 hk
    have ex := pairOf_spec hab
    have x0 : x[f.offset]? = some (.int .i64 a) := by rw [hf1, ← Array.getElem?_toList, ex]; rfl
    have x1 : x[g.offset]? = some (.int .i64 c) := by rw [hg1, ← Array.getElem?_toList, ex]; rfl
    have n1 : f.name ≠ "_" := by simpa using hf2
    have n2 : g.name ≠ "_" := by simpa using hg2
    have sub : ∀ (t : TypeId) (n : Int), P.underlying t = some (.int .i64) → (Instr.checkKey b 9999 t (.int .i64 n)).run P w = .ok () w := fun t n ht => by
      rw [show 9999 = 9998 + 1 from rfl, Instr.checkKey, Sem.run_bind, run_underlying ht]; rfl
    rw [show 10000 = 9999 + 1 from rfl, Instr.checkKey, Sem.run_bind, run_underlying hu]
    simp only [Result.andThen_ok]
    rw [← Array.forIn_toList, hfs]
    simp only [List.forIn_cons, List.forIn_nil, n1, n2, ne_eq, not_false_eq_true, if_true, Sem.run_bind, part_run hf4 x0, part_run hg4 x1, sub _ _ hf3, sub _ _ hg3, Result.andThen_ok, Sem.run_pure]
end
end Go.Bty

namespace Go.Bty
open Go

/-- A row of k values from a on (nothing, at nil). -/
def RowAt (w : World) (a : Option Addr) (k : Nat) (vs : List Value) : Prop := vs.length = k ∧ match a with
  | none => k = 0
  | some p => SpanAt w p vs
def bytesV (bs : List UInt8) : List Value := bs.map fun b => .int .u8 (b.toNat : Int)
/-- The bytes of a slice of n bytes at a. -/
def BytesAt (w : World) (a : Option Addr) (n : Nat) (bs : List UInt8) : Prop := match a with
  | none => bs = []
  | some p => bs.length = n ∧ SpanAt w p (bytesV bs)
def OneC (vs : List Value) : Prop := ∀ u ∈ vs, u.oneCell' = true
def zc (n : Nat) (z : List Value) : List Value := (List.replicate n z).flatten
def u8T (d : Option TypeDesc) : Bool := match d with | some (.int .u8) => true | _ => false
def i64T (d : Option TypeDesc) : Bool := match d with | some (.int .i64) => true | _ => false
def mapOf (d : Option TypeDesc) : Option (TypeId × TypeId) := match d with | some (.map k e) => some (k, e) | _ => none
def vok (ok : Bool) (v : Value) (b : Bool) : Value := bif ok then .tuple #[v, .bool b] else v

def vload (P : Program) (t : TypeId) (a : Addr) (w : World) (K : Value → Prop) : Prop :=
  match shOf P t with
  | some (.one s) => s.ex fun v => w.cell? a = some v ∧ K v
  | some (.agg ss) => exs ss fun vs => SpanAt w a vs ∧ K (.agg vs.toArray)
  | none => False

def vr (P : Program) (ρ : Env) (o : Op) (w : World) (K : Value → Prop) : Prop :=
  match o with
  | .load t x => vx ρ x fun v => match v with
    | .pointer q => OnSome q fun a => vload P t a w K
    | _ => False
  | .lookup t x ix ok => match mapOf (P.underlying t) with
    | some (kt, e) => match kkOf P kt with
      | some kk => match zeroOf P e with
        | some z => match shOf P e with
          | some (.one s) => vx ρ x fun m => vx ρ ix fun k => match m with
            | .map q => OnSome q fun r => bif kFits kk k then ∃ es c, w.heap[r]? = some (.map es c) ∧ KeysOk kk es.toList ∧ s.ex fun v => (mget k es.toList).getD z = v ∧ K (vok ok v (mget k es.toList).isSome)
              else False
            | _ => False
          | _ => False
        | none => False
      | none => False
    | none => False
  | .convert s d x => bif strT (P.underlying d) then match P.underlying s with
      | some (.slice e) => bif u8T (P.underlying e) then vx ρ x fun v => match v with
          | .slice a n _ => ∃ bs, BytesAt w a n bs ∧ K (.string ⟨bs.toArray⟩)
          | _ => False
        else False
      | _ => False
    else False
  | .call { callee := .builtin .len, args, argTypes } => match args.toList, argTypes.toList with
    | [x], t :: _ => bif mapT (P.underlying t) then vx ρ x fun v => match v with
        | .map q => OnSome q fun r => ∃ es c, w.heap[r]? = some (.map es c) ∧ K (.int .i64 es.size)
        | _ => False
      else False
    | _, _ => False
  | _ => False

/-- A call of a function of the program's. -/
def Cl (P : Program) (f : FuncId) (args : Array Value) (w : World) (R : Value → World → Prop) : Prop :=
  CallsIn (Fn none) 0 P f args w fun e w' => ∃ v, e = .returned v ∧ R v w'
def entersB (P : Program) (f : FuncId) : Bool :=
  match P.funcs[f]? with
  | some fn => fn.body.isSome && fn.name != "runtime.NumGoroutine"
  | none => false
/-- A call of a function without a Go body. -/
def Ext (P : Program) (f : FuncId) (args : Array Value) (w : World) (R : Value → World → Prop) : Prop :=
  ∃ v, (callFunc f args).run P w = .ok (.value v) w ∧ R v w
/-- A call of yield. -/
def Yl (P : Program) (l : Nat) (args : Array Value) (w : World) (R : Value → World → Prop) : Prop :=
  ∃ fn tmps assign body, (Instr.yield l args).run P w = .ok (.round l fn tmps assign body) w ∧ RoundIn (Fn none) 0 P l fn tmps assign body w fun e w' => ∃ v, e = .returned v ∧ R v w'
def vcall (P : Program) (f : FuncId) (t : TypeId) (args : Array Value) (w : World) (K : Value → World → Prop) : Prop :=
  match shOfT P t with
  | some sh => bif entersB P f then Cl P f args w fun u w' => sh.ex fun v => u = v ∧ K v w'
    else Ext P f args w fun u w' => sh.ex fun v => u = v ∧ K v w'
  | none => False
/-- A call of a function value. -/
def FvCall (P : Program) (fv : Value) (args : List Value) (w : World) (R : Value → World → Prop) : Prop :=
  match fv with
  | .func (.func f) fs cs => entersB P f = true ∧ Cl P f (fs.toList ++ args ++ cs.toList).toArray w R
  | .func (.yield l) fs _ => fs = #[] ∧ Yl P l args.toArray w R
  | _ => False

def vstore (n : Nat) (a : Addr) (v : Value) (w : World) (K : World → Prop) : Prop :=
  match v with
  | .agg cs => bif Nat.beq cs.toList.length n && cs.toList.all Value.oneCell' then Wr w a n ∧ ∀ w', w' = setSpan w a cs.toList → K w' else False
  | .tuple _ => False
  | v => bif Nat.beq n 1 then ((∃ u, w.cell? a = some u) ∧ w.frozen? a = false) ∧ ∀ w', w' = w.setCell a v → K w' else False
def valloc (w : World) (o : Obj) (K : Nat → World → Prop) : Prop := ∀ b w', b = w.heap.size → w' = w.alloc o → K b w'

def appSet (base : Option Addr) (n sz : Nat) (ys : List Value) (w : World) : World := match base with | some p => setSpan w (p.add (n * sz)) ys | none => w
def vapp0 (t : TypeId) (sz bytes : Nat) (z : List Value) (base : Option Addr) (n cap m : Nat) (ys : List Value) (w : World) (K : Value → World → Prop) : Prop :=
  OneC ys ∧
  (n + m ≤ cap → (0 < ys.length → ∃ p, base = some p ∧ Wr w (p.add (n * sz)) ys.length) ∧ ∀ w', w' = appSet base n sz ys w → K (.slice base (n + m) cap) w') ∧
  (cap < n + m → Builtin.nextslicecap (n + m) cap * bytes ≤ 2 ^ 48 ∧ ∃ xs, RowAt w base (n * sz) xs ∧
    ∀ c b w', n + m ≤ c → b = w.heap.size → w' = w.drew.alloc (.cells (xs ++ ys ++ zc (c - (n + m)) z).toArray t) → K (.slice (some ⟨b, 0, none⟩) (n + m) c) w')
/-- What 'append' leaves: in place, or in a row of its own. -/
def AppR (t : TypeId) (sz : Nat) (z : List Value) (base : Option Addr) (n cap m : Nat) (ys : List Value) (w : World) (a' : Option Addr) (c' : Nat) (w' : World) : Prop :=
  (n + m ≤ cap ∧ a' = base ∧ c' = cap ∧ w' = appSet base n sz ys w) ∨
  (cap < n + m ∧ n + m ≤ c' ∧ a' = some ⟨w.heap.size, 0, none⟩ ∧ ∃ xs, RowAt w base (n * sz) xs ∧ w' = w.drew.alloc (.cells (xs ++ ys ++ zc (c' - (n + m)) z).toArray t))
/-- What 'append' asks and leaves, for a row of values 'ys' (m elements). -/
def vapp (t : TypeId) (sz bytes : Nat) (z : List Value) (base : Option Addr) (n cap m : Nat) (ys : List Value) (w : World) (K : Value → World → Prop) : Prop :=
  OneC ys ∧ (n + m ≤ cap → 0 < ys.length → ∃ p, base = some p ∧ Wr w (p.add (n * sz)) ys.length) ∧
  (cap < n + m → Builtin.nextslicecap (n + m) cap * bytes ≤ 2 ^ 48 ∧ ∃ xs, RowAt w base (n * sz) xs) ∧
  ∀ (a' : Option Addr) (c' : Nat) (w' : World), AppR t sz z base n cap m ys w a' c' w' → K (.slice a' (n + m) c') w'
theorem vapp_old {t : TypeId} {sz bytes : Nat} {z : List Value} {base : Option Addr} {n cap m : Nat} {ys : List Value} {w : World} {K : Value → World → Prop} (h : vapp t sz bytes z base n cap m ys w K) : vapp0 t sz bytes z base n cap m ys w K := by
  obtain ⟨h1, h2, h3, h4⟩ := h
  refine ⟨h1, fun hc => ⟨h2 hc, fun w' e => h4 _ _ _ (.inl ⟨hc, rfl, rfl, e⟩)⟩, fun hc => ?_⟩
  obtain ⟨h5, xs, hxs⟩ := h3 hc
  exact ⟨h5, xs, hxs, fun c b w' hle eb e => h4 _ _ _ (.inr ⟨hc, hle, by rw [eb], xs, hxs, e⟩)⟩

/-- What 'clear' leaves of a row. -/
def clrSet (base : Option Addr) (n : Nat) (z : List Value) (w : World) : World := match base with | some p => setSpan w p (zc n z) | none => w
def ve (P : Program) (ρ : Env) (o : Oper) (w : World) (K : Value → World → Prop) : Prop :=
  match o.op with
  | .alloc t => match zeroOf P t with
    | some z => valloc w (.cells z.cells t) fun b w => K (.pointer (some ⟨b, 0, none⟩)) w
    | none => False
  | .box t x => vx ρ x fun v => valloc w (.cells v.cells t) fun b w => K (.pointer (some ⟨b, 0, none⟩)) w
  | .buildSlice t len ps => match P.underlying t with
    | some (.slice e) => match szOf P e with
      | some sz => bif Nat.beq len 0 && ps.toList.isEmpty then valloc w (.cells #[] e) fun b w => K (.slice (some ⟨b, 0, none⟩) 0 0) w else match zeroOf P e with
        | some z => match evp ρ ps.toList with
          | some qs => bif Nat.ble 1 (len * sz) && Nat.ble (len * sz) 16777216 && Nat.beq z.cells.size sz then match Instr.fill (fun i => some (i * sz, sz)) (zc len z.cells.toList).toArray qs with
              | some cs => valloc w (.cells cs.toList.toArray e) fun b w => K (.slice (some ⟨b, 0, none⟩) len len) w
              | none => False
            else False
          | none => False
        | none => False
      | none => False
    | _ => False
  | .makeMap _ r => match r with
    | none => valloc w (.map #[] 0) fun b w => K (.map (some b)) w
    | some _ => False
  | .makeSlice t l c => match P.underlying t with
    | some (.slice e) => match P.info? e with
      | some i => match i.zero with
        | some z => bif Nat.ble 1 i.bytes && Nat.beq z.cells.size i.size then vx ρ l (isI fun _ n => vx ρ c (isI fun _ m => 0 ≤ n ∧ n ≤ m ∧ i.bytes * m ≤ 2 ^ 48 ∧
            valloc w (.cells (zc m.toNat z.cells.toList).toArray e) fun b w => K (.slice (some ⟨b, 0, none⟩) n.toNat m.toNat) w))
          else False
        | none => False
      | none => False
    | _ => False
  | .store t x v => match szOf P t with
    | some n => vx ρ x fun p => vx ρ v fun v => match p with
      | .pointer q => OnSome q fun a => vstore n a v w fun w => K undef w
      | _ => False
    | none => False
  | .mapUpdate t m k v => match mapOf (P.underlying t) with
    | some (kt, _) => match kkOf P kt with
      | some kk => vx ρ m fun m => vx ρ k fun k => vx ρ v fun v => match m with
        | .map q => OnSome q fun r => bif kFits kk k then ∃ es c, w.heap[r]? = some (.map es c) ∧ KeysOk kk es.toList ∧ ∀ w', w' = w.putObj r (mput k v es c) → K undef w'
          else False
        | _ => False
      | none => False
    | none => False
  | .call { callee := .builtin .delete, args, argTypes } => match args.toList, argTypes.toList with
    | [m, k], t :: _ => match mapOf (P.underlying t) with
      | some (kt, _) => match kkOf P kt with
        | some kk => vx ρ m fun m => vx ρ k fun k => match m with
          | .map q => OnSome q fun r => bif kFits kk k then ∃ es c, w.heap[r]? = some (.map es c) ∧ KeysOk kk es.toList ∧ ∀ w', w' = w.putObj r (mdel k es c) → K (.tuple #[]) w'
            else False
          | _ => False
        | none => False
      | none => False
    | _, _ => False
  | .call { callee := .builtin .clear, args, argTypes } => match args.toList, argTypes.toList with
    | [x], t :: _ => match P.underlying t with
      | some (.slice e) => match zeroOf P e with
        | some z => bif z.cells.toList.all Value.oneCell' then vx ρ x fun x => match x with
            | .slice base n _ => (0 < n → ∃ p, base = some p ∧ Wr w p (n * z.cells.toList.length)) ∧ ∀ w', w' = clrSet base n z.cells.toList w → K (.tuple #[]) w'
            | _ => False
          else False
        | none => False
      | _ => False
    | _, _ => False
  | .call { callee := .builtin .append, args, argTypes } => match args.toList, argTypes.toList with
    | [x, y], t :: u :: _ => match P.underlying t with
      | some (.slice e) => match P.info? e with
        | some i => match i.zero with
          | some z => bif Nat.ble 1 i.bytes && Nat.ble 1 i.size && Nat.beq z.cells.size i.size then vx ρ x fun x => vx ρ y fun y => match x with
              | .slice base n cap => bif sliceT (P.underlying u) then match y with
                  | .slice yb m _ => ∃ ys, RowAt w yb (m * i.size) ys ∧ vapp e i.size i.bytes z.cells.toList base n cap m ys w K
                  | _ => False
                else bif strT (P.underlying u) && Nat.beq i.size 1 then match y with
                  | .string s => vapp e i.size i.bytes z.cells.toList base n cap s.size (bytesV s.data.toList) w K
                  | _ => False
                else bif i64T (P.underlying u) then match y with
                  | .int _ l => 0 ≤ l ∧ l * i.bytes ≤ 2 ^ 48 ∧ ((n + l.toNat : Nat) : Int) ≤ IntKind.i64.max ∧ vapp e i.size i.bytes z.cells.toList base n cap l.toNat (zc l.toNat z.cells.toList) w K
                  | _ => False
                else False
              | _ => False
            else False
          | none => False
        | none => False
      | _ => False
    | _, _ => False
  | .call { callee := .value g, args, .. } => match evs ρ args.toList with
    | some vs => match g with
      | .func f => vcall P f o.type vs.toArray w K
      | g => match shOfT P o.type with
        | some sh => vx ρ g fun fv => FvCall P fv vs w fun u w' => sh.ex fun v => u = v ∧ K v w'
        | none => False
    | none => False
  | _ => False
end Go.Bty
