/- Regions: in the order of the text ('vops'), and in any order ('vt'). -/
import Derived.Test.YtbjkbonnmeppoaaBtyJ
namespace Go.Bty
open Go

/-- 0: alike in whatever world; 1: reads; 2: the rest. -/
def cls (P : Program) (o : Op) : Nat :=
  match o with
  | .load .. => 1
  | .lookup .. => 1
  | .convert s d _ => match P.underlying d with
    | some (.int _) => 0
    | some .string => bif strT (P.underlying s) then 0 else 1
    | _ => 2
  | .call { callee := .builtin .len, argTypes, .. } => match argTypes.toList with
    | t :: _ => bif mapT (P.underlying t) then 1 else 0
    | [] => 0
  | o => bif isP o then 0 else 2

/-- One operation. -/
def vo (P : Program) (ρ : Env) (o : Oper) (w : World) (K : Value → World → Prop) : Prop :=
  match cls P o.op with
  | 0 => vp P ρ o.op fun v => K v w
  | 1 => vr P ρ o.op w fun v => K v w
  | _ => ve P ρ o w K
def dstB (N : Nat) (o : Oper) : Bool :=
  match o.dst with
  | none => true
  | some d => Nat.blt d N
def slotOf (ops : Array Oper) (o : Oper) : Option (Nat × Bool) :=
  match o.guard with
  | none => none
  | some (j, want) => match ops.toList[j]? with
    | some oj => match oj.dst with
      | some d => some (d, want)
      | none => none
    | none => none
def guardB (o : Oper) : Bool := o.guard.isSome
/-- An operation, under its guard: 'run' or 'pass'. -/
def vg (ops : Array Oper) (ρ : Env) (o : Oper) (run pass : Prop) : Prop :=
  bif guardB o then match slotOf ops o with
    | some (d, want) => match ρ.get d with
      | some (.bool x) => match x with
        | true => bif want then run else pass
        | false => bif want then pass else run
      | some (.tuple _) => pass
      | _ => False
    | none => False
  else run

/-- A region in the order of the text; 'bs': ahead of which operations the guard is to be parted. -/
def vops (P : Program) (N : Nat) (ops : Array Oper) : List Oper → List Bool → Env → World → (Env → World → Prop) → Prop
  | [], _, ρ, w, K => K ρ w
  | o :: l, bs, ρ, w, K =>
    bif dstB N o then
      let go : Env → Prop := fun ρ => vg ops ρ o (vo P ρ o w fun v w' => vops P N ops l bs.tail (ρ.put o.dst v) w' K) (vops P N ops l bs.tail (ρ.put o.dst undef) w K)
      match bs with
      | true :: _ => match slotOf ops o with
        | some (d, _) => match ρ.get d with
          | some (.bool x) => bif x then go ((d, .bool true) :: ρ) else go ((d, .bool false) :: ρ)
          | some (.tuple _) => go ρ
          | _ => False
        | none => False
      | _ => go ρ
    else False

/-- An order: reads and the rest. -/
inductive RT where
  | fin
  | rd (i : Nat) (k : RT)
  | ef (i : Nat) (k more : RT)
  | no
  | sp (d : Nat) (k : RT)

def RT.ok (ops : Array Oper) : RT → Nat → Array Bool → Option (List Nat) → Bool
  | .fin, _, listed, none => (Region.ready .any ops listed).isEmpty
  | .rd i k, f + 1, listed, none => (Region.ready .any ops listed).contains i && RT.ok ops k f (listed.setIfInBounds i true) none
  | .ef i k more, f + 1, listed, none => (Region.ready .any ops listed).contains i && RT.ok ops k f (listed.setIfInBounds i true) none && RT.ok ops more (f + 1) listed (some [i])
  | .ef i k more, f + 1, listed, some acc => (Region.ready .any ops listed).contains i && RT.ok ops k f (listed.setIfInBounds i true) none && RT.ok ops more (f + 1) listed (some (i :: acc))
  | .no, _, listed, some acc => (Region.ready .any ops listed).all fun j => acc.contains j
  | .sp _ k, f, listed, none => RT.ok ops k f listed none
  | _, _, _, _ => false

def RT.strict (st : Nat → Bool) : RT → Bool
  | .rd i k => st i && RT.strict st k
  | .ef _ k more => RT.strict st k && RT.strict st more
  | .sp _ k => RT.strict st k
  | _ => true

/-- Reads that must stay: the operation, what it read, what must hold that it reads that. -/
abbrev Pds := List (Nat × Value × (World → Prop))
def Pds.left (an : Nat → List Nat) (S : Pds) (j : Nat) : Pds := S.filter fun p => !((an j).any fun t => Nat.beq t p.1)
def Pds.all : Pds → World → Prop → Prop
  | [], _, K => K
  | p :: S, w, K => p.2.2 w ∧ Pds.all S w K

/-- A region in any order. -/
def vt (P : Program) (N : Nat) (ops : Array Oper) (an : Nat → List Nat) : RT → Env → Pds → World → (Env → World → Prop) → Prop
  | .fin, ρ, _, w, K => K ρ w
  | .rd i k, ρ, S, w, K => match ops.toList[i]? with
    | none => False
    | some o => bif dstB N o then vg ops ρ o (match cls P o.op with
        | 0 => vp P ρ o.op fun v => vt P N ops an k (ρ.put o.dst v) S w K
        | 1 => vr P ρ o.op w fun v => vt P N ops an k (ρ.put o.dst v) ((i, v, fun w' => vr P ρ o.op w' fun u => u = v) :: S) w K
        | _ => False) (vt P N ops an k (ρ.put o.dst undef) S w K) else False
  | .ef i k more, ρ, S, w, K => match ops.toList[i]? with
    | none => False
    | some o => bif dstB N o then match more with
        | .no => vg ops ρ o (vo P ρ o w fun v w' => Pds.all (Pds.left an S i) w' (vt P N ops an k (ρ.put o.dst v) (Pds.left an S i) w' K)) (Pds.all (Pds.left an S i) w (vt P N ops an k (ρ.put o.dst undef) (Pds.left an S i) w K))
        | more => vg ops ρ o (vo P ρ o w fun v w' => Pds.all (Pds.left an S i) w' (vt P N ops an k (ρ.put o.dst v) (Pds.left an S i) w' K)) (Pds.all (Pds.left an S i) w (vt P N ops an k (ρ.put o.dst undef) (Pds.left an S i) w K)) ∧ vt P N ops an more ρ S w K
      else False
  | .no, _, _, _, _ => True
  | .sp d k, ρ, S, w, K => match ρ.get d with
    | some (.bool x) => bif x then vt P N ops an k ((d, .bool true) :: ρ) S w K else vt P N ops an k ((d, .bool false) :: ρ) S w K
    | some (.tuple _) => vt P N ops an k ρ S w K
    | _ => False

section
variable {r : Option Nat} {P : Program} {N : Nat} {ρ : Env} {ds : List Nat} {a : Act} {ops : Array Oper} {an : Nat → List Nat}

theorem cls_pure {o : Oper} {K : Value → Prop} (h : vp P ρ o.op K) : ∀ c, o.op ≠ .defer c := fun c hc => by
  rw [hc] at h; exact h.elim
theorem vr_nd {o : Oper} {w : World} {K : Value → Prop} (h : vr P ρ o.op w K) : ∀ c, o.op ≠ .defer c := fun c hc => by
  rw [hc] at h; exact h.elim

theorem vo_sound (hr : Rel N ρ ds a) {o : Oper} {w : World} {K : Value → World → Prop} (h : vo P ρ o w K) : opW r P o a w (Res a o.dst K) := by
  unfold vo at h
  split at h
  · obtain ⟨v, hk, hv⟩ := vp_sound hr h
    exact opW_ok (cls_pure h) (hv w) ⟨v, rfl, hk⟩
  · obtain ⟨v, hk, hv⟩ := vr_sound hr h
    exact opW_ok (vr_nd h) hv ⟨v, rfl, hk⟩
  · exact ve_sound hr h

theorem slotOf_spec {o : Oper} {d : Nat} {want : Bool} (h : slotOf ops o = some (d, want)) : ∃ j oj, o.guard = some (j, want) ∧ ops[j]? = some oj ∧ oj.dst = some d := by
  unfold slotOf at h
  split at h
  · cases h
  · rename_i j w' hg
    split at h
    · rename_i oj hoj
      split at h
      · rename_i d' hd
        cases h
        exact ⟨j, oj, hg, by simpa using hoj, hd⟩
      · cases h
    · cases h

theorem wanted_of {o : Oper} {d : Nat} {want x : Bool} (hr : Rel N ρ ds a) (h : slotOf ops o = some (d, want)) (hg : ρ.get d = some (.bool x)) : Region.wanted o (yielded ops a.tmps) = (x == want) := by
  obtain ⟨j, oj, h1, h2, h3⟩ := slotOf_spec h
  have hv := hr.val d _ hg
  have ht : a.tmps[d]? = some (.bool x) := by
    rw [Array.getD_eq_getD_getElem?] at hv
    cases ht : a.tmps[d]? with
    | none => rw [ht] at hv; cases hv
    | some u => rw [ht] at hv; simp only [Option.getD_some] at hv; rw [hv]
  simp only [Region.wanted, h1, yielded, h2, Option.bind_some, h3, ht]
  cases x <;> cases want <;> rfl

theorem unwanted_of {o : Oper} {d : Nat} {want : Bool} {us : Array Value} (hr : Rel N ρ ds a) (h : slotOf ops o = some (d, want)) (hg : ρ.get d = some (.tuple us)) : Region.wanted o (yielded ops a.tmps) = false := by
  obtain ⟨j, oj, h1, h2, h3⟩ := slotOf_spec h
  have hv := hr.val d _ hg
  simp only [Region.wanted, h1, yielded, h2, Option.bind_some, h3]
  rw [Array.getD_eq_getD_getElem?] at hv
  cases ht : a.tmps[d]? with
  | none => rfl
  | some u => rw [ht] at hv; simp only [Option.getD_some] at hv; rw [hv]; rfl

/-- What a guarded operation comes to. -/
theorem vg_sound {o : Oper} {run pass : Prop} (hr : Rel N ρ ds a) (h : vg ops ρ o run pass) : (Region.wanted o (yielded ops a.tmps) = true ∧ run) ∨ (Region.wanted o (yielded ops a.tmps) = false ∧ pass) := by
  unfold vg at h
  cases hg : guardB o with
  | false =>
    rw [hg] at h
    refine .inl ⟨?_, h⟩
    cases hgd : o.guard with
    | none => simp [Region.wanted, hgd]
    | some g => simp [guardB, hgd] at hg
  | true =>
    rw [hg] at h
    simp only [cond_true] at h
    split at h
    · rename_i d want hs
      split at h
      · rename_i x hx
        have hw := wanted_of hr hs hx
        cases x <;> cases want <;> simp only [cond_true, cond_false] at h
        · exact .inl ⟨hw, h⟩
        · exact .inr ⟨hw, h⟩
        · exact .inr ⟨hw, h⟩
        · exact .inl ⟨hw, h⟩
      · rename_i us hx
        exact .inr ⟨unwanted_of hr hs hx, h⟩
      · exact h.elim
    · exact h.elim

theorem dstB_spec {o : Oper} (h : dstB N o = true) : ∀ d, o.dst = some d → d < N := fun d hd => by
  unfold dstB at h
  rw [hd] at h
  exact Nat.le_of_ble_eq_true h

theorem Rel.same {d : Nat} {x : Bool} (hr : Rel N ρ ds a) (hg : ρ.get d = some (.bool x)) : Rel N ((d, .bool x) :: ρ) ds a :=
  hr.forget fun t v hv => by
    rcases Env.get_put hv with ⟨rfl, rfl⟩ | ⟨_, h⟩
    · exact hg
    · exact h

/-- Frames that agree but for some temporaries. -/
def KeepsF (ts : List Nat) (a a' : Act) : Prop := ∀ t, t ∉ ts → a'.tmps.getD t undef = a.tmps.getD t undef
theorem KeepsF.refl {ts : List Nat} {a : Act} : KeepsF ts a a := fun _ _ => rfl
theorem KeepsF.trans {ts : List Nat} {a b c : Act} (h : KeepsF ts a b) (h' : KeepsF ts b c) : KeepsF ts a c := fun t ht => (h' t ht).trans (h t ht)
theorem KeepsF.more {ts us : List Nat} {a b : Act} (h : KeepsF ts a b) (hs : ∀ t ∈ ts, t ∈ us) : KeepsF us a b := fun t ht => h t (fun hm => ht (hs t hm))
theorem KeepsF.put {dst : Option Nat} {v : Value} {ts : List Nat} {a b : Act} (h : ∀ d, dst = some d → d ∈ ts) (hk : KeepsF ts a b) : KeepsF ts a (b.put dst v) := fun t ht => by
  rw [← hk t ht]
  cases dst with
  | none => rfl
  | some d =>
    have hne : d ≠ t := fun e => ht (e ▸ h d rfl)
    simp only [Act.put, Array.getD_eq_getD_getElem?]
    rw [Array.getElem?_setIfInBounds_ne hne]

def wrOps : List Oper → List Nat
  | [] => []
  | o :: l => match o.dst with
    | some d => d :: wrOps l
    | none => wrOps l
theorem mem_wrOps {o : Oper} {d : Nat} (hd : o.dst = some d) : ∀ {l : List Oper}, o ∈ l → d ∈ wrOps l
  | o' :: l, hm => by
    unfold wrOps
    rcases List.mem_cons.1 hm with rfl | hm
    · rw [hd]; exact List.mem_cons_self ..
    · split
      · exact List.mem_cons_of_mem _ (mem_wrOps hd hm)
      · exact mem_wrOps hd hm

/-- What is asked at a region's end. -/
def RQ (N : Nat) (ds : List Nat) (ts : List Nat) (a0 : Act) (K : Env → World → Prop) : Exit → Act → World → Prop := fun e a w => e = .normal ∧ ∃ ρ', Rel N ρ' ds a ∧ KeepsF ts a0 a ∧ K ρ' w

theorem vops_sound {K : Env → World → Prop} {a0 : Act} {ts : List Nat} (l : List Oper) : ∀ (k : Nat) (bs : List Bool) (ρ : Env) (a : Act) (w : World), (∀ j, l[j]? = ops[k + j]?) → (∀ o ∈ l, ∀ d, o.dst = some d → d ∈ ts) → Rel N ρ ds a → KeepsF ts a0 a →
    vops P N ops l bs ρ w K → wpOpsIn (Fn r) 0 P ops (RQ N ds ts a0 K) (List.range' k l.length) a w := by
  induction l with
  | nil => intro k bs ρ a w _ _ hr hk h; exact ⟨rfl, ρ, hr, hk, h⟩
  | cons o l ih =>
    intro k bs ρ a w hl hts hr hk h
    have h0 : ops[k]? = some o := by simpa using (hl 0).symm
    have hl' : ∀ j, l[j]? = ops[k + 1 + j]? := fun j => by have := hl (j + 1); simpa [Nat.add_assoc, Nat.add_comm 1 j] using this
    unfold vops at h
    cases hd : dstB N o with
    | false => rw [hd] at h; exact h.elim
    | true =>
      rw [hd] at h
      have hdst := dstB_spec hd
      simp only [cond_true] at h
      have go : ∀ (bs : List Bool) (ρ : Env), Rel N ρ ds a → vg ops ρ o (vo P ρ o w fun v w' => vops P N ops l bs (ρ.put o.dst v) w' K) (vops P N ops l bs (ρ.put o.dst undef) w K) →
          wpOpsIn (Fn r) 0 P ops (RQ N ds ts a0 K) (List.range' k (l.length + 1)) a w := by
        intro bs ρ hr hg
        rw [List.range'_succ]
        simp only [wpOpsIn, h0]
        rcases vg_sound hr hg with ⟨hw, hrun⟩ | ⟨hw, hpass⟩
        · rw [if_pos hw]
          refine Oper.wpIn_mono ?_ (opW_in (r := r) (RQ N ds ts a0 K) (vo_sound hr hrun))
          rintro a' w' ⟨v, rfl, hv⟩
          exact ih (k + 1) _ _ _ _ hl' (fun o ho => hts o (List.mem_cons_of_mem _ ho)) (hr.put hdst v) (hk.put (fun d hd => hts o (List.mem_cons_self ..) d hd)) hv
        · rw [hw]
          exact ⟨fun _ _ => trivial, ih (k + 1) _ _ _ _ hl' (fun o ho => hts o (List.mem_cons_of_mem _ ho)) (hr.put hdst undef) (hk.put (fun d hd => hts o (List.mem_cons_self ..) d hd)) hpass⟩
      split at h
      · split at h
        · rename_i d want hs
          split at h
          · rename_i x hx
            cases x with
            | true => exact go _ _ (hr.same hx) h
            | false => exact go _ _ (hr.same hx) h
          · exact go _ _ hr h
          · exact h.elim
        · exact h.elim
      · exact go _ _ hr h
end
end Go.Bty
