/- The keys of a list, one by one; the first one but for one. -/
import Derived.Test.YtbjkbonnmeppoaaBtyU
import Derived.Laws.Strings
namespace Go.Bty
open Go
open Go.Proofs.Try renaming prog → P

section
variable {h0 : Frag} {w0 w : World} {As : List HP} {p o : Nat} {most : Int} {tk sk : List ByteArray} {row : Addr}

theorem node_cell {l r : List Nd} {x : Nd} {prev nxt : Option Addr} (H : St h0 w0 w As) (hm : SepL (Nodes row prev (l ++ x :: r) nxt) ∈ As) (i : Nat) : w.cell? (Addr.mk x.2 i none) = (nodeL x (lst prev l) (hd r nxt) row)[i]? := by
  obtain ⟨h, hs, ho⟩ := H.mem hm
  have hin : cl x.2 T_slru_node (nodeL x (lst prev l) (hd r nxt) row) ∈ Nodes row prev (l ++ x :: r) nxt := by
    rw [nodes_append]
    exact List.mem_append_right _ (.head _)
  obtain ⟨f, hf⟩ := sepL_cut_mem hs _ hin
  have hb := ho _ _ (cut_some hf).2
  unfold World.cell?
  simp [hb]

theorem nodes_nodup : ∀ {ns : List Nd} {prev nxt : Option Addr} {h : Frag}, SepL (Nodes row prev ns nxt) h → (ns.map (·.2)).Nodup
  | [], _, _, _, _ => List.nodup_nil
  | x :: ns, prev, nxt, h, H => by
    have H0 := H
    obtain ⟨f, hf, hr⟩ := H
    rw [List.map_cons, List.nodup_cons]
    refine ⟨fun hm => ?_, nodes_nodup hr⟩
    obtain ⟨y, hy, e⟩ := List.mem_map.1 hm
    obtain ⟨l, q, rfl⟩ := List.append_of_mem hy
    have hin : cl y.2 T_slru_node (nodeL y (lst (ad x.2) l) (hd q nxt) row) ∈ Nodes row (ad x.2) (l ++ y :: q) nxt := by
      rw [nodes_append]
      exact List.mem_append_right _ (.head _)
    rw [e] at hin
    exact sepL_ne H0 hin

def remN (ns : List Nd) (a : Option Addr) : Nat := match a with
  | none => 0
  | some a => ns.length - ns.findIdx fun x => x.2 == a.block
theorem findIdx_at : ∀ {l r : List Nd} {x : Nd}, ((l ++ x :: r).map (·.2)).Nodup → (l ++ x :: r).findIdx (fun y => y.2 == x.2) = l.length
  | [], r, x, _ => by simp [List.findIdx_cons]
  | y :: l, r, x, h => by
    rw [List.cons_append, List.map_cons, List.nodup_cons] at h
    have hne : (y.2 == x.2) = false := by
      have : y.2 ≠ x.2 := fun e => h.1 (by rw [e]; simp)
      simpa using this
    rw [List.cons_append, List.findIdx_cons, hne, findIdx_at h.2]
    rfl
theorem remN_at {l r : List Nd} {x : Nd} (h : ((l ++ x :: r).map (·.2)).Nodup) : remN (l ++ x :: r) (ad x.2) = (x :: r).length := by
  simp only [remN, ad]
  rw [findIdx_at h, List.length_append]; omega
theorem remN_lt {l r : List Nd} {x : Nd} (h : ((l ++ x :: r).map (·.2)).Nodup) : remN (l ++ x :: r) (hd r none) < remN (l ++ x :: r) (ad x.2) := by
  rw [remN_at h]
  cases r with
  | nil => simp [hd, remN]
  | cons z r =>
    have h2 : ((l ++ [x] ++ z :: r).map (·.2)).Nodup := by rw [List.append_assoc]; exact h
    have := remN_at h2
    rw [List.append_assoc] at this
    rw [show hd (z :: r) none = ad z.2 from rfl, show l ++ x :: z :: r = l ++ ([x] ++ z :: r) from rfl, this]
    simp

/-- All keys, in their order, each handed to y; X i: what y's side owns ahead of key i, Z: when it has said 'no more'. -/
theorem slru_all1 {y : Value} {X : Nat → HP} {Z : HP} {b : Nat} {K : Value → World → Prop}
    (hy : ∀ i k h0 w0 w As K, (tk ++ sk)[i]? = some k → St h0 w0 w (X i :: As) → (∀ w', St h0 w0 w' (X (i + 1) :: As) → K (.bool true) w') → (∀ w', St h0 w0 w' (Z :: As) → K (.bool false) w') → FvCall P y [.string k] w K)
    (H : St h0 w0 w (X 0 :: cl b T_p_slru_List [.pointer (some (Addr.mk p 0 none))] :: Slru p most tk sk :: As))
    (hK1 : ∀ w', St h0 w0 w' (X (tk ++ sk).length :: cl b T_p_slru_List [.pointer (some (Addr.mk p 0 none))] :: Slru p most tk sk :: As) → K (.tuple #[]) w')
    (hK2 : ∀ w', St h0 w0 w' (Z :: cl b T_p_slru_List [.pointer (some (Addr.mk p 0 none))] :: Slru p most tk sk :: As) → K (.tuple #[]) w') :
    Cl P f_slru_List_All_1 #[y, .pointer (some (Addr.mk b 0 none))] w K := by
  apply cl_slru_List_All_1
  unfold c_slru_List_All_1
  obtain ⟨r, es, mc, tr, sf, e1, e2, hdn, hm, H⟩ := H.pull3.slruOpen
  have hkeys : (tr ++ sf).map (·.1) = tk ++ sk := by rw [List.map_append, e1, e2]
  -- [list, map, T, S, X, box]
  have H := H.pull5
  intro w1 ew1
  have H := H.drew ew1
  have cls' : ∀ {A : HP} {w' : World}, St h0 w0 w' (A :: cl p T_slru_List (listCells most r tr sf) :: mp r es mc :: SepL (Nodes (Addr.mk p 2 none) none tr none) :: SepL (Nodes (Addr.mk p 5 none) none sf none) :: cl b T_p_slru_List [.pointer (some (Addr.mk p 0 none))] :: As) →
      St h0 w0 w' (A :: cl b T_p_slru_List [.pointer (some (Addr.mk p 0 none))] :: Slru p most tk sk :: As) := fun H => by
    have H2 := H.push5
    exact (St.slruMk e1 e2 hdn hm H2).push3
  refine ⟨_, by rw [H.cell m5]; rfl, _, rfl, _, by rw [H.cell m5]; rfl, _, rfl, ?_⟩
  refine ⟨fun vs w' => ∃ i : Nat, vs = [.int .i64 i] ∧ i ≤ 2 ∧ St h0 w0 w' (X (if i = 0 then 0 else if i = 1 then tr.length else (tr ++ sf).length) :: cl p T_slru_List (listCells most r tr sf) :: mp r es mc :: SepL (Nodes (Addr.mk p 2 none) none tr none) :: SepL (Nodes (Addr.mk p 5 none) none sf none) :: cl b T_p_slru_List [.pointer (some (Addr.mk p 0 none))] :: As),
    fun vs _ => match vs with | [.int _ i] => 2 - i.toNat | _ => 0, ⟨0, rfl, by omega, H⟩, ?_⟩
  rintro vs w9 ⟨i, rfl, hi, H⟩
  refine ⟨i, rfl, br (fun hc => ?_) fun hc => ?_⟩
  · simp only [decide_eq_true_eq] at hc
    have hi2 : i < 2 := by omega
    refine ⟨by omega, by omega, ?_⟩
    obtain ⟨o, rowN, base, q1, q2, q3, q4, q5, q6⟩ : ∃ (o : Nat) (rowN : List Nd) (base : Nat), ([.pointer (some (Addr.add (Addr.mk p 0 none) 2)), .pointer (some (Addr.add (Addr.mk p 0 none) 5))] : List Value)[Int.toNat i]? = some (.pointer (some (Addr.mk p o none))) ∧
        (listCells most r tr sf)[o]? = some (.pointer (hd rowN none)) ∧ (SepL (Nodes (Addr.mk p o none) none rowN none) = SepL (Nodes (Addr.mk p 2 none) none tr none) ∨ SepL (Nodes (Addr.mk p o none) none rowN none) = SepL (Nodes (Addr.mk p 5 none) none sf none)) ∧
        (∀ j x, rowN[j]? = some x → (tk ++ sk)[base + j]? = some x.1) ∧ (if i = 0 then 0 else if i = 1 then tr.length else (tr ++ sf).length) = base ∧ (if i + 1 = 0 then 0 else if i + 1 = 1 then tr.length else (tr ++ sf).length) = base + rowN.length := by
      rcases (by omega : i = 0 ∨ i = 1) with rfl | rfl
      · refine ⟨2, tr, 0, by simp [add_mk], rfl, .inl rfl, fun j x hj => ?_, rfl, by simp⟩
        rw [← hkeys, Nat.zero_add, List.getElem?_map, List.getElem?_append_left (List.getElem?_eq_some_iff.1 hj).1, hj]; rfl
      · refine ⟨5, sf, tr.length, by simp [add_mk], rfl, .inr rfl, fun j x hj => ?_, rfl, by simp⟩
        rw [← hkeys, List.getElem?_map, List.getElem?_append_right (by omega), Nat.add_sub_cancel_left, hj]; rfl
    rw [q5] at H
    refine ⟨_, q1, _, rfl, hd rowN none, by rw [add_mk, Nat.add_zero, H.cell m1]; exact q2, ?_⟩
    have hmem : ∀ {A B C : HP} {l : List HP}, SepL (Nodes (Addr.mk p o none) none rowN none) ∈ A :: B :: C :: SepL (Nodes (Addr.mk p 2 none) none tr none) :: SepL (Nodes (Addr.mk p 5 none) none sf none) :: l := fun {A B C l} => by
      rcases q3 with h | h <;> rw [h]
      · exact m3
      · exact m4
    refine ⟨fun vs w' => ∃ l q, rowN = l ++ q ∧ vs = [.pointer (hd q none)] ∧ St h0 w0 w' (X (base + l.length) :: cl p T_slru_List (listCells most r tr sf) :: mp r es mc :: SepL (Nodes (Addr.mk p 2 none) none tr none) :: SepL (Nodes (Addr.mk p 5 none) none sf none) :: cl b T_p_slru_List [.pointer (some (Addr.mk p 0 none))] :: As),
      fun vs _ => match vs with | [.pointer a] => remN rowN a | _ => 0, ⟨[], rowN, rfl, rfl, H⟩, ?_⟩
    rintro vs w17 ⟨l, q, erow, rfl, H⟩
    refine ⟨hd q none, rfl, br (fun hn => ?_) fun hn => ?_⟩
    · obtain ⟨x, q, rfl⟩ : ∃ x q', q = x :: q' := by cases q with | nil => cases hn | cons x q => exact ⟨x, q, rfl⟩
      have hnd : ((l ++ x :: q).map (·.2)).Nodup := by
        obtain ⟨hh, hs, _⟩ := H.mem hmem
        rw [← erow]
        exact nodes_nodup hs
      have hk : (tk ++ sk)[base + l.length]? = some x.1 := q4 l.length x (by rw [erow]; simp)
      have cellx : ∀ {A : HP} {w' : World}, St h0 w0 w' (A :: cl p T_slru_List (listCells most r tr sf) :: mp r es mc :: SepL (Nodes (Addr.mk p 2 none) none tr none) :: SepL (Nodes (Addr.mk p 5 none) none sf none) :: cl b T_p_slru_List [.pointer (some (Addr.mk p 0 none))] :: As) →
          ∀ i, w'.cell? (Addr.mk x.2 i none) = (nodeL x (lst none l) (hd q none) (Addr.mk p o none))[i]? := fun {A w'} H i => by
        have hme := hmem (A := A) (B := cl p T_slru_List (listCells most r tr sf)) (C := mp r es mc) (l := cl b T_p_slru_List [.pointer (some (Addr.mk p 0 none))] :: As)
        rw [erow] at hme
        exact node_cell H hme i
      refine ⟨_, rfl, x.1, by rw [add_mk, cellx H]; rfl, hy _ _ _ _ _ _ _ hk H (fun w22 H => ⟨true, rfl, br (fun h => by simp at h) fun _ => ?_⟩) (fun w22 H => ⟨false, rfl, br (fun _ => ?_) fun h => by simp at h⟩)⟩
      · refine ⟨_, rfl, hd q none, by rw [add_mk, cellx H]; rfl, ⟨l ++ [x], q, by rw [erow]; simp, rfl, by simpa [Nat.add_assoc] using H⟩, ?_⟩
        have := remN_lt hnd
        rw [← erow] at this
        exact this
      · exact hK2 _ (cls' H)
    · have : q = [] := by cases q with | nil => rfl | cons x q => cases hn
      subst this
      rw [List.append_nil] at erow
      subst erow
      have ew : IntKind.i64.wrap ((i : Int) + 1) = ((i + 1 : Nat) : Int) := by rw [wrap_i64 (by omega) (by omega)]; omega
      rw [ew]
      exact ⟨⟨i + 1, rfl, by omega, by rw [q6]; exact H⟩, by simp; omega⟩
  · simp only [decide_eq_false_iff_not] at hc
    have : i = 2 := by omega
    subst this
    refine hK1 _ (cls' ?_)
    have e : (tr ++ sf).length = (tk ++ sk).length := by rw [← hkeys]; simp
    rw [← e]
    exact H

theorem seq_eq (a b : ByteArray) : seq a b = decide (a = b) := by
  unfold seq
  rw [ByteArray.toList_eq, ByteArray.toList_eq, Bool.eq_iff_iff]
  simp only [beq_iff_eq, decide_eq_true_eq]
  constructor
  · intro h
    cases a; cases b
    rename_i x y
    have : x = y := by cases x; cases y; simpa using h
    rw [this]
  · rintro rfl; rfl

theorem slru_all {a : Option Addr} {K : Value → World → Prop} (H : St h0 w0 w As) (hK : ∀ b w', St h0 w0 w' (cl b T_p_slru_List [.pointer a] :: As) → K (.func (.func f_slru_List_All_1) #[] #[.pointer (some (Addr.mk b 0 none))]) w') :
    Cl P f_slru_List_All #[.pointer a] w K := by
  apply cl_slru_List_All
  unfold c_slru_List_All
  intro b1 w2 e1 e2
  exact hK b1 w2 (H.newCells e1 e2)

/-- The first key but for one. -/
def victimM (ks : List ByteArray) (but : ByteArray) : Option ByteArray := ks.find? fun k => decide (k ≠ but)
def victimV : Option ByteArray → Value
  | some k => .tuple #[.string k, .bool true]
  | none => .tuple #[.string ⟨#[]⟩, .bool false]

theorem slru_victim (p : Nat) (most : Int) (tk sk : List ByteArray) (but : ByteArray) : Sp P f_slru_List_Victim #[.pointer (some (Addr.mk p 0 none)), .string but] (Slru p most tk sk)
    (fun v h => v = victimV (victimM (tk ++ sk) but) ∧ Slru p most tk sk h) := sp_of fun w h H => by
  apply cl_slru_List_Victim
  unfold c_slru_List_Victim
  intro b1 w2 e1 e2 b3 w4 e3 e4 b5 w6 e5 e6
  have H := ((H.newCells (cs := [.string but]) e1 e2).newCells (cs := [.string ⟨#[]⟩]) e3 e4).newCells (cs := [.bool false]) e5 e6
  refine slru_all H fun b w8 H => ⟨_, rfl, ?_⟩
  refine ⟨by kernel_rfl, fun Lp lp D l w12 eD el ew hLp hst hpe hLs HY => ?_⟩
  have H := (H.alloc (b := D) (o := .deferred (some [])) eD rfl).alloc (b := l) (o := .loop lp) (by rw [el, World.size_alloc]) ew
  -- [lp, D, box, b5, b3, b1, Slru]
  let X : Nat → HP := fun i h => ∃ lp, Lp lp ∧ lp.state = .ready ∧ lp.pending = none ∧ (∀ j k, j < i → (tk ++ sk)[j]? = some k → k = but) ∧
    SepL [pt l (.loop lp), pt D (.deferred (some [])), cl b5 T_bool [.bool false], cl b3 T_string [.string ⟨#[]⟩], cl b1 T_string [.string but]] h
  let Z : HP := fun h => ∃ lp k, Lp lp ∧ lp.state = .done ∧ lp.pending = some .ret ∧ victimM (tk ++ sk) but = some k ∧
    SepL [pt l (.loop lp), pt D (.deferred (some [])), cl b5 T_bool [.bool true], cl b3 T_string [.string k], cl b1 T_string [.string but]] h
  have H0 : St h w w12 (X 0 :: cl b T_p_slru_List [.pointer (some (Addr.mk p 0 none))] :: Slru p most tk sk :: []) :=
    St.cls [pt l (.loop lp), pt D (.deferred (some [])), cl b5 T_bool [.bool false], cl b3 T_string [.string ⟨#[]⟩], cl b1 T_string [.string but]] H.pull3.push6 fun _ hs => ⟨lp, hLp, hst, hpe, (fun j k hj => absurd hj (by omega)), hs⟩
  refine slru_all1 (Z := Z) ?_ H0 ?_ ?_
  · intro i k h0 w0 w As K hk H K1 K2
    obtain ⟨hh, ⟨lp, q1, q2, q3, q4, q5⟩, hcl⟩ := H.opn
    have H := hcl _ q5
    refine ⟨rfl, HY w lp [.string k] K q1 (H.get m0) q2 rfl ⟨k, rfl, lp, H.get m0, q2, fun W2 e2 => ?_⟩⟩
    have H := H.putObj e2
    refine ⟨but, H.cell m4 0, ?_⟩
    rw [seq_eq]
    refine br (fun hn => ?_) fun hn => ?_
    · have hne : k ≠ but := by simpa using hn
      refine ⟨H.stOk m3 (by simp), fun w25 e25 => ?_⟩
      have H := H.pull4.set e25
      refine ⟨H.stOk m3 (by simp), fun w26 e26 => ?_⟩
      have H := H.pull4.set e26
      -- [b5, b3, lp, D, b1]
      refine ⟨_, H.get m2, fun w28 e28 => ?_⟩
      have H := H.pull3.putObj e28
      refine K2 _ ?_
      -- [lp, b5, b3, D, b1]
      refine St.cls [_, _, _, _, _] H.pull4.swap fun hh hs => ⟨_, k, ?_, ?_, ?_, ?_, hs⟩
      · exact hLs _ _ _ (hLs _ _ _ q1)
      · rfl
      · rfl
      · unfold victimM
        obtain ⟨l1, l2, e1, e2⟩ : ∃ l1 l2, tk ++ sk = l1 ++ k :: l2 ∧ l1.length = i := ⟨(tk ++ sk).take i, (tk ++ sk).drop (i + 1), by
          have hlt := (List.getElem?_eq_some_iff.1 hk).1
          have hg := (List.getElem?_eq_some_iff.1 hk).2
          rw [← hg, List.getElem_cons_drop, List.take_append_drop], by
          have hlt := (List.getElem?_eq_some_iff.1 hk).1
          rw [List.length_take]; omega⟩
        rw [e1, List.find?_append]
        have : l1.find? (fun k => decide (k ≠ but)) = none := by
          rw [List.find?_eq_none]
          intro z hz
          obtain ⟨j, hj⟩ := List.getElem?_of_mem hz
          have hjl := (List.getElem?_eq_some_iff.1 hj).1
          have := q4 j z (by omega) (by rw [e1, List.getElem?_append_left hjl]; exact hj)
          simp [this]
        rw [this]
        simp [List.find?_cons, hne]
    · have he : k = but := by simpa using hn
      refine ⟨_, H.get m0, fun w30 e30 => ?_⟩
      have H := H.putObj e30
      refine K1 _ ?_
      refine St.cls [_, _, _, _, _] H fun hh hs => ⟨_, ?_, ?_, ?_, ?_, hs⟩
      · exact hLs _ _ _ (hLs _ _ _ q1)
      · rfl
      · rfl
      · intro j k' hj hk'
        by_cases e : j = i
        · subst e; rw [hk] at hk'; cases hk'; exact he
        · exact q4 j k' (by omega) hk'
  · intro w32 H
    obtain ⟨hh, ⟨lp, q1, q2, q3, q4, q5⟩, hcl⟩ := H.opn
    have H := hcl _ q5
    refine ⟨lp, H.get m0, by rw [q2]; simp, fun w33 e33 => ?_⟩
    have H := H.putObj e33
    rw [q3, pendR_none]
    refine ⟨H.stOk m3 (by simp), fun w35 e35 => ?_⟩
    have H := H.pull4.set e35
    refine ⟨H.stOk m3 (by simp), fun w36 e36 => ?_⟩
    have H := H.pull4.set e36
    refine ⟨H.get m3, fun w37 e37 => ?_⟩
    have H := H.pull4.putObj e37
    refine ⟨_, by rw [H.cell m2]; rfl, _, by rw [H.cell m1]; rfl, ?_⟩
    have hv : victimM (tk ++ sk) but = none := by
      unfold victimM
      rw [List.find?_eq_none]
      intro z hz
      obtain ⟨j, hj⟩ := List.getElem?_of_mem hz
      have := q4 j z (List.getElem?_eq_some_iff.1 hj).1 hj
      simp [this]
    rw [hv]
    exact (H.only m6).conv fun _ hs => ⟨rfl, hs⟩
  · intro w32 H
    obtain ⟨hh, ⟨lp, k, q1, q2, q3, q4, q5⟩, hcl⟩ := H.opn
    have H := hcl _ q5
    refine ⟨lp, H.get m0, by rw [q2]; simp, fun w33 e33 => ?_⟩
    have H := H.putObj e33
    rw [q3, pendR_ret]
    refine ⟨H.get m1, fun w40 e40 => ?_⟩
    have H := H.swap.putObj e40
    refine ⟨_, by rw [H.cell m3]; rfl, _, by rw [H.cell m2]; rfl, ?_⟩
    rw [q4]
    exact (H.only m6).conv fun _ hs => ⟨rfl, hs⟩
end
end Go.Bty
