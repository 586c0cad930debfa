/- The two rows of keys: nodes behind one another, a map that finds them. -/
/- The list of keys: which would be given up first. -/
/- The keys of a list, one by one; the first one but for one. -/
import Derived.Test.YtbjkbonnmeppoaaPkC
import Derived.Test.YtbjkbonnmeppoaaSlruC
import Derived.Laws.Strings
namespace Go.Bty
open Go
open Go.Proofs.Try renaming prog → P

abbrev Nd := ByteArray × Nat
def ad (b : Nat) : Option Addr := some (Addr.mk b 0 none)
def hd : List Nd → Option Addr → Option Addr
  | [], d => d
  | x :: _, _ => ad x.2
def lst (d : Option Addr) : List Nd → Option Addr
  | [] => d
  | x :: xs => lst (ad x.2) xs
def nodeL (x : Nd) (a n : Option Addr) (row : Addr) : List Value := [.string x.1, .pointer a, .pointer n, .pointer (some row)]
def Nodes (row : Addr) : Option Addr → List Nd → Option Addr → List HP
  | _, [], _ => []
  | prev, x :: xs, nxt => cl x.2 T_slru_node (nodeL x prev (hd xs nxt) row) :: Nodes row (ad x.2) xs nxt

theorem hd_append (l r : List Nd) (d : Option Addr) : hd (l ++ r) d = hd l (hd r d) := by cases l <;> rfl
theorem lst_append (l r : List Nd) (d : Option Addr) : lst d (l ++ r) = lst (lst d l) r := by
  induction l generalizing d with
  | nil => rfl
  | cons x l ih => exact ih _
theorem nodes_append (row : Addr) (l r : List Nd) (prev nxt : Option Addr) : Nodes row prev (l ++ r) nxt = Nodes row prev l (hd r nxt) ++ Nodes row (lst prev l) r nxt := by
  induction l generalizing prev with
  | nil => rfl
  | cons x l ih => simp only [List.cons_append, Nodes, ih, hd_append, lst]

structure RowOk (L : List Value) (o : Nat) (ns : List Nd) : Prop where
  first : L[o]? = some (.pointer (hd ns none))
  last : L[o + 1]? = some (.pointer (lst none ns))
  many : L[o + 2]? = some (.int .i64 ns.length)
def rowSet (L : List Value) (o : Nat) (ns : List Nd) : List Value := ((L.set o (.pointer (hd ns none))).set (o + 1) (.pointer (lst none ns))).set (o + 2) (.int .i64 ns.length)

theorem set_same {L : List Value} {o : Nat} {v : Value} (h : L[o]? = some v) : L.set o v = L := by
  apply List.ext_getElem?
  intro i
  rw [List.getElem?_set]
  split
  · rename_i e; subst e
    have := (List.getElem?_eq_some_iff.1 h).1
    rw [if_pos this, h]
  · rfl

section
variable {h0 : Frag} {w0 w : World} {As : List HP} {p o : Nat} {T : TypeId} {L : List Value} {ns : List Nd} {K : Value → World → Prop}

theorem slru_push {x : Nd} {v1 v2 v3 : Value} (H : St h0 w0 w (cl p T L :: SepL (Nodes (Addr.mk p o none) none ns none) :: cl x.2 T_slru_node [.string x.1, v1, v2, v3] :: As)) (hr : RowOk L o ns) (hm : ns.length < 2 ^ 62)
    (hK : ∀ w', St h0 w0 w' (cl p T (rowSet L o (ns ++ [x])) :: SepL (Nodes (Addr.mk p o none) none (ns ++ [x]) none) :: As) → K (.tuple #[]) w') :
    Cl P f_slru_row_push #[.pointer (some (Addr.mk p o none)), .pointer (ad x.2)] w K := by
  have l2 := (List.getElem?_eq_some_iff.1 hr.many).1
  have l1 : o + 1 < L.length := by omega
  have l0 : o < L.length := by omega
  apply cl_slru_row_push
  unfold c_slru_row_push
  refine ⟨_, rfl, lst none ns, by rw [add_mk, H.cell m0]; exact hr.last, _, rfl, by rw [add_mk]; exact H.stOk m2 (by simp), fun w4 e4 => ?_⟩
  rw [add_mk] at e4
  have H := H.pull3.set e4
  refine ⟨_, rfl, by rw [add_mk]; exact H.stOk m0 (by simp), fun w6 e6 => ?_⟩
  rw [add_mk] at e6
  have H := H.set e6
  refine ⟨_, rfl, by rw [add_mk]; exact H.stOk m0 (by simp), fun w8 e8 => ?_⟩
  rw [add_mk] at e8
  have H := H.set e8
  have H : St h0 w0 w8 (cl x.2 T_slru_node (nodeL x (lst none ns) none (Addr.mk p o none)) :: cl p T L :: SepL (Nodes (Addr.mk p o none) none ns none) :: As) := H
  refine ⟨_, rfl, lst none ns, by rw [add_mk, H.cell m1]; exact hr.last, br (fun hn => ?_) fun hn => ?_⟩
  · -- the first one
    have hns : ns = [] := by
      cases ns with
      | nil => rfl
      | cons y ys =>
        exfalso
        have : ∀ (l : List Nd) (b : Nat), (lst (ad b) l).isNone = false := fun l => by
          induction l with
          | nil => intro b; rfl
          | cons z l ih => intro b; exact ih z.2
        simp only [lst] at hn
        rw [this] at hn; cases hn
    subst hns
    refine ⟨_, rfl, by rw [add_mk]; exact H.stOk m1 l0, fun w12 e12 => ?_⟩
    rw [add_mk] at e12
    have H := H.swap.set e12
    refine ⟨_, rfl, by rw [add_mk]; exact H.stOk m0 (by simpa using l1), fun w14 e14 => ?_⟩
    rw [add_mk] at e14
    have H := H.set e14
    refine ⟨_, rfl, 0, by rw [add_mk, H.cell m0]; simp [hr.many], _, rfl, by rw [add_mk]; exact H.stOk m0 (by simpa using l2), fun w18 e18 => ?_⟩
    rw [add_mk, wrap_i64 (by omega) (by omega)] at e18
    have H := H.set e18
    refine hK _ ?_
    have H := H.pull3.drop.swap
    exact (H.join (Bs := Nodes (Addr.mk p o none) none [x] none)).swap
  · -- behind another one
    obtain ⟨l, y, rfl⟩ : ∃ l y, ns = l ++ [y] := by
      rcases List.eq_nil_or_concat ns with h | ⟨l, y, h⟩
      · subst h; cases hn
      · exact ⟨l, y, by simpa using h⟩
    have ely : lst none (l ++ [y]) = ad y.2 := by rw [lst_append]; rfl
    have H := H.pull3.split
    rw [nodes_append] at H
    have H : St h0 w0 w8 (Nodes (Addr.mk p o none) none l (ad y.2) ++ (cl y.2 T_slru_node (nodeL y (lst none l) none (Addr.mk p o none)) :: cl x.2 T_slru_node (nodeL x (lst none (l ++ [y])) none (Addr.mk p o none)) :: cl p T L :: As)) := by
      rw [List.append_assoc] at H; exact H
    have H := H.join
    -- [Nodes l, y, x, p]
    refine ⟨_, rfl, lst none (l ++ [y]), by rw [add_mk, H.cell m3]; exact hr.last, _, by rw [ely]; rfl, by rw [add_mk]; exact H.stOk m1 (by simp [nodeL]), fun w22 e22 => ?_⟩
    rw [add_mk] at e22
    have H := H.swap.set e22
    refine ⟨_, rfl, by rw [add_mk]; exact H.stOk m3 l1, fun w24 e24 => ?_⟩
    rw [add_mk] at e24
    have H := H.pull4.set e24
    refine ⟨_, rfl, (l ++ [y]).length, by rw [add_mk, H.cell m0, List.getElem?_set_ne (by omega)]; exact hr.many, _, rfl, by rw [add_mk]; exact H.stOk m0 (by simpa using l2), fun w28 e28 => ?_⟩
    rw [add_mk, wrap_i64 (by omega) (by omega)] at e28
    have H := H.set e28
    refine hK _ ?_
    -- [p, y, Nodes l, x]
    have H := H.push4.swap.split
    have e : Nodes (Addr.mk p o none) none (l ++ [y] ++ [x]) none = Nodes (Addr.mk p o none) none l (ad y.2) ++ [cl y.2 T_slru_node (nodeL y (lst none l) (ad x.2) (Addr.mk p o none)), cl x.2 T_slru_node (nodeL x (lst none (l ++ [y])) none (Addr.mk p o none))] := by
      rw [List.append_assoc, nodes_append, ely]; rfl
    have eL : rowSet L o (l ++ [y] ++ [x]) = (L.set (o + 1) (.pointer (ad x.2))).set (o + 2) (.int .i64 ((l ++ [y]).length + 1 : Int)) := by
      have e0 : L.set o (.pointer (hd (l ++ [y] ++ [x]) none)) = L := set_same (by rw [hr.first, hd_append, hd_append, hd_append]; rfl)
      unfold rowSet
      have elen : (((l ++ [y] ++ [x]).length : Nat) : Int) = ((l ++ [y]).length : Int) + 1 := by simp; omega
      rw [e0, lst_append, elen]; rfl
    rw [eL]
    refine (St.join (As := cl p T _ :: As) (Nodes (Addr.mk p o none) none (l ++ [y] ++ [x]) none) ?_).swap
    rw [e, List.append_assoc]
    exact H

/-- A node is taken out of its row. -/
theorem slru_pull {x : Nd} {l r : List Nd} (H : St h0 w0 w (cl p T L :: SepL (Nodes (Addr.mk p o none) none (l ++ x :: r) none) :: As)) (hr : RowOk L o (l ++ x :: r)) (hm : (l ++ x :: r).length < 2 ^ 62)
    (hK : ∀ w' v1 v2 v3, St h0 w0 w' (cl p T (rowSet L o (l ++ r)) :: SepL (Nodes (Addr.mk p o none) none (l ++ r) none) :: cl x.2 T_slru_node [.string x.1, v1, v2, v3] :: As) → K (.tuple #[]) w') :
    Cl P f_slru_node_pull #[.pointer (ad x.2)] w K := by
  have l2 := (List.getElem?_eq_some_iff.1 hr.many).1
  have l1 : o + 1 < L.length := by omega
  have l0 : o < L.length := by omega
  have hmany : ((l ++ x :: r).length : Int) = (l ++ r).length + 1 := by simp; omega
  have H := H.swap.split
  rw [nodes_append, Nodes, List.append_assoc, List.cons_append] at H
  have H := (H.join.join2 (Nodes (Addr.mk p o none) (ad x.2) r none)).pull3
  -- [right, left, x, p]
  have isn : ∀ (l : List Nd) (b : Nat), (lst (ad b) l).isNone = false := fun l => by
    induction l with
    | nil => intro b; rfl
    | cons z l ih => intro b; exact ih z.2
  apply cl_slru_node_pull
  unfold c_slru_node_pull
  refine ⟨_, rfl, some (Addr.mk p o none), by rw [add_mk, H.cell m2]; rfl, _, rfl, lst none l, by rw [add_mk, H.cell m2]; rfl, br (fun hl => ?_) fun hl => ?_⟩
  · -- nothing ahead
    have : l = [] := by
      cases l with
      | nil => rfl
      | cons y ys => simp only [lst] at hl; rw [isn] at hl; cases hl
    subst this
    have H := H.swap.drop
    -- [right, x, p]
    refine ⟨_, rfl, hd r none, by rw [add_mk, H.cell m1]; rfl, _, rfl, by rw [add_mk]; exact H.stOk m2 l0, fun w8 e8 => ?_⟩
    rw [add_mk] at e8
    have H := H.pull3.set e8
    -- [p, right, x]
    refine ⟨_, rfl, hd r none, by rw [add_mk, H.cell m2]; rfl, br (fun hr0 => ?_) fun hr0 => ?_⟩
    · have : r = [] := by cases r with | nil => rfl | cons z r => cases hr0
      subst this
      refine ⟨_, rfl, none, by rw [add_mk, H.cell m2]; rfl, _, rfl, by rw [add_mk]; exact H.stOk m0 (by simpa using l1), fun w14 e14 => ?_⟩
      rw [add_mk] at e14
      have H := H.set e14
      refine ⟨_, rfl, 1, by rw [add_mk, H.cell m0, List.getElem?_set_ne (by omega), List.getElem?_set_ne (by omega)]; exact hr.many, _, rfl, by rw [add_mk]; exact H.stOk m0 (by simpa using l2), fun w18 e18 => ?_⟩
      rw [add_mk, wrap_i64 (by omega) (by omega)] at e18
      have H := H.set e18
      exact hK _ (.pointer none) (.pointer none) (.pointer (some (Addr.mk p o none))) H
    · obtain ⟨z, r, rfl⟩ : ∃ z r', r = z :: r' := by cases r with | nil => cases hr0 | cons z r => exact ⟨z, r, rfl⟩
      intro w19 e19
      have H := (H.drew e19).swap.split
      -- [z .. rest, p, x]
      rw [Nodes, List.cons_append] at H
      have H := H.join1
      -- [z, rest, p, x]
      refine ⟨_, rfl, ad z.2, by rw [add_mk, H.cell m3]; rfl, _, rfl, none, by rw [add_mk, H.cell m3]; rfl, _, rfl, by rw [add_mk]; exact H.stOk m0 (by simp [nodeL]), fun w25 e25 => ?_⟩
      rw [add_mk] at e25
      have H := (H.set e25).pull3
      -- [p, z, rest, x]
      refine ⟨_, rfl, _, by rw [add_mk, H.cell m0, List.getElem?_set_ne (by omega)]; exact hr.many, _, rfl, by rw [add_mk]; exact H.stOk m0 (by simpa using l2), fun w29 e29 => ?_⟩
      rw [add_mk, wrap_i64 (by omega) (by omega)] at e29
      have H := (H.set e29).push4.split1
      have H := (St.join (As := cl x.2 T_slru_node (nodeL x (lst none []) (hd (z :: r) none) (Addr.mk p o none)) :: _) (Nodes (Addr.mk p o none) none (z :: r) none) H).pull3
      refine hK _ (.pointer none) (.pointer (hd (z :: r) none)) (.pointer (some (Addr.mk p o none))) ?_
      have e0 : (L.set o (.pointer (ad z.2))).set (o + 1) (.pointer (lst none (z :: r))) = L.set o (.pointer (ad z.2)) := set_same (by rw [List.getElem?_set_ne (by omega)]; exact hr.last)
      have eL : rowSet L o ([] ++ z :: r) = (L.set o (.pointer (ad z.2))).set (o + 2) (.int .i64 ((([] ++ x :: z :: r).length : Int) - 1)) := by
        unfold rowSet
        rw [show hd ([] ++ z :: r) none = ad z.2 from rfl, show lst none ([] ++ z :: r) = lst none (z :: r) from rfl, e0]
        congr 2; omega
      rw [eL]
      exact H
  · -- one ahead
    obtain ⟨l, y, rfl⟩ : ∃ l' y, l = l' ++ [y] := by
      rcases List.eq_nil_or_concat l with h | ⟨l', y, h⟩
      · subst h; cases hl
      · exact ⟨l', y, by simpa using h⟩
    have ely : lst none (l ++ [y]) = ad y.2 := by rw [lst_append]; rfl
    have H := H.swap.split
    rw [nodes_append, List.append_assoc] at H
    have H : St h0 w0 w (Nodes (Addr.mk p o none) none l (ad y.2) ++ (cl y.2 T_slru_node (nodeL y (lst none l) (ad x.2) (Addr.mk p o none)) :: SepL (Nodes (Addr.mk p o none) (ad x.2) r none) :: cl x.2 T_slru_node (nodeL x (lst none (l ++ [y])) (hd r none) (Addr.mk p o none)) :: cl p T L :: As)) := H
    have H := H.join
    intro w30 e30
    have H := (H.drew e30).swap
    -- [y, left, right, x, p]
    refine ⟨_, rfl, lst none (l ++ [y]), by rw [add_mk, H.cell m3]; rfl, _, rfl, hd r none, by rw [add_mk, H.cell m3]; rfl, _, by rw [ely]; rfl, by rw [add_mk]; exact H.stOk m0 (by simp [nodeL]), fun w36 e36 => ?_⟩
    rw [add_mk] at e36
    have H := H.set e36
    have ehd : ∀ (q : List Nd), hd (l ++ [y] ++ q) none = hd (l ++ [y]) none := fun q => by rw [hd_append, hd_append, hd_append]; rfl
    refine ⟨_, rfl, hd r none, by rw [add_mk, H.cell m3]; rfl, br (fun hr0 => ?_) fun hr0 => ?_⟩
    · have : r = [] := by cases r with | nil => rfl | cons z r => cases hr0
      subst this
      refine ⟨_, rfl, lst none (l ++ [y]), by rw [add_mk, H.cell m3]; rfl, _, rfl, by rw [add_mk]; exact H.stOk m4 l1, fun w42 e42 => ?_⟩
      rw [add_mk] at e42
      have H := H.pull5.set e42
      -- [p, y, left, right, x]
      refine ⟨_, rfl, _, by rw [add_mk, H.cell m0, List.getElem?_set_ne (by omega)]; exact hr.many, _, rfl, by rw [add_mk]; exact H.stOk m0 (by simpa using l2), fun w46 e46 => ?_⟩
      rw [add_mk, wrap_i64 (by omega) (by omega)] at e46
      have H := (H.set e46).pull4.drop.push3
      -- [y, left, p, x] 
      have H := H.swap.split
      have e : Nodes (Addr.mk p o none) none (l ++ [y] ++ []) none = Nodes (Addr.mk p o none) none l (ad y.2) ++ [cl y.2 T_slru_node (nodeL y (lst none l) none (Addr.mk p o none))] := by
        rw [List.append_nil, nodes_append]; rfl
      refine hK _ (.pointer (lst none (l ++ [y]))) (.pointer none) (.pointer (some (Addr.mk p o none))) ?_
      have e0 : L.set o (.pointer (hd (l ++ [y] ++ []) none)) = L := set_same (by rw [hr.first, ehd, ehd])
      have eL : rowSet L o (l ++ [y] ++ []) = (L.set (o + 1) (.pointer (lst none (l ++ [y])))).set (o + 2) (.int .i64 (((l ++ [y] ++ [x]).length : Int) - 1)) := by
        unfold rowSet
        rw [e0, List.append_nil]
        congr 2; simp; omega
      rw [eL]
      refine (St.join (As := cl p T _ :: _) (Nodes (Addr.mk p o none) none (l ++ [y] ++ []) none) ?_).swap
      rw [e, List.append_assoc]
      exact H
    · obtain ⟨z, r, rfl⟩ : ∃ z r', r = z :: r' := by cases r with | nil => cases hr0 | cons z r => exact ⟨z, r, rfl⟩
      intro w47 e47
      have H := (H.drew e47).pull3.split
      rw [Nodes, List.cons_append] at H
      have H := H.join1
      -- [z, rest, y, left, x, p]
      refine ⟨_, rfl, ad z.2, by rw [add_mk, H.cell m4]; rfl, _, rfl, lst none (l ++ [y]), by rw [add_mk, H.cell m4]; rfl, _, rfl, by rw [add_mk]; exact H.stOk m0 (by simp [nodeL]), fun w53 e53 => ?_⟩
      rw [add_mk] at e53
      have H := (H.set e53).pull6
      -- [p, z, rest, y, left, x]
      refine ⟨_, rfl, _, by rw [add_mk, H.cell m0]; exact hr.many, _, rfl, by rw [add_mk]; exact H.stOk m0 l2, fun w57 e57 => ?_⟩
      rw [add_mk, wrap_i64 (by omega) (by omega)] at e57
      have H := H.set e57
      have e : Nodes (Addr.mk p o none) none (l ++ [y] ++ z :: r) none = Nodes (Addr.mk p o none) none l (ad y.2) ++ (cl y.2 T_slru_node (nodeL y (lst none l) (ad z.2) (Addr.mk p o none)) :: cl z.2 T_slru_node (nodeL z (lst none (l ++ [y])) (hd r none) (Addr.mk p o none)) :: Nodes (Addr.mk p o none) (ad z.2) r none) := by
        rw [List.append_assoc, nodes_append, ely]; rfl
      refine hK _ (.pointer (lst none (l ++ [y]))) (.pointer (hd (z :: r) none)) (.pointer (some (Addr.mk p o none))) ?_
      have e0 : L.set o (.pointer (hd (l ++ [y] ++ z :: r) none)) = L := set_same (by rw [hr.first, ehd, ehd])
      have e1 : L.set (o + 1) (.pointer (lst none (l ++ [y] ++ z :: r))) = L := set_same (by rw [hr.last]; simp only [lst_append]; rfl)
      have eL : rowSet L o (l ++ [y] ++ z :: r) = L.set (o + 2) (.int .i64 (((l ++ [y] ++ x :: z :: r).length : Int) - 1)) := by
        unfold rowSet
        rw [e0, e1]
        congr 2; omega
      rw [eL]
      -- [p, z, rest, y, left, x]
      have H := H.push5.consS.swap.consS.swap.glue.swap
      rw [e]
      exact H
end
end Go.Bty

namespace Go.Bty
open Go
open Go.Proofs.Try renaming prog → P

instance : LawfulBEq ByteArray where
  eq_of_beq {a b} h := by rw [ba_beq] at h; simpa using h
  rfl {a} := by rw [ba_beq]; simp

def look (ns : List Nd) (k : ByteArray) : Option Nat := (ns.find? fun x => decide (k = x.1)).map (·.2)
def nodeMap (ns : List Nd) (v : Value) : Option Value := match v with
  | .string k => (look ns k).map fun b => .pointer (ad b)
  | _ => none
def listCells (most : Int) (r : Nat) (tr sf : List Nd) : List Value :=
  [.int .i64 most, .map (some r), .pointer (hd tr none), .pointer (lst none tr), .int .i64 tr.length, .pointer (hd sf none), .pointer (lst none sf), .int .i64 sf.length]

theorem look_iff {ns : List Nd} {k : ByteArray} {b : Nat} (hn : (ns.map (·.1)).Nodup) : look ns k = some b ↔ (k, b) ∈ ns := by
  induction ns with
  | nil => simp [look]
  | cons x ns ih =>
    rw [List.map_cons, List.nodup_cons] at hn
    have ih := ih hn.2
    unfold look at ih ⊢
    rw [List.find?_cons]
    by_cases h : k = x.1
    · subst h
      simp only [decide_true, Option.map_some, Option.some.injEq, List.mem_cons]
      constructor
      · rintro rfl; exact .inl rfl
      · rintro (h | h)
        · rw [← h]
        · exact absurd (List.mem_map.2 ⟨_, h, rfl⟩) hn.1
    · have hf : decide (k = x.1) = false := by simpa using h
      simp only [hf]
      rw [ih, List.mem_cons]
      constructor
      · exact .inr
      · rintro (h' | h')
        · exact absurd (congrArg (·.1) h') h
        · exact h'
theorem look_none {ns : List Nd} {k : ByteArray} : look ns k = none ↔ k ∉ ns.map (·.1) := by
  unfold look
  rw [Option.map_eq_none_iff, List.find?_eq_none]
  simp only [decide_eq_true_eq, List.mem_map, not_exists, not_and]
  constructor
  · intro h x hx e; exact h x hx e.symm
  · intro h x hx e; exact h x hx e.symm
theorem look_perm {ns ns' : List Nd} (hn : (ns.map (·.1)).Nodup) (hp : ns.Perm ns') (k : ByteArray) : look ns k = look ns' k := by
  have hn' : (ns'.map (·.1)).Nodup := (hp.map _).nodup_iff.1 hn
  apply Option.ext
  intro b
  rw [look_iff hn, look_iff hn', hp.mem_iff]
theorem fits_str {k : Value} (h : kFits .str k = true) : ∃ s, k = .string s := by
  cases k <;> simp only [kFits, Bool.false_eq_true] at h
  exact ⟨_, rfl⟩
theorem mapIs_perm {es : Array MapEntry} {ns ns' : List Nd} (H : MapIs .str es (nodeMap ns)) (hn : (ns.map (·.1)).Nodup) (hp : ns.Perm ns') : MapIs .str es (nodeMap ns') := H.congr fun k hk => by
  obtain ⟨s, rfl⟩ := fits_str hk
  simp only [nodeMap, look_perm hn hp]

theorem mapIs_cons {es : Array MapEntry} {ns : List Nd} {k : ByteArray} {b : Nat} (H : MapIs .str es (fun x => bif kEq x (.string k) then some (.pointer (some (Addr.mk b 0 none))) else nodeMap ns x)) : MapIs .str es (nodeMap ((k, b) :: ns)) := H.congr fun x hx => by
  obtain ⟨s, rfl⟩ := fits_str hx
  simp only [kEq, nodeMap, look, List.find?_cons]
  cases decide (s = k) <;> rfl
theorem mapIs_uncons {es : Array MapEntry} {ns : List Nd} {k : ByteArray} {b : Nat} (H : MapIs .str es (fun x => bif kEq x (.string k) then none else nodeMap ((k, b) :: ns) x)) (hk : k ∉ ns.map (·.1)) : MapIs .str es (nodeMap ns) := H.congr fun x hx => by
  obtain ⟨s, rfl⟩ := fits_str hx
  simp only [kEq, nodeMap]
  by_cases e : s = k
  · subst e
    simp only [decide_true, cond_true, look_none.2 hk]; rfl
  · have : decide (s = k) = false := by simpa using e
    simp only [this, cond_false, look, List.find?_cons]

/-- A list at block p: its bound, the keys on trial, the protected ones. -/
def Slru (p : Nat) (most : Int) (tk sk : List ByteArray) : HP := fun h => ∃ r es mc tr sf, tr.map (·.1) = tk ∧ sf.map (·.1) = sk ∧ (tk ++ sk).Nodup ∧ MapIs .str es (nodeMap (tr ++ sf)) ∧
  SepL [cl p T_slru_List (listCells most r tr sf), mp r es mc, SepL (Nodes (Addr.mk p 2 none) none tr none), SepL (Nodes (Addr.mk p 5 none) none sf none)] h

section
variable {h0 : Frag} {w0 w : World} {As : List HP} {p : Nat} {most : Int} {tk sk : List ByteArray}
theorem St.slruOpen (H : St h0 w0 w (Slru p most tk sk :: As)) : ∃ r es mc tr sf, tr.map (·.1) = tk ∧ sf.map (·.1) = sk ∧ (tk ++ sk).Nodup ∧ MapIs .str es (nodeMap (tr ++ sf)) ∧
    St h0 w0 w (cl p T_slru_List (listCells most r tr sf) :: mp r es mc :: SepL (Nodes (Addr.mk p 2 none) none tr none) :: SepL (Nodes (Addr.mk p 5 none) none sf none) :: As) := by
  obtain ⟨h, ⟨r, es, mc, tr, sf, h1, h2, h3, h4, h5⟩, hk⟩ := H.opn
  exact ⟨r, es, mc, tr, sf, h1, h2, h3, h4, hk _ h5⟩
theorem St.slruMk {r : Nat} {es : Array MapEntry} {mc : Nat} {tr sf : List Nd} (h1 : tr.map (·.1) = tk) (h2 : sf.map (·.1) = sk) (h3 : (tk ++ sk).Nodup) (h4 : MapIs .str es (nodeMap (tr ++ sf)))
    (H : St h0 w0 w (cl p T_slru_List (listCells most r tr sf) :: mp r es mc :: SepL (Nodes (Addr.mk p 2 none) none tr none) :: SepL (Nodes (Addr.mk p 5 none) none sf none) :: As)) : St h0 w0 w (Slru p most tk sk :: As) :=
  St.cls [cl p T_slru_List (listCells most r tr sf), mp r es mc, SepL (Nodes (Addr.mk p 2 none) none tr none), SepL (Nodes (Addr.mk p 5 none) none sf none)] H fun _ h => ⟨r, es, mc, tr, sf, h1, h2, h3, h4, h⟩

theorem rowT {r : Nat} {tr sf : List Nd} : RowOk (listCells most r tr sf) 2 tr := ⟨rfl, rfl, rfl⟩
theorem rowS {r : Nat} {tr sf : List Nd} : RowOk (listCells most r tr sf) 5 sf := ⟨rfl, rfl, rfl⟩

theorem slru_new (most : Int) : Sp P f_slru_New #[.int .i64 most] (fun _ => True) (fun v h => ∃ p, v = .pointer (some (Addr.mk p 0 none)) ∧ Slru p most [] [] h) := sp_of fun w h H => by
  apply cl_slru_New
  unfold c_slru_New
  intro b1 w2 e1 e2 b3 w4 e3 e4
  have H := H.drop.newMap e1 e2
  have H : St h w w4 (cl b3 T_slru_List (listCells most b1 [] []) :: mp b1 #[] 0 :: []) := H.newCells e3 e4
  have H := (St.join [] (St.join [] H)).push4.push3
  exact (St.slruMk (tk := []) (sk := []) (tr := []) (sf := []) rfl rfl (by simp) ((mapIs_empty .str).congr fun k hk => by obtain ⟨s, rfl⟩ := fits_str hk; rfl) H).conv fun _ hs => ⟨b3, rfl, hs⟩

theorem get_key {es : Array MapEntry} {ns : List Nd} (h : MapIs .str es (nodeMap ns)) (k : ByteArray) : mget (.string k) es.toList = (look ns k).map fun b => .pointer (ad b) := h.holds (.string k) rfl

theorem slru_add (p : Nat) (most : Int) (tk sk : List ByteArray) (k : ByteArray) (hl : tk.length < 2 ^ 60) : Sp P f_slru_List_Add #[.pointer (some (Addr.mk p 0 none)), .string k] (Slru p most tk sk)
    (fun v h => (k ∈ tk ++ sk ∧ v = .int .i64 7 ∧ Slru p most tk sk h) ∨ (k ∉ tk ++ sk ∧ v = .int .i64 0 ∧ Slru p most (tk ++ [k]) sk h)) := sp_of fun w h H => by
  have HS := H
  apply cl_slru_List_Add
  unfold c_slru_List_Add
  obtain ⟨r, es, mc, tr, sf, e1, e2, hd, hm, H⟩ := H.slruOpen
  refine ⟨_, rfl, some r, by rw [add_mk, H.cell m0]; rfl, ?_⟩
  rw [onSome_some]
  have hg := get_key hm k
  refine ⟨es, mc, H.mapAt m1, hm.keys, (look (tr ++ sf) k).bind ad, ?_, br (fun hn => ?_) fun hn => ?_⟩
  · rw [hg]; cases look (tr ++ sf) k <;> rfl
  · have hk : k ∈ tk ++ sk := by
      rw [← e1, ← e2, ← List.map_append]
      apply Classical.byContradiction
      intro hc
      rw [look_none.2 hc] at hn; cases hn
    exact HS.conv fun _ hs => .inl ⟨hk, rfl, hs⟩
  · have hln : look (tr ++ sf) k = none := by
      cases hq : look (tr ++ sf) k with
      | none => rfl
      | some b => rw [hq] at hn; cases hn
    have hk : k ∉ tk ++ sk := by
      rw [← e1, ← e2, ← List.map_append]
      exact look_none.1 hln
    intro b7 w8 e7 e8
    have H := H.newCells (cs := [.string k, .pointer none, .pointer none, .pointer none]) e7 e8
    refine ⟨_, rfl, some r, by rw [add_mk, H.cell m1]; rfl, ?_⟩
    rw [onSome_some]
    refine ⟨es, mc, H.mapAt m2, hm.keys, fun w14 e14 => ?_⟩
    obtain ⟨es', mc', ep, hm'⟩ := mapIs_put hm (k := .string k) rfl (.pointer (some (Addr.mk b7 0 none))) mc
    rw [ep] at e14
    have H := H.pull3.putObj e14
    -- [map, node, list, T, S]
    refine ⟨_, rfl, ?_⟩
    rw [add_mk]
    have H := H.pull4.pull4.pull4.push3
    refine slru_push (x := (k, b7)) H rowT (by have := congrArg List.length e1; simp at this; omega) fun w17 H => ⟨rfl, ?_⟩
    have H := H.pull3.swap
    have hkt : k ∉ tk := fun h => hk (List.mem_append_left _ h)
    have hks : k ∉ sk := fun h => hk (List.mem_append_right _ h)
    refine (St.slruMk (tk := tk ++ [k]) (sk := sk) (tr := tr ++ [(k, b7)]) (sf := sf) (by simp [e1]) e2 ?_ ?_ H).conv fun _ hs => .inr ⟨hk, rfl, hs⟩
    · have hp : (k :: (tk ++ sk)).Perm (tk ++ [k] ++ sk) := by
        rw [List.append_assoc]; exact List.perm_middle.symm
      exact hp.nodup_iff.1 (List.nodup_cons.2 ⟨hk, hd⟩)
    · have hm2 := mapIs_cons hm'
      refine mapIs_perm hm2 ?_ ?_
      · rw [List.map_cons, List.map_append, e1, e2]
        exact List.nodup_cons.2 ⟨hk, hd⟩
      · rw [List.append_assoc]; exact List.perm_middle.symm

/-- A node is pulled, in whichever row. -/
theorem slru_pullAny {r : Nat} {es : Array MapEntry} {mc b : Nat} {tr sf : List Nd} {k : ByteArray} (hd : ((tr ++ sf).map (·.1)).Nodup) (hk : look (tr ++ sf) k = some b) (hl : (tr ++ sf).length < 2 ^ 60)
    (H : St h0 w0 w (cl p T_slru_List (listCells most r tr sf) :: mp r es mc :: SepL (Nodes (Addr.mk p 2 none) none tr none) :: SepL (Nodes (Addr.mk p 5 none) none sf none) :: As)) :
    Cl P f_slru_node_pull #[.pointer (ad b)] w fun v w' => v = .tuple #[] ∧ ∃ tr1 sf1 v1 v2 v3, tr1.map (·.1) = (tr.map (·.1)).erase k ∧ sf1.map (·.1) = (sf.map (·.1)).erase k ∧ (tr ++ sf).Perm ((k, b) :: (tr1 ++ sf1)) ∧
      St h0 w0 w' (cl p T_slru_List (listCells most r tr1 sf1) :: mp r es mc :: SepL (Nodes (Addr.mk p 2 none) none tr1 none) :: SepL (Nodes (Addr.mk p 5 none) none sf1 none) :: cl b T_slru_node [.string k, v1, v2, v3] :: As) := by
  have hmem := (look_iff hd).1 hk
  have hll : tr.length < 2 ^ 62 ∧ sf.length < 2 ^ 62 := by rw [List.length_append] at hl; omega
  rcases List.mem_append.1 hmem with hm | hm
  · obtain ⟨l, q, rfl⟩ := List.append_of_mem hm
    have H := H.swap.push3
    refine slru_pull (x := (k, b)) H rowT hll.1 fun w' v1 v2 v3 H => ⟨rfl, l ++ q, sf, v1, v2, v3, ?_, ?_, ?_, ?_⟩
    · have : k ∉ l.map (·.1) := fun h => by
        simp only [List.map_append, List.map_cons] at hd
        have h1 := (List.nodup_append.1 (List.nodup_append.1 hd).1).2.2 k h k (by simp)
        exact h1 rfl
      simp only [List.map_append, List.map_cons]
      rw [List.erase_append_right _ this, List.erase_cons_head]
    · rw [List.erase_of_not_mem]
      intro h
      simp only [List.map_append, List.map_cons] at hd
      exact (List.nodup_append.1 hd).2.2 k (by simp) k h rfl
    · rw [List.append_assoc, List.append_assoc]; exact List.perm_middle
    · -- [list, T, node, map, S]
      exact H.pull4.swap.pull5.push4
  · obtain ⟨l, q, rfl⟩ := List.append_of_mem hm
    have H := H.pull4.swap
    refine slru_pull (x := (k, b)) H rowS hll.2 fun w' v1 v2 v3 H => ⟨rfl, tr, l ++ q, v1, v2, v3, ?_, ?_, ?_, ?_⟩
    · rw [List.erase_of_not_mem]
      intro h
      simp only [List.map_append, List.map_cons] at hd
      exact (List.nodup_append.1 hd).2.2 k h k (by simp) rfl
    · have : k ∉ l.map (·.1) := fun h => by
        simp only [List.map_append, List.map_cons] at hd
        have h1 := (List.nodup_append.1 (List.nodup_append.1 hd).2.1).2.2 k h k (by simp)
        exact h1 rfl
      simp only [List.map_append, List.map_cons]
      rw [List.erase_append_right _ this, List.erase_cons_head]
    · have h1 : (tr ++ (l ++ (k, b) :: q)).Perm (tr ++ ((k, b) :: (l ++ q))) := List.Perm.append_left _ List.perm_middle
      exact h1.trans List.perm_middle
    · exact H.pull4.swap.pull5.push3

theorem sum_len {tr sf : List Nd} (e1 : tr.map (·.1) = tk) (e2 : sf.map (·.1) = sk) : (tr ++ sf).length = tk.length + sk.length := by
  have h1 := congrArg List.length e1
  have h2 := congrArg List.length e2
  simp at h1 h2; simp; omega

theorem slru_remove (p : Nat) (most : Int) (tk sk : List ByteArray) (k : ByteArray) (hl : tk.length + sk.length < 2 ^ 60) : Sp P f_slru_List_Remove #[.pointer (some (Addr.mk p 0 none)), .string k] (Slru p most tk sk)
    (fun v h => (k ∉ tk ++ sk ∧ v = .int .i64 6 ∧ Slru p most tk sk h) ∨ (k ∈ tk ++ sk ∧ v = .int .i64 0 ∧ Slru p most (tk.erase k) (sk.erase k) h)) := sp_of fun w h H => by
  have HS := H
  apply cl_slru_List_Remove
  unfold c_slru_List_Remove
  obtain ⟨r, es, mc, tr, sf, e1, e2, hd, hm, H⟩ := H.slruOpen
  have hkeys : (tr ++ sf).map (·.1) = tk ++ sk := by rw [List.map_append, e1, e2]
  refine ⟨_, rfl, some r, by rw [add_mk, H.cell m0]; rfl, ?_⟩
  rw [onSome_some]
  have hg := get_key hm k
  refine ⟨es, mc, H.mapAt m1, hm.keys, (look (tr ++ sf) k).bind ad, by rw [hg]; cases look (tr ++ sf) k <;> rfl, ?_⟩
  cases hq : look (tr ++ sf) k with
  | none =>
    have hk : k ∉ tk ++ sk := by rw [← hkeys]; exact look_none.1 hq
    exact HS.conv fun _ hs => .inl ⟨hk, rfl, hs⟩
  | some b =>
    have hk : k ∈ tk ++ sk := by
      rw [← hkeys]
      exact Classical.byContradiction fun hc => by rw [look_none.2 hc] at hq; cases hq
    refine (slru_pullAny (by rw [hkeys]; exact hd) hq (by rw [sum_len e1 e2]; exact hl) H).mono ?_
    rintro v w8 ⟨rfl, tr1, sf1, v1, v2, v3, f1, f2, hp, H⟩
    refine ⟨rfl, _, rfl, some r, by rw [add_mk, H.cell m0]; rfl, ?_⟩
    rw [onSome_some]
    refine ⟨es, mc, H.mapAt m1, hm.keys, fun w14 e14 => ?_⟩
    have hnd : ((k, b) :: (tr1 ++ sf1)).map (·.1) |>.Nodup := (hp.map (·.1)).nodup_iff.1 (by rw [hkeys]; exact hd)
    obtain ⟨es', mc', ep, hm'⟩ := mapIs_del (mapIs_perm hm (by rw [hkeys]; exact hd) hp) (k := .string k) rfl mc
    rw [ep] at e14
    have H := (H.swap.putObj e14).swap
    have hn2 := (List.nodup_cons.1 hnd)
    have H := H.pull5.drop
    refine (St.slruMk (by rw [f1, e1]) (by rw [f2, e2]) ?_ (mapIs_uncons hm' hn2.1) H).conv fun _ hs => .inr ⟨hk, rfl, hs⟩
    have : (tr1 ++ sf1).map (·.1) = tk.erase k ++ sk.erase k := by rw [List.map_append, f1, f2, e1, e2]
    rw [← this]; exact hn2.2

/-- What a hit does. -/
def hitM (most : Int) (tk sk : List ByteArray) (k : ByteArray) : List ByteArray × List ByteArray :=
  let t := tk.erase k
  let s := sk.erase k ++ [k]
  if (s.length : Int) > max most 0 then (t ++ s.take 1, s.drop 1) else (t, s)

theorem slru_hit (p : Nat) (most : Int) (tk sk : List ByteArray) (k : ByteArray) (hl : tk.length + sk.length < 2 ^ 59) : Sp P f_slru_List_Hit #[.pointer (some (Addr.mk p 0 none)), .string k] (Slru p most tk sk)
    (fun v h => (k ∉ tk ++ sk ∧ v = .int .i64 6 ∧ Slru p most tk sk h) ∨ (k ∈ tk ++ sk ∧ v = .int .i64 0 ∧ Slru p most (hitM most tk sk k).1 (hitM most tk sk k).2 h)) := sp_of fun w h H => by
  have HS := H
  apply cl_slru_List_Hit
  unfold c_slru_List_Hit
  obtain ⟨r, es, mc, tr, sf, e1, e2, hd, hm, H⟩ := H.slruOpen
  have hkeys : (tr ++ sf).map (·.1) = tk ++ sk := by rw [List.map_append, e1, e2]
  refine ⟨_, rfl, some r, by rw [add_mk, H.cell m0]; rfl, ?_⟩
  rw [onSome_some]
  have hg := get_key hm k
  refine ⟨es, mc, H.mapAt m1, hm.keys, (look (tr ++ sf) k).bind ad, by rw [hg]; cases look (tr ++ sf) k <;> rfl, ?_⟩
  cases hq : look (tr ++ sf) k with
  | none =>
    have hk : k ∉ tk ++ sk := by rw [← hkeys]; exact look_none.1 hq
    exact HS.conv fun _ hs => .inl ⟨hk, rfl, hs⟩
  | some b =>
    have hk : k ∈ tk ++ sk := by
      rw [← hkeys]
      exact Classical.byContradiction fun hc => by rw [look_none.2 hc] at hq; cases hq
    refine (slru_pullAny (by rw [hkeys]; exact hd) hq (by rw [sum_len e1 e2]; omega) H).mono ?_
    rintro v w8 ⟨rfl, tr1, sf1, v1, v2, v3, f1, f2, hp, H⟩
    have hlen := hp.length_eq
    rw [sum_len e1 e2] at hlen
    simp only [List.length_cons, List.length_append] at hlen
    have hnd : ((k, b) :: (tr1 ++ sf1)).map (·.1) |>.Nodup := (hp.map (·.1)).nodup_iff.1 (by rw [hkeys]; exact hd)
    have hm2 := mapIs_perm hm (by rw [hkeys]; exact hd) hp
    refine ⟨rfl, _, rfl, ?_⟩
    rw [add_mk]
    -- [list, map, T, S, node] to [list, S, node, map, T]
    refine slru_push (x := (k, b)) H.pull5.pull5.pull3 rowS (by omega) fun w11 H => ⟨rfl, fun w12 e12 => ?_⟩
    have H : St h w w12 [cl p T_slru_List (listCells most r tr1 (sf1 ++ [(k, b)])), SepL (Nodes (Addr.mk p 5 none) none (sf1 ++ [(k, b)]) none), mp r es mc, SepL (Nodes (Addr.mk p 2 none) none tr1 none)] := H.drew e12
    have es1 : (sf1 ++ [(k, b)]).map (·.1) = sk.erase k ++ [k] := by rw [List.map_append, f2, e2]; rfl
    have et1 : tr1.map (·.1) = tk.erase k := by rw [f1, e1]
    have hsl : ((sk.erase k ++ [k]).length : Int) = (sf1 ++ [(k, b)]).length := by rw [← es1]; simp
    have hmx : (if (0 : Int) > most then 0 else most) = max most 0 := by split <;> omega
    have hp1 : ((k, b) :: (tr1 ++ sf1)).Perm (tr1 ++ (sf1 ++ [(k, b)])) := by
      rw [← List.append_assoc]
      exact (List.perm_append_comm (l₁ := [(k, b)]))
    refine ⟨_, rfl, (sf1 ++ [(k, b)]).length, by rw [add_mk, add_mk, H.cell m0]; rfl, _, rfl, most, by rw [add_mk, H.cell m0]; rfl, br (fun hc => ?_) fun hc => ?_⟩
    · simp only [decide_eq_true_eq, hmx] at hc
      have hM : hitM most tk sk k = (tk.erase k ++ (sk.erase k ++ [k]).take 1, (sk.erase k ++ [k]).drop 1) := by
        unfold hitM
        simp only [hsl]
        rw [if_pos hc]
      obtain ⟨y, q, hy⟩ : ∃ y q, sf1 ++ [(k, b)] = y :: q := by
        cases sf1 with
        | nil => exact ⟨_, _, rfl⟩
        | cons z l => exact ⟨z, l ++ [(k, b)], rfl⟩
      rw [hy] at H es1 hp1
      refine ⟨_, rfl, ad y.2, by rw [add_mk, add_mk, H.cell m0]; rfl, ?_⟩
      have hql : (y :: q).length = sf1.length + 1 := by rw [← hy]; simp
      refine slru_pull (x := y) (l := []) (r := q) H rowS (by simp only [List.nil_append]; omega) fun w20 v1 v2 v3 H => ⟨rfl, _, rfl, ?_⟩
      rw [add_mk]
      have H : St h w w20 [cl p T_slru_List (listCells most r tr1 q), SepL (Nodes (Addr.mk p 5 none) none q none), cl y.2 T_slru_node [.string y.1, v1, v2, v3], mp r es mc, SepL (Nodes (Addr.mk p 2 none) none tr1 none)] := H
      -- to [list, T, node, map, S]
      refine slru_push (x := y) H.pull5.swap.pull3.push5 rowT (by omega) fun w23 H => ⟨rfl, ?_⟩
      have H : St h w w23 [cl p T_slru_List (listCells most r (tr1 ++ [y]) q), SepL (Nodes (Addr.mk p 2 none) none (tr1 ++ [y]) none), mp r es mc, SepL (Nodes (Addr.mk p 5 none) none q none)] := H
      have hp2 : ((k, b) :: (tr1 ++ sf1)).Perm ((tr1 ++ [y]) ++ q) := by rw [List.append_assoc]; exact hp1
      refine (St.slruMk (tk := (hitM most tk sk k).1) (sk := (hitM most tk sk k).2) (by rw [hM, ← es1, ← et1]; simp) (by rw [hM, ← es1]; simp) ?_ (mapIs_perm hm2 hnd hp2) H.pull3.swap).conv fun _ hs => .inr ⟨hk, rfl, hs⟩
      have := (hp2.map (·.1)).nodup_iff.1 hnd
      rw [hM, ← es1, ← et1]
      simpa using this
    · simp only [decide_eq_false_iff_not, hmx] at hc
      have hM : hitM most tk sk k = (tk.erase k, sk.erase k ++ [k]) := by
        unfold hitM
        simp only [hsl]
        rw [if_neg hc]
      refine (St.slruMk (tk := (hitM most tk sk k).1) (sk := (hitM most tk sk k).2) (by rw [hM, ← et1]) (by rw [hM, ← es1]) ?_ (mapIs_perm hm2 hnd hp1) H.swap.push4).conv fun _ hs => .inr ⟨hk, rfl, hs⟩
      have := (hp1.map (·.1)).nodup_iff.1 hnd
      rw [hM, ← es1, ← et1]
      simpa using this
end
end Go.Bty

namespace Go.Bty
open Go
open Go.Proofs.Try renaming prog → P

section
variable {h0 : Frag} {w0 w : World} {As : List HP} {p o : Nat} {most : Int} {tk sk : List ByteArray} {row : Addr}

theorem node_cell {l r : List Nd} {x : Nd} {prev nxt : Option Addr} (H : St h0 w0 w As) (hm : SepL (Nodes row prev (l ++ x :: r) nxt) ∈ As) (i : Nat) : w.cell? (Addr.mk x.2 i none) = (nodeL x (lst prev l) (hd r nxt) row)[i]? := by
  obtain ⟨h, hs, ho⟩ := H.mem hm
  have hin : cl x.2 T_slru_node (nodeL x (lst prev l) (hd r nxt) row) ∈ Nodes row prev (l ++ x :: r) nxt := by
    rw [nodes_append]
    exact List.mem_append_right _ (.head _)
  obtain ⟨f, hf⟩ := sepL_cut_mem hs _ hin
  have hb := ho _ _ (cut_some hf).2
  unfold World.cell?
  simp [hb]

theorem nodes_nodup : ∀ {ns : List Nd} {prev nxt : Option Addr} {h : Frag}, SepL (Nodes row prev ns nxt) h → (ns.map (·.2)).Nodup
  | [], _, _, _, _ => List.nodup_nil
  | x :: ns, prev, nxt, h, H => by
    have H0 := H
    obtain ⟨f, hf, hr⟩ := H
    rw [List.map_cons, List.nodup_cons]
    refine ⟨fun hm => ?_, nodes_nodup hr⟩
    obtain ⟨y, hy, e⟩ := List.mem_map.1 hm
    obtain ⟨l, q, rfl⟩ := List.append_of_mem hy
    have hin : cl y.2 T_slru_node (nodeL y (lst (ad x.2) l) (hd q nxt) row) ∈ Nodes row (ad x.2) (l ++ y :: q) nxt := by
      rw [nodes_append]
      exact List.mem_append_right _ (.head _)
    rw [e] at hin
    exact sepL_ne H0 hin

def remN (ns : List Nd) (a : Option Addr) : Nat := match a with
  | none => 0
  | some a => ns.length - ns.findIdx fun x => x.2 == a.block
theorem findIdx_at : ∀ {l r : List Nd} {x : Nd}, ((l ++ x :: r).map (·.2)).Nodup → (l ++ x :: r).findIdx (fun y => y.2 == x.2) = l.length
  | [], r, x, _ => by simp [List.findIdx_cons]
  | y :: l, r, x, h => by
    rw [List.cons_append, List.map_cons, List.nodup_cons] at h
    have hne : (y.2 == x.2) = false := by
      have : y.2 ≠ x.2 := fun e => h.1 (by rw [e]; simp)
      simpa using this
    rw [List.cons_append, List.findIdx_cons, hne, findIdx_at h.2]
    rfl
theorem remN_at {l r : List Nd} {x : Nd} (h : ((l ++ x :: r).map (·.2)).Nodup) : remN (l ++ x :: r) (ad x.2) = (x :: r).length := by
  simp only [remN, ad]
  rw [findIdx_at h, List.length_append]; omega
theorem remN_lt {l r : List Nd} {x : Nd} (h : ((l ++ x :: r).map (·.2)).Nodup) : remN (l ++ x :: r) (hd r none) < remN (l ++ x :: r) (ad x.2) := by
  rw [remN_at h]
  cases r with
  | nil => simp [hd, remN]
  | cons z r =>
    have h2 : ((l ++ [x] ++ z :: r).map (·.2)).Nodup := by rw [List.append_assoc]; exact h
    have := remN_at h2
    rw [List.append_assoc] at this
    rw [show hd (z :: r) none = ad z.2 from rfl, show l ++ x :: z :: r = l ++ ([x] ++ z :: r) from rfl, this]
    simp

/-- All keys, in their order, each handed to y; X i: what y's side owns ahead of key i, Z: when it has said 'no more'. -/
theorem slru_all1 {y : Value} {X : Nat → HP} {Z : HP} {b : Nat} {K : Value → World → Prop}
    (hy : ∀ i k h0 w0 w As K, (tk ++ sk)[i]? = some k → St h0 w0 w (X i :: As) → (∀ w', St h0 w0 w' (X (i + 1) :: As) → K (.bool true) w') → (∀ w', St h0 w0 w' (Z :: As) → K (.bool false) w') → FvCall P y [.string k] w K)
    (H : St h0 w0 w (X 0 :: cl b T_p_slru_List [.pointer (some (Addr.mk p 0 none))] :: Slru p most tk sk :: As))
    (hK1 : ∀ w', St h0 w0 w' (X (tk ++ sk).length :: cl b T_p_slru_List [.pointer (some (Addr.mk p 0 none))] :: Slru p most tk sk :: As) → K (.tuple #[]) w')
    (hK2 : ∀ w', St h0 w0 w' (Z :: cl b T_p_slru_List [.pointer (some (Addr.mk p 0 none))] :: Slru p most tk sk :: As) → K (.tuple #[]) w') :
    Cl P f_slru_List_All_1 #[y, .pointer (some (Addr.mk b 0 none))] w K := by
  apply cl_slru_List_All_1
  unfold c_slru_List_All_1
  obtain ⟨r, es, mc, tr, sf, e1, e2, hdn, hm, H⟩ := H.pull3.slruOpen
  have hkeys : (tr ++ sf).map (·.1) = tk ++ sk := by rw [List.map_append, e1, e2]
  -- [list, map, T, S, X, box]
  have H := H.pull5
  intro w1 ew1
  have H := H.drew ew1
  have cls' : ∀ {A : HP} {w' : World}, St h0 w0 w' (A :: cl p T_slru_List (listCells most r tr sf) :: mp r es mc :: SepL (Nodes (Addr.mk p 2 none) none tr none) :: SepL (Nodes (Addr.mk p 5 none) none sf none) :: cl b T_p_slru_List [.pointer (some (Addr.mk p 0 none))] :: As) →
      St h0 w0 w' (A :: cl b T_p_slru_List [.pointer (some (Addr.mk p 0 none))] :: Slru p most tk sk :: As) := fun H => by
    have H2 := H.push5
    exact (St.slruMk e1 e2 hdn hm H2).push3
  refine ⟨_, by rw [H.cell m5]; rfl, _, rfl, _, by rw [H.cell m5]; rfl, _, rfl, ?_⟩
  refine ⟨fun vs w' => ∃ i : Nat, vs = [.int .i64 i] ∧ i ≤ 2 ∧ St h0 w0 w' (X (if i = 0 then 0 else if i = 1 then tr.length else (tr ++ sf).length) :: cl p T_slru_List (listCells most r tr sf) :: mp r es mc :: SepL (Nodes (Addr.mk p 2 none) none tr none) :: SepL (Nodes (Addr.mk p 5 none) none sf none) :: cl b T_p_slru_List [.pointer (some (Addr.mk p 0 none))] :: As),
    fun vs _ => match vs with | [.int _ i] => 2 - i.toNat | _ => 0, ⟨0, rfl, by omega, H⟩, ?_⟩
  rintro vs w9 ⟨i, rfl, hi, H⟩
  refine ⟨i, rfl, br (fun hc => ?_) fun hc => ?_⟩
  · simp only [decide_eq_true_eq] at hc
    have hi2 : i < 2 := by omega
    refine ⟨by omega, by omega, ?_⟩
    obtain ⟨o, rowN, base, q1, q2, q3, q4, q5, q6⟩ : ∃ (o : Nat) (rowN : List Nd) (base : Nat), ([.pointer (some (Addr.add (Addr.mk p 0 none) 2)), .pointer (some (Addr.add (Addr.mk p 0 none) 5))] : List Value)[Int.toNat i]? = some (.pointer (some (Addr.mk p o none))) ∧
        (listCells most r tr sf)[o]? = some (.pointer (hd rowN none)) ∧ (SepL (Nodes (Addr.mk p o none) none rowN none) = SepL (Nodes (Addr.mk p 2 none) none tr none) ∨ SepL (Nodes (Addr.mk p o none) none rowN none) = SepL (Nodes (Addr.mk p 5 none) none sf none)) ∧
        (∀ j x, rowN[j]? = some x → (tk ++ sk)[base + j]? = some x.1) ∧ (if i = 0 then 0 else if i = 1 then tr.length else (tr ++ sf).length) = base ∧ (if i + 1 = 0 then 0 else if i + 1 = 1 then tr.length else (tr ++ sf).length) = base + rowN.length := by
      rcases (by omega : i = 0 ∨ i = 1) with rfl | rfl
      · refine ⟨2, tr, 0, by simp [add_mk], rfl, .inl rfl, fun j x hj => ?_, rfl, by simp⟩
        rw [← hkeys, Nat.zero_add, List.getElem?_map, List.getElem?_append_left (List.getElem?_eq_some_iff.1 hj).1, hj]; rfl
      · refine ⟨5, sf, tr.length, by simp [add_mk], rfl, .inr rfl, fun j x hj => ?_, rfl, by simp⟩
        rw [← hkeys, List.getElem?_map, List.getElem?_append_right (by omega), Nat.add_sub_cancel_left, hj]; rfl
    rw [q5] at H
    refine ⟨_, q1, _, rfl, hd rowN none, by rw [add_mk, Nat.add_zero, H.cell m1]; exact q2, ?_⟩
    have hmem : ∀ {A B C : HP} {l : List HP}, SepL (Nodes (Addr.mk p o none) none rowN none) ∈ A :: B :: C :: SepL (Nodes (Addr.mk p 2 none) none tr none) :: SepL (Nodes (Addr.mk p 5 none) none sf none) :: l := fun {A B C l} => by
      rcases q3 with h | h <;> rw [h]
      · exact m3
      · exact m4
    refine ⟨fun vs w' => ∃ l q, rowN = l ++ q ∧ vs = [.pointer (hd q none)] ∧ St h0 w0 w' (X (base + l.length) :: cl p T_slru_List (listCells most r tr sf) :: mp r es mc :: SepL (Nodes (Addr.mk p 2 none) none tr none) :: SepL (Nodes (Addr.mk p 5 none) none sf none) :: cl b T_p_slru_List [.pointer (some (Addr.mk p 0 none))] :: As),
      fun vs _ => match vs with | [.pointer a] => remN rowN a | _ => 0, ⟨[], rowN, rfl, rfl, H⟩, ?_⟩
    rintro vs w17 ⟨l, q, erow, rfl, H⟩
    refine ⟨hd q none, rfl, br (fun hn => ?_) fun hn => ?_⟩
    · obtain ⟨x, q, rfl⟩ : ∃ x q', q = x :: q' := by cases q with | nil => cases hn | cons x q => exact ⟨x, q, rfl⟩
      have hnd : ((l ++ x :: q).map (·.2)).Nodup := by
        obtain ⟨hh, hs, _⟩ := H.mem hmem
        rw [← erow]
        exact nodes_nodup hs
      have hk : (tk ++ sk)[base + l.length]? = some x.1 := q4 l.length x (by rw [erow]; simp)
      have cellx : ∀ {A : HP} {w' : World}, St h0 w0 w' (A :: cl p T_slru_List (listCells most r tr sf) :: mp r es mc :: SepL (Nodes (Addr.mk p 2 none) none tr none) :: SepL (Nodes (Addr.mk p 5 none) none sf none) :: cl b T_p_slru_List [.pointer (some (Addr.mk p 0 none))] :: As) →
          ∀ i, w'.cell? (Addr.mk x.2 i none) = (nodeL x (lst none l) (hd q none) (Addr.mk p o none))[i]? := fun {A w'} H i => by
        have hme := hmem (A := A) (B := cl p T_slru_List (listCells most r tr sf)) (C := mp r es mc) (l := cl b T_p_slru_List [.pointer (some (Addr.mk p 0 none))] :: As)
        rw [erow] at hme
        exact node_cell H hme i
      refine ⟨_, rfl, x.1, by rw [add_mk, cellx H]; rfl, hy _ _ _ _ _ _ _ hk H (fun w22 H => ⟨true, rfl, br (fun h => by simp at h) fun _ => ?_⟩) (fun w22 H => ⟨false, rfl, br (fun _ => ?_) fun h => by simp at h⟩)⟩
      · refine ⟨_, rfl, hd q none, by rw [add_mk, cellx H]; rfl, ⟨l ++ [x], q, by rw [erow]; simp, rfl, by simpa [Nat.add_assoc] using H⟩, ?_⟩
        have := remN_lt hnd
        rw [← erow] at this
        exact this
      · exact hK2 _ (cls' H)
    · have : q = [] := by cases q with | nil => rfl | cons x q => cases hn
      subst this
      rw [List.append_nil] at erow
      subst erow
      have ew : IntKind.i64.wrap ((i : Int) + 1) = ((i + 1 : Nat) : Int) := by rw [wrap_i64 (by omega) (by omega)]; omega
      rw [ew]
      exact ⟨⟨i + 1, rfl, by omega, by rw [q6]; exact H⟩, by simp; omega⟩
  · simp only [decide_eq_false_iff_not] at hc
    have : i = 2 := by omega
    subst this
    refine hK1 _ (cls' ?_)
    have e : (tr ++ sf).length = (tk ++ sk).length := by rw [← hkeys]; simp
    rw [← e]
    exact H

theorem seq_eq (a b : ByteArray) : seq a b = decide (a = b) := by
  unfold seq
  rw [ByteArray.toList_eq, ByteArray.toList_eq, Bool.eq_iff_iff]
  simp only [beq_iff_eq, decide_eq_true_eq]
  constructor
  · intro h
    cases a; cases b
    rename_i x y
    have : x = y := by cases x; cases y; simpa using h
    rw [this]
  · rintro rfl; rfl

theorem slru_all {a : Option Addr} {K : Value → World → Prop} (H : St h0 w0 w As) (hK : ∀ b w', St h0 w0 w' (cl b T_p_slru_List [.pointer a] :: As) → K (.func (.func f_slru_List_All_1) #[] #[.pointer (some (Addr.mk b 0 none))]) w') :
    Cl P f_slru_List_All #[.pointer a] w K := by
  apply cl_slru_List_All
  unfold c_slru_List_All
  intro b1 w2 e1 e2
  exact hK b1 w2 (H.newCells e1 e2)

/-- The first key but for one. -/
def victimM (ks : List ByteArray) (but : ByteArray) : Option ByteArray := ks.find? fun k => decide (k ≠ but)
def victimV : Option ByteArray → Value
  | some k => .tuple #[.string k, .bool true]
  | none => .tuple #[.string ⟨#[]⟩, .bool false]

theorem slru_victim (p : Nat) (most : Int) (tk sk : List ByteArray) (but : ByteArray) : Sp P f_slru_List_Victim #[.pointer (some (Addr.mk p 0 none)), .string but] (Slru p most tk sk)
    (fun v h => v = victimV (victimM (tk ++ sk) but) ∧ Slru p most tk sk h) := sp_of fun w h H => by
  apply cl_slru_List_Victim
  unfold c_slru_List_Victim
  intro b1 w2 e1 e2 b3 w4 e3 e4 b5 w6 e5 e6
  have H := ((H.newCells (cs := [.string but]) e1 e2).newCells (cs := [.string ⟨#[]⟩]) e3 e4).newCells (cs := [.bool false]) e5 e6
  refine slru_all H fun b w8 H => ⟨_, rfl, ?_⟩
  refine ⟨by kernel_rfl, fun Lp lp D l w12 eD el ew hLp hst hpe hLs HY => ?_⟩
  have H := (H.alloc (b := D) (o := .deferred (some [])) eD rfl).alloc (b := l) (o := .loop lp) (by rw [el, World.size_alloc]) ew
  -- [lp, D, box, b5, b3, b1, Slru]
  let X : Nat → HP := fun i h => ∃ lp, Lp lp ∧ lp.state = .ready ∧ lp.pending = none ∧ (∀ j k, j < i → (tk ++ sk)[j]? = some k → k = but) ∧
    SepL [pt l (.loop lp), pt D (.deferred (some [])), cl b5 T_bool [.bool false], cl b3 T_string [.string ⟨#[]⟩], cl b1 T_string [.string but]] h
  let Z : HP := fun h => ∃ lp k, Lp lp ∧ lp.state = .done ∧ lp.pending = some .ret ∧ victimM (tk ++ sk) but = some k ∧
    SepL [pt l (.loop lp), pt D (.deferred (some [])), cl b5 T_bool [.bool true], cl b3 T_string [.string k], cl b1 T_string [.string but]] h
  have H0 : St h w w12 (X 0 :: cl b T_p_slru_List [.pointer (some (Addr.mk p 0 none))] :: Slru p most tk sk :: []) :=
    St.cls [pt l (.loop lp), pt D (.deferred (some [])), cl b5 T_bool [.bool false], cl b3 T_string [.string ⟨#[]⟩], cl b1 T_string [.string but]] H.pull3.push6 fun _ hs => ⟨lp, hLp, hst, hpe, (fun j k hj => absurd hj (by omega)), hs⟩
  refine slru_all1 (Z := Z) ?_ H0 ?_ ?_
  · intro i k h0 w0 w As K hk H K1 K2
    obtain ⟨hh, ⟨lp, q1, q2, q3, q4, q5⟩, hcl⟩ := H.opn
    have H := hcl _ q5
    refine ⟨rfl, HY w lp [.string k] K q1 (H.get m0) q2 rfl ⟨k, rfl, lp, H.get m0, q2, fun W2 e2 => ?_⟩⟩
    have H := H.putObj e2
    refine ⟨but, H.cell m4 0, ?_⟩
    rw [seq_eq]
    refine br (fun hn => ?_) fun hn => ?_
    · have hne : k ≠ but := by simpa using hn
      refine ⟨H.stOk m3 (by simp), fun w25 e25 => ?_⟩
      have H := H.pull4.set e25
      refine ⟨H.stOk m3 (by simp), fun w26 e26 => ?_⟩
      have H := H.pull4.set e26
      -- [b5, b3, lp, D, b1]
      refine ⟨_, H.get m2, fun w28 e28 => ?_⟩
      have H := H.pull3.putObj e28
      refine K2 _ ?_
      -- [lp, b5, b3, D, b1]
      refine St.cls [_, _, _, _, _] H.pull4.swap fun hh hs => ⟨_, k, ?_, ?_, ?_, ?_, hs⟩
      · exact hLs _ _ _ (hLs _ _ _ q1)
      · rfl
      · rfl
      · unfold victimM
        obtain ⟨l1, l2, e1, e2⟩ : ∃ l1 l2, tk ++ sk = l1 ++ k :: l2 ∧ l1.length = i := ⟨(tk ++ sk).take i, (tk ++ sk).drop (i + 1), by
          have hlt := (List.getElem?_eq_some_iff.1 hk).1
          have hg := (List.getElem?_eq_some_iff.1 hk).2
          rw [← hg, List.getElem_cons_drop, List.take_append_drop], by
          have hlt := (List.getElem?_eq_some_iff.1 hk).1
          rw [List.length_take]; omega⟩
        rw [e1, List.find?_append]
        have : l1.find? (fun k => decide (k ≠ but)) = none := by
          rw [List.find?_eq_none]
          intro z hz
          obtain ⟨j, hj⟩ := List.getElem?_of_mem hz
          have hjl := (List.getElem?_eq_some_iff.1 hj).1
          have := q4 j z (by omega) (by rw [e1, List.getElem?_append_left hjl]; exact hj)
          simp [this]
        rw [this]
        simp [List.find?_cons, hne]
    · have he : k = but := by simpa using hn
      refine ⟨_, H.get m0, fun w30 e30 => ?_⟩
      have H := H.putObj e30
      refine K1 _ ?_
      refine St.cls [_, _, _, _, _] H fun hh hs => ⟨_, ?_, ?_, ?_, ?_, hs⟩
      · exact hLs _ _ _ (hLs _ _ _ q1)
      · rfl
      · rfl
      · intro j k' hj hk'
        by_cases e : j = i
        · subst e; rw [hk] at hk'; cases hk'; exact he
        · exact q4 j k' (by omega) hk'
  · intro w32 H
    obtain ⟨hh, ⟨lp, q1, q2, q3, q4, q5⟩, hcl⟩ := H.opn
    have H := hcl _ q5
    refine ⟨lp, H.get m0, by rw [q2]; simp, fun w33 e33 => ?_⟩
    have H := H.putObj e33
    rw [q3, pendR_none]
    refine ⟨H.stOk m3 (by simp), fun w35 e35 => ?_⟩
    have H := H.pull4.set e35
    refine ⟨H.stOk m3 (by simp), fun w36 e36 => ?_⟩
    have H := H.pull4.set e36
    refine ⟨H.get m3, fun w37 e37 => ?_⟩
    have H := H.pull4.putObj e37
    refine ⟨_, by rw [H.cell m2]; rfl, _, by rw [H.cell m1]; rfl, ?_⟩
    have hv : victimM (tk ++ sk) but = none := by
      unfold victimM
      rw [List.find?_eq_none]
      intro z hz
      obtain ⟨j, hj⟩ := List.getElem?_of_mem hz
      have := q4 j z (List.getElem?_eq_some_iff.1 hj).1 hj
      simp [this]
    rw [hv]
    exact (H.only m6).conv fun _ hs => ⟨rfl, hs⟩
  · intro w32 H
    obtain ⟨hh, ⟨lp, k, q1, q2, q3, q4, q5⟩, hcl⟩ := H.opn
    have H := hcl _ q5
    refine ⟨lp, H.get m0, by rw [q2]; simp, fun w33 e33 => ?_⟩
    have H := H.putObj e33
    rw [q3, pendR_ret]
    refine ⟨H.get m1, fun w40 e40 => ?_⟩
    have H := H.swap.putObj e40
    refine ⟨_, by rw [H.cell m3]; rfl, _, by rw [H.cell m2]; rfl, ?_⟩
    rw [q4]
    exact (H.only m6).conv fun _ hs => ⟨rfl, hs⟩
end
end Go.Bty
