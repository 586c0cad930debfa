/- The two rows of keys: nodes behind one another, a map that finds them. -/
import Derived.Test.YtbjkbonnmeppoaaBtyS
import Derived.Test.YtbjkbonnmeppoaaSlruC
namespace Go.Bty
open Go
open Go.Proofs.Try renaming prog → P

abbrev Nd := ByteArray × Nat
def ad (b : Nat) : Option Addr := some (Addr.mk b 0 none)
def hd : List Nd → Option Addr → Option Addr
  | [], d => d
  | x :: _, _ => ad x.2
def lst (d : Option Addr) : List Nd → Option Addr
  | [] => d
  | x :: xs => lst (ad x.2) xs
def nodeL (x : Nd) (a n : Option Addr) (row : Addr) : List Value := [.string x.1, .pointer a, .pointer n, .pointer (some row)]
def Nodes (row : Addr) : Option Addr → List Nd → Option Addr → List HP
  | _, [], _ => []
  | prev, x :: xs, nxt => cl x.2 T_slru_node (nodeL x prev (hd xs nxt) row) :: Nodes row (ad x.2) xs nxt

theorem hd_append (l r : List Nd) (d : Option Addr) : hd (l ++ r) d = hd l (hd r d) := by cases l <;> rfl
theorem lst_append (l r : List Nd) (d : Option Addr) : lst d (l ++ r) = lst (lst d l) r := by
  induction l generalizing d with
  | nil => rfl
  | cons x l ih => exact ih _
theorem nodes_append (row : Addr) (l r : List Nd) (prev nxt : Option Addr) : Nodes row prev (l ++ r) nxt = Nodes row prev l (hd r nxt) ++ Nodes row (lst prev l) r nxt := by
  induction l generalizing prev with
  | nil => rfl
  | cons x l ih => simp only [List.cons_append, Nodes, ih, hd_append, lst]

structure RowOk (L : List Value) (o : Nat) (ns : List Nd) : Prop where
  first : L[o]? = some (.pointer (hd ns none))
  last : L[o + 1]? = some (.pointer (lst none ns))
  many : L[o + 2]? = some (.int .i64 ns.length)
def rowSet (L : List Value) (o : Nat) (ns : List Nd) : List Value := ((L.set o (.pointer (hd ns none))).set (o + 1) (.pointer (lst none ns))).set (o + 2) (.int .i64 ns.length)

theorem set_same {L : List Value} {o : Nat} {v : Value} (h : L[o]? = some v) : L.set o v = L := by
  apply List.ext_getElem?
  intro i
  rw [List.getElem?_set]
  split
  · rename_i e; subst e
    have := (List.getElem?_eq_some_iff.1 h).1
    rw [if_pos this, h]
  · rfl

section
variable {h0 : Frag} {w0 w : World} {As : List HP} {p o : Nat} {T : TypeId} {L : List Value} {ns : List Nd} {K : Value → World → Prop}

theorem slru_push {x : Nd} {v1 v2 v3 : Value} (H : St h0 w0 w (cl p T L :: SepL (Nodes (Addr.mk p o none) none ns none) :: cl x.2 T_slru_node [.string x.1, v1, v2, v3] :: As)) (hr : RowOk L o ns) (hm : ns.length < 2 ^ 62)
    (hK : ∀ w', St h0 w0 w' (cl p T (rowSet L o (ns ++ [x])) :: SepL (Nodes (Addr.mk p o none) none (ns ++ [x]) none) :: As) → K (.tuple #[]) w') :
    Cl P f_slru_row_push #[.pointer (some (Addr.mk p o none)), .pointer (ad x.2)] w K := by
  have l2 := (List.getElem?_eq_some_iff.1 hr.many).1
  have l1 : o + 1 < L.length := by omega
  have l0 : o < L.length := by omega
  apply cl_slru_row_push
  unfold c_slru_row_push
  refine ⟨_, rfl, lst none ns, by rw [add_mk, H.cell m0]; exact hr.last, _, rfl, by rw [add_mk]; exact H.stOk m2 (by simp), fun w4 e4 => ?_⟩
  rw [add_mk] at e4
  have H := H.pull3.set e4
  refine ⟨_, rfl, by rw [add_mk]; exact H.stOk m0 (by simp), fun w6 e6 => ?_⟩
  rw [add_mk] at e6
  have H := H.set e6
  refine ⟨_, rfl, by rw [add_mk]; exact H.stOk m0 (by simp), fun w8 e8 => ?_⟩
  rw [add_mk] at e8
  have H := H.set e8
  have H : St h0 w0 w8 (cl x.2 T_slru_node (nodeL x (lst none ns) none (Addr.mk p o none)) :: cl p T L :: SepL (Nodes (Addr.mk p o none) none ns none) :: As) := H
  refine ⟨_, rfl, lst none ns, by rw [add_mk, H.cell m1]; exact hr.last, br (fun hn => ?_) fun hn => ?_⟩
  · -- the first one
    have hns : ns = [] := by
      cases ns with
      | nil => rfl
      | cons y ys =>
        exfalso
        have : ∀ (l : List Nd) (b : Nat), (lst (ad b) l).isNone = false := fun l => by
          induction l with
          | nil => intro b; rfl
          | cons z l ih => intro b; exact ih z.2
        simp only [lst] at hn
        rw [this] at hn; cases hn
    subst hns
    refine ⟨_, rfl, by rw [add_mk]; exact H.stOk m1 l0, fun w12 e12 => ?_⟩
    rw [add_mk] at e12
    have H := H.swap.set e12
    refine ⟨_, rfl, by rw [add_mk]; exact H.stOk m0 (by simpa using l1), fun w14 e14 => ?_⟩
    rw [add_mk] at e14
    have H := H.set e14
    refine ⟨_, rfl, 0, by rw [add_mk, H.cell m0]; simp [hr.many], _, rfl, by rw [add_mk]; exact H.stOk m0 (by simpa using l2), fun w18 e18 => ?_⟩
    rw [add_mk, wrap_i64 (by omega) (by omega)] at e18
    have H := H.set e18
    refine hK _ ?_
    have H := H.pull3.drop.swap
    exact (H.join (Bs := Nodes (Addr.mk p o none) none [x] none)).swap
  · -- behind another one
    obtain ⟨l, y, rfl⟩ : ∃ l y, ns = l ++ [y] := by
      rcases List.eq_nil_or_concat ns with h | ⟨l, y, h⟩
      · subst h; cases hn
      · exact ⟨l, y, by simpa using h⟩
    have ely : lst none (l ++ [y]) = ad y.2 := by rw [lst_append]; rfl
    have H := H.pull3.split
    rw [nodes_append] at H
    have H : St h0 w0 w8 (Nodes (Addr.mk p o none) none l (ad y.2) ++ (cl y.2 T_slru_node (nodeL y (lst none l) none (Addr.mk p o none)) :: cl x.2 T_slru_node (nodeL x (lst none (l ++ [y])) none (Addr.mk p o none)) :: cl p T L :: As)) := by
      rw [List.append_assoc] at H; exact H
    have H := H.join
    -- [Nodes l, y, x, p]
    refine ⟨_, rfl, lst none (l ++ [y]), by rw [add_mk, H.cell m3]; exact hr.last, _, by rw [ely]; rfl, by rw [add_mk]; exact H.stOk m1 (by simp [nodeL]), fun w22 e22 => ?_⟩
    rw [add_mk] at e22
    have H := H.swap.set e22
    refine ⟨_, rfl, by rw [add_mk]; exact H.stOk m3 l1, fun w24 e24 => ?_⟩
    rw [add_mk] at e24
    have H := H.pull4.set e24
    refine ⟨_, rfl, (l ++ [y]).length, by rw [add_mk, H.cell m0, List.getElem?_set_ne (by omega)]; exact hr.many, _, rfl, by rw [add_mk]; exact H.stOk m0 (by simpa using l2), fun w28 e28 => ?_⟩
    rw [add_mk, wrap_i64 (by omega) (by omega)] at e28
    have H := H.set e28
    refine hK _ ?_
    -- [p, y, Nodes l, x]
    have H := H.push4.swap.split
    have e : Nodes (Addr.mk p o none) none (l ++ [y] ++ [x]) none = Nodes (Addr.mk p o none) none l (ad y.2) ++ [cl y.2 T_slru_node (nodeL y (lst none l) (ad x.2) (Addr.mk p o none)), cl x.2 T_slru_node (nodeL x (lst none (l ++ [y])) none (Addr.mk p o none))] := by
      rw [List.append_assoc, nodes_append, ely]; rfl
    have eL : rowSet L o (l ++ [y] ++ [x]) = (L.set (o + 1) (.pointer (ad x.2))).set (o + 2) (.int .i64 ((l ++ [y]).length + 1 : Int)) := by
      have e0 : L.set o (.pointer (hd (l ++ [y] ++ [x]) none)) = L := set_same (by rw [hr.first, hd_append, hd_append, hd_append]; rfl)
      unfold rowSet
      have elen : (((l ++ [y] ++ [x]).length : Nat) : Int) = ((l ++ [y]).length : Int) + 1 := by simp; omega
      rw [e0, lst_append, elen]; rfl
    rw [eL]
    refine (St.join (As := cl p T _ :: As) (Nodes (Addr.mk p o none) none (l ++ [y] ++ [x]) none) ?_).swap
    rw [e, List.append_assoc]
    exact H

/-- A node is taken out of its row. -/
theorem slru_pull {x : Nd} {l r : List Nd} (H : St h0 w0 w (cl p T L :: SepL (Nodes (Addr.mk p o none) none (l ++ x :: r) none) :: As)) (hr : RowOk L o (l ++ x :: r)) (hm : (l ++ x :: r).length < 2 ^ 62)
    (hK : ∀ w' v1 v2 v3, St h0 w0 w' (cl p T (rowSet L o (l ++ r)) :: SepL (Nodes (Addr.mk p o none) none (l ++ r) none) :: cl x.2 T_slru_node [.string x.1, v1, v2, v3] :: As) → K (.tuple #[]) w') :
    Cl P f_slru_node_pull #[.pointer (ad x.2)] w K := by
  have l2 := (List.getElem?_eq_some_iff.1 hr.many).1
  have l1 : o + 1 < L.length := by omega
  have l0 : o < L.length := by omega
  have hmany : ((l ++ x :: r).length : Int) = (l ++ r).length + 1 := by simp; omega
  have H := H.swap.split
  rw [nodes_append, Nodes, List.append_assoc, List.cons_append] at H
  have H := (H.join.join2 (Nodes (Addr.mk p o none) (ad x.2) r none)).pull3
  -- [right, left, x, p]
  have isn : ∀ (l : List Nd) (b : Nat), (lst (ad b) l).isNone = false := fun l => by
    induction l with
    | nil => intro b; rfl
    | cons z l ih => intro b; exact ih z.2
  apply cl_slru_node_pull
  unfold c_slru_node_pull
  refine ⟨_, rfl, some (Addr.mk p o none), by rw [add_mk, H.cell m2]; rfl, _, rfl, lst none l, by rw [add_mk, H.cell m2]; rfl, br (fun hl => ?_) fun hl => ?_⟩
  · -- nothing ahead
    have : l = [] := by
      cases l with
      | nil => rfl
      | cons y ys => simp only [lst] at hl; rw [isn] at hl; cases hl
    subst this
    have H := H.swap.drop
    -- [right, x, p]
    refine ⟨_, rfl, hd r none, by rw [add_mk, H.cell m1]; rfl, _, rfl, by rw [add_mk]; exact H.stOk m2 l0, fun w8 e8 => ?_⟩
    rw [add_mk] at e8
    have H := H.pull3.set e8
    -- [p, right, x]
    refine ⟨_, rfl, hd r none, by rw [add_mk, H.cell m2]; rfl, br (fun hr0 => ?_) fun hr0 => ?_⟩
    · have : r = [] := by cases r with | nil => rfl | cons z r => cases hr0
      subst this
      refine ⟨_, rfl, none, by rw [add_mk, H.cell m2]; rfl, _, rfl, by rw [add_mk]; exact H.stOk m0 (by simpa using l1), fun w14 e14 => ?_⟩
      rw [add_mk] at e14
      have H := H.set e14
      refine ⟨_, rfl, 1, by rw [add_mk, H.cell m0, List.getElem?_set_ne (by omega), List.getElem?_set_ne (by omega)]; exact hr.many, _, rfl, by rw [add_mk]; exact H.stOk m0 (by simpa using l2), fun w18 e18 => ?_⟩
      rw [add_mk, wrap_i64 (by omega) (by omega)] at e18
      have H := H.set e18
      exact hK _ (.pointer none) (.pointer none) (.pointer (some (Addr.mk p o none))) H
    · obtain ⟨z, r, rfl⟩ : ∃ z r', r = z :: r' := by cases r with | nil => cases hr0 | cons z r => exact ⟨z, r, rfl⟩
      intro w19 e19
      have H := (H.drew e19).swap.split
      -- [z .. rest, p, x]
      rw [Nodes, List.cons_append] at H
      have H := H.join1
      -- [z, rest, p, x]
      refine ⟨_, rfl, ad z.2, by rw [add_mk, H.cell m3]; rfl, _, rfl, none, by rw [add_mk, H.cell m3]; rfl, _, rfl, by rw [add_mk]; exact H.stOk m0 (by simp [nodeL]), fun w25 e25 => ?_⟩
      rw [add_mk] at e25
      have H := (H.set e25).pull3
      -- [p, z, rest, x]
      refine ⟨_, rfl, _, by rw [add_mk, H.cell m0, List.getElem?_set_ne (by omega)]; exact hr.many, _, rfl, by rw [add_mk]; exact H.stOk m0 (by simpa using l2), fun w29 e29 => ?_⟩
      rw [add_mk, wrap_i64 (by omega) (by omega)] at e29
      have H := (H.set e29).push4.split1
      have H := (St.join (As := cl x.2 T_slru_node (nodeL x (lst none []) (hd (z :: r) none) (Addr.mk p o none)) :: _) (Nodes (Addr.mk p o none) none (z :: r) none) H).pull3
      refine hK _ (.pointer none) (.pointer (hd (z :: r) none)) (.pointer (some (Addr.mk p o none))) ?_
      have e0 : (L.set o (.pointer (ad z.2))).set (o + 1) (.pointer (lst none (z :: r))) = L.set o (.pointer (ad z.2)) := set_same (by rw [List.getElem?_set_ne (by omega)]; exact hr.last)
      have eL : rowSet L o ([] ++ z :: r) = (L.set o (.pointer (ad z.2))).set (o + 2) (.int .i64 ((([] ++ x :: z :: r).length : Int) - 1)) := by
        unfold rowSet
        rw [show hd ([] ++ z :: r) none = ad z.2 from rfl, show lst none ([] ++ z :: r) = lst none (z :: r) from rfl, e0]
        congr 2; omega
      rw [eL]
      exact H
  · -- one ahead
    obtain ⟨l, y, rfl⟩ : ∃ l' y, l = l' ++ [y] := by
      rcases List.eq_nil_or_concat l with h | ⟨l', y, h⟩
      · subst h; cases hl
      · exact ⟨l', y, by simpa using h⟩
    have ely : lst none (l ++ [y]) = ad y.2 := by rw [lst_append]; rfl
    have H := H.swap.split
    rw [nodes_append, List.append_assoc] at H
    have H : St h0 w0 w (Nodes (Addr.mk p o none) none l (ad y.2) ++ (cl y.2 T_slru_node (nodeL y (lst none l) (ad x.2) (Addr.mk p o none)) :: SepL (Nodes (Addr.mk p o none) (ad x.2) r none) :: cl x.2 T_slru_node (nodeL x (lst none (l ++ [y])) (hd r none) (Addr.mk p o none)) :: cl p T L :: As)) := H
    have H := H.join
    intro w30 e30
    have H := (H.drew e30).swap
    -- [y, left, right, x, p]
    refine ⟨_, rfl, lst none (l ++ [y]), by rw [add_mk, H.cell m3]; rfl, _, rfl, hd r none, by rw [add_mk, H.cell m3]; rfl, _, by rw [ely]; rfl, by rw [add_mk]; exact H.stOk m0 (by simp [nodeL]), fun w36 e36 => ?_⟩
    rw [add_mk] at e36
    have H := H.set e36
    have ehd : ∀ (q : List Nd), hd (l ++ [y] ++ q) none = hd (l ++ [y]) none := fun q => by rw [hd_append, hd_append, hd_append]; rfl
    refine ⟨_, rfl, hd r none, by rw [add_mk, H.cell m3]; rfl, br (fun hr0 => ?_) fun hr0 => ?_⟩
    · have : r = [] := by cases r with | nil => rfl | cons z r => cases hr0
      subst this
      refine ⟨_, rfl, lst none (l ++ [y]), by rw [add_mk, H.cell m3]; rfl, _, rfl, by rw [add_mk]; exact H.stOk m4 l1, fun w42 e42 => ?_⟩
      rw [add_mk] at e42
      have H := H.pull5.set e42
      -- [p, y, left, right, x]
      refine ⟨_, rfl, _, by rw [add_mk, H.cell m0, List.getElem?_set_ne (by omega)]; exact hr.many, _, rfl, by rw [add_mk]; exact H.stOk m0 (by simpa using l2), fun w46 e46 => ?_⟩
      rw [add_mk, wrap_i64 (by omega) (by omega)] at e46
      have H := (H.set e46).pull4.drop.push3
      -- [y, left, p, x] 
      have H := H.swap.split
      have e : Nodes (Addr.mk p o none) none (l ++ [y] ++ []) none = Nodes (Addr.mk p o none) none l (ad y.2) ++ [cl y.2 T_slru_node (nodeL y (lst none l) none (Addr.mk p o none))] := by
        rw [List.append_nil, nodes_append]; rfl
      refine hK _ (.pointer (lst none (l ++ [y]))) (.pointer none) (.pointer (some (Addr.mk p o none))) ?_
      have e0 : L.set o (.pointer (hd (l ++ [y] ++ []) none)) = L := set_same (by rw [hr.first, ehd, ehd])
      have eL : rowSet L o (l ++ [y] ++ []) = (L.set (o + 1) (.pointer (lst none (l ++ [y])))).set (o + 2) (.int .i64 (((l ++ [y] ++ [x]).length : Int) - 1)) := by
        unfold rowSet
        rw [e0, List.append_nil]
        congr 2; simp; omega
      rw [eL]
      refine (St.join (As := cl p T _ :: _) (Nodes (Addr.mk p o none) none (l ++ [y] ++ []) none) ?_).swap
      rw [e, List.append_assoc]
      exact H
    · obtain ⟨z, r, rfl⟩ : ∃ z r', r = z :: r' := by cases r with | nil => cases hr0 | cons z r => exact ⟨z, r, rfl⟩
      intro w47 e47
      have H := (H.drew e47).pull3.split
      rw [Nodes, List.cons_append] at H
      have H := H.join1
      -- [z, rest, y, left, x, p]
      refine ⟨_, rfl, ad z.2, by rw [add_mk, H.cell m4]; rfl, _, rfl, lst none (l ++ [y]), by rw [add_mk, H.cell m4]; rfl, _, rfl, by rw [add_mk]; exact H.stOk m0 (by simp [nodeL]), fun w53 e53 => ?_⟩
      rw [add_mk] at e53
      have H := (H.set e53).pull6
      -- [p, z, rest, y, left, x]
      refine ⟨_, rfl, _, by rw [add_mk, H.cell m0]; exact hr.many, _, rfl, by rw [add_mk]; exact H.stOk m0 l2, fun w57 e57 => ?_⟩
      rw [add_mk, wrap_i64 (by omega) (by omega)] at e57
      have H := H.set e57
      have e : Nodes (Addr.mk p o none) none (l ++ [y] ++ z :: r) none = Nodes (Addr.mk p o none) none l (ad y.2) ++ (cl y.2 T_slru_node (nodeL y (lst none l) (ad z.2) (Addr.mk p o none)) :: cl z.2 T_slru_node (nodeL z (lst none (l ++ [y])) (hd r none) (Addr.mk p o none)) :: Nodes (Addr.mk p o none) (ad z.2) r none) := by
        rw [List.append_assoc, nodes_append, ely]; rfl
      refine hK _ (.pointer (lst none (l ++ [y]))) (.pointer (hd (z :: r) none)) (.pointer (some (Addr.mk p o none))) ?_
      have e0 : L.set o (.pointer (hd (l ++ [y] ++ z :: r) none)) = L := set_same (by rw [hr.first, ehd, ehd])
      have e1 : L.set (o + 1) (.pointer (lst none (l ++ [y] ++ z :: r))) = L := set_same (by rw [hr.last]; simp only [lst_append]; rfl)
      have eL : rowSet L o (l ++ [y] ++ z :: r) = L.set (o + 2) (.int .i64 (((l ++ [y] ++ x :: z :: r).length : Int) - 1)) := by
        unfold rowSet
        rw [e0, e1]
        congr 2; omega
      rw [eL]
      -- [p, z, rest, y, left, x]
      have H := H.push5.consS.swap.consS.swap.glue.swap
      rw [e]
      exact H
end
end Go.Bty
