/- The list of keys: which would be given up first. -/
import Derived.Test.YtbjkbonnmeppoaaBtyT
namespace Go.Bty
open Go
open Go.Proofs.Try renaming prog → P

instance : LawfulBEq ByteArray where
  eq_of_beq {a b} h := by rw [ba_beq] at h; simpa using h
  rfl {a} := by rw [ba_beq]; simp

def look (ns : List Nd) (k : ByteArray) : Option Nat := (ns.find? fun x => decide (k = x.1)).map (·.2)
def nodeMap (ns : List Nd) (v : Value) : Option Value := match v with
  | .string k => (look ns k).map fun b => .pointer (ad b)
  | _ => none
def listCells (most : Int) (r : Nat) (tr sf : List Nd) : List Value :=
  [.int .i64 most, .map (some r), .pointer (hd tr none), .pointer (lst none tr), .int .i64 tr.length, .pointer (hd sf none), .pointer (lst none sf), .int .i64 sf.length]

theorem look_iff {ns : List Nd} {k : ByteArray} {b : Nat} (hn : (ns.map (·.1)).Nodup) : look ns k = some b ↔ (k, b) ∈ ns := by
  induction ns with
  | nil => simp [look]
  | cons x ns ih =>
    rw [List.map_cons, List.nodup_cons] at hn
    have ih := ih hn.2
    unfold look at ih ⊢
    rw [List.find?_cons]
    by_cases h : k = x.1
    · subst h
      simp only [decide_true, Option.map_some, Option.some.injEq, List.mem_cons]
      constructor
      · rintro rfl; exact .inl rfl
      · rintro (h | h)
        · rw [← h]
        · exact absurd (List.mem_map.2 ⟨_, h, rfl⟩) hn.1
    · have hf : decide (k = x.1) = false := by simpa using h
      simp only [hf]
      rw [ih, List.mem_cons]
      constructor
      · exact .inr
      · rintro (h' | h')
        · exact absurd (congrArg (·.1) h') h
        · exact h'
theorem look_none {ns : List Nd} {k : ByteArray} : look ns k = none ↔ k ∉ ns.map (·.1) := by
  unfold look
  rw [Option.map_eq_none_iff, List.find?_eq_none]
  simp only [decide_eq_true_eq, List.mem_map, not_exists, not_and]
  constructor
  · intro h x hx e; exact h x hx e.symm
  · intro h x hx e; exact h x hx e.symm
theorem look_perm {ns ns' : List Nd} (hn : (ns.map (·.1)).Nodup) (hp : ns.Perm ns') (k : ByteArray) : look ns k = look ns' k := by
  have hn' : (ns'.map (·.1)).Nodup := (hp.map _).nodup_iff.1 hn
  apply Option.ext
  intro b
  rw [look_iff hn, look_iff hn', hp.mem_iff]
theorem fits_str {k : Value} (h : kFits .str k = true) : ∃ s, k = .string s := by
  cases k <;> simp only [kFits, Bool.false_eq_true] at h
  exact ⟨_, rfl⟩
theorem mapIs_perm {es : Array MapEntry} {ns ns' : List Nd} (H : MapIs .str es (nodeMap ns)) (hn : (ns.map (·.1)).Nodup) (hp : ns.Perm ns') : MapIs .str es (nodeMap ns') := H.congr fun k hk => by
  obtain ⟨s, rfl⟩ := fits_str hk
  simp only [nodeMap, look_perm hn hp]

theorem mapIs_cons {es : Array MapEntry} {ns : List Nd} {k : ByteArray} {b : Nat} (H : MapIs .str es (fun x => bif kEq x (.string k) then some (.pointer (some (Addr.mk b 0 none))) else nodeMap ns x)) : MapIs .str es (nodeMap ((k, b) :: ns)) := H.congr fun x hx => by
  obtain ⟨s, rfl⟩ := fits_str hx
  simp only [kEq, nodeMap, look, List.find?_cons]
  cases decide (s = k) <;> rfl
theorem mapIs_uncons {es : Array MapEntry} {ns : List Nd} {k : ByteArray} {b : Nat} (H : MapIs .str es (fun x => bif kEq x (.string k) then none else nodeMap ((k, b) :: ns) x)) (hk : k ∉ ns.map (·.1)) : MapIs .str es (nodeMap ns) := H.congr fun x hx => by
  obtain ⟨s, rfl⟩ := fits_str hx
  simp only [kEq, nodeMap]
  by_cases e : s = k
  · subst e
    simp only [decide_true, cond_true, look_none.2 hk]; rfl
  · have : decide (s = k) = false := by simpa using e
    simp only [this, cond_false, look, List.find?_cons]

/-- A list at block p: its bound, the keys on trial, the protected ones. -/
def Slru (p : Nat) (most : Int) (tk sk : List ByteArray) : HP := fun h => ∃ r es mc tr sf, tr.map (·.1) = tk ∧ sf.map (·.1) = sk ∧ (tk ++ sk).Nodup ∧ MapIs .str es (nodeMap (tr ++ sf)) ∧
  SepL [cl p T_slru_List (listCells most r tr sf), mp r es mc, SepL (Nodes (Addr.mk p 2 none) none tr none), SepL (Nodes (Addr.mk p 5 none) none sf none)] h

section
variable {h0 : Frag} {w0 w : World} {As : List HP} {p : Nat} {most : Int} {tk sk : List ByteArray}
theorem St.slruOpen (H : St h0 w0 w (Slru p most tk sk :: As)) : ∃ r es mc tr sf, tr.map (·.1) = tk ∧ sf.map (·.1) = sk ∧ (tk ++ sk).Nodup ∧ MapIs .str es (nodeMap (tr ++ sf)) ∧
    St h0 w0 w (cl p T_slru_List (listCells most r tr sf) :: mp r es mc :: SepL (Nodes (Addr.mk p 2 none) none tr none) :: SepL (Nodes (Addr.mk p 5 none) none sf none) :: As) := by
  obtain ⟨h, ⟨r, es, mc, tr, sf, h1, h2, h3, h4, h5⟩, hk⟩ := H.opn
  exact ⟨r, es, mc, tr, sf, h1, h2, h3, h4, hk _ h5⟩
theorem St.slruMk {r : Nat} {es : Array MapEntry} {mc : Nat} {tr sf : List Nd} (h1 : tr.map (·.1) = tk) (h2 : sf.map (·.1) = sk) (h3 : (tk ++ sk).Nodup) (h4 : MapIs .str es (nodeMap (tr ++ sf)))
    (H : St h0 w0 w (cl p T_slru_List (listCells most r tr sf) :: mp r es mc :: SepL (Nodes (Addr.mk p 2 none) none tr none) :: SepL (Nodes (Addr.mk p 5 none) none sf none) :: As)) : St h0 w0 w (Slru p most tk sk :: As) :=
  St.cls [cl p T_slru_List (listCells most r tr sf), mp r es mc, SepL (Nodes (Addr.mk p 2 none) none tr none), SepL (Nodes (Addr.mk p 5 none) none sf none)] H fun _ h => ⟨r, es, mc, tr, sf, h1, h2, h3, h4, h⟩

theorem rowT {r : Nat} {tr sf : List Nd} : RowOk (listCells most r tr sf) 2 tr := ⟨rfl, rfl, rfl⟩
theorem rowS {r : Nat} {tr sf : List Nd} : RowOk (listCells most r tr sf) 5 sf := ⟨rfl, rfl, rfl⟩

theorem slru_new (most : Int) : Sp P f_slru_New #[.int .i64 most] (fun _ => True) (fun v h => ∃ p, v = .pointer (some (Addr.mk p 0 none)) ∧ Slru p most [] [] h) := sp_of fun w h H => by
  apply cl_slru_New
  unfold c_slru_New
  intro b1 w2 e1 e2 b3 w4 e3 e4
  have H := H.drop.newMap e1 e2
  have H : St h w w4 (cl b3 T_slru_List (listCells most b1 [] []) :: mp b1 #[] 0 :: []) := H.newCells e3 e4
  have H := (St.join [] (St.join [] H)).push4.push3
  exact (St.slruMk (tk := []) (sk := []) (tr := []) (sf := []) rfl rfl (by simp) ((mapIs_empty .str).congr fun k hk => by obtain ⟨s, rfl⟩ := fits_str hk; rfl) H).conv fun _ hs => ⟨b3, rfl, hs⟩

theorem get_key {es : Array MapEntry} {ns : List Nd} (h : MapIs .str es (nodeMap ns)) (k : ByteArray) : mget (.string k) es.toList = (look ns k).map fun b => .pointer (ad b) := h.holds (.string k) rfl

theorem slru_add (p : Nat) (most : Int) (tk sk : List ByteArray) (k : ByteArray) (hl : tk.length < 2 ^ 60) : Sp P f_slru_List_Add #[.pointer (some (Addr.mk p 0 none)), .string k] (Slru p most tk sk)
    (fun v h => (k ∈ tk ++ sk ∧ v = .int .i64 7 ∧ Slru p most tk sk h) ∨ (k ∉ tk ++ sk ∧ v = .int .i64 0 ∧ Slru p most (tk ++ [k]) sk h)) := sp_of fun w h H => by
  have HS := H
  apply cl_slru_List_Add
  unfold c_slru_List_Add
  obtain ⟨r, es, mc, tr, sf, e1, e2, hd, hm, H⟩ := H.slruOpen
  refine ⟨_, rfl, some r, by rw [add_mk, H.cell m0]; rfl, ?_⟩
  rw [onSome_some]
  have hg := get_key hm k
  refine ⟨es, mc, H.mapAt m1, hm.keys, (look (tr ++ sf) k).bind ad, ?_, br (fun hn => ?_) fun hn => ?_⟩
  · rw [hg]; cases look (tr ++ sf) k <;> rfl
  · have hk : k ∈ tk ++ sk := by
      rw [← e1, ← e2, ← List.map_append]
      apply Classical.byContradiction
      intro hc
      rw [look_none.2 hc] at hn; cases hn
    exact HS.conv fun _ hs => .inl ⟨hk, rfl, hs⟩
  · have hln : look (tr ++ sf) k = none := by
      cases hq : look (tr ++ sf) k with
      | none => rfl
      | some b => rw [hq] at hn; cases hn
    have hk : k ∉ tk ++ sk := by
      rw [← e1, ← e2, ← List.map_append]
      exact look_none.1 hln
    intro b7 w8 e7 e8
    have H := H.newCells (cs := [.string k, .pointer none, .pointer none, .pointer none]) e7 e8
    refine ⟨_, rfl, some r, by rw [add_mk, H.cell m1]; rfl, ?_⟩
    rw [onSome_some]
    refine ⟨es, mc, H.mapAt m2, hm.keys, fun w14 e14 => ?_⟩
    obtain ⟨es', mc', ep, hm'⟩ := mapIs_put hm (k := .string k) rfl (.pointer (some (Addr.mk b7 0 none))) mc
    rw [ep] at e14
    have H := H.pull3.putObj e14
    -- [map, node, list, T, S]
    refine ⟨_, rfl, ?_⟩
    rw [add_mk]
    have H := H.pull4.pull4.pull4.push3
    refine slru_push (x := (k, b7)) H rowT (by have := congrArg List.length e1; simp at this; omega) fun w17 H => ⟨rfl, ?_⟩
    have H := H.pull3.swap
    have hkt : k ∉ tk := fun h => hk (List.mem_append_left _ h)
    have hks : k ∉ sk := fun h => hk (List.mem_append_right _ h)
    refine (St.slruMk (tk := tk ++ [k]) (sk := sk) (tr := tr ++ [(k, b7)]) (sf := sf) (by simp [e1]) e2 ?_ ?_ H).conv fun _ hs => .inr ⟨hk, rfl, hs⟩
    · have hp : (k :: (tk ++ sk)).Perm (tk ++ [k] ++ sk) := by
        rw [List.append_assoc]; exact List.perm_middle.symm
      exact hp.nodup_iff.1 (List.nodup_cons.2 ⟨hk, hd⟩)
    · have hm2 := mapIs_cons hm'
      refine mapIs_perm hm2 ?_ ?_
      · rw [List.map_cons, List.map_append, e1, e2]
        exact List.nodup_cons.2 ⟨hk, hd⟩
      · rw [List.append_assoc]; exact List.perm_middle.symm

/-- A node is pulled, in whichever row. -/
theorem slru_pullAny {r : Nat} {es : Array MapEntry} {mc b : Nat} {tr sf : List Nd} {k : ByteArray} (hd : ((tr ++ sf).map (·.1)).Nodup) (hk : look (tr ++ sf) k = some b) (hl : (tr ++ sf).length < 2 ^ 60)
    (H : St h0 w0 w (cl p T_slru_List (listCells most r tr sf) :: mp r es mc :: SepL (Nodes (Addr.mk p 2 none) none tr none) :: SepL (Nodes (Addr.mk p 5 none) none sf none) :: As)) :
    Cl P f_slru_node_pull #[.pointer (ad b)] w fun v w' => v = .tuple #[] ∧ ∃ tr1 sf1 v1 v2 v3, tr1.map (·.1) = (tr.map (·.1)).erase k ∧ sf1.map (·.1) = (sf.map (·.1)).erase k ∧ (tr ++ sf).Perm ((k, b) :: (tr1 ++ sf1)) ∧
      St h0 w0 w' (cl p T_slru_List (listCells most r tr1 sf1) :: mp r es mc :: SepL (Nodes (Addr.mk p 2 none) none tr1 none) :: SepL (Nodes (Addr.mk p 5 none) none sf1 none) :: cl b T_slru_node [.string k, v1, v2, v3] :: As) := by
  have hmem := (look_iff hd).1 hk
  have hll : tr.length < 2 ^ 62 ∧ sf.length < 2 ^ 62 := by rw [List.length_append] at hl; omega
  rcases List.mem_append.1 hmem with hm | hm
  · obtain ⟨l, q, rfl⟩ := List.append_of_mem hm
    have H := H.swap.push3
    refine slru_pull (x := (k, b)) H rowT hll.1 fun w' v1 v2 v3 H => ⟨rfl, l ++ q, sf, v1, v2, v3, ?_, ?_, ?_, ?_⟩
    · have : k ∉ l.map (·.1) := fun h => by
        simp only [List.map_append, List.map_cons] at hd
        have h1 := (List.nodup_append.1 (List.nodup_append.1 hd).1).2.2 k h k (by simp)
        exact h1 rfl
      simp only [List.map_append, List.map_cons]
      rw [List.erase_append_right _ this, List.erase_cons_head]
    · rw [List.erase_of_not_mem]
      intro h
      simp only [List.map_append, List.map_cons] at hd
      exact (List.nodup_append.1 hd).2.2 k (by simp) k h rfl
    · rw [List.append_assoc, List.append_assoc]; exact List.perm_middle
    · -- [list, T, node, map, S]
      exact H.pull4.swap.pull5.push4
  · obtain ⟨l, q, rfl⟩ := List.append_of_mem hm
    have H := H.pull4.swap
    refine slru_pull (x := (k, b)) H rowS hll.2 fun w' v1 v2 v3 H => ⟨rfl, tr, l ++ q, v1, v2, v3, ?_, ?_, ?_, ?_⟩
    · rw [List.erase_of_not_mem]
      intro h
      simp only [List.map_append, List.map_cons] at hd
      exact (List.nodup_append.1 hd).2.2 k h k (by simp) rfl
    · have : k ∉ l.map (·.1) := fun h => by
        simp only [List.map_append, List.map_cons] at hd
        have h1 := (List.nodup_append.1 (List.nodup_append.1 hd).2.1).2.2 k h k (by simp)
        exact h1 rfl
      simp only [List.map_append, List.map_cons]
      rw [List.erase_append_right _ this, List.erase_cons_head]
    · have h1 : (tr ++ (l ++ (k, b) :: q)).Perm (tr ++ ((k, b) :: (l ++ q))) := List.Perm.append_left _ List.perm_middle
      exact h1.trans List.perm_middle
    · exact H.pull4.swap.pull5.push3

theorem sum_len {tr sf : List Nd} (e1 : tr.map (·.1) = tk) (e2 : sf.map (·.1) = sk) : (tr ++ sf).length = tk.length + sk.length := by
  have h1 := congrArg List.length e1
  have h2 := congrArg List.length e2
  simp at h1 h2; simp; omega

theorem slru_remove (p : Nat) (most : Int) (tk sk : List ByteArray) (k : ByteArray) (hl : tk.length + sk.length < 2 ^ 60) : Sp P f_slru_List_Remove #[.pointer (some (Addr.mk p 0 none)), .string k] (Slru p most tk sk)
    (fun v h => (k ∉ tk ++ sk ∧ v = .int .i64 6 ∧ Slru p most tk sk h) ∨ (k ∈ tk ++ sk ∧ v = .int .i64 0 ∧ Slru p most (tk.erase k) (sk.erase k) h)) := sp_of fun w h H => by
  have HS := H
  apply cl_slru_List_Remove
  unfold c_slru_List_Remove
  obtain ⟨r, es, mc, tr, sf, e1, e2, hd, hm, H⟩ := H.slruOpen
  have hkeys : (tr ++ sf).map (·.1) = tk ++ sk := by rw [List.map_append, e1, e2]
  refine ⟨_, rfl, some r, by rw [add_mk, H.cell m0]; rfl, ?_⟩
  rw [onSome_some]
  have hg := get_key hm k
  refine ⟨es, mc, H.mapAt m1, hm.keys, (look (tr ++ sf) k).bind ad, by rw [hg]; cases look (tr ++ sf) k <;> rfl, ?_⟩
  cases hq : look (tr ++ sf) k with
  | none =>
    have hk : k ∉ tk ++ sk := by rw [← hkeys]; exact look_none.1 hq
    exact HS.conv fun _ hs => .inl ⟨hk, rfl, hs⟩
  | some b =>
    have hk : k ∈ tk ++ sk := by
      rw [← hkeys]
      exact Classical.byContradiction fun hc => by rw [look_none.2 hc] at hq; cases hq
    refine (slru_pullAny (by rw [hkeys]; exact hd) hq (by rw [sum_len e1 e2]; exact hl) H).mono ?_
    rintro v w8 ⟨rfl, tr1, sf1, v1, v2, v3, f1, f2, hp, H⟩
    refine ⟨rfl, _, rfl, some r, by rw [add_mk, H.cell m0]; rfl, ?_⟩
    rw [onSome_some]
    refine ⟨es, mc, H.mapAt m1, hm.keys, fun w14 e14 => ?_⟩
    have hnd : ((k, b) :: (tr1 ++ sf1)).map (·.1) |>.Nodup := (hp.map (·.1)).nodup_iff.1 (by rw [hkeys]; exact hd)
    obtain ⟨es', mc', ep, hm'⟩ := mapIs_del (mapIs_perm hm (by rw [hkeys]; exact hd) hp) (k := .string k) rfl mc
    rw [ep] at e14
    have H := (H.swap.putObj e14).swap
    have hn2 := (List.nodup_cons.1 hnd)
    have H := H.pull5.drop
    refine (St.slruMk (by rw [f1, e1]) (by rw [f2, e2]) ?_ (mapIs_uncons hm' hn2.1) H).conv fun _ hs => .inr ⟨hk, rfl, hs⟩
    have : (tr1 ++ sf1).map (·.1) = tk.erase k ++ sk.erase k := by rw [List.map_append, f1, f2, e1, e2]
    rw [← this]; exact hn2.2

/-- What a hit does. -/
def hitM (most : Int) (tk sk : List ByteArray) (k : ByteArray) : List ByteArray × List ByteArray :=
  let t := tk.erase k
  let s := sk.erase k ++ [k]
  if (s.length : Int) > max most 0 then (t ++ s.take 1, s.drop 1) else (t, s)

theorem slru_hit (p : Nat) (most : Int) (tk sk : List ByteArray) (k : ByteArray) (hl : tk.length + sk.length < 2 ^ 59) : Sp P f_slru_List_Hit #[.pointer (some (Addr.mk p 0 none)), .string k] (Slru p most tk sk)
    (fun v h => (k ∉ tk ++ sk ∧ v = .int .i64 6 ∧ Slru p most tk sk h) ∨ (k ∈ tk ++ sk ∧ v = .int .i64 0 ∧ Slru p most (hitM most tk sk k).1 (hitM most tk sk k).2 h)) := sp_of fun w h H => by
  have HS := H
  apply cl_slru_List_Hit
  unfold c_slru_List_Hit
  obtain ⟨r, es, mc, tr, sf, e1, e2, hd, hm, H⟩ := H.slruOpen
  have hkeys : (tr ++ sf).map (·.1) = tk ++ sk := by rw [List.map_append, e1, e2]
  refine ⟨_, rfl, some r, by rw [add_mk, H.cell m0]; rfl, ?_⟩
  rw [onSome_some]
  have hg := get_key hm k
  refine ⟨es, mc, H.mapAt m1, hm.keys, (look (tr ++ sf) k).bind ad, by rw [hg]; cases look (tr ++ sf) k <;> rfl, ?_⟩
  cases hq : look (tr ++ sf) k with
  | none =>
    have hk : k ∉ tk ++ sk := by rw [← hkeys]; exact look_none.1 hq
    exact HS.conv fun _ hs => .inl ⟨hk, rfl, hs⟩
  | some b =>
    have hk : k ∈ tk ++ sk := by
      rw [← hkeys]
      exact Classical.byContradiction fun hc => by rw [look_none.2 hc] at hq; cases hq
    refine (slru_pullAny (by rw [hkeys]; exact hd) hq (by rw [sum_len e1 e2]; omega) H).mono ?_
    rintro v w8 ⟨rfl, tr1, sf1, v1, v2, v3, f1, f2, hp, H⟩
    have hlen := hp.length_eq
    rw [sum_len e1 e2] at hlen
    simp only [List.length_cons, List.length_append] at hlen
    have hnd : ((k, b) :: (tr1 ++ sf1)).map (·.1) |>.Nodup := (hp.map (·.1)).nodup_iff.1 (by rw [hkeys]; exact hd)
    have hm2 := mapIs_perm hm (by rw [hkeys]; exact hd) hp
    refine ⟨rfl, _, rfl, ?_⟩
    rw [add_mk]
    -- [list, map, T, S, node] to [list, S, node, map, T]
    refine slru_push (x := (k, b)) H.pull5.pull5.pull3 rowS (by omega) fun w11 H => ⟨rfl, fun w12 e12 => ?_⟩
    have H : St h w w12 [cl p T_slru_List (listCells most r tr1 (sf1 ++ [(k, b)])), SepL (Nodes (Addr.mk p 5 none) none (sf1 ++ [(k, b)]) none), mp r es mc, SepL (Nodes (Addr.mk p 2 none) none tr1 none)] := H.drew e12
    have es1 : (sf1 ++ [(k, b)]).map (·.1) = sk.erase k ++ [k] := by rw [List.map_append, f2, e2]; rfl
    have et1 : tr1.map (·.1) = tk.erase k := by rw [f1, e1]
    have hsl : ((sk.erase k ++ [k]).length : Int) = (sf1 ++ [(k, b)]).length := by rw [← es1]; simp
    have hmx : (if (0 : Int) > most then 0 else most) = max most 0 := by split <;> omega
    have hp1 : ((k, b) :: (tr1 ++ sf1)).Perm (tr1 ++ (sf1 ++ [(k, b)])) := by
      rw [← List.append_assoc]
      exact (List.perm_append_comm (l₁ := [(k, b)]))
    refine ⟨_, rfl, (sf1 ++ [(k, b)]).length, by rw [add_mk, add_mk, H.cell m0]; rfl, _, rfl, most, by rw [add_mk, H.cell m0]; rfl, br (fun hc => ?_) fun hc => ?_⟩
    · simp only [decide_eq_true_eq, hmx] at hc
      have hM : hitM most tk sk k = (tk.erase k ++ (sk.erase k ++ [k]).take 1, (sk.erase k ++ [k]).drop 1) := by
        unfold hitM
        simp only [hsl]
        rw [if_pos hc]
      obtain ⟨y, q, hy⟩ : ∃ y q, sf1 ++ [(k, b)] = y :: q := by
        cases sf1 with
        | nil => exact ⟨_, _, rfl⟩
        | cons z l => exact ⟨z, l ++ [(k, b)], rfl⟩
      rw [hy] at H es1 hp1
      refine ⟨_, rfl, ad y.2, by rw [add_mk, add_mk, H.cell m0]; rfl, ?_⟩
      have hql : (y :: q).length = sf1.length + 1 := by rw [← hy]; simp
      refine slru_pull (x := y) (l := []) (r := q) H rowS (by simp only [List.nil_append]; omega) fun w20 v1 v2 v3 H => ⟨rfl, _, rfl, ?_⟩
      rw [add_mk]
      have H : St h w w20 [cl p T_slru_List (listCells most r tr1 q), SepL (Nodes (Addr.mk p 5 none) none q none), cl y.2 T_slru_node [.string y.1, v1, v2, v3], mp r es mc, SepL (Nodes (Addr.mk p 2 none) none tr1 none)] := H
      -- to [list, T, node, map, S]
      refine slru_push (x := y) H.pull5.swap.pull3.push5 rowT (by omega) fun w23 H => ⟨rfl, ?_⟩
      have H : St h w w23 [cl p T_slru_List (listCells most r (tr1 ++ [y]) q), SepL (Nodes (Addr.mk p 2 none) none (tr1 ++ [y]) none), mp r es mc, SepL (Nodes (Addr.mk p 5 none) none q none)] := H
      have hp2 : ((k, b) :: (tr1 ++ sf1)).Perm ((tr1 ++ [y]) ++ q) := by rw [List.append_assoc]; exact hp1
      refine (St.slruMk (tk := (hitM most tk sk k).1) (sk := (hitM most tk sk k).2) (by rw [hM, ← es1, ← et1]; simp) (by rw [hM, ← es1]; simp) ?_ (mapIs_perm hm2 hnd hp2) H.pull3.swap).conv fun _ hs => .inr ⟨hk, rfl, hs⟩
      have := (hp2.map (·.1)).nodup_iff.1 hnd
      rw [hM, ← es1, ← et1]
      simpa using this
    · simp only [decide_eq_false_iff_not, hmx] at hc
      have hM : hitM most tk sk k = (tk.erase k, sk.erase k ++ [k]) := by
        unfold hitM
        simp only [hsl]
        rw [if_neg hc]
      refine (St.slruMk (tk := (hitM most tk sk k).1) (sk := (hitM most tk sk k).2) (by rw [hM, ← et1]) (by rw [hM, ← es1]) ?_ (mapIs_perm hm2 hnd hp1) H.swap.push4).conv fun _ hs => .inr ⟨hk, rfl, hs⟩
      have := (hp1.map (·.1)).nodup_iff.1 hnd
      rw [hM, ← es1, ← et1]
      simpa using this
end
end Go.Bty
