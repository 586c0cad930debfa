/- The shard: an item is stored. -/
import Derived.Test.YtbjkbonnmeppoaaBtySd
namespace Go.Bty
open Go
open Go.Proofs.Try renaming prog → P

theorem delI_get_none {l : List It} {k v : ByteArray} (h : getI l k = none) : getI (delI l v) k = none := by
  unfold getI delI at *
  rw [List.find?_eq_none] at *
  intro x hx
  exact h x (List.mem_filter.1 hx).1
theorem drop_get_none {m : SM} {k v : ByteArray} (h : m.get k = none) : (m.drop v).get k = none := by
  have e : (m.drop v).items = delI m.items v := m.rem_items v
  unfold SM.get at *
  rw [e]
  exact delI_get_none h
theorem drop_get_self {m : SM} {v : ByteArray} : (m.drop v).get v = none := by
  have e : (m.drop v).items = delI m.items v := m.rem_items v
  unfold SM.get
  rw [e]
  unfold getI delI
  rw [List.find?_eq_none]
  intro x hx
  have := (List.mem_filter.1 hx).2
  simpa using this
theorem room_get_none {it : It} {o : Option It} {e : Ev} {k : ByteArray} : ∀ (n : Nat) {m : SM}, m.get k = none → (SM.room n m it o e).1.get k = none
  | 0, m, h => h
  | n + 1, m, h => by
    unfold SM.room
    split
    · exact h
    · split
      · exact h
      · split
        · exact room_get_none n (drop_get_none h)
        · split
          · exact room_get_none n (drop_get_none h)
          · exact h
theorem SOk.drop {m : SM} (h : SOk m) (k : ByteArray) : SOk (m.drop k) := by
  have := h.rem k
  exact ⟨this.dist, this.keys, this.cls⟩
theorem SOk.room {it : It} {o : Option It} {e : Ev} : ∀ (n : Nat) {m : SM}, SOk m → SOk (SM.room n m it o e).1
  | 0, m, h => h
  | n + 1, m, h => by
    unfold SM.room
    split
    · exact h
    · split
      · exact h
      · split
        · exact SOk.room n (h.drop _)
        · split
          · exact SOk.room n (h.drop _)
          · exact h
theorem room_fits {it : It} {o : Option It} {e : Ev} : ∀ (n : Nat) {m : SM}, SOk m → m.items.length < n → (SM.room n m it o e).2 = 0 →
    (SM.room n m it o e).1.fits (sizeM it) (lessM o) = true
  | 0, m, _, h, _ => by omega
  | n + 1, m, hok, h, hz => by
    unfold SM.room at hz ⊢
    split
    · assumption
    · rename_i hf
      rw [if_neg hf] at hz
      split
      · rename_i hv
        rw [hv] at hz
        simp at hz
      · rename_i v hv
        simp only [hv] at hz
        have hg : (m.get v).isSome = true := hok.get_mem.2 (victim_some hv).1
        have hl := drop_len hg
        split
        · rename_i hc
          rw [if_pos hc] at hz
          exact room_fits n (hok.drop v) (by omega) hz
        · rename_i hc
          rw [if_neg hc] at hz
          split
          · rename_i hw
            rw [if_pos hw] at hz
            exact room_fits n (hok.drop v) (by omega) hz
          · rename_i hw
            rw [if_neg hw] at hz
            simp at hz
theorem room_len {it : It} {o : Option It} {e : Ev} : ∀ (n : Nat) {m : SM}, SOk m → (SM.room n m it o e).1.items.length ≤ m.items.length
  | 0, m, _ => Nat.le_refl _
  | n + 1, m, hok => by
    unfold SM.room
    split
    · exact Nat.le_refl _
    · split
      · exact Nat.le_refl _
      · rename_i v hv
        have hl := drop_len (hok.get_mem.2 (victim_some hv).1)
        split
        · exact Nat.le_trans (room_len n (hok.drop v)) (by omega)
        · split
          · exact Nat.le_trans (room_len n (hok.drop v)) (by omega)
          · exact Nat.le_refl _

theorem find_key {m m' : SM} {k : ByteArray} {e : Ev} {it : It} (h : m.find k e = (m', some it)) : m' = m ∧ m.get k = some it ∧ it.key = k ∧ liveM it e = true := by
  unfold SM.find at h
  split at h
  · cases h
  · rename_i x hx
    split at h
    · cases h
      exact ⟨rfl, hx, (getI_mem hx).2, by assumption⟩
    · cases h
theorem find_none {m : SM} {k : ByteArray} {e : Ev} (h : (m.find k e).2 = none) : (m.find k e).1.get k = none := by
  unfold SM.find at *
  split
  · assumption
  · rename_i x hx
    rw [hx] at h
    simp only at h
    split
    · rename_i hl; rw [if_pos hl] at h; cases h
    · exact drop_get_self

section
variable {h0 : Frag} {w0 w w' : World} {As : List HP} {p N : Nat} {o : Option (It × Nat)} {m : SM}
theorem St.shUp {M : Nat} (H : St h0 w0 w (Shard p N o m :: As)) (h : N ≤ M) : St h0 w0 w (Shard p M o m :: As) := by
  obtain ⟨q, es, inn, N1, N2, seed, hi, H⟩ := H.shOpen
  exact St.shMk ⟨hi.items, hi.ok, hi.chunks, hi.cls, Nat.le_trans hi.n1 h, Nat.le_trans hi.n2 h, Nat.le_trans hi.nd h, hi.old⟩ H

theorem setI_split {l r : List It} {x it : It} (hd : ((l ++ x :: r).map (·.key)).Nodup) (hk : x.key = it.key) : setI (l ++ x :: r) it = l ++ it :: r := by
  rw [List.map_append, List.map_cons, List.nodup_append] at hd
  obtain ⟨_, h2, h3⟩ := hd
  rw [List.nodup_cons] at h2
  unfold setI
  rw [List.map_append, List.map_cons, if_pos hk]
  congr 1
  · conv => rhs; rw [← List.map_id l]
    apply List.map_congr_left
    intro y hy
    rw [if_neg]
    · rfl
    · intro e
      exact h3 _ (List.mem_map.2 ⟨y, hy, rfl⟩) _ (List.mem_cons_self ..) (e.trans hk.symm)
  · congr 1
    conv => rhs; rw [← List.map_id r]
    apply List.map_congr_left
    intro y hy
    rw [if_neg]
    · rfl
    · intro e
      exact h2.1 (List.mem_map.2 ⟨y, hy, e.trans hk.symm⟩)

/-- An entry gets another item, with another chunk: the shard's side of it. -/
theorem SInv.swap {l r : List En} {y : En} {inn inn' : List (Int × Int)} {N1 N2 N2' : Nat} {it : It} {s : Sl} {c : Int × Int} (hi : SInv N o m (l ++ y :: r) inn N1 N2) (hk : y.it.key = it.key) (hc : c.1 = clsM it) (hc6 : clsM it < 6) (hin : inn'.Perm (c :: (l ++ r).map (·.c))) (hN : N2' ≤ N2 + 2) :
    SInv (N + 2) none { m with items := setI m.items it } (l ++ ⟨it, y.b, s, c⟩ :: r) inn' N1 N2' := by
  have hd := hi.ok.dist
  have hitems : m.items = l.map (·.it) ++ y.it :: r.map (·.it) := by rw [← hi.items]; simp
  have hset : setI m.items it = l.map (·.it) ++ it :: r.map (·.it) := by
    rw [hitems] at hd ⊢
    exact setI_split hd hk
  have hkeys : (setI m.items it).map (·.key) = m.items.map (·.key) := by rw [hset, hitems]; simp [hk]
  have n1 := hi.n1
  have n2 := hi.n2
  have nd := hi.nd
  have hlen : (setI m.items it).length = m.items.length := by simp [setI]
  refine ⟨by simp only [hset]; simp, ⟨by simp only; rw [hkeys]; exact hd, by simp only; rw [hkeys]; exact hi.ok.keys, fun x hx => ?_⟩, ?_, fun x hx => ?_, by omega, by simp only [hlen]; omega, by simp only [hlen]; omega, fun y hy => by cases hy⟩
  · simp only at hx
    rw [hset] at hx
    rcases List.mem_append.1 hx with hx | hx
    · exact hi.ok.cls x (by rw [hitems]; exact List.mem_append.2 (.inl hx))
    · rcases List.mem_cons.1 hx with rfl | hx
      · exact hc6
      · exact hi.ok.cls x (by rw [hitems]; exact List.mem_append.2 (.inr (List.mem_cons_of_mem _ hx)))
  · refine hin.trans ?_
    rw [List.map_append, List.map_append, List.map_cons]
    exact List.perm_middle.symm
  · rcases List.mem_append.1 hx with hx | hx
    · exact hi.cls x (List.mem_append.2 (.inl hx))
    · rcases List.mem_cons.1 hx with rfl | hx
      · exact hc
      · exact hi.cls x (List.mem_append.2 (.inr (List.mem_cons_of_mem _ hx)))
end
end Go.Bty
