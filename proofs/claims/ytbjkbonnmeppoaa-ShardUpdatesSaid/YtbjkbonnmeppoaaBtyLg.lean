/- ShardBudget: what items take is never more than the budget. -/
import Derived.Test.YtbjkbonnmeppoaaPkL
namespace Go.Bty
open Go
open Go.Proofs.Try renaming prog → P

theorem drop_used {m : SM} (hok : SOk m) (k : ByteArray) : (m.drop k).used ≤ m.used := by
  have e : (m.drop k).items = delI m.items k := m.rem_items k
  unfold SM.used
  rw [e]
  cases hg : getI m.items k with
  | none =>
    have : (m.rem k).items = m.items := by
      unfold SM.rem SM.get
      rw [hg]
    rw [m.rem_items] at this
    rw [this]; exact Int.le_refl _
  | some x =>
    rw [usedL_del hok.dist hg]
    have := bytesN_range (clsM x)
    omega
theorem drop_budget {m : SM} (k : ByteArray) : (m.drop k).budget = m.budget := m.rem_budget k
theorem drop_drops {m : SM} (k : ByteArray) : (m.drop k).drops = m.drops ++ [k] := rfl
theorem room_keeps {it : It} {o : Option It} {e : Ev} : ∀ (n : Nat) {m : SM}, SOk m → (SM.room n m it o e).1.used ≤ m.used ∧ (SM.room n m it o e).1.budget = m.budget ∧ (SM.room n m it o e).1.drops.count it.key = m.drops.count it.key
  | 0, m, _ => ⟨Int.le_refl _, rfl, rfl⟩
  | n + 1, m, hok => by
    have step : ∀ v, v ≠ it.key → (SM.room n (m.drop v) it o e).1.used ≤ m.used ∧ (SM.room n (m.drop v) it o e).1.budget = m.budget ∧ (SM.room n (m.drop v) it o e).1.drops.count it.key = m.drops.count it.key := fun v hv => by
      obtain ⟨h1, h2, h3⟩ := room_keeps n (m := m.drop v) (hok.drop v)
      refine ⟨Int.le_trans h1 (drop_used hok v), by rw [h2, drop_budget], ?_⟩
      rw [h3, drop_drops, List.count_append, List.count_singleton]
      simp [hv]
    unfold SM.room
    split
    · exact ⟨Int.le_refl _, rfl, rfl⟩
    · split
      · exact ⟨Int.le_refl _, rfl, rfl⟩
      · rename_i v hv
        have hne := (victim_some hv).2
        split
        · exact step v hne
        · split
          · exact step v hne
          · exact ⟨Int.le_refl _, rfl, rfl⟩
theorem getI_delI {v k : ByteArray} (h : v ≠ k) : ∀ {l : List It}, getI (delI l v) k = getI l k
  | [] => rfl
  | a :: l => by
    have ih := getI_delI h (l := l)
    unfold getI delI at *
    by_cases ha : a.key = v
    · rw [List.filter_cons_of_neg (by simp [ha]), List.find?_cons]
      have : ¬ a.key = k := fun e => h (ha.symm.trans e)
      simp only [decide_eq_false this]
      exact ih
    · rw [List.filter_cons_of_pos (by simpa using ha), List.find?_cons, List.find?_cons, ih]
theorem room_get_some {it x : It} {e : Ev} : ∀ (n : Nat) {m : SM}, m.get it.key = some x → (SM.room n m it (some x) e).1.get it.key = some x
  | 0, m, h => h
  | n + 1, m, h => by
    have step : ∀ v, v ≠ it.key → (m.drop v).get it.key = some x := fun v hv => by
      have e : (m.drop v).items = delI m.items v := m.rem_items v
      unfold SM.get at *
      rw [e, getI_delI hv]; exact h
    unfold SM.room
    split
    · exact h
    · split
      · exact h
      · rename_i v hv
        have hne := (victim_some hv).2
        split
        · exact room_get_some n (step v hne)
        · split
          · exact room_get_some n (step v hne)
          · exact h

/-- What a store leaves. -/
theorem store_pure {m : SM} {it : It} {e : Ev} (hok : SOk m) (hu : m.used ≤ m.budget) (hd : m.drops = []) :
    (m.store it e).1.used ≤ m.budget ∧ (m.store it e).1.budget = m.budget ∧ (m.store it e).1.drops.count it.key ≤ 1 ∧ ((m.store it e).2 = 0 → it ∈ (m.store it e).1.items) := by
  unfold SM.store
  split
  · exact ⟨hu, rfl, by rw [hd]; simp, fun h => by simp at h⟩
  · rename_i hc
    have hc6 : clsM it < 6 := by have := classN_le_six (sizeM it); unfold clsM at *; omega
    have hf : (m.find it.key e).1.used ≤ m.used ∧ (m.find it.key e).1.budget = m.budget ∧ (m.find it.key e).1.drops.count it.key ≤ 1 ∧ SOk (m.find it.key e).1 := by
      unfold SM.find
      split
      · exact ⟨Int.le_refl _, rfl, by rw [hd]; simp, hok⟩
      · split
        · exact ⟨Int.le_refl _, rfl, by rw [hd]; simp, hok⟩
        · refine ⟨drop_used hok _, drop_budget _, ?_, hok.drop _⟩
          rw [drop_drops, hd]; simp
    obtain ⟨f1, f2, f3, f4⟩ := hf
    simp only
    obtain ⟨r1, r2, r3⟩ := room_keeps (it := it) (o := (m.find it.key e).2) (e := e) ((m.find it.key e).1.items.length + 1) f4
    have hfit := room_fits (it := it) (o := (m.find it.key e).2) (e := e) ((m.find it.key e).1.items.length + 1) f4 (Nat.lt_succ_self _)
    have hok2 := SOk.room (it := it) (o := (m.find it.key e).2) (e := e) ((m.find it.key e).1.items.length + 1) f4
    have hgs : ∀ x, (m.find it.key e).2 = some x → (SM.room ((m.find it.key e).1.items.length + 1) (m.find it.key e).1 it (m.find it.key e).2 e).1.get it.key = some x := fun x hx => by
      obtain ⟨h1, h2, _⟩ := find_key (m' := (m.find it.key e).1) (it := x) (e := e) (k := it.key) (m := m) (by rw [← hx])
      rw [hx]
      refine room_get_some _ ?_
      rw [h1]; exact h2
    generalize hr : SM.room ((m.find it.key e).1.items.length + 1) (m.find it.key e).1 it (m.find it.key e).2 e = r at *
    split
    · rename_i hz
      exact ⟨by omega, by rw [r2, f2], by rw [r3]; exact f3, fun h => absurd h hz⟩
    · rename_i hz
      have hz0 : r.2 = 0 := by simpa using hz
      obtain ⟨_, _, hl, hb⟩ := SM.fits_iff.1 (hfit hz0)
      split
      · rename_i x hx
        have hg := hgs x hx
        rw [hx] at hb hl
        obtain ⟨hxm, hxk⟩ := getI_mem hg
        obtain ⟨a, b, hab⟩ := List.append_of_mem hxm
        have hset : setI r.1.items it = a ++ it :: b := by
          have hd2 := hok2.dist
          rw [hab] at hd2 ⊢
          exact setI_split hd2 hxk
        refine ⟨?_, by show r.1.budget = _; rw [r2, f2], by show r.1.drops.count it.key ≤ 1; rw [r3]; exact f3, fun _ => ?_⟩
        · show usedL (setI r.1.items it) ≤ m.budget
          have e1 : r.1.used = usedL a + (bytesZ (clsM x) + usedL b) := by
            show usedL r.1.items = _
            rw [hab, usedL_append]; rfl
          have e2 : usedL (setI r.1.items it) = usedL a + (bytesZ (clsM it) + usedL b) := by rw [hset, usedL_append]; rfl
          rw [e2]
          simp only [lessM] at hb
          have e3 : bytesZ (classN (sizeM it)) = bytesZ (clsM it) := rfl
          rw [e3] at hb
          omega
        · show it ∈ setI r.1.items it
          rw [hset]; simp
      · rename_i hx
        rw [hx] at hb hl
        refine ⟨?_, by show r.1.budget = _; rw [r2, f2], by show r.1.drops.count it.key ≤ 1; rw [r3]; exact f3, fun _ => ?_⟩
        · show usedL (r.1.items ++ [it]) ≤ m.budget
          have e1 : usedL (r.1.items ++ [it]) = r.1.used + bytesZ (clsM it) := by
            rw [usedL_append]
            show _ + (bytesZ (clsM it) + 0) = _
            rw [Int.add_zero]; rfl
          rw [e1]
          simp only [lessM] at hb
          have e3 : bytesZ (classN (sizeM it)) = bytesZ (clsM it) := rfl
          rw [e3] at hb
          omega
        · show it ∈ r.1.items ++ [it]
          simp
end Go.Bty
