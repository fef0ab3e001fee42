/-
  Layer 11 in plain terms: what follows of what was looked at; how much is still to be looked at.
-/
import Derived.Test.YtdjjlkekbphbaaaDoorGoodP
namespace Go.Proofs.YtdjjlkekbphbaaaDoor
open Go.RowKit

theorem inP_iff {a x : Int} : inP a x = true ↔ 0 ≤ x ∧ x < a := by simp [inP]
theorem getD_in {α : Type} {l : List α} {i : Nat} {d : α} (h : i < l.length) : l.getD i d ∈ l := by simp [List.getD, h]
theorem allL_iff {α : Type} {l : List α} {d : α} {f : α → Bool} : allI l.length (fun i => f (l.getD i d)) = true ↔ ∀ x ∈ l, f x = true := by
  rw [allI_iff]
  refine ⟨fun h x hx => ?_, fun h i hi => h _ (getD_in hi)⟩
  obtain ⟨i, hi, rfl⟩ := List.mem_iff_getElem.1 hx
  have := h i hi
  simpa [List.getD, hi] using this
theorem belowP_iff {a : Int} {l : List Int} : belowP a l = true ↔ ∀ x ∈ l, 0 ≤ x ∧ x < a := by
  unfold belowP
  rw [allL_iff (f := fun x => inP a x)]
  exact ⟨fun h x hx => inP_iff.1 (h x hx), fun h x hx => inP_iff.2 (h x hx)⟩
theorem parts_le (op : Int) : partsP op ≤ 3 := by unfold partsP; split <;> (try split) <;> (try split) <;> omega
theorem held_in {m : D.Model} {i : Int} (h : exprP m i = true) : ∀ p ∈ heldP (exAt m i), 0 ≤ p ∧ p < i := by
  unfold exprP at h
  simp only [Bool.and_eq_true] at h
  obtain ⟨⟨⟨_, _⟩, ⟨hA, hB⟩, hC⟩, hO⟩ := h
  generalize exAt m i = x at *
  intro p hp
  unfold heldP at hp
  simp only [List.mem_append] at hp
  rcases hp with hp | hp | hp
  · have h3 := parts_le x.Op
    unfold partP at hA hB hC
    rcases (show partsP x.Op = 0 ∨ partsP x.Op = 1 ∨ partsP x.Op = 2 ∨ partsP x.Op = 3 by omega) with e | e | e | e <;> rw [e] at hp hA hB hC <;> simp [inP] at hp hA hB hC
    · subst hp; omega
    · rcases hp with rfl | rfl <;> omega
    · rcases hp with rfl | rfl | rfl <;> omega
  · split at hp
    · rename_i h30
      rcases h30 with h30 | h39
      · rw [if_neg (by omega), if_neg (by omega), if_pos h30] at hO
        simp only [Bool.and_eq_true, matchedP] at hO
        exact belowP_iff.1 hO.1.1.2 p hp
      · rw [if_neg (by omega), if_neg (by omega), if_neg (by omega), if_neg (by omega), if_pos h39] at hO
        simp only [Bool.and_eq_true] at hO
        exact belowP_iff.1 hO.2 p hp
    · cases hp
  · split at hp
    · rename_i h2
      rw [if_neg (by omega), if_pos h2] at hO
      simp only [Bool.and_eq_true, variableP] at hO
      obtain ⟨⟨_, hW⟩, hD⟩ := hO
      simp only [List.mem_append] at hp
      rcases hp with hp | hp
      · split at hp
        · rename_i hs
          simp only [List.mem_singleton] at hp
          subst hp
          simp only [hs, decide_true, cond_true, Bool.and_eq_true] at hW
          exact inP_iff.1 hW.1
        · cases hp
      · obtain ⟨d, hd, rfl⟩ := List.mem_map.1 hp
        have := (allL_iff (f := fun d => dimP i d)).1 hD d hd
        simp only [dimP, Bool.and_eq_true] at this
        exact inP_iff.1 this.1.1.1.1
    · cases hp

/-! ### How much is still to be looked at -/
theorem load_sum {m : D.Model} {seen : List Bool} {k : Nat} (hk : seen.getD k false = false) (hs : k < seen.length) : ∀ (l : List Nat), l.Nodup →
    (l.map fun j => bif seen.getD j false then 0 else (heldP (m.Exprs.getD j default)).length).sum = (l.map fun j => bif (seen.set k true).getD j false then 0 else (heldP (m.Exprs.getD j default)).length).sum + (if k ∈ l then (heldP (m.Exprs.getD k default)).length else 0)
  | [], _ => rfl
  | j :: l, hn => by
    have ih := load_sum (m := m) hk hs l (List.nodup_cons.1 hn).2
    have hj := (List.nodup_cons.1 hn).1
    simp only [List.map_cons, List.sum_cons, ih]
    by_cases hjk : k = j
    · subst hjk
      have h1 : (seen.set k true).getD k false = true := by simp [List.getD, hs]
      rw [h1, hk, if_neg hj, if_pos (List.mem_cons_self ..)]
      simp only [cond_true, cond_false]; omega
    · have h1 : (seen.set k true).getD j false = seen.getD j false := by simp [List.getD, List.getElem?_set, hjk]
      have h2 : (k ∈ j :: l) = (k ∈ l) := by simp [hjk]
      rw [h1]
      simp only [h2]; omega
theorem load_set {m : D.Model} {seen : List Bool} {k : Nat} (hk : seen.getD k false = false) (hs : k < seen.length) (hm : seen.length = m.Exprs.length) : load m seen = load m (seen.set k true) + (heldP (m.Exprs.getD k default)).length := by
  unfold load
  rw [load_sum hk hs _ List.nodup_range, if_pos (List.mem_range.2 (by omega))]
theorem held_len {x : D.Expr} (h1 : x.Args.length ≤ 1048576) (h2 : x.V.Dims.length ≤ 1048576) : (heldP x).length ≤ 2097156 := by
  unfold heldP
  simp only [List.length_append, List.length_take, List.length_cons, List.length_nil]
  split <;> split <;> (try split) <;> simp <;> omega
theorem load_le {m : D.Model} (h : ∀ x ∈ m.Exprs, x.Args.length ≤ 1048576 ∧ x.V.Dims.length ≤ 1048576) (seen : List Bool) : load m seen ≤ m.Exprs.length * 2097156 := by
  unfold load
  have : ∀ (l : List Nat), (∀ j ∈ l, j < m.Exprs.length) → (l.map fun k => bif seen.getD k false then 0 else (heldP (m.Exprs.getD k default)).length).sum ≤ l.length * 2097156 := by
    intro l
    induction l with
    | nil => intro _; simp
    | cons j l ih =>
      intro hl
      have h1 := ih fun i hi => hl i (List.mem_cons_of_mem _ hi)
      have h2 := h _ (getD_in (d := default) (hl j (List.mem_cons_self ..)))
      have h3 := held_len h2.1 h2.2
      simp only [List.map_cons, List.sum_cons, List.length_cons]
      cases seen.getD j false <;> simp only [cond_true, cond_false] <;> omega
  have h1 := this (List.range m.Exprs.length) fun j hj => List.mem_range.1 hj
  simpa using h1
end Go.Proofs.YtdjjlkekbphbaaaDoor
