/-
  A region of operations: one operation more.
-/
import Derived.Test.YtnodhjlpoaahbaaViReg3
namespace Go.Proofs.Ytnodhjlpoaahbaa
open Go.RowKit
section
variable {P : Program} {T : TypeId → TE} {O : Nat → Orc} {ops : Array Oper} {st0 : St} {M : Array Nat} {N : Nat} {A : Nat → Prop} {B : Nat} {w0 : World} {φ0 : Phi}

theorem HRel.lt {H : Nat → List VV} {φ : Phi} {w : World} (h : HRel A B H φ w) {id b : Nat} (e : φ id = some b) : b < w.heap.size := by
  obtain ⟨_, c, ty, h2, _⟩ := h.box id b e
  rcases Nat.lt_or_ge b w.heap.size with h' | h'
  · exact h'
  · rw [Array.getElem?_eq_none h'] at h2; cases h2
/-- A box more. -/
theorem HRel.new {H H' : Nat → List VV} {φ : Phi} {w : World} (h : HRel A B H φ w) {id : Nat} {cs : List VV} {c : Array Value} {ty : TypeId} (hB : B ≤ w.heap.size) (hid : φ id = none) (hs : Says w (Mut A φ) (some φ) cs c)
    (hH : ∀ k, φ k ≠ none → H' k = H k) (hH' : H' id = cs) :
    HRel A B H' (fun k => if k = id then some w.heap.size else φ k) (w.alloc (.cells c ty)) ∧ Ext w φ (w.alloc (.cells c ty)) (fun k => if k = id then some w.heap.size else φ k) := by
  have hext : Ext w φ (w.alloc (.cells c ty)) (fun k => if k = id then some w.heap.size else φ k) := by
    refine ⟨rfl, rfl, rfl, by simp, fun k hk _ => Below.heap_alloc w _ k hk, fun k b e => ?_, fun k b e => ?_⟩
    · by_cases hk : k = id
      · subst hk; rw [hid] at e; cases e
      · simpa [hk] using e
    · by_cases hk : k = id
      · simp only [hk, if_true, Option.some.injEq] at e; exact .inr (by omega)
      · simp only [hk, if_false] at e; exact .inl e
  refine ⟨⟨fun k b e => ?_, fun i j b ei ej => ?_⟩, hext⟩
  · by_cases hk : k = id
    · subst hk
      simp only [if_true, Option.some.injEq] at e
      subst e
      exact ⟨hB, c, ty, heap_alloc_new _ _, by rw [hH']; exact hs.ext hext⟩
    · simp only [hk, if_false] at e
      obtain ⟨h1, c', ty', h2, h3⟩ := h.box k b e
      exact ⟨h1, c', ty', (Below.heap_alloc w _ b (h.lt e)).trans h2, by rw [hH k (by rw [e]; simp)]; exact h3.ext hext⟩
  · by_cases hi : i = id <;> by_cases hj : j = id
    · rw [hi, hj]
    · simp only [hi, if_true, Option.some.injEq] at ei
      simp only [hj, if_false] at ej
      have := h.lt ej; omega
    · simp only [hj, if_true, Option.some.injEq] at ej
      simp only [hi, if_false] at ei
      have := h.lt ei; omega
    · simp only [hi, if_false] at ei
      simp only [hj, if_false] at ej
      exact h.inj i j b ei ej
/-- A store into a box. -/
theorem HRel.store {H H' : Nat → List VV} {φ : Phi} {w : World} (h : HRel A B H φ w) {id b off : Nat} {cs : List VV} {c : Array Value} {ty : TypeId} {vs : List Value} (hb : φ id = some b) (hc : w.heap[b]? = some (.cells c ty (0, 0)))
    (hs : Says w (Mut A φ) (some φ) cs vs.toArray) (hfit : off + vs.length ≤ c.size) (hH : ∀ k, k ≠ id → φ k ≠ none → H' k = H k) (hH' : H' id = (H id).take off ++ cs ++ (H id).drop (off + cs.length)) :
    HRel A B H' φ (w.setRow b (c.toList.take off ++ vs ++ c.toList.drop (off + vs.length)).toArray) ∧ Ext w φ (w.setRow b (c.toList.take off ++ vs ++ c.toList.drop (off + vs.length)).toArray) φ := by
  generalize hnew : (c.toList.take off ++ vs ++ c.toList.drop (off + vs.length)).toArray = c'
  have hext : Ext w φ (w.setRow b c') φ := by
    refine ⟨rfl, rfl, rfl, by simp, fun k hk hn => setRow_other w b k c' (fun e => hn id (by rw [hb, e])), fun _ _ e => e, fun _ _ e => .inl e⟩
  refine ⟨⟨fun k b' e => ?_, h.inj⟩, hext⟩
  by_cases hk : k = id
  · subst hk
    rw [hb] at e
    simp only [Option.some.injEq] at e
    subst e
    obtain ⟨h1, c0, ty0, h2, h3⟩ := h.box k b hb
    rw [hc] at h2
    simp only [Option.some.injEq, Obj.cells.injEq, and_true] at h2
    obtain ⟨rfl, rfl⟩ := h2
    refine ⟨h1, c', ty, setRow_heap w b c c' ty (0, 0) hc, ?_⟩
    have hl : vs.length = cs.length := by simpa using hs.1
    have hcl := h3.1
    rw [hH']
    have key : Says w (Mut A φ) (some φ) ((H k).take off ++ cs ++ (H k).drop (off + cs.length)) c' := by
      rw [← hnew]
      refine ⟨by simp [hl, hcl], fun j x hx => ?_⟩
      have hget : ∀ (l : List Value), l.toArray.getD j undef = (l[j]?).getD undef := by intro l; simp [Array.getD_eq_getD_getElem?]
      rw [hget]
      have hold : ∀ (j : Nat) x, (H k)[j]? = some x → V w (Mut A φ) (some φ) x ((c.toList[j]?).getD undef) := by
        intro j x hx
        have := h3.2 j x hx
        simpa [Array.getD_eq_getD_getElem?] using this
      have hnewv : ∀ (j : Nat) x, cs[j]? = some x → V w (Mut A φ) (some φ) x ((vs[j]?).getD undef) := by
        intro j x hx
        have := hs.2 j x hx
        simpa [Array.getD_eq_getD_getElem?] using this
      have ho : off ≤ (H k).length := by omega
      by_cases h1 : j < off
      · rw [List.append_assoc, List.getElem?_append_left (by simp; omega), List.getElem?_take_of_lt h1] at hx
        rw [List.append_assoc, List.getElem?_append_left (by simp; omega), List.getElem?_take_of_lt h1]
        exact hold j x hx
      · by_cases h2 : j < off + cs.length
        · rw [List.append_assoc, List.getElem?_append_right (by simp; omega), List.getElem?_append_left (by simp; omega)] at hx
          rw [List.append_assoc, List.getElem?_append_right (by simp; omega), List.getElem?_append_left (by simp; omega)]
          have e1 : ((H k).take off).length = off := by simp; omega
          have e2 : (c.toList.take off).length = off := by simp; omega
          rw [e1] at hx
          rw [e2]
          exact hnewv _ x hx
        · rw [List.getElem?_append_right (by simp; omega), List.getElem?_drop] at hx
          rw [List.getElem?_append_right (by simp; omega), List.getElem?_drop]
          have e1 : ((H k).take off ++ cs).length = off + cs.length := by simp; omega
          have e2 : (c.toList.take off ++ vs).length = off + cs.length := by simp; omega
          rw [e1] at hx
          rw [e2, hl]
          exact hold _ x hx
    exact key.ext hext
  · obtain ⟨h1, c1, ty1, h2, h3⟩ := h.box k b' e
    have hne : b' ≠ b := fun e' => hk (h.inj k id b' e (by rw [hb, e']))
    exact ⟨h1, c1, ty1, (setRow_other w b b' c' hne).trans h2, by rw [hH k hk (by rw [e]; simp)]; exact h3.ext hext⟩
end
end Go.Proofs.Ytnodhjlpoaahbaa
