/-
  A contract that was proved by hand, said of trees.
-/
import Derived.Test.YtnodhjlpoaahbaaVjCtx
namespace Go.Proofs.Ytnodhjlpoaahbaa
open Go.RowKit
section
variable {w : World} {E : Prot} {m : Option Phi} {v : Value}
/-- Nothing of the run's own: no map. -/
theorem V.unmap {φ : Phi} (hφ : ∀ id, φ id = none) {x : VV} (h : V w E (some φ) x v) : V w E none x v := by
  generalize hm : some φ = m0 at h
  induction h with
  | dead => exact .dead
  | sc => exact .sc
  | nl => exact .nl
  | nil h => exact .nil h
  | sl u h1 h2 h3 h4 h5 h6 h7 _ => exact .sl u h1 h2 h3 h4 h5 h6 h7
  | tp u h1 h2 h3 h4 _ => exact .tp u h1 h2 h3 h4
  | bp h => obtain rfl := Option.some.inj hm; rw [hφ] at h; cases h
  | ow h => obtain rfl := Option.some.inj hm; rw [hφ] at h; cases h
  | ep h => obtain rfl := Option.some.inj hm; rw [hφ] at h; cases h
  | agg h1 h2 ih => exact .agg h1 fun j x hx => ih j x hx hm
  | tup h1 h2 ih => exact .tup h1 fun j x hx => ih j x hx hm
  | fn h1 h2 ih => exact .fn h1 fun j x hx => ih j x hx hm
/-- The values that say a list of trees. -/
theorem Says.cons_inv {x : VV} {xs : List VV} {vs : Array Value} (h : Says w E m (x :: xs) vs) : ∃ u us, vs = #[u] ++ us ∧ V w E m x u ∧ Says w E m xs us := by
  obtain ⟨l⟩ := vs
  match l, h with
  | [], h => have := h.1; simp at this
  | u :: l, h =>
    refine ⟨u, l.toArray, by simp, h.2 0 x rfl, by have := h.1; simpa using this, fun j y hy => ?_⟩
    have := h.2 (j + 1) y hy
    simpa [Array.getD_eq_getD_getElem?] using this
theorem Says.nil_inv {vs : Array Value} (h : Says w E m [] vs) : vs = #[] := by
  have := h.1; exact Array.eq_empty_of_size_eq_zero (by simpa using this)
theorem V.agg2_inv {x y : VV} (h : V w E m (.agg [x, y]) v) : ∃ a b, v = .agg #[a, b] ∧ V w E m x a ∧ V w E m y b := by
  obtain ⟨vs, rfl, h1, h2⟩ := h.agg_inv
  obtain ⟨l⟩ := vs
  match l, h1, h2 with
  | [a, b], _, h2 => exact ⟨a, b, rfl, h2 0 x rfl, h2 1 y rfl⟩
theorem v_agg2 {x y : VV} {a b : Value} (h1 : V w E m x a) (h2 : V w E m y b) : V w E m (.agg [x, y]) (.agg #[a, b]) := by
  refine .agg rfl fun j z hz => ?_
  match j, hz with
  | 0, hz => simp only [List.getElem?_cons_zero, Option.some.injEq] at hz; subst hz; exact h1
  | 1, hz => simp only [List.getElem?_cons_succ, List.getElem?_cons_zero, Option.some.injEq] at hz; subst hz; exact h2
  | j + 2, hz => simp at hz
theorem v_tup2 {x y : VV} {a b : Value} (h1 : V w E m x a) (h2 : V w E m y b) : V w E m (.tup [x, y]) (.tuple #[a, b]) := by
  refine .tup rfl fun j z hz => ?_
  match j, hz with
  | 0, hz => simp only [List.getElem?_cons_zero, Option.some.injEq] at hz; subst hz; exact h1
  | 1, hz => simp only [List.getElem?_cons_succ, List.getElem?_cons_zero, Option.some.injEq] at hz; subst hz; exact h2
  | j + 2, hz => simp at hz
theorem v_tup3 {x y z : VV} {a b c : Value} (h1 : V w E m x a) (h2 : V w E m y b) (h3 : V w E m z c) : V w E m (.tup [x, y, z]) (.tuple #[a, b, c]) := by
  refine .tup rfl fun j z hz => ?_
  match j, hz with
  | 0, hz => simp only [List.getElem?_cons_zero, Option.some.injEq] at hz; subst hz; exact h1
  | 1, hz => simp only [List.getElem?_cons_succ, List.getElem?_cons_zero, Option.some.injEq] at hz; subst hz; exact h2
  | 2, hz => simp only [List.getElem?_cons_succ, List.getElem?_cons_zero, Option.some.injEq] at hz; subst hz; exact h3
  | j + 3, hz => simp at hz
end
theorem VSpec.hand {P : Program} {f : FuncId} {xs : List VV} {r : VV} (hc : Callable P f)
    (h : ∀ (w : World) (E : Prot) (vs : Array Value), (∀ k, E.fz k → k < w.heap.size) → (∀ k, E.br k → E.fz k) → Says w E none xs vs → Calls P f vs w fun e w' => ∃ v, e = .returned v ∧ V w' E none r v ∧ Below w.heap.size w w') : VSpec P f [] xs [] r := by
  refine ⟨hc, fun w E φ vs hz hH hφ hs => ?_⟩
  have hnone : ∀ id, φ id = none := fun id => Classical.byContradiction fun hn => by have := (hφ id).1 hn; simp at this
  refine (h w (E.up φ) vs ?_ ?_ ⟨hs.1, fun j x hx => (hs.2 j x hx).unmap hnone⟩).mono ?_
  · rintro k (hk | hk)
    · exact hz k hk
    · exact hH.lt hk
  · exact fun k hk => hk.imp (hH.sub k) fun h => h
  · rintro e w' ⟨v, rfl, hV, hB⟩
    exact ⟨v, φ, rfl, hH.below hB, Fr.of_ext (Ext.of_below hB), hφ, hV.held⟩
/-- A contract, used at the start of all: nothing is guarded. -/
theorem VSpec.start {P : Program} {f : FuncId} {xs : List VV} {r : VV} (h : VSpec P f [] xs [] r) {w : World} {vs : Array Value} (hs : Says w ⟨fun _ => False, fun _ => False⟩ none xs vs) :
    Calls P f vs w fun e w' => ∃ v, e = .returned v ∧ Below w.heap.size w w' ∧ V w' ⟨fun _ => False, fun _ => False⟩ none r v := by
  have hno : ∀ k, ¬ Own (fun _ => none : Phi) k := by
    rintro k ⟨id, hb⟩
    obtain ⟨p, hp, _⟩ := blk_iff.1 hb
    cases hp
  refine (h.call w ⟨fun _ => False, fun _ => False⟩ (fun _ => none) vs (fun _ h => h.elim) ⟨fun _ h => h, fun id p e => (by cases e), fun i j k hb => (hno k ⟨i, hb⟩).elim, fun k hk => (hno k hk).elim⟩ (fun id => by simp) ⟨hs.1, fun j x hx => ?_⟩).mono ?_
  · exact ((hs.2 j x hx).held).less (fun k hk => hk.elim (fun h => h) (hno k)) fun k hk => hk.elim (fun h => h) (hno k)
  · rintro e w' ⟨v, φ', rfl, _, h2, h3, h4⟩
    have hnone : ∀ id, φ' id = none := fun id => Classical.byContradiction fun hn => by have := (h3 id).1 hn; simp at this
    refine ⟨v, rfl, ⟨h2.os, h2.tape, h2.output, h2.size, fun k hk => h2.block k hk (hno k)⟩, (h4.unmap hnone).less (fun _ h => h.elim) fun _ h => h.elim⟩
end Go.Proofs.Ytnodhjlpoaahbaa
