/-
  A scope that is left to a label ahead: what stands behind the label is walked from there.
-/
import Derived.WalkKit
namespace Go.Proofs.YthmhbmikcdfkcaaDoor
open Go.RowKit
section
variable {P : Program} {a : Act} {w : World} {Q : Exit → Act → World → Prop}

/-- One jump to the label l, onward; behind the label no further one. -/
theorem wp_scope_one {c rest : Code} (l : Nat) (hf : findLabel c l = some rest)
    (h : ∀ J : Act → World → Prop, (∀ a w, rest.wp P (Exit.noGoto Q) a w → J a w) → c.wp P (Exit.jump l J Q) a w) : (Code.scope c).wp P Q a w := by
  refine wp_scope_jumps l (fun a w => rest.wp P (Exit.noGoto Q) a w) (fun _ _ => 0) hf (h _ fun _ _ h => h) ?_
  intro a w hr b k cs
  obtain ⟨e, a1, w1, hq, harr⟩ := hr b k cs
  refine ⟨e, a1, w1, ?_, harr⟩
  cases e with
  | goto l => exact hq.elim
  | normal => exact hq
  | exit _ => exact hq
  | ret => exact hq
  | panic _ => exact hq
  | outgrown => exact hq

theorem jump_mono {l : Nat} {J J' : Act → World → Prop} (h : ∀ a w, J a w → J' a w) {e : Exit} {a : Act} {w : World} (hj : Exit.jump l J Q e a w) : Exit.jump l J' Q e a w := by
  cases e with
  | goto l => exact ⟨hj.1, h _ _ hj.2⟩
  | normal => exact hj
  | exit _ => exact hj
  | ret => exact hj
  | panic _ => exact hj
  | outgrown => exact hj

theorem wp_mono {c : Code} {Q' : Exit → Act → World → Prop} (h : ∀ e a w, Q e a w → Q' e a w) (hc : c.wp P Q a w) : c.wp P Q' a w := by
  intro b k cs
  obtain ⟨e, a1, w1, hq, harr⟩ := hc b k cs
  exact ⟨e, a1, w1, h _ _ _ hq, harr⟩

theorem least_of {p : Nat → Prop} (h : ∃ g, p g) : ∃ g, p g ∧ ∀ g', p g' → g ≤ g' := by
  obtain ⟨g, hg⟩ := h
  induction g using Nat.strongRecOn with
  | _ g ih =>
    by_cases hx : ∃ g', g' < g ∧ p g'
    · obtain ⟨g', hlt, hp⟩ := hx; exact ih g' hlt hp
    · exact ⟨g, hg, fun g' hp => Nat.le_of_not_lt fun hlt => hx ⟨g', hlt, hp⟩⟩

/-- Jumps back to the label l: what holds at each, with a ghost that sinks. -/
theorem wp_scope_ghost {c rest : Code} (l : Nat) (J : Nat → Act → World → Prop) (hf : findLabel c l = some rest)
    (first : c.wp P (Exit.jump l (fun a w => ∃ g, J g a w) Q) a w)
    (pass : ∀ g a w, J g a w → rest.wp P (Exit.jump l (fun a' w' => ∃ g', g' < g ∧ J g' a' w') Q) a w) : (Code.scope c).wp P Q a w := by
  classical
  let μ : Act → World → Nat := fun a w => if h : ∃ g, J g a w then Classical.choose (least_of h) else 0
  have hμ : ∀ a w, (h : ∃ g, J g a w) → J (μ a w) a w ∧ ∀ g', J g' a w → μ a w ≤ g' := by
    intro a w h
    have e : μ a w = Classical.choose (least_of h) := dif_pos h
    rw [e]; exact Classical.choose_spec (least_of h)
  refine wp_scope_jumps l (fun a w => ∃ g, J g a w) μ hf first ?_
  intro a w hx
  refine wp_mono (fun e a' w' h => jump_mono (fun a'' w'' h' => ?_) h) (pass _ a w (hμ a w hx).1)
  obtain ⟨g', hlt, hj⟩ := h'
  exact ⟨⟨g', hj⟩, Nat.lt_of_le_of_lt ((hμ _ _ ⟨g', hj⟩).2 g' hj) hlt⟩

/-- 'x; again: y': the loop that a label and a goto make: what holds at the label each time, with a ghost that sinks. -/
theorem wp_scope_again {x y : Code} (l : Nat) (J : Nat → Act → World → Prop) (hf : findLabel (.seq x (.seq (.label l) y)) l = some (.seq .skip y))
    (first : x.wp P (Exit.then (fun a w => ∃ g, J g a w) (Exit.noGoto Q)) a w)
    (pass : ∀ g a w, J g a w → y.wp P (Exit.jump l (fun a' w' => ∃ g', g' < g ∧ J g' a' w') Q) a w) :
    (Code.scope (.seq x (.seq (.label l) y))).wp P Q a w := by
  refine wp_scope_ghost l J hf ?_ ?_
  · refine wp_seq (wp_mono ?_ first)
    intro e a w h
    cases e with
    | goto l => exact h.elim
    | normal =>
      obtain ⟨g, hg⟩ := h
      refine wp_seq (wp_label ?_)
      exact wp_mono (fun e a' w' h => jump_mono (fun a'' w'' ⟨g', _, hj⟩ => ⟨g', hj⟩) h) (pass g a w hg)
    | exit _ => exact h
    | ret => exact h
    | panic _ => exact h
    | outgrown => exact h
  · intro g a w hg
    exact wp_seq (wp_skip (pass g a w hg))

@[go_sem] theorem jump_normal (l : Nat) (J : Act → World → Prop) : Exit.jump l J Q .normal a w = Q .normal a w := rfl
@[go_sem] theorem jump_exit (l : Nat) (J : Act → World → Prop) (id : Nat) : Exit.jump l J Q (.exit id) a w = Q (.exit id) a w := rfl
@[go_sem] theorem jump_ret (l : Nat) (J : Act → World → Prop) : Exit.jump l J Q .ret a w = Q .ret a w := rfl
@[go_sem] theorem jump_panic (l : Nat) (J : Act → World → Prop) (ch : List PanicEntry) : Exit.jump l J Q (.panic ch) a w = Q (.panic ch) a w := rfl
theorem jump_goto (l : Nat) (J : Act → World → Prop) (h : J a w) : Exit.jump l J Q (.goto l) a w := ⟨rfl, h⟩
end
end Go.Proofs.YthmhbmikcdfkcaaDoor
