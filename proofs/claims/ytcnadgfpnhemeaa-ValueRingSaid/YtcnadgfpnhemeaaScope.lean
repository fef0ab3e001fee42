/-
  A scope that is left to a label ahead: what stands behind the label is walked from there.
-/
import Derived.WalkKit
namespace Go.Proofs.Ytcnadgfpnhemeaa
open Go.RowKit
section
variable {P : Program} {a : Act} {w : World} {Q : Exit → Act → World → Prop}

/-- One jump to the label l, onward; behind the label no further one. -/
theorem wp_scope_one {c rest : Code} (l : Nat) (hf : findLabel c l = some rest)
    (h : ∀ J : Act → World → Prop, (∀ a w, rest.wp P (Exit.noGoto Q) a w → J a w) → c.wp P (Exit.jump l J Q) a w) : (Code.scope c).wp P Q a w := by
  refine wp_scope_jumps l (fun a w => rest.wp P (Exit.noGoto Q) a w) (fun _ _ => 0) hf (h _ fun _ _ h => h) ?_
  intro a w hr b k cs
  obtain ⟨e, a1, w1, hq, harr⟩ := hr b k cs
  refine ⟨e, a1, w1, ?_, harr⟩
  cases e with
  | goto l => exact hq.elim
  | normal => exact hq
  | exit _ => exact hq
  | ret => exact hq
  | panic _ => exact hq
  | outgrown => exact hq

@[go_sem] theorem jump_normal (l : Nat) (J : Act → World → Prop) : Exit.jump l J Q .normal a w = Q .normal a w := rfl
@[go_sem] theorem jump_exit (l : Nat) (J : Act → World → Prop) (id : Nat) : Exit.jump l J Q (.exit id) a w = Q (.exit id) a w := rfl
@[go_sem] theorem jump_ret (l : Nat) (J : Act → World → Prop) : Exit.jump l J Q .ret a w = Q .ret a w := rfl
@[go_sem] theorem jump_panic (l : Nat) (J : Act → World → Prop) (ch : List PanicEntry) : Exit.jump l J Q (.panic ch) a w = Q (.panic ch) a w := rfl
theorem jump_goto (l : Nat) (J : Act → World → Prop) (h : J a w) : Exit.jump l J Q (.goto l) a w := ⟨rfl, h⟩
end
end Go.Proofs.Ytcnadgfpnhemeaa
