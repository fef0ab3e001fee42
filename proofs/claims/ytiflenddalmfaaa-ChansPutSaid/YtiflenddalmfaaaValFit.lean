/-
  The walks of layer 5's Fit and Fits, and of the reference's Right, Fit, Int: what each computes, by the plain arithmetic of ValPlain.
-/
import Derived.Test.YtiflenddalmfaaaRows
import Derived.Test.YtiflenddalmfaaaValPlain
import Derived.WalkKit
import Derived.WalkSpells
import Derived.WalkLawsBesides
import Derived.BigQuiet
import Derived.Deep.QuietTactic
import Derived.Lib.Hide
namespace Go.Proofs.Ytiflenddalmfaaa
open Go.RowKit

theorem ret_i64 {k : IntKind} {a b : Int} (h : a = b) : Ending.returned (.int k a) = .returned (.int k b) := by rw [h]
theorem bcell {W w1 : World} (hb : Below W.heap.size W w1) : (∀ b o, b < W.heap.size → w1.cell? ⟨b, o, none⟩ = W.cell? ⟨b, o, none⟩) ∧ (∀ b o, b < W.heap.size → w1.frozen? ⟨b, o, none⟩ = W.frozen? ⟨b, o, none⟩) :=
  ⟨fun b o h => hb.cell (p := ⟨b, o, none⟩) h, fun b o h => hb.frozen (p := ⟨b, o, none⟩) h⟩
theorem below_one (w : World) (o : Obj) : Below w.heap.size w (w.alloc o) := (Below.refl _ _).alloc (Nat.le_refl _) _

set_option maxHeartbeats 400000 in
theorem vfit_s (b v : Int) (w : World) (h1 : 1 ≤ b) (h2 : b ≤ 32) :
    Calls Try.prog 16 #[.agg #[.int .i64 b, .bool true], .int .i64 v] w fun e w' => e = .returned (.int .i64 (fitP b true v)) ∧ Below w.heap.size w w' := by
  have d1 : decide (b < 1) = false := by simp; omega
  have d2 : decide (32 < b) = false := by simp; omega
  go_enter Try.func16, Try.ntmps16
  go_wp2
  go_quiet (fail)
  go_wp2
  go_ret
  exact ⟨ret_i64 (fit_shl_shr b v h1 h2), below_drewN (below_one _ _) _⟩
set_option maxHeartbeats 400000 in
theorem vfit_u (b v : Int) (w : World) (h1 : 1 ≤ b) (h2 : b ≤ 32) :
    Calls Try.prog 16 #[.agg #[.int .i64 b, .bool false], .int .i64 v] w fun e w' => e = .returned (.int .i64 (fitP b false v)) ∧ Below w.heap.size w w' := by
  have d1 : decide (b < 1) = false := by simp; omega
  have d2 : decide (32 < b) = false := by simp; omega
  go_enter Try.func16, Try.ntmps16
  go_wp2
  go_ret
  exact ⟨ret_i64 (fit_mask b v h1 h2), below_one _ _⟩
set_option maxHeartbeats 400000 in
theorem vfit_z (b v : Int) (s : Bool) (w : World) (h1 : b < 1 ∨ 32 < b) :
    Calls Try.prog 16 #[.agg #[.int .i64 b, .bool s], .int .i64 v] w fun e w' => e = .returned (.int .i64 (fitP b s v)) ∧ Below w.heap.size w w' := by
  have HF := Lib.hid (fit_out b v s h1)
  rcases h1 with h1 | h1
  · go_enter Try.func16, Try.ntmps16
    go_wp2
    go_ret
    exact ⟨ret_i64 HF.out.symm, below_one _ _⟩
  · have d1 : decide (b < 1) = false := by simp; omega
    go_enter Try.func16, Try.ntmps16
    go_wp2
    go_ret
    exact ⟨ret_i64 HF.out.symm, below_one _ _⟩
/-- 'value.Fit'. -/
theorem vfit (b v : Int) (s : Bool) (w : World) :
    Calls Try.prog 16 #[.agg #[.int .i64 b, .bool s], .int .i64 v] w fun e w' => e = .returned (.int .i64 (fitP b s v)) ∧ Below w.heap.size w w' := by
  by_cases h : 1 ≤ b ∧ b ≤ 32
  · cases s
    · exact vfit_u b v w h.1 h.2
    · exact vfit_s b v w h.1 h.2
  · exact vfit_z b v s w (by omega)

/-- May a type be? -/
def rightB (b : Int) : Bool := decide (1 ≤ b ∧ b ≤ 32)


set_option maxHeartbeats 400000 in
theorem rright (b : Int) (s : Bool) (w : World) :
    Calls Try.prog 29 #[.agg #[.int .i64 b, .bool s]] w fun e w' => e = .returned (.bool (rightB b)) ∧ Below w.heap.size w w' := by
  by_cases h1 : 1 ≤ b
  · by_cases h2 : b ≤ 32
    · have HR : Hid (rightB b = true) := by unfold rightB Hid; simp; omega
      go_enter Try.func29, Try.ntmps29
      go_wp2
      go_ret
      exact ⟨by rw [HR.out]; simp [*], below_one _ _⟩
    · have HR : Hid (rightB b = false) := by unfold rightB Hid; simp; omega
      have d2 : decide (b ≤ 32) = false := by simp; omega
      go_enter Try.func29, Try.ntmps29
      go_wp2
      go_ret
      exact ⟨by rw [HR.out]; simp, below_one _ _⟩
  · have HR : Hid (rightB b = false) := by unfold rightB Hid; simp; omega
    have d2 : decide (1 ≤ b) = false := by simp; omega
    go_enter Try.func29, Try.ntmps29
    go_wp2
    go_ret
    exact ⟨by rw [HR.out]; simp, below_one _ _⟩

set_option maxHeartbeats 400000 in
theorem rfit_in (b v : Int) (s : Bool) (w : World) (h : 1 ≤ b ∧ b ≤ 32) :
    Calls Try.prog 22 #[.agg #[.int .i64 b, .bool s], .int .i64 v] w fun e w' => e = .returned (.int .i64 (fitP b s v)) ∧ Below w.heap.size w w' := by
  have HR : Hid (rightB b = true) := by unfold rightB Hid; simp; omega
  obtain ⟨hb1, hb2⟩ := h
  have hp := pow_bd b hb1 hb2
  cases s
  all_goals
   have ht0 : -(2 ^ b.toNat) < v.tmod (2 ^ b.toNat) := Int.lt_tmod_of_pos _ (by omega)
   have ht1 : v.tmod (2 ^ b.toNat) < 2 ^ b.toNat := Int.tmod_lt_of_pos _ (by omega)
   go_enter Try.func22, Try.ntmps22
   go_wp2_with ((with_reducible refine (rright b _ _).mono ?_); rintro e w1 ⟨rfl, hb⟩; rw [HR.out]; obtain ⟨hc, hf⟩ := bcell hb)
   all_goals
    go_ret
    refine ⟨?_, (below_one _ _).trans (hb.mono (by simp))⟩
    first
      | exact ret_i64 ((by omega : v.tmod (2 ^ b.toNat) = v.tmod (2 ^ b.toNat) + 2 ^ b.toNat - 2 ^ b.toNat).trans (fit_ref_t b v _ hb1 hb2 (tm_lt _ _ (by omega) ‹_›) ‹_›))
      | exact ret_i64 (fit_ref_t b v _ hb1 hb2 (tm_lt _ _ (by omega) ‹_›) ‹_›)
      | exact ret_i64 (fit_ref_f b v _ hb1 hb2 (tm_lt _ _ (by omega) ‹_›) ‹_›)
      | exact ret_i64 (fit_ref_u b v _ hb1 hb2 (tm_lt _ _ (by omega) ‹_›))
      | exact ret_i64 (fit_ref_t b v _ hb1 hb2 (tm_ge _ _ (by omega) ‹_›) ‹_›)
      | exact ret_i64 (fit_ref_f b v _ hb1 hb2 (tm_ge _ _ (by omega) ‹_›) ‹_›)
      | exact ret_i64 (fit_ref_u b v _ hb1 hb2 (tm_ge _ _ (by omega) ‹_›))
theorem rfit (b v : Int) (s : Bool) (w : World) :
    Calls Try.prog 22 #[.agg #[.int .i64 b, .bool s], .int .i64 v] w fun e w' => e = .returned (.int .i64 (fitP b s v)) ∧ Below w.heap.size w w' := by
  by_cases h : 1 ≤ b ∧ b ≤ 32
  · exact rfit_in b v s w h
  · have HR : Hid (rightB b = false) := by unfold rightB Hid; simp; omega
    have HF := Lib.hid (fit_out b v s (by omega))
    go_enter Try.func22, Try.ntmps22
    go_wp2_with ((with_reducible refine (rright b s _).mono ?_); rintro e w1 ⟨rfl, hb⟩; rw [HR.out])
    go_ret
    exact ⟨ret_i64 HF.out.symm, (below_one _ _).trans (hb.mono (by simp))⟩
end Go.Proofs.Ytiflenddalmfaaa
