/-
  The walks of layer 5's Fit, Two and One: what each computes, by the plain arithmetic of ValPlain and TwoPlain.
-/
import Derived.Test.YthmhbmikcdfkcaaDoorGpO
import Derived.Test.YthmhbmikcdfkcaaDoorScope
import Derived.Test.YthmhbmikcdfkcaaDoorProg
import Derived.Lib.Hide
import Derived.WalkKit
import Derived.WalkSpells
import Derived.WalkLawsBesides
import Derived.BigQuiet
import Derived.Deep.QuietTactic
namespace Go.Proofs.YthmhbmikcdfkcaaDoor
open Go.RowKit
theorem ret_i64 {k : IntKind} {a b : Int} (h : a = b) : Ending.returned (.int k a) = .returned (.int k b) := by rw [h]
theorem bcellW {W w1 : World} (hb : Below W.heap.size W w1) : (∀ b o, b < W.heap.size → w1.cell? ⟨b, o, none⟩ = W.cell? ⟨b, o, none⟩) ∧ (∀ b o, b < W.heap.size → w1.frozen? ⟨b, o, none⟩ = W.frozen? ⟨b, o, none⟩) :=
  ⟨fun b o h => hb.cell (p := ⟨b, o, none⟩) h, fun b o h => hb.frozen (p := ⟨b, o, none⟩) h⟩
theorem below_oneW (w : World) (o : Obj) : Below w.heap.size w (w.alloc o) := (Below.refl _ _).alloc (Nat.le_refl _) _
set_option maxHeartbeats 400000 in
theorem vfit_s (b v : Int) (w : World) (h1 : 1 ≤ b) (h2 : b ≤ 32) :
    Calls Tryd.prog 28 #[.agg #[.int .i64 b, .bool true], .int .i64 v] w fun e w' => e = .returned (.int .i64 (fitP b true v)) ∧ Below w.heap.size w w' := by
  have d1 : decide (b < 1) = false := by simp; omega
  have d2 : decide (32 < b) = false := by simp; omega
  go_enter Tryd.func28, Tryd.ntmps28
  go_wp2
  go_quiet (fail)
  go_wp2
  go_ret
  exact ⟨ret_i64 (fit_shl_shr b v h1 h2), below_drewN (below_oneW _ _) _⟩
set_option maxHeartbeats 400000 in
theorem vfit_u (b v : Int) (w : World) (h1 : 1 ≤ b) (h2 : b ≤ 32) :
    Calls Tryd.prog 28 #[.agg #[.int .i64 b, .bool false], .int .i64 v] w fun e w' => e = .returned (.int .i64 (fitP b false v)) ∧ Below w.heap.size w w' := by
  have d1 : decide (b < 1) = false := by simp; omega
  have d2 : decide (32 < b) = false := by simp; omega
  go_enter Tryd.func28, Tryd.ntmps28
  go_wp2
  go_ret
  exact ⟨ret_i64 (fit_mask b v h1 h2), below_oneW _ _⟩
set_option maxHeartbeats 400000 in
theorem vfit_z (b v : Int) (s : Bool) (w : World) (h1 : b < 1 ∨ 32 < b) :
    Calls Tryd.prog 28 #[.agg #[.int .i64 b, .bool s], .int .i64 v] w fun e w' => e = .returned (.int .i64 (fitP b s v)) ∧ Below w.heap.size w w' := by
  have HF := Lib.hid (fit_out b v s h1)
  rcases h1 with h1 | h1
  · go_enter Tryd.func28, Tryd.ntmps28
    go_wp2
    go_ret
    exact ⟨ret_i64 HF.out.symm, below_oneW _ _⟩
  · have d1 : decide (b < 1) = false := by simp; omega
    go_enter Tryd.func28, Tryd.ntmps28
    go_wp2
    go_ret
    exact ⟨ret_i64 HF.out.symm, below_oneW _ _⟩
/-- 'value.Fit'. -/
theorem vfit (b v : Int) (s : Bool) (w : World) :
    Calls Tryd.prog 28 #[.agg #[.int .i64 b, .bool s], .int .i64 v] w fun e w' => e = .returned (.int .i64 (fitP b s v)) ∧ Below w.heap.size w w' := by
  by_cases h : 1 ≤ b ∧ b ≤ 32
  · cases s
    · exact vfit_u b v w h.1 h.2
    · exact vfit_s b v w h.1 h.2
  · exact vfit_z b v s w (by omega)
theorem ret_two {k l : IntKind} {a b c d : Int} (h : a = b) (h' : c = d) : Ending.returned (.tuple #[.int k a, .int l c]) = .returned (.tuple #[.int k b, .int l d]) := by rw [h, h']
set_option maxHeartbeats 400000 in
theorem vtruth (b : Bool) (w : World) :
    Calls Tryd.prog 70 #[.bool b] w fun e w' => e = .returned (.int .i64 (oneOf b)) ∧ w = w' := by
  cases b
  all_goals
    go_enter Tryd.func70, Tryd.ntmps70
    go_wp2
    go_ret
    exact ⟨rfl, rfl⟩
set_option maxHeartbeats 400000 in
theorem wshift (a n : Int) (w : World) (h0 : -2147483648 ≤ n) (h1 : n ≤ 2147483648) :
    Calls Tryd.prog 71 #[.int .i32 a, .int .i64 n] w fun e w' => e = .returned (.int .i32 (shiftP a n)) ∧ w = w' := by
  by_cases hn : 0 ≤ n
  · have HP : Hid (shiftP a n = wrap32 (a * 2 ^ min n.toNat 32)) := by unfold Hid shiftP; rw [if_pos hn]
    by_cases h63 : 63 < n
    · go_enter Tryd.func71, Tryd.ntmps71
      go_wp2
      go_ret
      exact ⟨ret_i64 (by rw [HP.out, show min n.toNat 32 = 32 by omega]; first | rfl | (rw [IntKind.wrap_i32]; rfl)), rfl⟩
    · go_enter Tryd.func71, Tryd.ntmps71
      go_wp2
      go_ret
      exact ⟨ret_i64 (by rw [HP.out]), rfl⟩
  · have HP : Hid (shiftP a n = a / 2 ^ min (-n).toNat 32) := by unfold Hid shiftP; rw [if_neg hn]
    have h0n : n ≤ 0 := by omega
    by_cases h63 : 63 < -n
    · go_enter Tryd.func71, Tryd.ntmps71
      go_wp2
      go_ret
      exact ⟨ret_i64 (by rw [HP.out, show min (-n).toNat 32 = 32 by omega]; rfl), rfl⟩
    · go_enter Tryd.func71, Tryd.ntmps71
      go_wp2
      go_ret
      exact ⟨ret_i64 HP.out.symm, rfl⟩
set_option maxHeartbeats 400000 in
theorem vtwo_6 (a b : Int) (w : World) :
    Calls Tryd.prog 57 #[.int .i64 6, .int .i64 a, .int .i64 b] w fun e w' => e = .returned (.tuple #[.int .i64 (twoV 6 a b), .int .i64 (twoE 6 b)]) ∧ w = w' := by
  have hy := wrap32_bd b
  go_enter Tryd.func57, Tryd.ntmps57
  go_wp2
  go_step3
  go_wp2_with (first | (go_at_call 71; (with_reducible refine (wshift _ _ _ (by omega) (by omega)).mono ?_); rintro e w1 ⟨rfl, rfl⟩) | (go_at_call 70; (with_reducible refine (vtruth _ _).mono ?_); rintro e w1 ⟨rfl, rfl⟩))
  rw [Exit.noGoto_ret]
  go_ret2
  exact ⟨ret_two (by simp [twoV, wrap64_of32]) (by simp [twoE]), rfl⟩
set_option maxHeartbeats 400000 in
theorem vtwo_9 (a b : Int) (w : World) :
    Calls Tryd.prog 57 #[.int .i64 9, .int .i64 a, .int .i64 b] w fun e w' => e = .returned (.tuple #[.int .i64 (twoV 9 a b), .int .i64 (twoE 9 b)]) ∧ w = w' := by
  have hy := wrap32_bd b
  go_enter Tryd.func57, Tryd.ntmps57
  go_wp2
  go_step3
  go_wp2_with (first | (go_at_call 71; (with_reducible refine (wshift _ _ _ (by omega) (by omega)).mono ?_); rintro e w1 ⟨rfl, rfl⟩) | (go_at_call 70; (with_reducible refine (vtruth _ _).mono ?_); rintro e w1 ⟨rfl, rfl⟩))
  rw [Exit.noGoto_ret]
  go_ret2
  exact ⟨ret_two (by simp [twoV, wrap64_of32]) (by simp [twoE]), rfl⟩
set_option maxHeartbeats 400000 in
theorem vtwo_10 (a b : Int) (w : World) :
    Calls Tryd.prog 57 #[.int .i64 10, .int .i64 a, .int .i64 b] w fun e w' => e = .returned (.tuple #[.int .i64 (twoV 10 a b), .int .i64 (twoE 10 b)]) ∧ w = w' := by
  have hy := wrap32_bd b
  go_enter Tryd.func57, Tryd.ntmps57
  go_wp2
  go_step3
  go_wp2_with (first | (go_at_call 71; (with_reducible refine (wshift _ _ _ (by omega) (by omega)).mono ?_); rintro e w1 ⟨rfl, rfl⟩) | (go_at_call 70; (with_reducible refine (vtruth _ _).mono ?_); rintro e w1 ⟨rfl, rfl⟩))
  rw [Exit.noGoto_ret]
  go_ret2
  exact ⟨ret_two (by simp [twoV, wrap64_of32]) (by simp [twoE]), rfl⟩
set_option maxHeartbeats 400000 in
theorem vtwo_7 (a b : Int) (w : World) :
    Calls Tryd.prog 57 #[.int .i64 7, .int .i64 a, .int .i64 b] w fun e w' => e = .returned (.tuple #[.int .i64 (twoV 7 a b), .int .i64 (twoE 7 b)]) ∧ w = w' := by
  have hy := wrap32_bd b
  have hx := wrap32_bd a
  by_cases h0 : wrap32 b = 0
  · have HV : Hid (twoV 7 a b = 0) := by unfold Hid; simp [twoV, h0]
    have HE : Hid (twoE 7 b = 48) := by unfold Hid; simp [twoE, h0]
    have hb0 : (wrap32 b == 0) = true := by simpa using h0
    clear h0
    go_enter Tryd.func57, Tryd.ntmps57
    go_wp2
    refine wp_scope_one 0 rfl (fun J hJ => ?_)
    go_wp2
    go_step3
    refine ⟨rfl, hJ _ _ ?_⟩
    go_wp2
    rw [Exit.noGoto_ret]
    go_ret2
    exact ⟨ret_two HV.out.symm HE.out.symm, rfl⟩
  · have HV : Hid (twoV 7 a b = wrap32 ((wrap32 a).tdiv (wrap32 b))) := by unfold Hid; simp [twoV, h0]
    have HE : Hid (twoE 7 b = 0) := by unfold Hid; simp [twoE, h0]
    have hb0 : (wrap32 b == 0) = false := by simpa using h0
    go_enter Tryd.func57, Tryd.ntmps57
    go_wp2
    go_step3
    go_wp2
    rw [Exit.noGoto_ret]
    go_ret2
    exact ⟨ret_two (by rw [HV.out]; exact wrap64_of32 _) HE.out.symm, rfl⟩
set_option maxHeartbeats 400000 in
theorem vtwo_8 (a b : Int) (w : World) :
    Calls Tryd.prog 57 #[.int .i64 8, .int .i64 a, .int .i64 b] w fun e w' => e = .returned (.tuple #[.int .i64 (twoV 8 a b), .int .i64 (twoE 8 b)]) ∧ w = w' := by
  have hy := wrap32_bd b
  have hx := wrap32_bd a
  by_cases h0 : wrap32 b = 0
  · have HV : Hid (twoV 8 a b = 0) := by unfold Hid; simp [twoV, h0]
    have HE : Hid (twoE 8 b = 48) := by unfold Hid; simp [twoE, h0]
    have hb0 : (wrap32 b == 0) = true := by simpa using h0
    clear h0
    go_enter Tryd.func57, Tryd.ntmps57
    go_wp2
    refine wp_scope_one 0 rfl (fun J hJ => ?_)
    go_wp2
    go_step3
    refine ⟨rfl, hJ _ _ ?_⟩
    go_wp2
    rw [Exit.noGoto_ret]
    go_ret2
    exact ⟨ret_two HV.out.symm HE.out.symm, rfl⟩
  · have HV : Hid (twoV 8 a b = (wrap32 a).tmod (wrap32 b)) := by unfold Hid; simp [twoV, h0]
    have HE : Hid (twoE 8 b = 0) := by unfold Hid; simp [twoE, h0]
    have hb0 : (wrap32 b == 0) = false := by simpa using h0
    go_enter Tryd.func57, Tryd.ntmps57
    go_wp2
    go_step3
    go_wp2
    rw [Exit.noGoto_ret]
    go_ret2
    exact ⟨ret_two (by rw [HV.out]; rw [wrap64_of32]; exact rem_way _ _ hx.1 hx.2) HE.out.symm, rfl⟩
set_option maxHeartbeats 400000 in
theorem vtwo_11 (a b : Int) (w : World) :
    Calls Tryd.prog 57 #[.int .i64 11, .int .i64 a, .int .i64 b] w fun e w' => e = .returned (.tuple #[.int .i64 (twoV 11 a b), .int .i64 (twoE 11 b)]) ∧ w = w' := by
  have hy := wrap32_bd b
  have HSB : ∀ x n, -2147483648 ≤ n → n ≤ 2147483648 → shiftP (wrap32 x) n = shiftP (wrap32 x) n := fun _ _ _ _ => rfl
  clear HSB
  go_enter Tryd.func57, Tryd.ntmps57
  go_wp2
  go_step3
  go_wp2_with (first | (go_at_call 71; (with_reducible refine (wshift _ _ _ (by omega) (by omega)).mono ?_); rintro e w1 ⟨rfl, rfl⟩) | (go_at_call 70; (with_reducible refine (vtruth _ _).mono ?_); rintro e w1 ⟨rfl, rfl⟩))
  rw [Exit.noGoto_ret]
  go_ret2
  exact ⟨ret_two (by have h := shiftP_bd (wrap32 a) (wrap32 b) (wrap32_bd a); simp only [twoV]; exact IntWalk.wrap64_in _ (by omega)) (by simp [twoE]), rfl⟩
set_option maxHeartbeats 400000 in
theorem vtwo_12 (a b : Int) (w : World) :
    Calls Tryd.prog 57 #[.int .i64 12, .int .i64 a, .int .i64 b] w fun e w' => e = .returned (.tuple #[.int .i64 (twoV 12 a b), .int .i64 (twoE 12 b)]) ∧ w = w' := by
  have hy := wrap32_bd b
  have HSB : ∀ x n, -2147483648 ≤ n → n ≤ 2147483648 → shiftP (wrap32 x) n = shiftP (wrap32 x) n := fun _ _ _ _ => rfl
  clear HSB
  go_enter Tryd.func57, Tryd.ntmps57
  go_wp2
  go_step3
  go_wp2_with (first | (go_at_call 71; (with_reducible refine (wshift _ _ _ (by omega) (by omega)).mono ?_); rintro e w1 ⟨rfl, rfl⟩) | (go_at_call 70; (with_reducible refine (vtruth _ _).mono ?_); rintro e w1 ⟨rfl, rfl⟩))
  rw [Exit.noGoto_ret]
  go_ret2
  exact ⟨ret_two (by have h := shiftP_bd (wrap32 a) (-wrap32 b) (wrap32_bd a); simp only [twoV]; exact IntWalk.wrap64_in _ (by omega)) (by simp [twoE]), rfl⟩
set_option maxHeartbeats 400000 in
theorem vtwo_13 (a b : Int) (w : World) :
    Calls Tryd.prog 57 #[.int .i64 13, .int .i64 a, .int .i64 b] w fun e w' => e = .returned (.tuple #[.int .i64 (twoV 13 a b), .int .i64 (twoE 13 b)]) ∧ w = w' := by
  have hy := wrap32_bd b
  go_enter Tryd.func57, Tryd.ntmps57
  go_wp2
  refine wp_scope_one 1 rfl (fun J hJ => ?_)
  go_wp2
  go_step3
  refine ⟨rfl, hJ _ _ ?_⟩
  go_wp2_with (first | (go_at_call 71; (with_reducible refine (wshift _ _ _ (by omega) (by omega)).mono ?_); rintro e w1 ⟨rfl, rfl⟩) | (go_at_call 70; (with_reducible refine (vtruth _ _).mono ?_); rintro e w1 ⟨rfl, rfl⟩))
  rw [Exit.noGoto_ret]
  go_ret2
  exact ⟨ret_two (by simp only [twoV]; rfl) (by simp [twoE]), rfl⟩
set_option maxHeartbeats 400000 in
theorem vtwo_14 (a b : Int) (w : World) :
    Calls Tryd.prog 57 #[.int .i64 14, .int .i64 a, .int .i64 b] w fun e w' => e = .returned (.tuple #[.int .i64 (twoV 14 a b), .int .i64 (twoE 14 b)]) ∧ w = w' := by
  have hy := wrap32_bd b
  go_enter Tryd.func57, Tryd.ntmps57
  go_wp2
  refine wp_scope_one 1 rfl (fun J hJ => ?_)
  go_wp2
  go_step3
  refine ⟨rfl, hJ _ _ ?_⟩
  go_wp2_with (first | (go_at_call 71; (with_reducible refine (wshift _ _ _ (by omega) (by omega)).mono ?_); rintro e w1 ⟨rfl, rfl⟩) | (go_at_call 70; (with_reducible refine (vtruth _ _).mono ?_); rintro e w1 ⟨rfl, rfl⟩))
  rw [Exit.noGoto_ret]
  go_ret2
  exact ⟨ret_two (by simp only [twoV]; rfl) (by simp [twoE]), rfl⟩
set_option maxHeartbeats 400000 in
theorem vtwo_15 (a b : Int) (w : World) :
    Calls Tryd.prog 57 #[.int .i64 15, .int .i64 a, .int .i64 b] w fun e w' => e = .returned (.tuple #[.int .i64 (twoV 15 a b), .int .i64 (twoE 15 b)]) ∧ w = w' := by
  have hy := wrap32_bd b
  go_enter Tryd.func57, Tryd.ntmps57
  go_wp2
  refine wp_scope_one 1 rfl (fun J hJ => ?_)
  go_wp2
  go_step3
  refine ⟨rfl, hJ _ _ ?_⟩
  go_wp2_with (first | (go_at_call 71; (with_reducible refine (wshift _ _ _ (by omega) (by omega)).mono ?_); rintro e w1 ⟨rfl, rfl⟩) | (go_at_call 70; (with_reducible refine (vtruth _ _).mono ?_); rintro e w1 ⟨rfl, rfl⟩))
  rw [Exit.noGoto_ret]
  go_ret2
  exact ⟨ret_two (by simp only [twoV]; rfl) (by simp [twoE]), rfl⟩
set_option maxHeartbeats 400000 in
theorem vtwo_16 (a b : Int) (w : World) :
    Calls Tryd.prog 57 #[.int .i64 16, .int .i64 a, .int .i64 b] w fun e w' => e = .returned (.tuple #[.int .i64 (twoV 16 a b), .int .i64 (twoE 16 b)]) ∧ w = w' := by
  have hy := wrap32_bd b
  go_enter Tryd.func57, Tryd.ntmps57
  go_wp2
  refine wp_scope_one 1 rfl (fun J hJ => ?_)
  go_wp2
  go_step3
  refine ⟨rfl, hJ _ _ ?_⟩
  go_wp2_with (first | (go_at_call 71; (with_reducible refine (wshift _ _ _ (by omega) (by omega)).mono ?_); rintro e w1 ⟨rfl, rfl⟩) | (go_at_call 70; (with_reducible refine (vtruth _ _).mono ?_); rintro e w1 ⟨rfl, rfl⟩))
  rw [Exit.noGoto_ret]
  go_ret2
  exact ⟨ret_two (by simp only [twoV]; rfl) (by simp [twoE]), rfl⟩
set_option maxHeartbeats 400000 in
theorem vtwo_17 (a b : Int) (w : World) :
    Calls Tryd.prog 57 #[.int .i64 17, .int .i64 a, .int .i64 b] w fun e w' => e = .returned (.tuple #[.int .i64 (twoV 17 a b), .int .i64 (twoE 17 b)]) ∧ w = w' := by
  have hy := wrap32_bd b
  go_enter Tryd.func57, Tryd.ntmps57
  go_wp2
  refine wp_scope_one 1 rfl (fun J hJ => ?_)
  go_wp2
  go_step3
  refine ⟨rfl, hJ _ _ ?_⟩
  go_wp2_with (first | (go_at_call 71; (with_reducible refine (wshift _ _ _ (by omega) (by omega)).mono ?_); rintro e w1 ⟨rfl, rfl⟩) | (go_at_call 70; (with_reducible refine (vtruth _ _).mono ?_); rintro e w1 ⟨rfl, rfl⟩))
  rw [Exit.noGoto_ret]
  go_ret2
  exact ⟨ret_two (by simp only [twoV]; rfl) (by simp [twoE]), rfl⟩
set_option maxHeartbeats 400000 in
theorem vtwo_18 (a b : Int) (w : World) :
    Calls Tryd.prog 57 #[.int .i64 18, .int .i64 a, .int .i64 b] w fun e w' => e = .returned (.tuple #[.int .i64 (twoV 18 a b), .int .i64 (twoE 18 b)]) ∧ w = w' := by
  have hy := wrap32_bd b
  go_enter Tryd.func57, Tryd.ntmps57
  go_wp2
  refine wp_scope_one 1 rfl (fun J hJ => ?_)
  go_wp2
  go_step3
  refine ⟨rfl, hJ _ _ ?_⟩
  go_wp2_with (first | (go_at_call 71; (with_reducible refine (wshift _ _ _ (by omega) (by omega)).mono ?_); rintro e w1 ⟨rfl, rfl⟩) | (go_at_call 70; (with_reducible refine (vtruth _ _).mono ?_); rintro e w1 ⟨rfl, rfl⟩))
  rw [Exit.noGoto_ret]
  go_ret2
  exact ⟨ret_two (by simp only [twoV]; rfl) (by simp [twoE]), rfl⟩
set_option maxHeartbeats 400000 in
theorem vtwo_19 (a b : Int) (w : World) :
    Calls Tryd.prog 57 #[.int .i64 19, .int .i64 a, .int .i64 b] w fun e w' => e = .returned (.tuple #[.int .i64 (twoV 19 a b), .int .i64 (twoE 19 b)]) ∧ w = w' := by
  have hy := wrap32_bd b
  go_enter Tryd.func57, Tryd.ntmps57
  go_wp2
  go_step3
  go_wp2_with (first | (go_at_call 71; (with_reducible refine (wshift _ _ _ (by omega) (by omega)).mono ?_); rintro e w1 ⟨rfl, rfl⟩) | (go_at_call 70; (with_reducible refine (vtruth _ _).mono ?_); rintro e w1 ⟨rfl, rfl⟩))
  rw [Exit.noGoto_ret]
  go_ret2
  exact ⟨ret_two (by have h := bits_i32_bd .and (by simp) (wrap32 a) (wrap32 b); simp only [twoV]; exact IntWalk.wrap64_in _ (by omega)) (by simp [twoE]), rfl⟩
set_option maxHeartbeats 400000 in
theorem vtwo_20 (a b : Int) (w : World) :
    Calls Tryd.prog 57 #[.int .i64 20, .int .i64 a, .int .i64 b] w fun e w' => e = .returned (.tuple #[.int .i64 (twoV 20 a b), .int .i64 (twoE 20 b)]) ∧ w = w' := by
  have hy := wrap32_bd b
  go_enter Tryd.func57, Tryd.ntmps57
  go_wp2
  go_step3
  go_wp2_with (first | (go_at_call 71; (with_reducible refine (wshift _ _ _ (by omega) (by omega)).mono ?_); rintro e w1 ⟨rfl, rfl⟩) | (go_at_call 70; (with_reducible refine (vtruth _ _).mono ?_); rintro e w1 ⟨rfl, rfl⟩))
  rw [Exit.noGoto_ret]
  go_ret2
  exact ⟨ret_two (by have h := bits_i32_bd .xor (by simp) (wrap32 a) (wrap32 b); simp only [twoV]; exact IntWalk.wrap64_in _ (by omega)) (by simp [twoE]), rfl⟩
set_option maxHeartbeats 400000 in
theorem vtwo_21 (a b : Int) (w : World) :
    Calls Tryd.prog 57 #[.int .i64 21, .int .i64 a, .int .i64 b] w fun e w' => e = .returned (.tuple #[.int .i64 (twoV 21 a b), .int .i64 (twoE 21 b)]) ∧ w = w' := by
  have hy := wrap32_bd b
  go_enter Tryd.func57, Tryd.ntmps57
  go_wp2
  go_step3
  go_wp2_with (first | (go_at_call 71; (with_reducible refine (wshift _ _ _ (by omega) (by omega)).mono ?_); rintro e w1 ⟨rfl, rfl⟩) | (go_at_call 70; (with_reducible refine (vtruth _ _).mono ?_); rintro e w1 ⟨rfl, rfl⟩))
  rw [Exit.noGoto_ret]
  go_ret2
  exact ⟨ret_two (by have h := bits_i32_bd .or (by simp) (wrap32 a) (wrap32 b); simp only [twoV]; exact IntWalk.wrap64_in _ (by omega)) (by simp [twoE]), rfl⟩
set_option maxHeartbeats 400000 in
theorem vtwo_no (op : Int) (a b : Int) (w : World) (ho : op < 6 ∨ 21 < op) :
    Calls Tryd.prog 57 #[.int .i64 op, .int .i64 a, .int .i64 b] w fun e w' => e = .returned (.tuple #[.int .i64 (twoV op a b), .int .i64 (twoE op b)]) ∧ w = w' := by
  have hy := wrap32_bd b
  have HV : Hid (twoV op a b = 0) := by unfold Hid twoV; repeat (rw [if_neg (by omega)])
  have HE : Hid (twoE op b = 42) := by unfold Hid twoE; rw [if_neg (by omega), if_neg (by omega)]
  have e6 : (op == 6) = false := by simp; omega
  have e7 : (op == 7) = false := by simp; omega
  have e8 : (op == 8) = false := by simp; omega
  have e9 : (op == 9) = false := by simp; omega
  have e10 : (op == 10) = false := by simp; omega
  have e11 : (op == 11) = false := by simp; omega
  have e12 : (op == 12) = false := by simp; omega
  have e13 : (op == 13) = false := by simp; omega
  have e14 : (op == 14) = false := by simp; omega
  have e15 : (op == 15) = false := by simp; omega
  have e16 : (op == 16) = false := by simp; omega
  have e17 : (op == 17) = false := by simp; omega
  have e18 : (op == 18) = false := by simp; omega
  have e19 : (op == 19) = false := by simp; omega
  have e20 : (op == 20) = false := by simp; omega
  have e21 : (op == 21) = false := by simp; omega
  clear ho
  go_enter Tryd.func57, Tryd.ntmps57
  go_wp2
  refine wp_scope_one 1 rfl (fun J hJ => ?_)
  go_wp2
  go_step3
  refine ⟨rfl, hJ _ _ ?_⟩
  go_wp2
  rw [Exit.noGoto_ret]
  go_ret2
  exact ⟨ret_two HV.out.symm HE.out.symm, rfl⟩
theorem vtwo (op a b : Int) (w : World) :
    Calls Tryd.prog 57 #[.int .i64 op, .int .i64 a, .int .i64 b] w fun e w' => e = .returned (.tuple #[.int .i64 (twoV op a b), .int .i64 (twoE op b)]) ∧ w = w' := by
  by_cases ho : op < 6 ∨ 21 < op
  · exact vtwo_no op a b w ho
  · have h : op = 6 ∨ op = 7 ∨ op = 8 ∨ op = 9 ∨ op = 10 ∨ op = 11 ∨ op = 12 ∨ op = 13 ∨ op = 14 ∨ op = 15 ∨ op = 16 ∨ op = 17 ∨ op = 18 ∨ op = 19 ∨ op = 20 ∨ op = 21 := by omega
    rcases h with rfl | rfl | rfl | rfl | rfl | rfl | rfl | rfl | rfl | rfl | rfl | rfl | rfl | rfl | rfl | rfl
    · exact vtwo_6 a b w
    · exact vtwo_7 a b w
    · exact vtwo_8 a b w
    · exact vtwo_9 a b w
    · exact vtwo_10 a b w
    · exact vtwo_11 a b w
    · exact vtwo_12 a b w
    · exact vtwo_13 a b w
    · exact vtwo_14 a b w
    · exact vtwo_15 a b w
    · exact vtwo_16 a b w
    · exact vtwo_17 a b w
    · exact vtwo_18 a b w
    · exact vtwo_19 a b w
    · exact vtwo_20 a b w
    · exact vtwo_21 a b w
theorem w32_64 (n : Int) : wrap32 (wrap64 n) = wrap32 n := by unfold wrap32 wrap64; omega
set_option maxHeartbeats 400000 in
theorem vone_3 (a : Int) (w : World) :
    Calls Tryd.prog 56 #[.int .i64 3, .int .i64 a] w fun e w' => e = .returned (.tuple #[.int .i64 (oneV 3 a), .int .i64 (oneE 3)]) ∧ w = w' := by
  have hx := wrap32_bd a
  go_enter Tryd.func56, Tryd.ntmps56
  go_wp2_with (go_at_call 70; (with_reducible refine (vtruth _ _).mono ?_); rintro e w1 ⟨rfl, rfl⟩)
  go_ret2
  exact ⟨ret_two (by simp only [oneV]; first | rfl | exact wrap64_of32 _ | exact (flip_i32 a) | (simp; omega)) (by simp [oneE]), rfl⟩
set_option maxHeartbeats 400000 in
theorem vone_4 (a : Int) (w : World) :
    Calls Tryd.prog 56 #[.int .i64 4, .int .i64 a] w fun e w' => e = .returned (.tuple #[.int .i64 (oneV 4 a), .int .i64 (oneE 4)]) ∧ w = w' := by
  have hx := wrap32_bd a
  go_enter Tryd.func56, Tryd.ntmps56
  go_wp2_with (go_at_call 70; (with_reducible refine (vtruth _ _).mono ?_); rintro e w1 ⟨rfl, rfl⟩)
  go_ret2
  exact ⟨ret_two (by simp only [oneV]; first | rfl | exact wrap64_of32 _ | exact (flip_i32 a) | (simp; omega)) (by simp [oneE]), rfl⟩
set_option maxHeartbeats 400000 in
theorem vone_5 (a : Int) (w : World) :
    Calls Tryd.prog 56 #[.int .i64 5, .int .i64 a] w fun e w' => e = .returned (.tuple #[.int .i64 (oneV 5 a), .int .i64 (oneE 5)]) ∧ w = w' := by
  have hx := wrap32_bd a
  go_enter Tryd.func56, Tryd.ntmps56
  go_wp2_with (go_at_call 70; (with_reducible refine (vtruth _ _).mono ?_); rintro e w1 ⟨rfl, rfl⟩)
  go_ret2
  exact ⟨ret_two (by simp only [oneV]; first | rfl | exact wrap64_of32 _ | exact (flip_i32 a) | (simp; omega)) (by simp [oneE]), rfl⟩
set_option maxHeartbeats 400000 in
theorem vone (op a : Int) (w : World) :
    Calls Tryd.prog 56 #[.int .i64 op, .int .i64 a] w fun e w' => e = .returned (.tuple #[.int .i64 (oneV op a), .int .i64 (oneE op)]) ∧ w = w' := by
  by_cases ho : op = 3 ∨ op = 4 ∨ op = 5
  · rcases ho with rfl | rfl | rfl
    · exact vone_3 a w
    · exact vone_4 a w
    · exact vone_5 a w
  have HV : Hid (oneV op a = 0) := by unfold Hid oneV; repeat (rw [if_neg (by omega)])
  have HE : Hid (oneE op = 42) := by unfold Hid oneE; rw [if_neg (by omega)]
  have e3 : (op == 3) = false := by simp; omega
  have e4 : (op == 4) = false := by simp; omega
  have e5 : (op == 5) = false := by simp; omega
  clear ho
  go_enter Tryd.func56, Tryd.ntmps56
  go_wp2
  go_ret2
  exact ⟨ret_two HV.out.symm HE.out.symm, rfl⟩
end Go.Proofs.YthmhbmikcdfkcaaDoor
