/-
  ValueRing: numbers are added, taken away, multiplied and divided as the ring of 32 bits has it, and compared as ints: for all numbers.
-/
import Derived.Test.YtcnadgfpnhemeaaRefTwo
import Derived.Test.YtcnadgfpnhemeaaLawKit
namespace Go.Proofs.Ytcnadgfpnhemeaa.valueRing
open Go.ChangeShapes Go.WideShapes Go.ChangeAt Go.RowKit
open Go.Proofs.Ytcnadgfpnhemeaa

theorem fit_int (v : Int) (w : World) : Calls Try.prog 7 #[.agg #[.int .i64 32, .bool true], .int .i64 v] w fun e w' => e = .returned (.int .i64 (wrap32 v)) ∧ Below w.heap.size w w' :=
  (vfit 32 v true w).mono fun _ _ ⟨he, hb⟩ => ⟨he.trans (ret_i64 (fitP_int v)), hb⟩
theorem vadd (a b : Int) (w : World) :
    Calls Try.prog 13 #[.int .i64 9, .int .i64 a, .int .i64 b] w fun e w' => e = .returned (.tuple #[.int .i64 (wrap32 (a + b)), .int .i64 0]) ∧ w = w' :=
  (vtwo 9 a b w).mono fun _ _ ⟨he, hw⟩ => ⟨he.trans (ret_two (by simp only [twoV]; exact (w_add_l _ _).trans (w_add_r _ _)) (by simp [twoE])), hw⟩
theorem vsub (a b : Int) (w : World) :
    Calls Try.prog 13 #[.int .i64 10, .int .i64 a, .int .i64 b] w fun e w' => e = .returned (.tuple #[.int .i64 (wrap32 (a - b)), .int .i64 0]) ∧ w = w' :=
  (vtwo 10 a b w).mono fun _ _ ⟨he, hw⟩ => ⟨he.trans (ret_two (by simp only [twoV]; exact (w_sub_l _ _).trans (w_sub_r _ _)) (by simp [twoE])), hw⟩
theorem vmul (a b : Int) (w : World) :
    Calls Try.prog 13 #[.int .i64 6, .int .i64 a, .int .i64 b] w fun e w' => e = .returned (.tuple #[.int .i64 (wrap32 (a * b)), .int .i64 0]) ∧ w = w' :=
  (vtwo 6 a b w).mono fun _ _ ⟨he, hw⟩ => ⟨he.trans (ret_two (by simp only [twoV]; exact (w_mul_l _ _).trans (w_mul_r _ _)) (by simp [twoE])), hw⟩
theorem vlt (a b : Int) (w : World) (c : Bool) (h : decide (wrap32 a < wrap32 b) = c) :
    Calls Try.prog 13 #[.int .i64 13, .int .i64 a, .int .i64 b] w fun e w' => e = .returned (.tuple #[.int .i64 (if c then 1 else 0), .int .i64 0]) ∧ w = w' :=
  (vtwo 13 a b w).mono fun _ _ ⟨he, hw⟩ => ⟨he.trans (ret_two (by rw [← h]; rfl) (by simp [twoE])), hw⟩
theorem vge (a b : Int) (w : World) (c : Bool) (h : decide (wrap32 a < wrap32 b) = c) :
    Calls Try.prog 13 #[.int .i64 16, .int .i64 a, .int .i64 b] w fun e w' => e = .returned (.tuple #[.int .i64 (if c then 0 else 1), .int .i64 0]) ∧ w = w' :=
  (vtwo 16 a b w).mono fun _ _ ⟨he, hw⟩ => ⟨he.trans (ret_two (by rw [← h]; by_cases hl : wrap32 a < wrap32 b <;> simp [twoV, oneOf, hl] <;> omega) (by simp [twoE])), hw⟩
theorem vneg (a : Int) (w : World) :
    Calls Try.prog 11 #[.int .i64 3, .int .i64 a] w fun e w' => e = .returned (.tuple #[.int .i64 (wrap32 (-a)), .int .i64 0]) ∧ w = w' :=
  (vone 3 a w).mono fun _ _ ⟨he, hw⟩ => ⟨he.trans (ret_two (by simp only [oneV]; have := w_sub_r 0 a; simpa using this) (by simp [oneE])), hw⟩
theorem vdiv0 (a b : Int) (w : World) (h : wrap32 b = 0) :
    Calls Try.prog 13 #[.int .i64 7, .int .i64 a, .int .i64 b] w fun e w' => e = .returned (.tuple #[.int .i64 0, .int .i64 48]) ∧ w = w' :=
  (vtwo 7 a b w).mono fun _ _ ⟨he, hw⟩ => ⟨he.trans (ret_two (by simp [twoV, h]) (by simp [twoE, h])), hw⟩
theorem vmod0 (a b : Int) (w : World) (h : wrap32 b = 0) :
    Calls Try.prog 13 #[.int .i64 8, .int .i64 a, .int .i64 b] w fun e w' => e = .returned (.tuple #[.int .i64 0, .int .i64 48]) ∧ w = w' :=
  (vtwo 8 a b w).mono fun _ _ ⟨he, hw⟩ => ⟨he.trans (ret_two (by simp [twoV, h]) (by simp [twoE, h])), hw⟩
theorem vdiv (a b : Int) (w : World) (h : ¬ wrap32 b = 0) :
    Calls Try.prog 13 #[.int .i64 7, .int .i64 a, .int .i64 b] w fun e w' => e = .returned (.tuple #[.int .i64 (wrap32 ((wrap32 a).tdiv (wrap32 b))), .int .i64 0]) ∧ w = w' :=
  (vtwo 7 a b w).mono fun _ _ ⟨he, hw⟩ => ⟨he.trans (ret_two (by simp [twoV, h]) (by simp [twoE, h])), hw⟩
theorem vmod (a b : Int) (w : World) (h : ¬ wrap32 b = 0) :
    Calls Try.prog 13 #[.int .i64 8, .int .i64 a, .int .i64 b] w fun e w' => e = .returned (.tuple #[.int .i64 ((wrap32 a).tmod (wrap32 b)), .int .i64 0]) ∧ w = w' :=
  (vtwo 8 a b w).mono fun _ _ ⟨he, hw⟩ => ⟨he.trans (ret_two (by simp [twoV, h]) (by simp [twoE, h])), hw⟩
theorem vshl (a c : Int) (w : World) :
    Calls Try.prog 13 #[.int .i64 11, .int .i64 a, .int .i64 c] w fun e w' => e = .returned (.tuple #[.int .i64 (shiftP (wrap32 a) (wrap32 c)), .int .i64 0]) ∧ w = w' :=
  (vtwo 11 a c w).mono fun _ _ ⟨he, hw⟩ => ⟨he.trans (ret_two (by simp [twoV]) (by simp [twoE])), hw⟩
theorem vshr (a c : Int) (w : World) :
    Calls Try.prog 13 #[.int .i64 12, .int .i64 a, .int .i64 c] w fun e w' => e = .returned (.tuple #[.int .i64 (shiftP (wrap32 a) (-wrap32 c)), .int .i64 0]) ∧ w = w' :=
  (vtwo 12 a c w).mono fun _ _ ⟨he, hw⟩ => ⟨he.trans (ret_two (by simp [twoV]) (by simp [twoE])), hw⟩
theorem back_way (a b : Int) : wrap32 (wrap32 (a + b) - b) = wrap32 a := by rw [w_sub_l]; congr 1; omega
theorem dist_way (a b : Int) : wrap32 (wrap32 (a * a) + wrap32 (a * b)) = wrap32 (a * wrap32 (a + b)) := by rw [w_add_l, w_add_r, w_mul_r, Int.mul_add]
theorem zero_way (a : Int) : wrap32 (a + wrap32 (-a)) = 0 := by rw [w_add_r, show a + -a = 0 by omega]; simp [wrap32]
theorem quot_way (a b : Int) : wrap32 (wrap32 (wrap32 ((wrap32 a).tdiv (wrap32 b)) * b) + (wrap32 a).tmod (wrap32 b)) = wrap32 a := by
  rw [w_mul_l, ← w_mul_r, w_add_l]
  have e : (wrap32 a).tdiv (wrap32 b) * wrap32 b + (wrap32 a).tmod (wrap32 b) = wrap32 a := by
    have := Int.tmod_add_mul_tdiv (wrap32 a) (wrap32 b); rw [Int.mul_comm] at this; omega
  rw [e]; exact wrap32_idem a
theorem other_way (a c : Int) (h : ¬ wrap32 c = -2147483648) : shiftP (wrap32 a) (-wrap32 (-wrap32 c)) = shiftP (wrap32 a) (wrap32 c) := by
  have hc := wrap32_bd c
  rw [wrap32_of (n := -wrap32 c) (by omega) (by omega)]; congr 1; omega

set_option maxRecDepth 100000 in
set_option maxHeartbeats 1000000 in
theorem walk0t (a b c : Int) (w : World) (h0 : wrap32 b = 0) (hx : wrap32 a < wrap32 b) :
    Calls Try.prog 6 #[.int .i64 a, .int .i64 b, .int .i64 c] w fun e w' => e = .returned (.bool true) ∧ Below w.heap.size w w' := by
  have HX : Hid (decide (wrap32 a < wrap32 b) = true) := by unfold Hid; simp; omega
  have hlt : decide (wrap32 a < wrap32 b) = true := HX.out
  have H0 := Lib.hid h0
  clear h0
  have hbb := wrap32_bd b
  have hbc := wrap32_bd c
  go_enter Try.func6, Try.ntmps6
  go_wp2_with fail
  refine (fit_int a _).mono ?_; rintro e w1 ⟨rfl, hb1⟩; obtain ⟨hc1, hf1⟩ := bcell hb1; have hz1 := hb1.size; simp at hz1
  have hx1 : w.heap.size < w1.heap.size := by omega
  have hB1 := (below_one w (.cells #[.int .i64 32, .bool true] 23)).trans (hb1.mono (by simp))
  go_wp2_with fail
  refine (fit_int b _).mono ?_; rintro e w2 ⟨rfl, hb2⟩
  have hB2 := hB1.trans (hb2.mono hB1.size)
  go_wp2_with fail
  refine (vadd a b _).mono ?_; rintro e w3 ⟨rfl, rfl⟩
  go_wp2_with fail
  refine (vsub _ b _).mono ?_; rintro e w3 ⟨rfl, rfl⟩; rw [back_way]
  go_wp2_with fail
  refine (vmul a _ _).mono ?_; rintro e w3 ⟨rfl, rfl⟩
  go_wp2_with fail
  refine (vmul a a _).mono ?_; rintro e w3 ⟨rfl, rfl⟩
  go_wp2_with fail
  refine (vmul a b _).mono ?_; rintro e w3 ⟨rfl, rfl⟩
  go_wp2_with fail
  refine (vadd _ _ _).mono ?_; rintro e w3 ⟨rfl, rfl⟩; rw [dist_way]
  go_wp2_with fail
  refine (vlt a b _ true HX.out).mono ?_; rintro e w3 ⟨rfl, rfl⟩; simp only [if_true]
  go_wp2_with fail
  refine (vge a b _ true HX.out).mono ?_; rintro e w3 ⟨rfl, rfl⟩; simp only [if_true]
  go_wp2_with fail
  refine (vneg a _).mono ?_; rintro e w3 ⟨rfl, rfl⟩
  go_wp2_with fail
  refine (vadd a _ _).mono ?_; rintro e w3 ⟨rfl, rfl⟩; rw [zero_way]
  have hy0 : (wrap32 b == 0) = true := by simpa using H0.out
  all_goals
    go_wp2_with fail
    refine (vdiv0 a b _ H0.out).mono ?_; rintro e w3 ⟨rfl, rfl⟩
    go_wp2_with fail
    refine (vmod0 a b _ H0.out).mono ?_; rintro e w3 ⟨rfl, rfl⟩
    go_wp2
    go_ret
    exact ⟨by simp, hB2⟩
set_option maxRecDepth 100000 in
set_option maxHeartbeats 1000000 in
theorem walk0f (a b c : Int) (w : World) (h0 : wrap32 b = 0) (hx : wrap32 b ≤ wrap32 a) :
    Calls Try.prog 6 #[.int .i64 a, .int .i64 b, .int .i64 c] w fun e w' => e = .returned (.bool true) ∧ Below w.heap.size w w' := by
  have HX : Hid (decide (wrap32 a < wrap32 b) = false) := by unfold Hid; simp; omega
  have hlt : decide (wrap32 a < wrap32 b) = false := HX.out
  have H0 := Lib.hid h0
  clear h0
  have hbb := wrap32_bd b
  have hbc := wrap32_bd c
  go_enter Try.func6, Try.ntmps6
  go_wp2_with fail
  refine (fit_int a _).mono ?_; rintro e w1 ⟨rfl, hb1⟩; obtain ⟨hc1, hf1⟩ := bcell hb1; have hz1 := hb1.size; simp at hz1
  have hx1 : w.heap.size < w1.heap.size := by omega
  have hB1 := (below_one w (.cells #[.int .i64 32, .bool true] 23)).trans (hb1.mono (by simp))
  go_wp2_with fail
  refine (fit_int b _).mono ?_; rintro e w2 ⟨rfl, hb2⟩
  have hB2 := hB1.trans (hb2.mono hB1.size)
  go_wp2_with fail
  refine (vadd a b _).mono ?_; rintro e w3 ⟨rfl, rfl⟩
  go_wp2_with fail
  refine (vsub _ b _).mono ?_; rintro e w3 ⟨rfl, rfl⟩; rw [back_way]
  go_wp2_with fail
  refine (vmul a _ _).mono ?_; rintro e w3 ⟨rfl, rfl⟩
  go_wp2_with fail
  refine (vmul a a _).mono ?_; rintro e w3 ⟨rfl, rfl⟩
  go_wp2_with fail
  refine (vmul a b _).mono ?_; rintro e w3 ⟨rfl, rfl⟩
  go_wp2_with fail
  refine (vadd _ _ _).mono ?_; rintro e w3 ⟨rfl, rfl⟩; rw [dist_way]
  go_wp2_with fail
  refine (vlt a b _ false HX.out).mono ?_; rintro e w3 ⟨rfl, rfl⟩; simp only [Bool.false_eq_true, if_false]
  go_wp2_with fail
  refine (vge a b _ false HX.out).mono ?_; rintro e w3 ⟨rfl, rfl⟩; simp only [Bool.false_eq_true, if_false]
  go_wp2_with fail
  refine (vneg a _).mono ?_; rintro e w3 ⟨rfl, rfl⟩
  go_wp2_with fail
  refine (vadd a _ _).mono ?_; rintro e w3 ⟨rfl, rfl⟩; rw [zero_way]
  have hy0 : (wrap32 b == 0) = true := by simpa using H0.out
  all_goals
    go_wp2_with fail
    refine (vdiv0 a b _ H0.out).mono ?_; rintro e w3 ⟨rfl, rfl⟩
    go_wp2_with fail
    refine (vmod0 a b _ H0.out).mono ?_; rintro e w3 ⟨rfl, rfl⟩
    go_wp2
    go_ret
    exact ⟨by simp, hB2⟩
set_option maxRecDepth 100000 in
set_option maxHeartbeats 1000000 in
theorem walk1t (a b c : Int) (w : World) (h0 : ¬ wrap32 b = 0) (hx : wrap32 a < wrap32 b) :
    Calls Try.prog 6 #[.int .i64 a, .int .i64 b, .int .i64 c] w fun e w' => e = .returned (.bool true) ∧ Below w.heap.size w w' := by
  have HX : Hid (decide (wrap32 a < wrap32 b) = true) := by unfold Hid; simp; omega
  have hlt : decide (wrap32 a < wrap32 b) = true := HX.out
  have H0 := Lib.hid h0
  clear h0
  have hbb := wrap32_bd b
  have hbc := wrap32_bd c
  go_enter Try.func6, Try.ntmps6
  go_wp2_with fail
  refine (fit_int a _).mono ?_; rintro e w1 ⟨rfl, hb1⟩; obtain ⟨hc1, hf1⟩ := bcell hb1; have hz1 := hb1.size; simp at hz1
  have hx1 : w.heap.size < w1.heap.size := by omega
  have hB1 := (below_one w (.cells #[.int .i64 32, .bool true] 23)).trans (hb1.mono (by simp))
  go_wp2_with fail
  refine (fit_int b _).mono ?_; rintro e w2 ⟨rfl, hb2⟩
  have hB2 := hB1.trans (hb2.mono hB1.size)
  go_wp2_with fail
  refine (vadd a b _).mono ?_; rintro e w3 ⟨rfl, rfl⟩
  go_wp2_with fail
  refine (vsub _ b _).mono ?_; rintro e w3 ⟨rfl, rfl⟩; rw [back_way]
  go_wp2_with fail
  refine (vmul a _ _).mono ?_; rintro e w3 ⟨rfl, rfl⟩
  go_wp2_with fail
  refine (vmul a a _).mono ?_; rintro e w3 ⟨rfl, rfl⟩
  go_wp2_with fail
  refine (vmul a b _).mono ?_; rintro e w3 ⟨rfl, rfl⟩
  go_wp2_with fail
  refine (vadd _ _ _).mono ?_; rintro e w3 ⟨rfl, rfl⟩; rw [dist_way]
  go_wp2_with fail
  refine (vlt a b _ true HX.out).mono ?_; rintro e w3 ⟨rfl, rfl⟩; simp only [if_true]
  go_wp2_with fail
  refine (vge a b _ true HX.out).mono ?_; rintro e w3 ⟨rfl, rfl⟩; simp only [if_true]
  go_wp2_with fail
  refine (vneg a _).mono ?_; rintro e w3 ⟨rfl, rfl⟩
  go_wp2_with fail
  refine (vadd a _ _).mono ?_; rintro e w3 ⟨rfl, rfl⟩; rw [zero_way]
  have hy0 : (wrap32 b == 0) = false := by simpa using H0.out
  have HQ := Lib.hid (quot_way a b)
  by_cases hl : wrap32 c = -2147483648
  · have hl' : (wrap32 c == -2147483648) = true := by simpa using hl
    clear hl
    all_goals
      go_wp2_with fail
      refine (vdiv a b _ H0.out).mono ?_; rintro e w3 ⟨rfl, rfl⟩
      go_wp2_with fail
      refine (vmod a b _ H0.out).mono ?_; rintro e w3 ⟨rfl, rfl⟩
      go_wp2_with fail
      refine (vmul _ b _).mono ?_; rintro e w3 ⟨rfl, rfl⟩
      go_wp2_with fail
      refine (vadd _ _ _).mono ?_; rintro e w3 ⟨rfl, rfl⟩; rw [HQ.out]
      go_wp2_with fail
      refine (vshl a c _).mono ?_; rintro e w3 ⟨rfl, rfl⟩
      go_wp2_with fail
      refine (rint c _).mono ?_; rintro e w4 ⟨rfl, hb4⟩
      go_wp2_with fail
      refine (vshr a _ _).mono ?_; rintro e w3 ⟨rfl, rfl⟩
      go_wp2_with fail
      refine (rint c _).mono ?_; rintro e w5 ⟨rfl, hb5⟩
      go_wp2
      go_ret
      exact ⟨by simp, (hB2.trans (hb4.mono hB2.size)).trans (hb5.mono (Nat.le_trans hB2.size hb4.size))⟩
  · have hl' : (wrap32 c == -2147483648) = false := by simpa using hl
    have HO := Lib.hid (other_way a c hl)
    clear hl
    all_goals
      go_wp2_with fail
      refine (vdiv a b _ H0.out).mono ?_; rintro e w3 ⟨rfl, rfl⟩
      go_wp2_with fail
      refine (vmod a b _ H0.out).mono ?_; rintro e w3 ⟨rfl, rfl⟩
      go_wp2_with fail
      refine (vmul _ b _).mono ?_; rintro e w3 ⟨rfl, rfl⟩
      go_wp2_with fail
      refine (vadd _ _ _).mono ?_; rintro e w3 ⟨rfl, rfl⟩; rw [HQ.out]
      go_wp2_with fail
      refine (vshl a c _).mono ?_; rintro e w3 ⟨rfl, rfl⟩
      go_wp2_with fail
      refine (rint c _).mono ?_; rintro e w4 ⟨rfl, hb4⟩
      go_wp2_with fail
      refine (vshr a _ _).mono ?_; rintro e w3 ⟨rfl, rfl⟩; rw [HO.out]
      go_wp2_with fail
      refine (rint c _).mono ?_; rintro e w5 ⟨rfl, hb5⟩
      go_wp2
      go_ret
      exact ⟨by simp, (hB2.trans (hb4.mono hB2.size)).trans (hb5.mono (Nat.le_trans hB2.size hb4.size))⟩
set_option maxRecDepth 100000 in
set_option maxHeartbeats 1000000 in
theorem walk1f (a b c : Int) (w : World) (h0 : ¬ wrap32 b = 0) (hx : wrap32 b ≤ wrap32 a) :
    Calls Try.prog 6 #[.int .i64 a, .int .i64 b, .int .i64 c] w fun e w' => e = .returned (.bool true) ∧ Below w.heap.size w w' := by
  have HX : Hid (decide (wrap32 a < wrap32 b) = false) := by unfold Hid; simp; omega
  have hlt : decide (wrap32 a < wrap32 b) = false := HX.out
  have H0 := Lib.hid h0
  clear h0
  have hbb := wrap32_bd b
  have hbc := wrap32_bd c
  go_enter Try.func6, Try.ntmps6
  go_wp2_with fail
  refine (fit_int a _).mono ?_; rintro e w1 ⟨rfl, hb1⟩; obtain ⟨hc1, hf1⟩ := bcell hb1; have hz1 := hb1.size; simp at hz1
  have hx1 : w.heap.size < w1.heap.size := by omega
  have hB1 := (below_one w (.cells #[.int .i64 32, .bool true] 23)).trans (hb1.mono (by simp))
  go_wp2_with fail
  refine (fit_int b _).mono ?_; rintro e w2 ⟨rfl, hb2⟩
  have hB2 := hB1.trans (hb2.mono hB1.size)
  go_wp2_with fail
  refine (vadd a b _).mono ?_; rintro e w3 ⟨rfl, rfl⟩
  go_wp2_with fail
  refine (vsub _ b _).mono ?_; rintro e w3 ⟨rfl, rfl⟩; rw [back_way]
  go_wp2_with fail
  refine (vmul a _ _).mono ?_; rintro e w3 ⟨rfl, rfl⟩
  go_wp2_with fail
  refine (vmul a a _).mono ?_; rintro e w3 ⟨rfl, rfl⟩
  go_wp2_with fail
  refine (vmul a b _).mono ?_; rintro e w3 ⟨rfl, rfl⟩
  go_wp2_with fail
  refine (vadd _ _ _).mono ?_; rintro e w3 ⟨rfl, rfl⟩; rw [dist_way]
  go_wp2_with fail
  refine (vlt a b _ false HX.out).mono ?_; rintro e w3 ⟨rfl, rfl⟩; simp only [Bool.false_eq_true, if_false]
  go_wp2_with fail
  refine (vge a b _ false HX.out).mono ?_; rintro e w3 ⟨rfl, rfl⟩; simp only [Bool.false_eq_true, if_false]
  go_wp2_with fail
  refine (vneg a _).mono ?_; rintro e w3 ⟨rfl, rfl⟩
  go_wp2_with fail
  refine (vadd a _ _).mono ?_; rintro e w3 ⟨rfl, rfl⟩; rw [zero_way]
  have hy0 : (wrap32 b == 0) = false := by simpa using H0.out
  have HQ := Lib.hid (quot_way a b)
  by_cases hl : wrap32 c = -2147483648
  · have hl' : (wrap32 c == -2147483648) = true := by simpa using hl
    clear hl
    all_goals
      go_wp2_with fail
      refine (vdiv a b _ H0.out).mono ?_; rintro e w3 ⟨rfl, rfl⟩
      go_wp2_with fail
      refine (vmod a b _ H0.out).mono ?_; rintro e w3 ⟨rfl, rfl⟩
      go_wp2_with fail
      refine (vmul _ b _).mono ?_; rintro e w3 ⟨rfl, rfl⟩
      go_wp2_with fail
      refine (vadd _ _ _).mono ?_; rintro e w3 ⟨rfl, rfl⟩; rw [HQ.out]
      go_wp2_with fail
      refine (vshl a c _).mono ?_; rintro e w3 ⟨rfl, rfl⟩
      go_wp2_with fail
      refine (rint c _).mono ?_; rintro e w4 ⟨rfl, hb4⟩
      go_wp2_with fail
      refine (vshr a _ _).mono ?_; rintro e w3 ⟨rfl, rfl⟩
      go_wp2_with fail
      refine (rint c _).mono ?_; rintro e w5 ⟨rfl, hb5⟩
      go_wp2
      go_ret
      exact ⟨by simp, (hB2.trans (hb4.mono hB2.size)).trans (hb5.mono (Nat.le_trans hB2.size hb4.size))⟩
  · have hl' : (wrap32 c == -2147483648) = false := by simpa using hl
    have HO := Lib.hid (other_way a c hl)
    clear hl
    all_goals
      go_wp2_with fail
      refine (vdiv a b _ H0.out).mono ?_; rintro e w3 ⟨rfl, rfl⟩
      go_wp2_with fail
      refine (vmod a b _ H0.out).mono ?_; rintro e w3 ⟨rfl, rfl⟩
      go_wp2_with fail
      refine (vmul _ b _).mono ?_; rintro e w3 ⟨rfl, rfl⟩
      go_wp2_with fail
      refine (vadd _ _ _).mono ?_; rintro e w3 ⟨rfl, rfl⟩; rw [HQ.out]
      go_wp2_with fail
      refine (vshl a c _).mono ?_; rintro e w3 ⟨rfl, rfl⟩
      go_wp2_with fail
      refine (rint c _).mono ?_; rintro e w4 ⟨rfl, hb4⟩
      go_wp2_with fail
      refine (vshr a _ _).mono ?_; rintro e w3 ⟨rfl, rfl⟩; rw [HO.out]
      go_wp2_with fail
      refine (rint c _).mono ?_; rintro e w5 ⟨rfl, hb5⟩
      go_wp2
      go_ret
      exact ⟨by simp, (hB2.trans (hb4.mono hB2.size)).trans (hb5.mono (Nat.le_trans hB2.size hb4.size))⟩
theorem walk (a b c : Int) (w : World) :
    Calls Try.prog 6 #[.int .i64 a, .int .i64 b, .int .i64 c] w fun e w' => e = .returned (.bool true) ∧ Below w.heap.size w w' := by
  by_cases h : wrap32 b = 0
  · by_cases hx : wrap32 a < wrap32 b
    · exact walk0t a b c w h hx
    · exact walk0f a b c w h (by omega)
  · by_cases hx : wrap32 a < wrap32 b
    · exact walk1t a b c w h hx
    · exact walk1f a b c w h (by omega)

set_option maxRecDepth 100000 in
theorem lifted (os : Os) (started : os.Started) (H : Type) (enc : TypeId × Value → H) :
    ReturnsInHanded {} Try.checked os 6 .any (Rows.valueRingSpec.pre6 enc Try.prog Try.f6 Rows.valueRingRow.domain false) (Rows.valueRingSpec.post enc Try.prog Try.f6 false true false false) := by
  refine returnsInHanded_of_change (C := Try.checked) own started (by kernel_rfl) Try.func6
    (ChangeSpec.witness6 (enc := enc) (C := Try.checked) false ⟨#[], #[.int .i64 0, .int .i64 0, .int .i64 0], []⟩ 8 (by kernel_rfl) (by kernel_rfl) (by kernel_rfl) (by kernel_rfl)) ?_
  intro W base args ds gs before hval0 hW hcnd _
  have hval : ∀ (j : Nat) t v, Try.f6.params[j]? = some t → args[j]? = some v → Value.okWide Try.prog W .any base t v := hval0
  have hW' := hW
  obtain ⟨p, q, hA0, hV, rfl, hfz, hnd⟩ := hW
  have hA : DataW.TrodAll enc Try.prog W 0 (fun _ => true) true Try.f6.params.toList args.toList ds p := hA0
  rw [Try.params6] at hA hval
  obtain ⟨v0, v1, v2, d0, d1, d2, p0, p1, p2, rfl, rfl, rfl, h0, h1, h2⟩ := trodAll_three hA
  obtain ⟨a, rfl, rfl, rfl, wa⟩ := open_int Try.underlying2 (hval 0 2 v0 rfl rfl) h0
  obtain ⟨b, rfl, rfl, rfl, wb⟩ := open_int Try.underlying2 (hval 1 2 v1 rfl rfl) h1
  obtain ⟨c, rfl, rfl, rfl, wc⟩ := open_int Try.underlying2 (hval 2 2 v2 rfl rfl) h2
  refine (walk a b c W).mono fun e W' ⟨he, hb⟩ => ?_
  subst he
  exact ⟨_, rfl, law_post laidOut (by kernel_rfl) rfl Try.underlying4 rfl hW' (fun ds h => match ds, h with | [_, _, _], _ => rfl) hb⟩

theorem over : Rows.valueRingRow.holds Try.pinned (OpenSpec.ofChange Rows.valueRingSpec) :=
  OpenClaim.holds_of_wide 6 Try.f6 rfl rfl rfl rfl rfl rfl rfl ⟨rfl, rfl, rfl, rfl, rfl⟩ rfl rfl rfl rfl rfl (by kernel_rfl) Try.func6 (by kernel_rfl)
    (of_decide_eq_true (by kernel_rfl)) (by unfold Func.isWrapper; first | (rw [if_pos (by decide +kernel)]; kernel_rfl) | (rw [if_neg (by decide +kernel)]; exact ⟨rfl, rfl⟩))
    (fun os started H enc _ => lifted os started H enc)

theorem proved : Rows.ValueRingSaid := over
end Go.Proofs.Ytcnadgfpnhemeaa.valueRing
