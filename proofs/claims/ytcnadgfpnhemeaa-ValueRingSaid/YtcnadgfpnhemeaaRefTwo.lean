/-
  The walks of the reference's shift, Two and One, and of layer 5's One.
-/
import Derived.Test.YtcnadgfpnhemeaaValTwo
namespace Go.Proofs.Ytcnadgfpnhemeaa
open Go.RowKit
theorem w32_64 (n : Int) : wrap32 (wrap64 n) = wrap32 n := by unfold wrap32 wrap64; omega

set_option maxHeartbeats 400000 in
theorem rshift_pos (a n : Int) (w : World) (ha : -2147483648 ≤ a ∧ a ≤ 2147483647) (hn : 0 < n) (h1 : n ≤ 2147483648) :
    Calls Try.prog 19 #[.int .i64 a, .int .i64 n] w fun e w' => e = .returned (.int .i64 (shiftP a n)) ∧ Below w.heap.size w w' := by
  have HP : Hid (shiftP a n = wrap32 (a * 2 ^ min n.toNat 32)) := by unfold Hid shiftP; rw [if_pos (by omega)]
  have H0 : Hid (wrap32 (a * 2 ^ 0) = a) := by unfold Hid; rw [Int.pow_zero, Int.mul_one]; exact wrap32_of ha.1 ha.2
  go_enter Try.func19, Try.ntmps19
  go_wp2
  go_loopw [0, 1] (fun x y wr => ∃ k : Nat, (k : Int) ≤ n ∧ x = .int .i64 (wrap32 (a * 2 ^ k)) ∧ y = .int .i64 (n - k) ∧ Below w.heap.size w wr) (fun _ y _ => (intOf y).toNat)
  case atStart => exact ⟨0, by omega, by rw [H0.out], by simp, Below.refl _ _⟩
  case round =>
    obtain ⟨k, hk, rfl, rfl, hb⟩ := hrel
    have hwb := wrap32_bd (a * 2 ^ k)
    by_cases hlt : (k : Int) < n
    · by_cases hz : wrap32 (a * 2 ^ k) = 0
      · have HQ : Hid (wrap32 (a * 2 ^ k) = shiftP a n) := by
          unfold Hid; rw [HP.out, ← shl_min, hz, shl_stays a k n.toNat hz (by omega)]
        have hz' : (wrap32 (a * 2 ^ k) != 0) = false := by simpa using hz
        clear hz
        go_wp2
        go_loopw [0, 1] (fun x y wr => x = .int .i64 (wrap32 (a * 2 ^ k)) ∧ y = .int .i64 (n - k) ∧ Below w.heap.size w wr) (fun _ _ _ => 0)
        case atStart => exact ⟨rfl, rfl, hb⟩
        case round =>
          obtain ⟨rfl, rfl, hb⟩ := hrel
          go_wp2
          go_ret
          exact ⟨ret_i64 HQ.out, hb⟩
      · have hz' : (wrap32 (a * 2 ^ k) != 0) = true := by simpa using hz
        have HS := Lib.hid (shl_step a k)
        clear hz
        go_wp2_with ((with_reducible refine (rint _ _).mono ?_); rintro e w1 ⟨rfl, hb1⟩)
        go_roundw
        case rel => exact ⟨k + 1, by omega, by rw [HS.out], by go_num, hb.trans (hb1.mono hb.size)⟩
        case measure => simp [intOf]; omega
    · have hkn : (k : Int) = n := by omega
      obtain rfl : n = (k : Int) := hkn.symm
      have HQ : Hid (wrap32 (a * 2 ^ k) = shiftP a k) := by
          unfold Hid; rw [HP.out, ← shl_min, Int.toNat_natCast]
      clear hlt
      go_wp2
      go_loopw [0, 1] (fun x y wr => x = .int .i64 (wrap32 (a * 2 ^ k)) ∧ y = .int .i64 0 ∧ Below w.heap.size w wr) (fun _ _ _ => 0)
      case atStart => exact ⟨rfl, by simp, hb⟩
      case round =>
        obtain ⟨rfl, rfl, hb⟩ := hrel
        go_wp2
        go_ret
        exact ⟨ret_i64 HQ.out, hb⟩

set_option maxHeartbeats 400000 in
theorem rshift_neg (a n : Int) (w : World) (ha : -2147483648 ≤ a ∧ a ≤ 2147483647) (hn : n ≤ 0) (h1 : -2147483648 ≤ n) :
    Calls Try.prog 19 #[.int .i64 a, .int .i64 n] w fun e w' => e = .returned (.int .i64 (shiftP a n)) ∧ Below w.heap.size w w' := by
  have HP : Hid (shiftP a n = a / 2 ^ min (-n).toNat 32) := by
    unfold Hid shiftP
    by_cases h0 : n = 0
    · subst h0; have := wrap32_of ha.1 ha.2; simpa using this
    · rw [if_neg (by omega)]
  have H0 : Hid (a / 2 ^ 0 = a) := by unfold Hid; rw [Int.pow_zero, Int.ediv_one]
  go_enter Try.func19, Try.ntmps19
  go_wp2
  go_loopw [0, 1] (fun x y wr => x = .int .i64 a ∧ y = .int .i64 n ∧ Below w.heap.size w wr) (fun _ _ _ => 0)
  case atStart => exact ⟨rfl, rfl, Below.refl _ _⟩
  case round =>
    obtain ⟨rfl, rfl, hb⟩ := hrel
    have hg : decide (0 < n) = false := by simp; omega
    go_wp2
    go_loopw [0, 1] (fun x y wr => ∃ k : Nat, (k : Int) ≤ -n ∧ x = .int .i64 (a / 2 ^ k) ∧ y = .int .i64 (n + k) ∧ Below w.heap.size w wr) (fun _ y _ => (-(intOf y)).toNat)
    case atStart => exact ⟨0, by omega, by rw [H0.out], by simp, hb⟩
    case round =>
      obtain ⟨k, hk, rfl, rfl, hb⟩ := hrel
      have hwb := shr_bd a k ha.1 ha.2
      by_cases hlt : (k : Int) < -n
      · by_cases hz : a / 2 ^ k = 0
        · have HQ : Hid (a / 2 ^ k = shiftP a n) := by
            unfold Hid; rw [HP.out, ← shr_min _ _ ha.1 ha.2, hz, shr_const a k (-n).toNat 0 (by simp) hz (by omega)]
          have hz' : (a / 2 ^ k != 0) = false := by simpa using hz
          clear hz
          go_wp2
          go_ret
          exact ⟨ret_i64 HQ.out, hb⟩
        · have hz' : (a / 2 ^ k != 0) = true := by simpa using hz
          by_cases hm : a / 2 ^ k = -1
          · have HQ : Hid (a / 2 ^ k = shiftP a n) := by
              unfold Hid; rw [HP.out, ← shr_min _ _ ha.1 ha.2, hm, shr_const a k (-n).toNat (-1) (by simp) hm (by omega)]
            have hm' : (a / 2 ^ k != -1) = false := by simpa using hm
            clear hm hz
            go_wp2
            go_ret
            exact ⟨ret_i64 HQ.out, hb⟩
          · have hm' : (a / 2 ^ k != -1) = true := by simpa using hm
            have HS := Lib.hid (shr_step a k)
            by_cases hs : a / 2 ^ k < 0
            · have HN := Lib.hid (half_neg (a / 2 ^ k) hs)
              clear hm hz
              go_wp2
              go_roundw
              case rel => exact ⟨k + 1, by omega, by rw [← HS.out, ← HN.out], by go_num, hb⟩
              case measure => simp [intOf]; omega
            · clear hm hz
              go_wp2
              go_roundw
              case rel => exact ⟨k + 1, by omega, by rw [← HS.out], by go_num, hb⟩
              case measure => simp [intOf]; omega
      · have hkn : (k : Int) = -n := by omega
        obtain rfl : n = -(k : Int) := by omega
        have HQ : Hid (a / 2 ^ k = shiftP a (-(k : Int))) := by
            unfold Hid; rw [HP.out, ← shr_min _ _ ha.1 ha.2]; congr 2; omega
        have hd : decide (-(k : Int) + k < 0) = false := by simp; omega
        clear hlt hkn
        go_wp2
        go_ret
        exact ⟨ret_i64 HQ.out, hb⟩

theorem rshift (a n : Int) (w : World) (ha : -2147483648 ≤ a ∧ a ≤ 2147483647) (h1 : -2147483648 ≤ n) (h2 : n ≤ 2147483648) :
    Calls Try.prog 19 #[.int .i64 a, .int .i64 n] w fun e w' => e = .returned (.int .i64 (shiftP a n)) ∧ Below w.heap.size w w' := by
  by_cases hn : 0 < n
  · exact rshift_pos a n w ha hn h2
  · exact rshift_neg a n w ha (by omega) h1

set_option maxHeartbeats 400000 in
theorem rtwo_6 (a b : Int) (w : World) :
    Calls Try.prog 14 #[.int .i64 6, .int .i64 a, .int .i64 b] w fun e w' => e = .returned (.tuple #[.int .i64 (twoV 6 a b), .int .i64 (twoE 6 b)]) ∧ Below w.heap.size w w' := by
  have hx := wrap32_bd a
  have hy := wrap32_bd b
  go_enter Try.func14, Try.ntmps14
  go_wp2_with fail
  refine (rint a _).mono ?_; rintro e w1 ⟨rfl, hb1⟩; have hz1 := hb1.size
  go_wp2_with fail
  refine (rint b _).mono ?_; rintro e w2 ⟨rfl, hb2⟩; have hz2 := hb2.size
  have hb := hb1.trans (hb2.mono hz1)
  go_wp2_with fail
  refine (rint _ _).mono ?_; rintro e w3 ⟨rfl, hb3⟩
  go_wp2
  go_ret2
  exact ⟨ret_two (by simp only [twoV]; first | exact w32_64 _ | rfl) (by simp [twoE]), hb.trans (hb3.mono hb.size)⟩

set_option maxHeartbeats 400000 in
theorem rtwo_9 (a b : Int) (w : World) :
    Calls Try.prog 14 #[.int .i64 9, .int .i64 a, .int .i64 b] w fun e w' => e = .returned (.tuple #[.int .i64 (twoV 9 a b), .int .i64 (twoE 9 b)]) ∧ Below w.heap.size w w' := by
  have hx := wrap32_bd a
  have hy := wrap32_bd b
  go_enter Try.func14, Try.ntmps14
  go_wp2_with fail
  refine (rint a _).mono ?_; rintro e w1 ⟨rfl, hb1⟩; have hz1 := hb1.size
  go_wp2_with fail
  refine (rint b _).mono ?_; rintro e w2 ⟨rfl, hb2⟩; have hz2 := hb2.size
  have hb := hb1.trans (hb2.mono hz1)
  go_wp2_with fail
  refine (rint _ _).mono ?_; rintro e w3 ⟨rfl, hb3⟩
  go_wp2
  go_ret2
  exact ⟨ret_two (by simp only [twoV]; first | exact w32_64 _ | rfl) (by simp [twoE]), hb.trans (hb3.mono hb.size)⟩

set_option maxHeartbeats 400000 in
theorem rtwo_10 (a b : Int) (w : World) :
    Calls Try.prog 14 #[.int .i64 10, .int .i64 a, .int .i64 b] w fun e w' => e = .returned (.tuple #[.int .i64 (twoV 10 a b), .int .i64 (twoE 10 b)]) ∧ Below w.heap.size w w' := by
  have hx := wrap32_bd a
  have hy := wrap32_bd b
  go_enter Try.func14, Try.ntmps14
  go_wp2_with fail
  refine (rint a _).mono ?_; rintro e w1 ⟨rfl, hb1⟩; have hz1 := hb1.size
  go_wp2_with fail
  refine (rint b _).mono ?_; rintro e w2 ⟨rfl, hb2⟩; have hz2 := hb2.size
  have hb := hb1.trans (hb2.mono hz1)
  go_wp2_with fail
  refine (rint _ _).mono ?_; rintro e w3 ⟨rfl, hb3⟩
  go_wp2
  go_ret2
  exact ⟨ret_two (by simp only [twoV]; first | exact w32_64 _ | rfl) (by simp [twoE]), hb.trans (hb3.mono hb.size)⟩

set_option maxHeartbeats 400000 in
theorem rtwo_7_z (a b : Int) (w : World) (h0 : wrap32 b = 0) :
    Calls Try.prog 14 #[.int .i64 7, .int .i64 a, .int .i64 b] w fun e w' => e = .returned (.tuple #[.int .i64 (twoV 7 a b), .int .i64 (twoE 7 b)]) ∧ Below w.heap.size w w' := by
  have hx := wrap32_bd a
  have hy := wrap32_bd b
  have HV : Hid (twoV 7 a b = 0) := by unfold Hid; simp [twoV, h0]
  have HE : Hid (twoE 7 b = 48) := by unfold Hid; simp [twoE, h0]
  have hb0 : (wrap32 b == 0) = true := by simpa using h0
  clear h0
  go_enter Try.func14, Try.ntmps14
  go_wp2_with fail
  refine (rint a _).mono ?_; rintro e w1 ⟨rfl, hb1⟩; have hz1 := hb1.size
  go_wp2_with fail
  refine (rint b _).mono ?_; rintro e w2 ⟨rfl, hb2⟩; have hz2 := hb2.size
  have hb := hb1.trans (hb2.mono hz1)
  go_wp2
  go_ret2
  exact ⟨ret_two HV.out.symm HE.out.symm, hb⟩

set_option maxHeartbeats 400000 in
theorem rtwo_7_n (a b : Int) (w : World) (h0 : ¬ wrap32 b = 0) :
    Calls Try.prog 14 #[.int .i64 7, .int .i64 a, .int .i64 b] w fun e w' => e = .returned (.tuple #[.int .i64 (twoV 7 a b), .int .i64 (twoE 7 b)]) ∧ Below w.heap.size w w' := by
  have hx := wrap32_bd a
  have hy := wrap32_bd b
  have HV : Hid (twoV 7 a b = wrap32 ((wrap32 a).tdiv (wrap32 b))) := by unfold Hid; simp [twoV, h0]
  have HE : Hid (twoE 7 b = 0) := by unfold Hid; simp [twoE, h0]
  have hb0 : (wrap32 b == 0) = false := by simpa using h0
  go_enter Try.func14, Try.ntmps14
  go_wp2_with fail
  refine (rint a _).mono ?_; rintro e w1 ⟨rfl, hb1⟩; have hz1 := hb1.size
  go_wp2_with fail
  refine (rint b _).mono ?_; rintro e w2 ⟨rfl, hb2⟩; have hz2 := hb2.size
  have hb := hb1.trans (hb2.mono hz1)
  go_wp2_with fail
  refine (rint _ _).mono ?_; rintro e w3 ⟨rfl, hb3⟩
  go_wp2
  go_ret2
  exact ⟨ret_two (by rw [HV.out]; first | exact w32_64 _ | rfl) HE.out.symm, hb.trans (hb3.mono hb.size)⟩

theorem rtwo_7 (a b : Int) (w : World) :
    Calls Try.prog 14 #[.int .i64 7, .int .i64 a, .int .i64 b] w fun e w' => e = .returned (.tuple #[.int .i64 (twoV 7 a b), .int .i64 (twoE 7 b)]) ∧ Below w.heap.size w w' := by
  by_cases h0 : wrap32 b = 0
  · exact rtwo_7_z a b w h0
  · exact rtwo_7_n a b w h0

set_option maxHeartbeats 400000 in
theorem rtwo_8_z (a b : Int) (w : World) (h0 : wrap32 b = 0) :
    Calls Try.prog 14 #[.int .i64 8, .int .i64 a, .int .i64 b] w fun e w' => e = .returned (.tuple #[.int .i64 (twoV 8 a b), .int .i64 (twoE 8 b)]) ∧ Below w.heap.size w w' := by
  have hx := wrap32_bd a
  have hy := wrap32_bd b
  have HV : Hid (twoV 8 a b = 0) := by unfold Hid; simp [twoV, h0]
  have HE : Hid (twoE 8 b = 48) := by unfold Hid; simp [twoE, h0]
  have hb0 : (wrap32 b == 0) = true := by simpa using h0
  clear h0
  go_enter Try.func14, Try.ntmps14
  go_wp2_with fail
  refine (rint a _).mono ?_; rintro e w1 ⟨rfl, hb1⟩; have hz1 := hb1.size
  go_wp2_with fail
  refine (rint b _).mono ?_; rintro e w2 ⟨rfl, hb2⟩; have hz2 := hb2.size
  have hb := hb1.trans (hb2.mono hz1)
  go_wp2
  go_ret2
  exact ⟨ret_two HV.out.symm HE.out.symm, hb⟩

set_option maxHeartbeats 400000 in
theorem rtwo_8_n (a b : Int) (w : World) (h0 : ¬ wrap32 b = 0) :
    Calls Try.prog 14 #[.int .i64 8, .int .i64 a, .int .i64 b] w fun e w' => e = .returned (.tuple #[.int .i64 (twoV 8 a b), .int .i64 (twoE 8 b)]) ∧ Below w.heap.size w w' := by
  have hx := wrap32_bd a
  have hy := wrap32_bd b
  have HV : Hid (twoV 8 a b = (wrap32 a).tmod (wrap32 b)) := by unfold Hid; simp [twoV, h0]
  have HE : Hid (twoE 8 b = 0) := by unfold Hid; simp [twoE, h0]
  have hb0 : (wrap32 b == 0) = false := by simpa using h0
  go_enter Try.func14, Try.ntmps14
  go_wp2_with fail
  refine (rint a _).mono ?_; rintro e w1 ⟨rfl, hb1⟩; have hz1 := hb1.size
  go_wp2_with fail
  refine (rint b _).mono ?_; rintro e w2 ⟨rfl, hb2⟩; have hz2 := hb2.size
  have hb := hb1.trans (hb2.mono hz1)
  go_wp2
  go_ret2
  exact ⟨ret_two HV.out.symm HE.out.symm, hb⟩

theorem rtwo_8 (a b : Int) (w : World) :
    Calls Try.prog 14 #[.int .i64 8, .int .i64 a, .int .i64 b] w fun e w' => e = .returned (.tuple #[.int .i64 (twoV 8 a b), .int .i64 (twoE 8 b)]) ∧ Below w.heap.size w w' := by
  by_cases h0 : wrap32 b = 0
  · exact rtwo_8_z a b w h0
  · exact rtwo_8_n a b w h0

set_option maxHeartbeats 400000 in
theorem rtwo_11 (a b : Int) (w : World) :
    Calls Try.prog 14 #[.int .i64 11, .int .i64 a, .int .i64 b] w fun e w' => e = .returned (.tuple #[.int .i64 (twoV 11 a b), .int .i64 (twoE 11 b)]) ∧ Below w.heap.size w w' := by
  have hx := wrap32_bd a
  have hy := wrap32_bd b
  go_enter Try.func14, Try.ntmps14
  go_wp2_with fail
  refine (rint a _).mono ?_; rintro e w1 ⟨rfl, hb1⟩; have hz1 := hb1.size
  go_wp2_with fail
  refine (rint b _).mono ?_; rintro e w2 ⟨rfl, hb2⟩; have hz2 := hb2.size
  have hb := hb1.trans (hb2.mono hz1)
  go_wp2_with fail
  refine (rshift _ _ _ hx (by omega) (by omega)).mono ?_; rintro e w3 ⟨rfl, hb3⟩
  go_wp2
  go_ret2
  exact ⟨ret_two (by simp only [twoV]; rfl) (by simp [twoE]), hb.trans (hb3.mono hb.size)⟩

set_option maxHeartbeats 400000 in
theorem rtwo_12 (a b : Int) (w : World) :
    Calls Try.prog 14 #[.int .i64 12, .int .i64 a, .int .i64 b] w fun e w' => e = .returned (.tuple #[.int .i64 (twoV 12 a b), .int .i64 (twoE 12 b)]) ∧ Below w.heap.size w w' := by
  have hx := wrap32_bd a
  have hy := wrap32_bd b
  go_enter Try.func14, Try.ntmps14
  go_wp2_with fail
  refine (rint a _).mono ?_; rintro e w1 ⟨rfl, hb1⟩; have hz1 := hb1.size
  go_wp2_with fail
  refine (rint b _).mono ?_; rintro e w2 ⟨rfl, hb2⟩; have hz2 := hb2.size
  have hb := hb1.trans (hb2.mono hz1)
  go_wp2_with fail
  refine (rshift _ _ _ hx (by omega) (by omega)).mono ?_; rintro e w3 ⟨rfl, hb3⟩
  go_wp2
  go_ret2
  exact ⟨ret_two (by simp only [twoV]; rfl) (by simp [twoE]), hb.trans (hb3.mono hb.size)⟩

set_option maxHeartbeats 400000 in
theorem rtwo_13 (a b : Int) (w : World) :
    Calls Try.prog 14 #[.int .i64 13, .int .i64 a, .int .i64 b] w fun e w' => e = .returned (.tuple #[.int .i64 (twoV 13 a b), .int .i64 (twoE 13 b)]) ∧ Below w.heap.size w w' := by
  have hx := wrap32_bd a
  have hy := wrap32_bd b
  go_enter Try.func14, Try.ntmps14
  go_wp2_with fail
  refine (rint a _).mono ?_; rintro e w1 ⟨rfl, hb1⟩; have hz1 := hb1.size
  go_wp2_with fail
  refine (rint b _).mono ?_; rintro e w2 ⟨rfl, hb2⟩; have hz2 := hb2.size
  have hb := hb1.trans (hb2.mono hz1)
  go_wp2_with fail
  refine (rone1 _ _).mono ?_; rintro e w3 ⟨rfl, rfl⟩
  go_wp2
  go_ret2
  exact ⟨ret_two (by simp only [twoV]; rfl) (by simp [twoE]), hb⟩

set_option maxHeartbeats 400000 in
theorem rtwo_14 (a b : Int) (w : World) :
    Calls Try.prog 14 #[.int .i64 14, .int .i64 a, .int .i64 b] w fun e w' => e = .returned (.tuple #[.int .i64 (twoV 14 a b), .int .i64 (twoE 14 b)]) ∧ Below w.heap.size w w' := by
  have hx := wrap32_bd a
  have hy := wrap32_bd b
  go_enter Try.func14, Try.ntmps14
  go_wp2_with fail
  refine (rint a _).mono ?_; rintro e w1 ⟨rfl, hb1⟩; have hz1 := hb1.size
  go_wp2_with fail
  refine (rint b _).mono ?_; rintro e w2 ⟨rfl, hb2⟩; have hz2 := hb2.size
  have hb := hb1.trans (hb2.mono hz1)
  go_wp2_with fail
  refine (rone1 _ _).mono ?_; rintro e w3 ⟨rfl, rfl⟩
  go_wp2
  go_ret2
  exact ⟨ret_two (by simp only [twoV]; rfl) (by simp [twoE]), hb⟩

set_option maxHeartbeats 400000 in
theorem rtwo_15 (a b : Int) (w : World) :
    Calls Try.prog 14 #[.int .i64 15, .int .i64 a, .int .i64 b] w fun e w' => e = .returned (.tuple #[.int .i64 (twoV 15 a b), .int .i64 (twoE 15 b)]) ∧ Below w.heap.size w w' := by
  have hx := wrap32_bd a
  have hy := wrap32_bd b
  go_enter Try.func14, Try.ntmps14
  go_wp2_with fail
  refine (rint a _).mono ?_; rintro e w1 ⟨rfl, hb1⟩; have hz1 := hb1.size
  go_wp2_with fail
  refine (rint b _).mono ?_; rintro e w2 ⟨rfl, hb2⟩; have hz2 := hb2.size
  have hb := hb1.trans (hb2.mono hz1)
  go_wp2_with fail
  refine (rone1 _ _).mono ?_; rintro e w3 ⟨rfl, rfl⟩
  go_wp2
  go_ret2
  exact ⟨ret_two (by simp only [twoV]; rfl) (by simp [twoE]), hb⟩

set_option maxHeartbeats 400000 in
theorem rtwo_16 (a b : Int) (w : World) :
    Calls Try.prog 14 #[.int .i64 16, .int .i64 a, .int .i64 b] w fun e w' => e = .returned (.tuple #[.int .i64 (twoV 16 a b), .int .i64 (twoE 16 b)]) ∧ Below w.heap.size w w' := by
  have hx := wrap32_bd a
  have hy := wrap32_bd b
  go_enter Try.func14, Try.ntmps14
  go_wp2_with fail
  refine (rint a _).mono ?_; rintro e w1 ⟨rfl, hb1⟩; have hz1 := hb1.size
  go_wp2_with fail
  refine (rint b _).mono ?_; rintro e w2 ⟨rfl, hb2⟩; have hz2 := hb2.size
  have hb := hb1.trans (hb2.mono hz1)
  go_wp2_with fail
  refine (rone1 _ _).mono ?_; rintro e w3 ⟨rfl, rfl⟩
  go_wp2
  go_ret2
  exact ⟨ret_two (by simp only [twoV]; rfl) (by simp [twoE]), hb⟩

set_option maxHeartbeats 400000 in
theorem rtwo_17 (a b : Int) (w : World) :
    Calls Try.prog 14 #[.int .i64 17, .int .i64 a, .int .i64 b] w fun e w' => e = .returned (.tuple #[.int .i64 (twoV 17 a b), .int .i64 (twoE 17 b)]) ∧ Below w.heap.size w w' := by
  have hx := wrap32_bd a
  have hy := wrap32_bd b
  go_enter Try.func14, Try.ntmps14
  go_wp2_with fail
  refine (rint a _).mono ?_; rintro e w1 ⟨rfl, hb1⟩; have hz1 := hb1.size
  go_wp2_with fail
  refine (rint b _).mono ?_; rintro e w2 ⟨rfl, hb2⟩; have hz2 := hb2.size
  have hb := hb1.trans (hb2.mono hz1)
  go_wp2_with fail
  refine (rone1 _ _).mono ?_; rintro e w3 ⟨rfl, rfl⟩
  go_wp2
  go_ret2
  exact ⟨ret_two (by simp only [twoV]; rfl) (by simp [twoE]), hb⟩

set_option maxHeartbeats 400000 in
theorem rtwo_18 (a b : Int) (w : World) :
    Calls Try.prog 14 #[.int .i64 18, .int .i64 a, .int .i64 b] w fun e w' => e = .returned (.tuple #[.int .i64 (twoV 18 a b), .int .i64 (twoE 18 b)]) ∧ Below w.heap.size w w' := by
  have hx := wrap32_bd a
  have hy := wrap32_bd b
  go_enter Try.func14, Try.ntmps14
  go_wp2_with fail
  refine (rint a _).mono ?_; rintro e w1 ⟨rfl, hb1⟩; have hz1 := hb1.size
  go_wp2_with fail
  refine (rint b _).mono ?_; rintro e w2 ⟨rfl, hb2⟩; have hz2 := hb2.size
  have hb := hb1.trans (hb2.mono hz1)
  go_wp2_with fail
  refine (rone1 _ _).mono ?_; rintro e w3 ⟨rfl, rfl⟩
  go_wp2
  go_ret2
  exact ⟨ret_two (by simp only [twoV]; rfl) (by simp [twoE]), hb⟩

set_option maxHeartbeats 400000 in
theorem rtwo_19 (a b : Int) (w : World) :
    Calls Try.prog 14 #[.int .i64 19, .int .i64 a, .int .i64 b] w fun e w' => e = .returned (.tuple #[.int .i64 (twoV 19 a b), .int .i64 (twoE 19 b)]) ∧ Below w.heap.size w w' := by
  have hx := wrap32_bd a
  have hy := wrap32_bd b
  go_enter Try.func14, Try.ntmps14
  go_wp2_with fail
  refine (rint a _).mono ?_; rintro e w1 ⟨rfl, hb1⟩; have hz1 := hb1.size
  go_wp2_with fail
  refine (rint b _).mono ?_; rintro e w2 ⟨rfl, hb2⟩; have hz2 := hb2.size
  have hb := hb1.trans (hb2.mono hz1)
  go_wp2
  go_ret2
  exact ⟨ret_two (by simp only [twoV]; exact bits_wide .and (by simp) _ _ hx hy) (by simp [twoE]), hb⟩

set_option maxHeartbeats 400000 in
theorem rtwo_20 (a b : Int) (w : World) :
    Calls Try.prog 14 #[.int .i64 20, .int .i64 a, .int .i64 b] w fun e w' => e = .returned (.tuple #[.int .i64 (twoV 20 a b), .int .i64 (twoE 20 b)]) ∧ Below w.heap.size w w' := by
  have hx := wrap32_bd a
  have hy := wrap32_bd b
  go_enter Try.func14, Try.ntmps14
  go_wp2_with fail
  refine (rint a _).mono ?_; rintro e w1 ⟨rfl, hb1⟩; have hz1 := hb1.size
  go_wp2_with fail
  refine (rint b _).mono ?_; rintro e w2 ⟨rfl, hb2⟩; have hz2 := hb2.size
  have hb := hb1.trans (hb2.mono hz1)
  go_wp2
  go_ret2
  exact ⟨ret_two (by simp only [twoV]; exact bits_wide .xor (by simp) _ _ hx hy) (by simp [twoE]), hb⟩

set_option maxHeartbeats 400000 in
theorem rtwo_21 (a b : Int) (w : World) :
    Calls Try.prog 14 #[.int .i64 21, .int .i64 a, .int .i64 b] w fun e w' => e = .returned (.tuple #[.int .i64 (twoV 21 a b), .int .i64 (twoE 21 b)]) ∧ Below w.heap.size w w' := by
  have hx := wrap32_bd a
  have hy := wrap32_bd b
  go_enter Try.func14, Try.ntmps14
  go_wp2_with fail
  refine (rint a _).mono ?_; rintro e w1 ⟨rfl, hb1⟩; have hz1 := hb1.size
  go_wp2_with fail
  refine (rint b _).mono ?_; rintro e w2 ⟨rfl, hb2⟩; have hz2 := hb2.size
  have hb := hb1.trans (hb2.mono hz1)
  go_wp2
  go_ret2
  exact ⟨ret_two (by simp only [twoV]; exact bits_wide .or (by simp) _ _ hx hy) (by simp [twoE]), hb⟩

set_option maxHeartbeats 400000 in
theorem rtwo_no (op : Int) (a b : Int) (w : World) (ho : op < 6 ∨ 21 < op) :
    Calls Try.prog 14 #[.int .i64 op, .int .i64 a, .int .i64 b] w fun e w' => e = .returned (.tuple #[.int .i64 (twoV op a b), .int .i64 (twoE op b)]) ∧ Below w.heap.size w w' := by
  have hx := wrap32_bd a
  have hy := wrap32_bd b
  have HV : Hid (twoV op a b = 0) := by unfold Hid twoV; repeat (rw [if_neg (by omega)])
  have HE : Hid (twoE op b = 42) := by unfold Hid twoE; rw [if_neg (by omega), if_neg (by omega)]
  have e6 : (op == 6) = false := by simp; omega
  have e7 : (op == 7) = false := by simp; omega
  have e8 : (op == 8) = false := by simp; omega
  have e9 : (op == 9) = false := by simp; omega
  have e10 : (op == 10) = false := by simp; omega
  have e11 : (op == 11) = false := by simp; omega
  have e12 : (op == 12) = false := by simp; omega
  have e13 : (op == 13) = false := by simp; omega
  have e14 : (op == 14) = false := by simp; omega
  have e15 : (op == 15) = false := by simp; omega
  have e16 : (op == 16) = false := by simp; omega
  have e17 : (op == 17) = false := by simp; omega
  have e18 : (op == 18) = false := by simp; omega
  have e19 : (op == 19) = false := by simp; omega
  have e20 : (op == 20) = false := by simp; omega
  have e21 : (op == 21) = false := by simp; omega
  clear ho
  go_enter Try.func14, Try.ntmps14
  go_wp2_with fail
  refine (rint a _).mono ?_; rintro e w1 ⟨rfl, hb1⟩; have hz1 := hb1.size
  go_wp2_with fail
  refine (rint b _).mono ?_; rintro e w2 ⟨rfl, hb2⟩; have hz2 := hb2.size
  have hb := hb1.trans (hb2.mono hz1)
  go_wp2
  go_ret2
  exact ⟨ret_two HV.out.symm HE.out.symm, hb⟩

theorem rtwo (op a b : Int) (w : World) :
    Calls Try.prog 14 #[.int .i64 op, .int .i64 a, .int .i64 b] w fun e w' => e = .returned (.tuple #[.int .i64 (twoV op a b), .int .i64 (twoE op b)]) ∧ Below w.heap.size w w' := by
  by_cases ho : op < 6 ∨ 21 < op
  · exact rtwo_no op a b w ho
  · have h : op = 6 ∨ op = 7 ∨ op = 8 ∨ op = 9 ∨ op = 10 ∨ op = 11 ∨ op = 12 ∨ op = 13 ∨ op = 14 ∨ op = 15 ∨ op = 16 ∨ op = 17 ∨ op = 18 ∨ op = 19 ∨ op = 20 ∨ op = 21 := by omega
    rcases h with rfl | rfl | rfl | rfl | rfl | rfl | rfl | rfl | rfl | rfl | rfl | rfl | rfl | rfl | rfl | rfl
    · exact rtwo_6 a b w
    · exact rtwo_7 a b w
    · exact rtwo_8 a b w
    · exact rtwo_9 a b w
    · exact rtwo_10 a b w
    · exact rtwo_11 a b w
    · exact rtwo_12 a b w
    · exact rtwo_13 a b w
    · exact rtwo_14 a b w
    · exact rtwo_15 a b w
    · exact rtwo_16 a b w
    · exact rtwo_17 a b w
    · exact rtwo_18 a b w
    · exact rtwo_19 a b w
    · exact rtwo_20 a b w
    · exact rtwo_21 a b w

set_option maxHeartbeats 400000 in
theorem vone_3 (a : Int) (w : World) :
    Calls Try.prog 11 #[.int .i64 3, .int .i64 a] w fun e w' => e = .returned (.tuple #[.int .i64 (oneV 3 a), .int .i64 (oneE 3)]) ∧ w = w' := by
  have hx := wrap32_bd a
  go_enter Try.func11, Try.ntmps11
  go_wp2_with (go_at_call 16; (with_reducible refine (vtruth _ _).mono ?_); rintro e w1 ⟨rfl, rfl⟩)
  go_ret2
  exact ⟨ret_two (by simp only [oneV]; first | rfl | exact wrap64_of32 _ | exact (flip_i32 a) | (simp; omega)) (by simp [oneE]), rfl⟩

set_option maxHeartbeats 400000 in
theorem vone_4 (a : Int) (w : World) :
    Calls Try.prog 11 #[.int .i64 4, .int .i64 a] w fun e w' => e = .returned (.tuple #[.int .i64 (oneV 4 a), .int .i64 (oneE 4)]) ∧ w = w' := by
  have hx := wrap32_bd a
  go_enter Try.func11, Try.ntmps11
  go_wp2_with (go_at_call 16; (with_reducible refine (vtruth _ _).mono ?_); rintro e w1 ⟨rfl, rfl⟩)
  go_ret2
  exact ⟨ret_two (by simp only [oneV]; first | rfl | exact wrap64_of32 _ | exact (flip_i32 a) | (simp; omega)) (by simp [oneE]), rfl⟩

set_option maxHeartbeats 400000 in
theorem vone_5 (a : Int) (w : World) :
    Calls Try.prog 11 #[.int .i64 5, .int .i64 a] w fun e w' => e = .returned (.tuple #[.int .i64 (oneV 5 a), .int .i64 (oneE 5)]) ∧ w = w' := by
  have hx := wrap32_bd a
  go_enter Try.func11, Try.ntmps11
  go_wp2_with (go_at_call 16; (with_reducible refine (vtruth _ _).mono ?_); rintro e w1 ⟨rfl, rfl⟩)
  go_ret2
  exact ⟨ret_two (by simp only [oneV]; first | rfl | exact wrap64_of32 _ | exact (flip_i32 a) | (simp; omega)) (by simp [oneE]), rfl⟩

set_option maxHeartbeats 400000 in
theorem vone (op a : Int) (w : World) :
    Calls Try.prog 11 #[.int .i64 op, .int .i64 a] w fun e w' => e = .returned (.tuple #[.int .i64 (oneV op a), .int .i64 (oneE op)]) ∧ w = w' := by
  by_cases ho : op = 3 ∨ op = 4 ∨ op = 5
  · rcases ho with rfl | rfl | rfl
    · exact vone_3 a w
    · exact vone_4 a w
    · exact vone_5 a w
  have HV : Hid (oneV op a = 0) := by unfold Hid oneV; repeat (rw [if_neg (by omega)])
  have HE : Hid (oneE op = 42) := by unfold Hid oneE; rw [if_neg (by omega)]
  have e3 : (op == 3) = false := by simp; omega
  have e4 : (op == 4) = false := by simp; omega
  have e5 : (op == 5) = false := by simp; omega
  clear ho
  go_enter Try.func11, Try.ntmps11
  go_wp2
  go_ret2
  exact ⟨ret_two HV.out.symm HE.out.symm, rfl⟩

set_option maxHeartbeats 400000 in
theorem rone_3 (a : Int) (w : World) :
    Calls Try.prog 12 #[.int .i64 3, .int .i64 a] w fun e w' => e = .returned (.tuple #[.int .i64 (oneV 3 a), .int .i64 (oneE 3)]) ∧ Below w.heap.size w w' := by
  have hx := wrap32_bd a
  go_enter Try.func12, Try.ntmps12
  go_wp2_with fail
  refine (rint a _).mono ?_; rintro e w1 ⟨rfl, hb1⟩; have hz1 := hb1.size
  go_wp2_with fail
  refine (rint _ _).mono ?_; rintro e w3 ⟨rfl, hb3⟩
  go_wp2
  go_ret2
  exact ⟨ret_two (by simp only [oneV]; first | rfl | exact wrap64_of32 _ | exact (flip_i32 a) | (simp; omega)) (by simp [oneE]), hb1.trans (hb3.mono hb1.size)⟩

set_option maxHeartbeats 400000 in
theorem rone_4 (a : Int) (w : World) :
    Calls Try.prog 12 #[.int .i64 4, .int .i64 a] w fun e w' => e = .returned (.tuple #[.int .i64 (oneV 4 a), .int .i64 (oneE 4)]) ∧ Below w.heap.size w w' := by
  have hx := wrap32_bd a
  go_enter Try.func12, Try.ntmps12
  go_wp2_with fail
  refine (rint a _).mono ?_; rintro e w1 ⟨rfl, hb1⟩; have hz1 := hb1.size
  go_wp2_with fail
  refine (rone1 _ _).mono ?_; rintro e w3 ⟨rfl, rfl⟩
  go_wp2
  go_ret2
  exact ⟨ret_two (by simp only [oneV]; first | rfl | exact wrap64_of32 _ | exact (flip_i32 a) | (simp; omega)) (by simp [oneE]), hb1⟩

set_option maxHeartbeats 400000 in
theorem rone_5 (a : Int) (w : World) :
    Calls Try.prog 12 #[.int .i64 5, .int .i64 a] w fun e w' => e = .returned (.tuple #[.int .i64 (oneV 5 a), .int .i64 (oneE 5)]) ∧ Below w.heap.size w w' := by
  have hx := wrap32_bd a
  go_enter Try.func12, Try.ntmps12
  go_wp2_with fail
  refine (rint a _).mono ?_; rintro e w1 ⟨rfl, hb1⟩; have hz1 := hb1.size
  go_wp2
  go_ret2
  exact ⟨ret_two (by simp only [oneV]; first | rfl | exact wrap64_of32 _ | exact (flip_i32 a) | (simp; omega)) (by simp [oneE]), hb1⟩

set_option maxHeartbeats 400000 in
theorem rone (op a : Int) (w : World) :
    Calls Try.prog 12 #[.int .i64 op, .int .i64 a] w fun e w' => e = .returned (.tuple #[.int .i64 (oneV op a), .int .i64 (oneE op)]) ∧ Below w.heap.size w w' := by
  by_cases ho : op = 3 ∨ op = 4 ∨ op = 5
  · rcases ho with rfl | rfl | rfl
    · exact rone_3 a w
    · exact rone_4 a w
    · exact rone_5 a w
  have HV : Hid (oneV op a = 0) := by unfold Hid oneV; repeat (rw [if_neg (by omega)])
  have HE : Hid (oneE op = 42) := by unfold Hid oneE; rw [if_neg (by omega)]
  have e3 : (op == 3) = false := by simp; omega
  have e4 : (op == 4) = false := by simp; omega
  have e5 : (op == 5) = false := by simp; omega
  clear ho
  go_enter Try.func12, Try.ntmps12
  go_wp2_with fail
  refine (rint a _).mono ?_; rintro e w1 ⟨rfl, hb1⟩; have hz1 := hb1.size
  go_wp2
  go_ret2
  exact ⟨ret_two HV.out.symm HE.out.symm, hb1⟩
end Go.Proofs.Ytcnadgfpnhemeaa
