/-
  Texts, joined: ValPlain, TwoPlain.
-/
import Derived.WalkKit
/-
  The plain arithmetic of layer 5: what becomes of a number in a type, the reckoning with one and two numbers. No program in sight.
-/
namespace Go.Proofs.YthmhbmikcdfkcaaDoor
open Go.RowKit

/-- What becomes of v in a type of b bits, with a sign or without. -/
def fitP (b : Int) (s : Bool) (v : Int) : Int :=
  if 1 ≤ b ∧ b ≤ 32 then (if s then (v + 2 ^ b.toNat / 2) % 2 ^ b.toNat - 2 ^ b.toNat / 2 else v % 2 ^ b.toNat) else 0

theorem cases32 {P : Int → Prop} (b : Int) (h1 : 1 ≤ b) (h2 : b ≤ 32)
    (h : ∀ k : Nat, k < 32 → P (k + 1)) : P b := by
  have e : b = ((b - 1).toNat : Int) + 1 := by omega
  rw [e]; exact h _ (by omega)

theorem fit_out (b v : Int) (s : Bool) (h : b < 1 ∨ 32 < b) : fitP b s v = 0 := by
  unfold fitP; rw [if_neg (by omega)]

theorem fit_shl_shr (b v : Int) (h1 : 1 ≤ b) (h2 : b ≤ 32) : wrap64 (v * 2 ^ (64 - b).toNat) / 2 ^ (64 - b).toNat = fitP b true v := by
  have hb : b = 1 ∨ b = 2 ∨ b = 3 ∨ b = 4 ∨ b = 5 ∨ b = 6 ∨ b = 7 ∨ b = 8 ∨ b = 9 ∨ b = 10 ∨ b = 11 ∨ b = 12 ∨ b = 13 ∨ b = 14 ∨ b = 15 ∨ b = 16 ∨ b = 17 ∨ b = 18 ∨ b = 19 ∨ b = 20 ∨ b = 21 ∨ b = 22 ∨ b = 23 ∨ b = 24 ∨ b = 25 ∨ b = 26 ∨ b = 27 ∨ b = 28 ∨ b = 29 ∨ b = 30 ∨ b = 31 ∨ b = 32 := by omega
  unfold wrap64 fitP
  rcases hb with h | h | h | h | h | h | h | h | h | h | h | h | h | h | h | h | h | h | h | h | h | h | h | h | h | h | h | h | h | h | h | h <;>
    subst h <;> simp <;> omega

theorem toNat_wrap_i64 (r : BitVec 64) : IntKind.i64.wrap (r.toNat : Int) = r.toInt := by
  rw [IntKind.wrap_i64, BitVec.toInt_eq_toNat_cond]
  have := r.isLt
  split <;> omega
theorem toNat_wrap_i32 (r : BitVec 32) : IntKind.i32.wrap (r.toNat : Int) = r.toInt := by
  rw [IntKind.wrap_i32, BitVec.toInt_eq_toNat_cond]
  have := r.isLt
  split <;> omega

theorem and_i64_nat (v : Int) (m : Nat) (hm : m < 32) : bits .and .i64 v (((2 ^ (m + 1) : Nat) : Int) - 1) = v % ((2 ^ (m + 1) : Nat) : Int) := by
  show IntKind.i64.wrap ((BitVec.ofInt 64 v &&& BitVec.ofInt 64 (((2 ^ (m + 1) : Nat) : Int) - 1)).toNat : Int) = _
  have hp : 2 ^ (m + 1) ≤ 2 ^ 32 := Nat.pow_le_pow_right (by decide) (by omega)
  have hpos : 0 < 2 ^ (m + 1) := Nat.two_pow_pos _
  have e1 : (((2 ^ (m + 1) : Nat) : Int) - 1) = ((2 ^ (m + 1) - 1 : Nat) : Int) := by omega
  rw [BitVec.toNat_and, e1, BitVec.ofInt_natCast, BitVec.toNat_ofNat, BitVec.toNat_ofInt]
  have e2 : (2 ^ (m + 1) - 1) % 2 ^ 64 = 2 ^ (m + 1) - 1 := Nat.mod_eq_of_lt (by omega)
  rw [e2, Nat.and_two_pow_sub_one_eq_mod]
  have hlt : (v % ((2 ^ 64 : Nat) : Int)).toNat % 2 ^ (m + 1) < 2 ^ (m + 1) := Nat.mod_lt _ hpos
  rw [IntWalk.i64_in _ (by omega)]
  have hnn : 0 ≤ v % ((2 ^ 64 : Nat) : Int) := Int.emod_nonneg _ (by decide)
  have hd : ((2 ^ (m + 1) : Nat) : Int) ∣ ((2 ^ 64 : Nat) : Int) := by
    have : 2 ^ (m + 1) ∣ 2 ^ 64 := Nat.pow_dvd_pow 2 (by omega)
    exact Int.natCast_dvd_natCast.2 this
  rw [Int.natCast_emod, Int.toNat_of_nonneg hnn]
  exact Int.emod_emod_of_dvd _ hd

theorem fit_mask (b v : Int) (h1 : 1 ≤ b) (h2 : b ≤ 32) : bits .and .i64 v (wrap64 (wrap64 (2 ^ b.toNat) - 1)) = fitP b false v := by
  obtain ⟨m, rfl⟩ : ∃ m : Nat, b = (m : Int) + 1 := ⟨(b - 1).toNat, by omega⟩
  have hm : m < 32 := by omega
  have e : ((m : Int) + 1).toNat = m + 1 := by omega
  have hp : 2 ^ (m + 1) ≤ 2 ^ 32 := Nat.pow_le_pow_right (by decide) (by omega)
  have hpos : 0 < 2 ^ (m + 1) := Nat.two_pow_pos _
  have ec : (2 : Int) ^ (m + 1) = ((2 ^ (m + 1) : Nat) : Int) := by simp
  unfold fitP
  rw [if_pos ⟨h1, h2⟩, e, ec, IntWalk.wrap64_in ((2 ^ (m + 1) : Nat) : Int) (by omega), IntWalk.wrap64_in _ (by omega), and_i64_nat v m hm]
  simp

/-- The reference's way: the remainder, cut towards nought, brought up from below 0, and down where the sign is wanted. -/
theorem fit_ref (b v : Int) (h1 : 1 ≤ b) (h2 : b ≤ 32) (s : Bool) :
    (if s then (if 2 ^ b.toNat / 2 ≤ v % 2 ^ b.toNat then v % 2 ^ b.toNat - 2 ^ b.toNat else v % 2 ^ b.toNat) else v % 2 ^ b.toNat) = fitP b s v := by
  have hb : b = 1 ∨ b = 2 ∨ b = 3 ∨ b = 4 ∨ b = 5 ∨ b = 6 ∨ b = 7 ∨ b = 8 ∨ b = 9 ∨ b = 10 ∨ b = 11 ∨ b = 12 ∨ b = 13 ∨ b = 14 ∨ b = 15 ∨ b = 16 ∨ b = 17 ∨ b = 18 ∨ b = 19 ∨ b = 20 ∨ b = 21 ∨ b = 22 ∨ b = 23 ∨ b = 24 ∨ b = 25 ∨ b = 26 ∨ b = 27 ∨ b = 28 ∨ b = 29 ∨ b = 30 ∨ b = 31 ∨ b = 32 := by omega
  unfold fitP
  cases s
  · simp [h1, h2]
  · rcases hb with h | h | h | h | h | h | h | h | h | h | h | h | h | h | h | h | h | h | h | h | h | h | h | h | h | h | h | h | h | h | h | h <;>
      subst h <;> simp <;> split <;> omega

theorem pow_bd (b : Int) (h1 : 1 ≤ b) (h2 : b ≤ 32) : (2 : Int) ≤ 2 ^ b.toNat ∧ (2 : Int) ^ b.toNat ≤ 4294967296 := by
  obtain ⟨m, hm⟩ : ∃ m : Nat, b.toNat = m + 1 := ⟨b.toNat - 1, by omega⟩
  rw [hm]
  have hp : 2 ^ (m + 1) ≤ 2 ^ 32 := Nat.pow_le_pow_right (by decide) (by omega)
  have hq : 2 ^ 1 ≤ 2 ^ (m + 1) := Nat.pow_le_pow_right (by decide) (by omega)
  have ec : (2 : Int) ^ (m + 1) = ((2 ^ (m + 1) : Nat) : Int) := by simp
  rw [ec]; omega

theorem tm_lt (v m : Int) (hm : 0 < m) (h : v.tmod m < 0) : v.tmod m + m = v % m := by
  have h0 := Int.tmod_eq_emod (a := v) (b := m)
  have h1 := Int.emod_nonneg v (b := m) (by omega)
  have h2 := Int.emod_lt_of_pos v hm
  rw [h0] at h ⊢
  split at h <;> rename_i hc
  · omega
  · rw [if_neg hc]; omega
theorem tm_ge (v m : Int) (hm : 0 < m) (h : 0 ≤ v.tmod m) : v.tmod m = v % m := by
  have h0 := Int.tmod_eq_emod (a := v) (b := m)
  have h1 := Int.emod_nonneg v (b := m) (by omega)
  have h2 := Int.emod_lt_of_pos v hm
  rw [h0] at h ⊢
  split at h <;> rename_i hc
  · rw [if_pos hc]; omega
  · omega
theorem fit_ref_t (b v x : Int) (h1 : 1 ≤ b) (h2 : b ≤ 32) (hx : x = v % 2 ^ b.toNat) (h : 2 ^ b.toNat / 2 ≤ x) : x - 2 ^ b.toNat = fitP b true v := by
  have := fit_ref b v h1 h2 true
  rw [if_pos rfl, ← hx, if_pos h] at this; exact this
theorem fit_ref_f (b v x : Int) (h1 : 1 ≤ b) (h2 : b ≤ 32) (hx : x = v % 2 ^ b.toNat) (h : x < 2 ^ b.toNat / 2) : x = fitP b true v := by
  have := fit_ref b v h1 h2 true
  rw [if_pos rfl, ← hx, if_neg (by omega)] at this; exact this
theorem fit_ref_u (b v x : Int) (h1 : 1 ≤ b) (h2 : b ≤ 32) (hx : x = v % 2 ^ b.toNat) : x = fitP b false v := by
  have := fit_ref b v h1 h2 false
  rw [if_neg (by decide), ← hx] at this; exact this

theorem pow_even (b : Int) (h1 : 1 ≤ b) : ∃ k : Int, (2 : Int) ^ b.toNat = 2 * k := by
  obtain ⟨m, hm⟩ : ∃ m : Nat, b.toNat = m + 1 := ⟨b.toNat - 1, by omega⟩
  exact ⟨2 ^ m, by rw [hm, Int.pow_succ, Int.mul_comm]⟩

theorem fitP_bd (b v : Int) (s : Bool) : -2147483648 ≤ fitP b s v ∧ fitP b s v ≤ 4294967295 := by
  unfold fitP
  by_cases h : 1 ≤ b ∧ b ≤ 32
  · have hb := pow_bd b h.1 h.2
    rw [if_pos h]
    have h3 := Int.emod_nonneg v (b := 2 ^ b.toNat) (by omega)
    have h4 := Int.emod_lt_of_pos v (b := 2 ^ b.toNat) (by omega)
    have h5 := Int.emod_nonneg (v + 2 ^ b.toNat / 2) (b := 2 ^ b.toNat) (by omega)
    have h6 := Int.emod_lt_of_pos (v + 2 ^ b.toNat / 2) (b := 2 ^ b.toNat) (by omega)
    split <;> omega
  · rw [if_neg h]; omega

theorem fitP_idem (b v : Int) (s : Bool) : fitP b s (fitP b s v) = fitP b s v := by
  unfold fitP
  by_cases h : 1 ≤ b ∧ b ≤ 32
  · simp only [if_pos h]
    cases s
    · simp
    · simp only [if_true]
      have e : (v + 2 ^ b.toNat / 2) % 2 ^ b.toNat - 2 ^ b.toNat / 2 + 2 ^ b.toNat / 2 = (v + 2 ^ b.toNat / 2) % 2 ^ b.toNat := by omega
      rw [e, Int.emod_emod]
  · simp only [if_neg h]

theorem fitP_int (v : Int) : fitP 32 true v = wrap32 v := by
  unfold fitP wrap32; simp

end Go.Proofs.YthmhbmikcdfkcaaDoor
/-
  The plain arithmetic of reckoning with one and two numbers of 32 bits. No program in sight.
-/
namespace Go.Proofs.YthmhbmikcdfkcaaDoor
open Go.RowKit

theorem wrap32_bd (n : Int) : -2147483648 ≤ wrap32 n ∧ wrap32 n ≤ 2147483647 := by unfold wrap32; omega
theorem wrap32_of {n : Int} (h : -2147483648 ≤ n) (h' : n ≤ 2147483647) : wrap32 n = n := by unfold wrap32; omega
theorem wrap64_of32 (n : Int) : wrap64 (wrap32 n) = wrap32 n := by have := wrap32_bd n; exact IntWalk.wrap64_in _ (by omega)
theorem wrap32_idem (n : Int) : wrap32 (wrap32 n) = wrap32 n := by have := wrap32_bd n; exact wrap32_of this.1 this.2
theorem wrap32_mod (n : Int) : wrap32 n % 4294967296 = n % 4294967296 := by unfold wrap32; omega
theorem wrap32_eq {m n : Int} (h : m % 4294967296 = n % 4294967296) : wrap32 m = wrap32 n := by unfold wrap32; omega
theorem w_mul_l (a b : Int) : wrap32 (wrap32 a * b) = wrap32 (a * b) := wrap32_eq (by rw [Int.mul_emod, wrap32_mod, ← Int.mul_emod])
theorem w_mul_r (a b : Int) : wrap32 (a * wrap32 b) = wrap32 (a * b) := wrap32_eq (by rw [Int.mul_emod, wrap32_mod, ← Int.mul_emod])
theorem w_add_l (a b : Int) : wrap32 (wrap32 a + b) = wrap32 (a + b) := wrap32_eq (by rw [Int.add_emod, wrap32_mod, ← Int.add_emod])
theorem w_add_r (a b : Int) : wrap32 (a + wrap32 b) = wrap32 (a + b) := wrap32_eq (by rw [Int.add_emod, wrap32_mod, ← Int.add_emod])
theorem w_sub_l (a b : Int) : wrap32 (wrap32 a - b) = wrap32 (a - b) := wrap32_eq (by rw [Int.sub_emod, wrap32_mod, ← Int.sub_emod])
theorem w_sub_r (a b : Int) : wrap32 (a - wrap32 b) = wrap32 (a - b) := wrap32_eq (by rw [Int.sub_emod, wrap32_mod, ← Int.sub_emod])

theorem tmod_bd (x y : Int) (h1 : -2147483648 ≤ x) (h2 : x ≤ 2147483647) : -2147483648 ≤ x.tmod y ∧ x.tmod y ≤ 2147483647 := by
  by_cases h : 0 ≤ x
  · have a := Int.tmod_nonneg y h
    have b : x.tmod y ≤ x := by
      have := Int.emod_nonneg
      rw [Int.tmod_eq_emod_of_nonneg h]
      by_cases hy : y = 0
      · subst hy; simp
      · have hq : x % y = x - y * (x / y) := by have := Int.emod_def x y; omega
        have : 0 ≤ y * (x / y) := by
          rcases Int.lt_or_gt_of_ne hy with hn | hp
          · exact Int.mul_nonneg_of_nonpos_of_nonpos (by omega) (Int.ediv_nonpos_of_nonneg_of_nonpos h (by omega))
          · exact Int.mul_nonneg (by omega) (Int.ediv_nonneg h (by omega))
        omega
    omega
  · have e : x.tmod y = -((-x).tmod y) := by rw [Int.neg_tmod]; omega
    have hx : 0 ≤ -x := by omega
    have a := Int.tmod_nonneg y hx
    have b : (-x).tmod y ≤ -x := by
      rw [Int.tmod_eq_emod_of_nonneg hx]
      by_cases hy : y = 0
      · subst hy; simp
      · have hq : -x % y = -x - y * (-x / y) := by have := Int.emod_def (-x) y; omega
        have : 0 ≤ y * (-x / y) := by
          rcases Int.lt_or_gt_of_ne hy with hn | hp
          · exact Int.mul_nonneg_of_nonpos_of_nonpos (by omega) (Int.ediv_nonpos_of_nonneg_of_nonpos hx (by omega))
          · exact Int.mul_nonneg (by omega) (Int.ediv_nonneg hx (by omega))
        omega
    omega

/-- The remainder as it is reckoned: x - (x / y) y, wrapped at each step. -/
theorem rem_way (x y : Int) (h1 : -2147483648 ≤ x) (h2 : x ≤ 2147483647) : wrap32 (x - wrap32 (wrap32 (x.tdiv y) * y)) = x.tmod y := by
  have hb := tmod_bd x y h1 h2
  rw [w_sub_r, ← w_sub_r, w_mul_l, w_sub_r]
  have e : x - x.tdiv y * y = x.tmod y := by have := Int.tmod_add_mul_tdiv x y; rw [Int.mul_comm] at this; omega
  rw [e]; exact wrap32_of hb.1 hb.2

/-- 1 or 0. -/
def oneOf (b : Bool) : Int := if b then 1 else 0

/-- a, shifted to the left by n places; below 0: to the right. -/
def shiftP (a n : Int) : Int := if 0 ≤ n then wrap32 (a * 2 ^ min n.toNat 32) else a / 2 ^ min (-n).toNat 32

def twoV (op a b : Int) : Int :=
  if op = 6 then wrap32 (wrap32 a * wrap32 b)
  else if op = 7 then (if wrap32 b = 0 then 0 else wrap32 ((wrap32 a).tdiv (wrap32 b)))
  else if op = 8 then (if wrap32 b = 0 then 0 else (wrap32 a).tmod (wrap32 b))
  else if op = 9 then wrap32 (wrap32 a + wrap32 b)
  else if op = 10 then wrap32 (wrap32 a - wrap32 b)
  else if op = 11 then shiftP (wrap32 a) (wrap32 b)
  else if op = 12 then shiftP (wrap32 a) (-wrap32 b)
  else if op = 13 then oneOf (decide (wrap32 a < wrap32 b))
  else if op = 14 then oneOf (decide (wrap32 a ≤ wrap32 b))
  else if op = 15 then oneOf (decide (wrap32 b < wrap32 a))
  else if op = 16 then oneOf (decide (wrap32 b ≤ wrap32 a))
  else if op = 17 then oneOf (wrap32 a == wrap32 b)
  else if op = 18 then oneOf (wrap32 a != wrap32 b)
  else if op = 19 then bits .and .i32 (wrap32 a) (wrap32 b)
  else if op = 20 then bits .xor .i32 (wrap32 a) (wrap32 b)
  else if op = 21 then bits .or .i32 (wrap32 a) (wrap32 b)
  else 0
def twoE (op b : Int) : Int :=
  if (op = 7 ∨ op = 8) ∧ wrap32 b = 0 then 48 else if 6 ≤ op ∧ op ≤ 21 then 0 else 42
def oneV (op a : Int) : Int :=
  if op = 3 then wrap32 (-wrap32 a) else if op = 4 then oneOf (wrap32 a == 0) else if op = 5 then -wrap32 a - 1 else 0
def oneE (op : Int) : Int := if op = 3 ∨ op = 4 ∨ op = 5 then 0 else 42

theorem bits_i32_bd (op : BinOp) (hop : op = .and ∨ op = .or ∨ op = .xor) (a b : Int) : -2147483648 ≤ bits op .i32 a b ∧ bits op .i32 a b ≤ 2147483647 := by
  rcases hop with rfl | rfl | rfl
  all_goals
    unfold bits
    simp only []
    rw [IntKind.wrap_i32]; omega

theorem ofInt_signExtend (n : Int) (h1 : -2147483648 ≤ n) (h2 : n ≤ 2147483647) : (BitVec.ofInt 32 n).signExtend 64 = BitVec.ofInt 64 n := by
  apply BitVec.eq_of_toInt_eq
  rw [BitVec.toInt_signExtend_of_le (by decide), BitVec.toInt_ofInt, BitVec.toInt_ofInt]
  have : (n.bmod (2 ^ 32)) = n := Int.bmod_eq_of_le (by omega) (by omega)
  have h3 : (n.bmod (2 ^ 64)) = n := Int.bmod_eq_of_le (by omega) (by omega)
  rw [this, h3]

theorem bits_wide (op : BinOp) (hop : op = .and ∨ op = .or ∨ op = .xor) (a b : Int) (ha : -2147483648 ≤ a ∧ a ≤ 2147483647) (hb : -2147483648 ≤ b ∧ b ≤ 2147483647) :
    bits op .i64 a b = bits op .i32 a b := by
  rcases hop with rfl | rfl | rfl
  · show IntKind.i64.wrap ((BitVec.ofInt 64 a &&& BitVec.ofInt 64 b).toNat : Int) = IntKind.i32.wrap ((BitVec.ofInt 32 a &&& BitVec.ofInt 32 b).toNat : Int)
    rw [toNat_wrap_i64, toNat_wrap_i32, ← ofInt_signExtend a ha.1 ha.2, ← ofInt_signExtend b hb.1 hb.2, ← BitVec.signExtend_and, BitVec.toInt_signExtend_of_le (by decide)]
  · show IntKind.i64.wrap ((BitVec.ofInt 64 a ||| BitVec.ofInt 64 b).toNat : Int) = IntKind.i32.wrap ((BitVec.ofInt 32 a ||| BitVec.ofInt 32 b).toNat : Int)
    rw [toNat_wrap_i64, toNat_wrap_i32, ← ofInt_signExtend a ha.1 ha.2, ← ofInt_signExtend b hb.1 hb.2, ← BitVec.signExtend_or, BitVec.toInt_signExtend_of_le (by decide)]
  · show IntKind.i64.wrap ((BitVec.ofInt 64 a ^^^ BitVec.ofInt 64 b).toNat : Int) = IntKind.i32.wrap ((BitVec.ofInt 32 a ^^^ BitVec.ofInt 32 b).toNat : Int)
    rw [toNat_wrap_i64, toNat_wrap_i32, ← ofInt_signExtend a ha.1 ha.2, ← ofInt_signExtend b hb.1 hb.2, ← BitVec.signExtend_xor, BitVec.toInt_signExtend_of_le (by decide)]

/-! ### The reference's shift: step by step -/
theorem shl_step (a : Int) (k : Nat) : wrap32 (2 * wrap32 (a * 2 ^ k)) = wrap32 (a * 2 ^ (k + 1)) := by
  rw [w_mul_r, Int.pow_succ]
  congr 1
  rw [Int.mul_comm 2, Int.mul_assoc]
theorem shl_zero (a : Int) (k : Nat) (h : 32 ≤ k) : wrap32 (a * 2 ^ k) = 0 := by
  have e : (2 : Int) ^ k = 4294967296 * 2 ^ (k - 32) := by
    rw [show k = 32 + (k - 32) by omega, Int.pow_add]; simp
  unfold wrap32
  rw [e, ← Int.mul_assoc, Int.mul_comm a, Int.mul_assoc]
  omega
theorem shl_stays (a : Int) (k m : Nat) (h : wrap32 (a * 2 ^ k) = 0) (hm : k ≤ m) : wrap32 (a * 2 ^ m) = 0 := by
  rw [show m = k + (m - k) by omega, Int.pow_add, ← Int.mul_assoc, ← w_mul_l, h]; simp [wrap32]
theorem shl_min (a : Int) (k : Nat) : wrap32 (a * 2 ^ k) = wrap32 (a * 2 ^ min k 32) := by
  by_cases h : k ≤ 32
  · rw [Nat.min_eq_left h]
  · rw [Nat.min_eq_right (by omega), shl_zero a k (by omega), shl_zero a 32 (by omega)]
theorem shr_step (a : Int) (k : Nat) : (a / 2 ^ k) / 2 = a / 2 ^ (k + 1) := by
  rw [Int.ediv_ediv_of_nonneg (Int.le_of_lt (Int.pow_pos (by decide))), Int.pow_succ]
theorem shr_const (a : Int) (k m : Nat) (c : Int) (hc : c = 0 ∨ c = -1) (h : a / 2 ^ k = c) (hm : k ≤ m) : a / 2 ^ m = c := by
  have e : (2 : Int) ^ m = 2 ^ k * 2 ^ (m - k) := by rw [← Int.pow_add]; congr 1; omega
  rw [e, ← Int.ediv_ediv_of_nonneg (Int.le_of_lt (Int.pow_pos (by decide))), h]
  have hp : (0 : Int) < 2 ^ (m - k) := Int.pow_pos (by decide)
  rcases hc with rfl | rfl
  · simp
  · rw [Int.neg_one_ediv]; have := Int.sign_eq_one_of_pos hp; omega
theorem shr_32 (a : Int) (h1 : -2147483648 ≤ a) (h2 : a ≤ 2147483647) : a / 2 ^ 32 = 0 ∨ a / 2 ^ 32 = -1 := by
  have : (2 : Int) ^ 32 = 4294967296 := by decide
  rw [this]; omega
theorem shr_min (a : Int) (k : Nat) (h1 : -2147483648 ≤ a) (h2 : a ≤ 2147483647) : a / 2 ^ k = a / 2 ^ min k 32 := by
  by_cases h : k ≤ 32
  · rw [Nat.min_eq_left h]
  · rw [Nat.min_eq_right (by omega)]
    exact shr_const a 32 k _ (shr_32 a h1 h2) rfl (by omega)
theorem shr_bd (a : Int) (k : Nat) (h1 : -2147483648 ≤ a) (h2 : a ≤ 2147483647) : -2147483648 ≤ a / 2 ^ k ∧ a / 2 ^ k ≤ 2147483647 := by
  induction k with
  | zero => simp; omega
  | succ k ih => rw [← shr_step]; omega
theorem shiftP_bd (a n : Int) (h : -2147483648 ≤ a ∧ a ≤ 2147483647) : -2147483648 ≤ shiftP a n ∧ shiftP a n ≤ 2147483647 := by
  unfold shiftP
  split
  · exact wrap32_bd _
  · exact shr_bd a _ h.1 h.2
theorem flip_bits (x : Int) (h : -2147483648 ≤ x ∧ x ≤ 2147483647) : bits .xor .i32 (-1) x = -x - 1 := by
  show IntKind.i32.wrap ((BitVec.ofInt 32 (-1) ^^^ BitVec.ofInt 32 x).toNat : Int) = _
  have e : BitVec.ofInt 32 (-1) = BitVec.allOnes 32 := by decide
  rw [e, BitVec.allOnes_xor, BitVec.toNat_not, BitVec.toNat_ofInt, IntKind.wrap_i32]
  have : (((2 : Nat) ^ 32 : Nat) : Int) = 4294967296 := by decide
  rw [this]; omega
theorem flip_i32 (a : Int) : wrap64 (bits .xor .i32 (-1) (wrap32 a)) = -wrap32 a - 1 := by
  have h := wrap32_bd a
  rw [flip_bits _ h]; exact IntWalk.wrap64_in _ (by omega)
theorem half_neg (a : Int) (h : a < 0) : (a - 1).tdiv 2 = a / 2 := by
  have e : (a - 1).tdiv 2 = -((1 - a).tdiv 2) := by rw [← Int.neg_tdiv]; congr 1; omega
  rw [e, Int.tdiv_eq_ediv_of_nonneg (by omega)]; omega

end Go.Proofs.YthmhbmikcdfkcaaDoor
