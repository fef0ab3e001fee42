/-
  The plain arithmetic of layer 5: what becomes of a number in a type, the reckoning with one and two numbers. No program in sight.
-/
import Derived.WalkKit
namespace Go.Proofs.Ytiflenddalmfaaa
open Go.RowKit

/-- What becomes of v in a type of b bits, with a sign or without. -/
def fitP (b : Int) (s : Bool) (v : Int) : Int :=
  if 1 ≤ b ∧ b ≤ 32 then (if s then (v + 2 ^ b.toNat / 2) % 2 ^ b.toNat - 2 ^ b.toNat / 2 else v % 2 ^ b.toNat) else 0

theorem cases32 {P : Int → Prop} (b : Int) (h1 : 1 ≤ b) (h2 : b ≤ 32)
    (h : ∀ k : Nat, k < 32 → P (k + 1)) : P b := by
  have e : b = ((b - 1).toNat : Int) + 1 := by omega
  rw [e]; exact h _ (by omega)

theorem fit_out (b v : Int) (s : Bool) (h : b < 1 ∨ 32 < b) : fitP b s v = 0 := by
  unfold fitP; rw [if_neg (by omega)]

theorem fit_shl_shr (b v : Int) (h1 : 1 ≤ b) (h2 : b ≤ 32) : wrap64 (v * 2 ^ (64 - b).toNat) / 2 ^ (64 - b).toNat = fitP b true v := by
  have hb : b = 1 ∨ b = 2 ∨ b = 3 ∨ b = 4 ∨ b = 5 ∨ b = 6 ∨ b = 7 ∨ b = 8 ∨ b = 9 ∨ b = 10 ∨ b = 11 ∨ b = 12 ∨ b = 13 ∨ b = 14 ∨ b = 15 ∨ b = 16 ∨ b = 17 ∨ b = 18 ∨ b = 19 ∨ b = 20 ∨ b = 21 ∨ b = 22 ∨ b = 23 ∨ b = 24 ∨ b = 25 ∨ b = 26 ∨ b = 27 ∨ b = 28 ∨ b = 29 ∨ b = 30 ∨ b = 31 ∨ b = 32 := by omega
  unfold wrap64 fitP
  rcases hb with h | h | h | h | h | h | h | h | h | h | h | h | h | h | h | h | h | h | h | h | h | h | h | h | h | h | h | h | h | h | h | h <;>
    subst h <;> simp <;> omega

theorem toNat_wrap_i64 (r : BitVec 64) : IntKind.i64.wrap (r.toNat : Int) = r.toInt := by
  rw [IntKind.wrap_i64, BitVec.toInt_eq_toNat_cond]
  have := r.isLt
  split <;> omega
theorem toNat_wrap_i32 (r : BitVec 32) : IntKind.i32.wrap (r.toNat : Int) = r.toInt := by
  rw [IntKind.wrap_i32, BitVec.toInt_eq_toNat_cond]
  have := r.isLt
  split <;> omega

theorem and_i64_nat (v : Int) (m : Nat) (hm : m < 32) : bits .and .i64 v (((2 ^ (m + 1) : Nat) : Int) - 1) = v % ((2 ^ (m + 1) : Nat) : Int) := by
  show IntKind.i64.wrap ((BitVec.ofInt 64 v &&& BitVec.ofInt 64 (((2 ^ (m + 1) : Nat) : Int) - 1)).toNat : Int) = _
  have hp : 2 ^ (m + 1) ≤ 2 ^ 32 := Nat.pow_le_pow_right (by decide) (by omega)
  have hpos : 0 < 2 ^ (m + 1) := Nat.two_pow_pos _
  have e1 : (((2 ^ (m + 1) : Nat) : Int) - 1) = ((2 ^ (m + 1) - 1 : Nat) : Int) := by omega
  rw [BitVec.toNat_and, e1, BitVec.ofInt_natCast, BitVec.toNat_ofNat, BitVec.toNat_ofInt]
  have e2 : (2 ^ (m + 1) - 1) % 2 ^ 64 = 2 ^ (m + 1) - 1 := Nat.mod_eq_of_lt (by omega)
  rw [e2, Nat.and_two_pow_sub_one_eq_mod]
  have hlt : (v % ((2 ^ 64 : Nat) : Int)).toNat % 2 ^ (m + 1) < 2 ^ (m + 1) := Nat.mod_lt _ hpos
  rw [IntWalk.i64_in _ (by omega)]
  have hnn : 0 ≤ v % ((2 ^ 64 : Nat) : Int) := Int.emod_nonneg _ (by decide)
  have hd : ((2 ^ (m + 1) : Nat) : Int) ∣ ((2 ^ 64 : Nat) : Int) := by
    have : 2 ^ (m + 1) ∣ 2 ^ 64 := Nat.pow_dvd_pow 2 (by omega)
    exact Int.natCast_dvd_natCast.2 this
  rw [Int.natCast_emod, Int.toNat_of_nonneg hnn]
  exact Int.emod_emod_of_dvd _ hd

theorem fit_mask (b v : Int) (h1 : 1 ≤ b) (h2 : b ≤ 32) : bits .and .i64 v (wrap64 (wrap64 (2 ^ b.toNat) - 1)) = fitP b false v := by
  obtain ⟨m, rfl⟩ : ∃ m : Nat, b = (m : Int) + 1 := ⟨(b - 1).toNat, by omega⟩
  have hm : m < 32 := by omega
  have e : ((m : Int) + 1).toNat = m + 1 := by omega
  have hp : 2 ^ (m + 1) ≤ 2 ^ 32 := Nat.pow_le_pow_right (by decide) (by omega)
  have hpos : 0 < 2 ^ (m + 1) := Nat.two_pow_pos _
  have ec : (2 : Int) ^ (m + 1) = ((2 ^ (m + 1) : Nat) : Int) := by simp
  unfold fitP
  rw [if_pos ⟨h1, h2⟩, e, ec, IntWalk.wrap64_in ((2 ^ (m + 1) : Nat) : Int) (by omega), IntWalk.wrap64_in _ (by omega), and_i64_nat v m hm]
  simp

/-- The reference's way: the remainder, cut towards nought, brought up from below 0, and down where the sign is wanted. -/
theorem fit_ref (b v : Int) (h1 : 1 ≤ b) (h2 : b ≤ 32) (s : Bool) :
    (if s then (if 2 ^ b.toNat / 2 ≤ v % 2 ^ b.toNat then v % 2 ^ b.toNat - 2 ^ b.toNat else v % 2 ^ b.toNat) else v % 2 ^ b.toNat) = fitP b s v := by
  have hb : b = 1 ∨ b = 2 ∨ b = 3 ∨ b = 4 ∨ b = 5 ∨ b = 6 ∨ b = 7 ∨ b = 8 ∨ b = 9 ∨ b = 10 ∨ b = 11 ∨ b = 12 ∨ b = 13 ∨ b = 14 ∨ b = 15 ∨ b = 16 ∨ b = 17 ∨ b = 18 ∨ b = 19 ∨ b = 20 ∨ b = 21 ∨ b = 22 ∨ b = 23 ∨ b = 24 ∨ b = 25 ∨ b = 26 ∨ b = 27 ∨ b = 28 ∨ b = 29 ∨ b = 30 ∨ b = 31 ∨ b = 32 := by omega
  unfold fitP
  cases s
  · simp [h1, h2]
  · rcases hb with h | h | h | h | h | h | h | h | h | h | h | h | h | h | h | h | h | h | h | h | h | h | h | h | h | h | h | h | h | h | h | h <;>
      subst h <;> simp <;> split <;> omega

theorem pow_bd (b : Int) (h1 : 1 ≤ b) (h2 : b ≤ 32) : (2 : Int) ≤ 2 ^ b.toNat ∧ (2 : Int) ^ b.toNat ≤ 4294967296 := by
  obtain ⟨m, hm⟩ : ∃ m : Nat, b.toNat = m + 1 := ⟨b.toNat - 1, by omega⟩
  rw [hm]
  have hp : 2 ^ (m + 1) ≤ 2 ^ 32 := Nat.pow_le_pow_right (by decide) (by omega)
  have hq : 2 ^ 1 ≤ 2 ^ (m + 1) := Nat.pow_le_pow_right (by decide) (by omega)
  have ec : (2 : Int) ^ (m + 1) = ((2 ^ (m + 1) : Nat) : Int) := by simp
  rw [ec]; omega

theorem tm_lt (v m : Int) (hm : 0 < m) (h : v.tmod m < 0) : v.tmod m + m = v % m := by
  have h0 := Int.tmod_eq_emod (a := v) (b := m)
  have h1 := Int.emod_nonneg v (b := m) (by omega)
  have h2 := Int.emod_lt_of_pos v hm
  rw [h0] at h ⊢
  split at h <;> rename_i hc
  · omega
  · rw [if_neg hc]; omega
theorem tm_ge (v m : Int) (hm : 0 < m) (h : 0 ≤ v.tmod m) : v.tmod m = v % m := by
  have h0 := Int.tmod_eq_emod (a := v) (b := m)
  have h1 := Int.emod_nonneg v (b := m) (by omega)
  have h2 := Int.emod_lt_of_pos v hm
  rw [h0] at h ⊢
  split at h <;> rename_i hc
  · rw [if_pos hc]; omega
  · omega
theorem fit_ref_t (b v x : Int) (h1 : 1 ≤ b) (h2 : b ≤ 32) (hx : x = v % 2 ^ b.toNat) (h : 2 ^ b.toNat / 2 ≤ x) : x - 2 ^ b.toNat = fitP b true v := by
  have := fit_ref b v h1 h2 true
  rw [if_pos rfl, ← hx, if_pos h] at this; exact this
theorem fit_ref_f (b v x : Int) (h1 : 1 ≤ b) (h2 : b ≤ 32) (hx : x = v % 2 ^ b.toNat) (h : x < 2 ^ b.toNat / 2) : x = fitP b true v := by
  have := fit_ref b v h1 h2 true
  rw [if_pos rfl, ← hx, if_neg (by omega)] at this; exact this
theorem fit_ref_u (b v x : Int) (h1 : 1 ≤ b) (h2 : b ≤ 32) (hx : x = v % 2 ^ b.toNat) : x = fitP b false v := by
  have := fit_ref b v h1 h2 false
  rw [if_neg (by decide), ← hx] at this; exact this

theorem pow_even (b : Int) (h1 : 1 ≤ b) : ∃ k : Int, (2 : Int) ^ b.toNat = 2 * k := by
  obtain ⟨m, hm⟩ : ∃ m : Nat, b.toNat = m + 1 := ⟨b.toNat - 1, by omega⟩
  exact ⟨2 ^ m, by rw [hm, Int.pow_succ, Int.mul_comm]⟩

theorem fitP_bd (b v : Int) (s : Bool) : -2147483648 ≤ fitP b s v ∧ fitP b s v ≤ 4294967295 := by
  unfold fitP
  by_cases h : 1 ≤ b ∧ b ≤ 32
  · have hb := pow_bd b h.1 h.2
    rw [if_pos h]
    have h3 := Int.emod_nonneg v (b := 2 ^ b.toNat) (by omega)
    have h4 := Int.emod_lt_of_pos v (b := 2 ^ b.toNat) (by omega)
    have h5 := Int.emod_nonneg (v + 2 ^ b.toNat / 2) (b := 2 ^ b.toNat) (by omega)
    have h6 := Int.emod_lt_of_pos (v + 2 ^ b.toNat / 2) (b := 2 ^ b.toNat) (by omega)
    split <;> omega
  · rw [if_neg h]; omega

theorem fitP_idem (b v : Int) (s : Bool) : fitP b s (fitP b s v) = fitP b s v := by
  unfold fitP
  by_cases h : 1 ≤ b ∧ b ≤ 32
  · simp only [if_pos h]
    cases s
    · simp
    · simp only [if_true]
      have e : (v + 2 ^ b.toNat / 2) % 2 ^ b.toNat - 2 ^ b.toNat / 2 + 2 ^ b.toNat / 2 = (v + 2 ^ b.toNat / 2) % 2 ^ b.toNat := by omega
      rw [e, Int.emod_emod]
  · simp only [if_neg h]

theorem fitP_int (v : Int) : fitP 32 true v = wrap32 v := by
  unfold fitP wrap32; simp

end Go.Proofs.Ytiflenddalmfaaa
