/-
  Numerals: no program in this text.
-/
import Derived.Lib.ParseIntBTie
import Derived.Lib.ItoaLen
import Derived.Lib.AppendIntMem
import Derived.Lib.SmallJoins
import Derived.Test.YtdjjlkekbphbaaaDoorGdW6
namespace Go.Proofs.YtdjjlkekbphbaaaDoor
open Go.RowKit

abbrev By := List UInt8
def I64 (n : Int) : Prop := -9223372036854775808 ≤ n ∧ n ≤ 9223372036854775807
def bs (s : ByteArray) : By := s.data.toList
def mk (l : By) : ByteArray := ⟨l.toArray⟩
theorem bs_mk (l : By) : bs (mk l) = l := by simp [bs, mk]
theorem mk_bs (s : ByteArray) : mk (bs s) = s := by simp [bs, mk]
theorem size_bs (s : ByteArray) : s.size = (bs s).length := rfl
theorem size_mk (l : By) : (mk l).size = l.length := by simp [ByteArray.size, mk]
theorem uint_append (c : UInt8) : ∀ (l : By) (acc v : Nat), Lib.parseUint10 acc l = .ok v → Lib.parseUint10 acc (l ++ [c]) = Lib.parseUint10 v [c]
  | [], acc, v, h => by
    simp only [Lib.parseUint10] at h
    injection h with h
    subst h; rfl
  | b :: l, acc, v, h => by
    have ih := uint_append c l
    show Lib.parseUint10 acc (b :: (l ++ [c])) = _
    unfold Lib.parseUint10 at h
    split at h
    · rename_i h1
      split at h
      · cases h
      · rename_i h2
        split at h
        · cases h
        · rename_i h3
          conv => lhs; unfold Lib.parseUint10
          rw [if_pos h1, if_neg h2, if_neg h3]
          exact ih _ _ h
    · cases h
theorem digit_nat {d : Nat} (h : d < 10) : (UInt8.ofNat (48 + d)).toNat = 48 + d := by
  rw [UInt8.toNat_ofNat']
  omega
theorem uint_dec : ∀ (u : Nat), u < 18446744073709551616 → Lib.parseUint10 0 (Lib.decDigits u) = .ok u := by
  intro u
  induction u using Nat.strongRecOn with
  | _ u ih =>
    intro hu
    rw [Lib.decDigits]
    split
    · rename_i h
      unfold Lib.parseUint10
      rw [digit_nat h, if_pos (by omega), if_neg (by omega), if_neg (by omega)]
      unfold Lib.parseUint10
      congr 1
      omega
    · rw [uint_append _ _ _ _ (ih (u / 10) (by omega) (by omega))]
      unfold Lib.parseUint10
      rw [digit_nat (Nat.mod_lt _ (by decide)), if_pos (by omega), if_neg (by omega), if_neg (by omega)]
      unfold Lib.parseUint10
      congr 1
      omega
theorem dec_ne (u : Nat) : Lib.decDigits u ≠ [] := by
  have h1 := Lib.nDigits_pos u
  have h2 := Lib.decDigits_length u
  intro e
  rw [e] at h2
  simp at h2
  omega
theorem dec_mem {u : Nat} {c : UInt8} : c ∈ Lib.decDigits u → 48 ≤ c.toNat ∧ c.toNat ≤ 57 := by
  induction u using Nat.strongRecOn with
  | _ u ih =>
    intro h
    rw [Lib.decDigits] at h
    split at h
    · rename_i hu
      obtain rfl := List.mem_singleton.1 h
      rw [digit_nat hu]; omega
    · rename_i hu
      rcases List.mem_append.1 h with h | h
      · exact ih (u / 10) (by omega) h
      · obtain rfl := List.mem_singleton.1 h
        rw [digit_nat (Nat.mod_lt _ (by decide))]; omega
theorem mag_dec {u : Nat} (h : u < 18446744073709551616) : Lib.parseMag (Lib.decDigits u) = .ok u := by
  unfold Lib.parseMag
  rw [if_neg (dec_ne u), uint_dec u h]
theorem parse_itoa {n : Int} (h : I64 n) : Lib.parseIntB 64 (Lib.itoa n) = .ok n := by
  obtain ⟨h0, h1⟩ := h
  rw [Lib.parseIntB_64]
  unfold Lib.itoa
  split
  · rename_i hn
    unfold Lib.atoiAll
    simp only [show (45 : UInt8).toNat = 45 from rfl, or_true, if_true]
    rw [mag_dec (by omega)]
    simp only [not_true_eq_false, false_and, if_false, true_and]
    rw [if_neg (by omega)]
    congr 1
    omega
  · rename_i hn
    cases hd : Lib.decDigits n.toNat with
    | nil => exact absurd hd (dec_ne _)
    | cons c r =>
      have hc := dec_mem (u := n.toNat) (c := c) (by rw [hd]; simp)
      unfold Lib.atoiAll
      simp only
      rw [if_neg (by omega), ← hd, mag_dec (by omega)]
      simp only
      rw [if_neg (by omega), if_neg (by omega), if_neg (by omega)]
      congr 1
      omega
/-- The number that a text is the numeral of. -/
def numL (t : By) : Option Int :=
  match Lib.parseIntB 64 t with
  | .ok v => if Lib.itoa v = t then some v else none
  | _ => none
theorem numL_iff {t : By} {n : Int} : numL t = some n ↔ I64 n ∧ Lib.itoa n = t := by
  constructor
  · intro h
    unfold numL at h
    split at h
    · rename_i v hv
      split at h
      · rename_i he
        simp only [Option.some.injEq] at h
        subst h
        have := Lib.parseIntB_bounds hv
        exact ⟨⟨by simpa using this.1, by have := this.2; simp at this; omega⟩, he⟩
      · cases h
    · cases h
  · rintro ⟨h1, rfl⟩
    unfold numL
    rw [parse_itoa h1]
    simp
theorem numL_itoa {n : Int} (h : I64 n) : numL (Lib.itoa n) = some n := numL_iff.2 ⟨h, rfl⟩
theorem itoa_mem {n : Int} {c : UInt8} (h : c ∈ Lib.itoa n) : c = 45 ∨ 48 ≤ c.toNat ∧ c.toNat ≤ 57 := by
  unfold Lib.itoa at h
  split at h
  · rcases List.mem_cons.1 h with h | h
    · exact .inl h
    · exact .inr (dec_mem h)
  · exact .inr (dec_mem h)
theorem itoa_no {n : Int} : (44 : UInt8) ∉ Lib.itoa n := by
  intro h
  rcases itoa_mem h with h | h
  · exact absurd h (by decide)
  · have : (44 : UInt8).toNat = 44 := rfl
    omega
/-- A number's numeral. -/
def itoaB (n : Int) : ByteArray := mk (Lib.itoa n)
/-- What is parsed, and whether it fails. -/
def parseR (s : ByteArray) : Int × Bool :=
  match Lib.parseIntB 64 s.data.toList with
  | .ok v => (v, false)
  | .range => (Lib.intSat 64 s.data.toList, true)
  | _ => (0, true)
theorem parseR_num {t : ByteArray} : ((parseR t).2 = true → numL (bs t) = none) ∧ ((parseR t).2 = false → I64 (parseR t).1 ∧ numL (bs t) = if Lib.itoa (parseR t).1 = bs t then some (parseR t).1 else none) := by
  unfold parseR numL
  have e : t.data.toList = bs t := rfl
  rw [e]
  rcases hp : Lib.parseIntB 64 (bs t) with v | _ | _
  · refine ⟨fun h => by simp at h, fun _ => ⟨?_, rfl⟩⟩
    have := Lib.parseIntB_bounds hp
    exact ⟨by simpa using this.1, by have := this.2; simp at this; show v ≤ _; omega⟩
  · exact ⟨fun _ => rfl, fun h => by simp at h⟩
  · exact ⟨fun _ => rfl, fun h => by simp at h⟩
theorem size_itoa {n : Int} (h : I64 n) : (itoaB n).size ≤ 21 := by
  unfold itoaB
  rw [size_mk]
  exact Lib.itoa_length_le n h.1 h.2
theorem format_spec {n : Int} (h : I64 n) : VSpec Tryd.prog 42 [] [intV n, intV 10] [] (strV (itoaB n)) := by
  refine VSpec.hand ⟨_, Tryd.func42, rfl, by kernel_rfl⟩ fun w E vs hA hL _ _ hs => ?_
  obtain ⟨u1, us1, rfl, v1, hs⟩ := hs.cons_inv
  obtain ⟨u2, us2, rfl, v2, hs⟩ := hs.cons_inv
  obtain rfl := hs.nil_inv
  rw [v1.sc_inv, v2.sc_inv]
  refine (Tryd.strconv_FormatInt_10 n h.1 h.2 w hL.tab).mono ?_
  rintro e w' ⟨rfl, k, os, rfl⟩
  exact ⟨_, rfl, .sc, Lib.below_grow _ w (Nat.le_refl _) k os⟩
theorem parse_spec {s : ByteArray} (h : s.size ≤ 281474976710656) : VSpec Tryd.prog 58 [] [strV s, intV 10, intV 64] [] (.tup [intV (parseR s).1, .er (parseR s).2]) := by
  refine VSpec.hand ⟨_, Tryd.func58, rfl, by kernel_rfl⟩ fun w E vs hA hL _ _ hs => ?_
  obtain ⟨u1, us1, rfl, v1, hs⟩ := hs.cons_inv
  obtain ⟨u2, us2, rfl, v2, hs⟩ := hs.cons_inv
  obtain ⟨u3, us3, rfl, v3, hs⟩ := hs.cons_inv
  obtain rfl := hs.nil_inv
  rw [v1.sc_inv, v2.sc_inv, v3.sc_inv]
  unfold parseR
  split
  · rename_i v hp
    refine (Tryd.strconv_ParseInt_10_at64_ok s (by omega) v hp w).mono ?_
    rintro e w' ⟨rfl, hw⟩
    refine ⟨_, rfl, v_tup2 .sc (.er (.inr ⟨rfl, rfl⟩)), ?_⟩
    rcases hw with rfl | ⟨t, rfl⟩
    · exact Below.refl _ _
    · exact Joins.below_bytesWorld _ w _ t (Nat.le_refl _)
  · rename_i hp
    obtain ⟨tt, p, hc⟩ := hL.ran
    refine (Tryd.strconv_ParseInt_10_at64_range s h hp _ w hc (.inr ⟨tt, p, rfl⟩)).mono ?_
    rintro e w' ⟨N, rfl, _, _, hb⟩
    exact ⟨_, rfl, v_tup2 .sc (.er (.inl ⟨rfl, _, _, rfl⟩)), hb⟩
  · rename_i h1 h2
    obtain ⟨tt, p, hc⟩ := hL.syn
    refine (Tryd.strconv_ParseInt_10_at64_bad s h h1 h2 _ w hc (.inr ⟨tt, p, rfl⟩)).mono ?_
    rintro e w' ⟨N, rfl, _, _, hb⟩
    exact ⟨_, rfl, v_tup2 .sc (.er (.inl ⟨rfl, _, _, rfl⟩)), hb⟩
end Go.Proofs.YtdjjlkekbphbaaaDoor
