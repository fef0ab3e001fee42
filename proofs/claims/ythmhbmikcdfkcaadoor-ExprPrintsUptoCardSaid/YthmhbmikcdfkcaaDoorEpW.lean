/-
  Numerals as the document writes them, on trees.
-/
import Derived.Test.YthmhbmikcdfkcaaDoorGpQ
import Derived.Test.YthmhbmikcdfkcaaDoorGpP
namespace Go.Proofs.YthmhbmikcdfkcaaDoor
open Go.RowKit
/-- A byte, as a text. -/
theorem bytesV_one (k : Int) : bytesV 1 (rowsF [[VV.sc (Value.int IntKind.u8 k)]]) = ⟨#[UInt8.ofNat k.toNat]⟩ := rfl
theorem digit_wrap {d : Int} (h0 : 0 ≤ d) (h1 : d < 10) : UInt8.ofNat (IntKind.u8.wrap (IntKind.i64.wrap (48 + d))).toNat = UInt8.ofNat (48 + d.toNat) := by
  rw [wrap_id (by omega) (by omega)]
  have : IntKind.u8.wrap (48 + d) = 48 + d := IntWalk.u8_in _ ⟨by omega, by omega⟩
  rw [this]
  congr 1
  omega
/-- The digits that are still to come, and those that are there. -/
theorem dec_step {m : Int} {s : List UInt8} : Lib.decDigits m.natAbs ++ s = (if m.tdiv 10 = 0 then [] else Lib.decDigits (m.tdiv 10).natAbs) ++ (UInt8.ofNat (48 + (m.natAbs % 10)) :: s) := by
  have e : (m.tdiv 10).natAbs = m.natAbs / 10 := by rw [Int.natAbs_tdiv]; rfl
  rw [Lib.decDigits]
  split
  · rename_i h
    have : m.tdiv 10 = 0 := by
      have : (m.tdiv 10).natAbs = 0 := by omega
      omega
    rw [if_pos this, Nat.mod_eq_of_lt h]; rfl
  · rename_i h
    have : m.tdiv 10 ≠ 0 := by
      intro h0
      rw [h0] at e
      simp at e
      omega
    rw [if_neg this, e]
    simp
theorem mkl_append (l : List UInt8) (s : ByteArray) : (⟨l.toArray⟩ : ByteArray) ++ s = ⟨(l ++ s.data.toList).toArray⟩ := by
  apply ByteArray.ext
  simp [ByteArray.data_append]
theorem dec_spec {n : Int} (hn : I64 n) : VSpec Tryd.prog 34 [] [intV n] [] (strV (itoaB n)) := by
  obtain ⟨hn0, hn1⟩ := hn
  refine vspec_raw tb_ok mixed Tryd.func34 (by kernel_rfl) rfl (deci_raw (itoaB n) n) ?_
  change SatC _ [1, 1, 1, 0, 0] (stDec n ⟨#[]⟩ (decide (n < 0)))
  refine loop_raw tb_ok mixed (fun g st => ∃ (m : Int) (s : List UInt8), I64 m ∧ g = m.natAbs ∧ Lib.decDigits m.natAbs ++ s = Lib.decDigits n.natAbs ∧ s.length ≤ 40 ∧ (s = [] ∨ m ≠ 0) ∧ st = stDec m ⟨s.toArray⟩ (decide (n < 0)))
    (by kernel_rfl) (by kernel_rfl) ⟨_, Up.of ⟨n, [], ⟨hn0, hn1⟩, rfl, by simp, by simp, .inl rfl, rfl⟩⟩ ?_
  rintro g st ⟨m, s, ⟨hm0, hm1⟩, rfl, hd, hsl, hor, rfl⟩
  have hlen : (Lib.decDigits n.natAbs).length ≤ 20 := by
    rw [Lib.decDigits_length]
    exact Lib.nDigits_le20 _ (by omega)
  have ea : (m.tdiv 10).natAbs = m.natAbs / 10 := by rw [Int.natAbs_tdiv]; rfl
  have eb : (m.tmod 10).natAbs = m.natAbs % 10 := by rw [Int.natAbs_tmod]; rfl
  have ec := Int.tmod_add_mul_tdiv m 10
  have hmod : m.tmod 10 = if m < 0 then -((m.natAbs % 10 : Nat) : Int) else ((m.natAbs % 10 : Nat) : Int) := by
    split <;> omega
  have hdv : -9223372036854775808 ≤ m.tdiv 10 ∧ m.tdiv 10 ≤ 9223372036854775807 := by omega
  have step := dec_step (m := m) (s := s)
  have hsl' : s.length + 1 ≤ 21 := by
    have := congrArg List.length hd
    have h1 : 1 ≤ (Lib.decDigits m.natAbs).length := by rw [Lib.decDigits_length]; exact Lib.nDigits_pos _
    rw [List.length_append] at this
    omega
  have size1 : ∀ c : UInt8, ((⟨#[c]⟩ : ByteArray) ++ ⟨s.toArray⟩) = ⟨(c :: s).toArray⟩ := fun c => by
    have := mkl_append [c] ⟨s.toArray⟩
    simpa using this
  have fin : m.tdiv 10 = 0 → UInt8.ofNat (48 + (m.natAbs % 10)) :: s = Lib.decDigits n.natAbs := fun h0 => by
    rw [← hd, step, if_pos h0]; rfl
  have go : m.tdiv 10 ≠ 0 → Lib.decDigits (m.tdiv 10).natAbs ++ (UInt8.ofNat (48 + (m.natAbs % 10)) :: s) = Lib.decDigits n.natAbs := fun h0 => by
    rw [← hd, step, if_neg h0]
  have itoa_neg : n < 0 → itoaB n = ⟨#[45]⟩ ++ ⟨(Lib.decDigits n.natAbs).toArray⟩ := fun h => by
    unfold itoaB Lib.itoa mk
    rw [if_pos h]
    have := mkl_append [45] ⟨(Lib.decDigits n.natAbs).toArray⟩
    simpa using this.symm
  have itoa_pos : ¬ n < 0 → itoaB n = ⟨(Lib.decDigits n.natAbs).toArray⟩ := fun h => by
    unfold itoaB Lib.itoa mk
    rw [if_neg h, show n.toNat = n.natAbs by omega]
  have key : ∀ d : Int, 0 ≤ d → d < 10 → d.toNat = m.natAbs % 10 → ∀ (J : St → Prop), (∀ st', (∃ (m' : Int) (s' : List UInt8), I64 m' ∧ m'.natAbs < m.natAbs ∧ Lib.decDigits m'.natAbs ++ s' = Lib.decDigits n.natAbs ∧ s'.length ≤ 40 ∧ m' ≠ 0 ∧ st' = stDec m' ⟨s'.toArray⟩ (decide (n < 0))) → J st') →
      (true = true ∧ (((bytesV 1 (rowsF [[VV.sc (Value.int IntKind.u8 (IntKind.u8.wrap (IntKind.i64.wrap (48 + d))))]])).size + (⟨s.toArray⟩ : ByteArray).size : Nat) : Int) ≤ 9223372036854775807 ∧ (10 : Int) ≠ 0 ∧
        ((IntKind.i64.wrap (m.tdiv 10) == 0) = true → (decide (n < 0) = true → (((⟨#[45]⟩ : ByteArray).size + (bytesV 1 (rowsF [[VV.sc (Value.int IntKind.u8 (IntKind.u8.wrap (IntKind.i64.wrap (48 + d))))]]) ++ ⟨s.toArray⟩).size : Nat) : Int) ≤ 9223372036854775807 ∧ leO [] [] ∧
            (VV.sc (Value.string ((⟨#[45]⟩ : ByteArray) ++ (bytesV 1 (rowsF [[VV.sc (Value.int IntKind.u8 (IntKind.u8.wrap (IntKind.i64.wrap (48 + d))))]]) ++ ⟨s.toArray⟩)))).le (VV.sc (Value.string (itoaB n)))) ∧
          (decide (n < 0) = false → leO [] [] ∧ (VV.sc (Value.string (bytesV 1 (rowsF [[VV.sc (Value.int IntKind.u8 (IntKind.u8.wrap (IntKind.i64.wrap (48 + d))))]]) ++ ⟨s.toArray⟩))).le (VV.sc (Value.string (itoaB n))))) ∧
        ((IntKind.i64.wrap (m.tdiv 10) == 0) = false → J (mkSt [(0, VV.sc (Value.int IntKind.i64 (IntKind.i64.wrap (m.tdiv 10)))), (3, VV.sc (Value.string (bytesV 1 (rowsF [[VV.sc (Value.int IntKind.u8 (IntKind.u8.wrap (IntKind.i64.wrap (48 + d))))]]) ++ ⟨s.toArray⟩))), (4, VV.sc (Value.bool (decide (n < 0))))] []))) := by
    intro d h0 h1 h2 J hJ
    rw [bytesV_one, digit_wrap h0 h1, h2, wrap_id hdv.1 hdv.2, size1]
    refine ⟨rfl, ?_, by decide, fun hz => ⟨fun hneg => ⟨?_, trivial, ?_⟩, fun hpos => ⟨trivial, ?_⟩⟩, fun hz => hJ _ ⟨m.tdiv 10, _, hdv, ?_, go ?_, by simp; omega, ?_, rfl⟩⟩
    · show ((1 + s.length : Nat) : Int) ≤ _; omega
    · show ((1 + (s.length + 1) : Nat) : Int) ≤ _; omega
    · rw [fin (by simpa using hz), itoa_neg (by simpa using hneg)]; exact VV.le_refl _
    · rw [fin (by simpa using hz), itoa_pos (by simpa using hpos)]; exact VV.le_refl _
    · have : m.tdiv 10 ≠ 0 := by simpa using hz
      have e : (m.tdiv 10).natAbs = m.natAbs / 10 := by rw [Int.natAbs_tdiv]; rfl
      omega
    · simpa using hz
    · simpa using hz
  have hJ : ∀ st', (∃ (m' : Int) (s' : List UInt8), I64 m' ∧ m'.natAbs < m.natAbs ∧ Lib.decDigits m'.natAbs ++ s' = Lib.decDigits n.natAbs ∧ s'.length ≤ 40 ∧ m' ≠ 0 ∧ st' = stDec m' ⟨s'.toArray⟩ (decide (n < 0))) →
      ∃ g', g' < m.natAbs ∧ Up (fun st => ∃ (m : Int) (s : List UInt8), I64 m ∧ g' = m.natAbs ∧ Lib.decDigits m.natAbs ++ s = Lib.decDigits n.natAbs ∧ s.length ≤ 40 ∧ (s = [] ∨ m ≠ 0) ∧ st = stDec m ⟨s.toArray⟩ (decide (n < 0))) st' := by
    rintro st' ⟨m', s', a1, a2, a3, a4, a5, a6⟩
    exact ⟨_, a2, Up.of ⟨m', s', a1, rfl, a3, a4, .inr a5, a6⟩⟩
  refine Asks.raw (deci1_raw (itoaB n) m ⟨s.toArray⟩ (decide (n < 0)) _) ⟨by decide, fun hneg => ?_, fun hpos => ?_⟩
  · have hneg' : m.tmod 10 < 0 := by simpa using hneg
    have hm : m < 0 := by
      rw [hmod] at hneg'
      split at hneg'
      · assumption
      · omega
    have hd2 : IntKind.i64.wrap (0 - m.tmod 10) = ((m.natAbs % 10 : Nat) : Int) := by
      rw [hmod, if_pos hm, wrap_id (by omega) (by omega)]; omega
    rw [hd2]
    exact key _ (by omega) (by omega) (by omega) _ hJ
  · have hpos' : 0 ≤ m.tmod 10 := by simpa using hpos
    have hd2 : m.tmod 10 = ((m.natAbs % 10 : Nat) : Int) := by
      rw [hmod] at hpos' ⊢
      split at hpos'
      · rename_i h; rw [if_pos h]; omega
      · rename_i h; rw [if_neg h]
    rw [hd2]
    exact key _ (by omega) (by omega) (by omega) _ hJ

/-! ### To a base -/
theorem dig_extract (d : Nat) (h : d < 16) : (⟨#[48, 49, 50, 51, 52, 53, 54, 55, 56, 57, 97, 98, 99, 100, 101, 102]⟩ : ByteArray).extract d (d + 1) = ⟨#[digB d]⟩ := by
  match d, h with
  | 0, _ => rfl
  | 1, _ => rfl
  | 2, _ => rfl
  | 3, _ => rfl
  | 4, _ => rfl
  | 5, _ => rfl
  | 6, _ => rfl
  | 7, _ => rfl
  | 8, _ => rfl
  | 9, _ => rfl
  | 10, _ => rfl
  | 11, _ => rfl
  | 12, _ => rfl
  | 13, _ => rfl
  | 14, _ => rfl
  | 15, _ => rfl
  | n + 16, h => exact absurd h (by omega)
theorem base_step {b g n : Nat} (h : b ≤ n) : baseG b (g + 1) n = baseG b g (n / b) ++ [digB (n % b)] := by
  show (if n < b then _ else _) = _
  rw [if_neg (by omega)]
theorem base_last {b g n : Nat} (h : n < b) : baseG b (g + 1) n = [digB n] := by
  show (if n < b then _ else _) = _
  rw [if_pos h]
theorem rbase_spec {u b : Nat} (hu : u < 4294967296) (hb1 : 8 ≤ b) (hb2 : b ≤ 16) : VSpec Tryd.prog 33 [] [.sc (.int .u64 u), .sc (.int .u64 b)] [] (strV (mk (baseB b u))) := by
  refine vspec_raw tb_ok mixed Tryd.func33 (by kernel_rfl) rfl (rbase_raw (mk (baseB b u)) u b) ?_
  change SatC _ [1, 1, 1, 0] (stRb u b ⟨#[]⟩)
  refine loop_raw tb_ok mixed (fun g st => ∃ (n : Nat) (L : By), g = n ∧ L.length ≤ 11 ∧ n < 8 ^ (11 - L.length) ∧ (L = [] ∨ n ≠ 0) ∧ baseB b u = baseG b (64 - L.length) n ++ L ∧ st = stRb n b ⟨L.toArray⟩) (by kernel_rfl) (by kernel_rfl)
    ⟨u, Up.of ⟨u, [], rfl, Nat.zero_le _, by show u < 8 ^ 11; omega, .inl rfl, by rw [List.append_nil]; rfl, rfl⟩⟩ ?_
  rintro n st ⟨_, L, rfl, hk, hn, hor, hE, rfl⟩
  have hp1 : 8 ^ (11 - L.length) ≤ 8 ^ 11 := Nat.pow_le_pow_right (by decide) (Nat.sub_le _ _)
  have hp2 : 8 ^ 11 ≤ 8589934592 := by decide
  have hn33 : n < 8589934592 := Nat.lt_of_lt_of_le hn (Nat.le_trans hp1 hp2)
  have hmod : n % b < 16 := Nat.lt_of_lt_of_le (Nat.mod_lt _ (by omega)) hb2
  have hdl : n / b ≤ n := Nat.div_le_self _ _
  have e1 : IntKind.i64.wrap ((n : Int).tmod (b : Int)) = ((n % b : Nat) : Int) := by
    rw [Int.tmod_eq_emod_of_nonneg (by omega), ← Int.natCast_emod, wrap_id (by omega) (by omega)]
  have e2 : IntKind.i64.wrap (((n % b : Nat) : Int) + 1) = ((n % b + 1 : Nat) : Int) := by rw [wrap_id (by omega) (by omega)]; omega
  have e3 : IntKind.u64.wrap ((n : Int).tdiv (b : Int)) = ((n / b : Nat) : Int) := by
    rw [Int.tdiv_eq_ediv_of_nonneg (by omega), ← Int.natCast_ediv, IntKind.wrap_u64]
    generalize n / b = q at hdl ⊢
    omega
  refine Asks.raw (rbase1_raw _ n b ⟨L.toArray⟩ _) ?_
  rw [e1, e2, e3, show ((n % b : Nat) : Int).toNat = n % b from rfl, show ((n % b + 1 : Nat) : Int).toNat = n % b + 1 from rfl, dig_extract _ hmod]
  have hsz : ((⟨#[digB (n % b)]⟩ : ByteArray) ++ ⟨L.toArray⟩) = ⟨(digB (n % b) :: L).toArray⟩ := by
    have := mkl_append [digB (n % b)] ⟨L.toArray⟩
    simpa using this
  rw [hsz]
  refine ⟨by omega, ⟨by omega, by omega, ?_⟩, ?_, by omega, fun hz => ⟨trivial, ?_⟩, fun hz => ?_⟩
  · show ((n % b + 1 : Nat) : Int) ≤ 16; omega
  · show ((1 + L.length : Nat) : Int) ≤ _; omega
  · have h0 : n / b = 0 := by have : ((n / b : Nat) : Int) = 0 := by simpa using hz
                              omega
    have hlt : n < b := by
      rcases Nat.lt_or_ge n b with h | h
      · exact h
      · have := Nat.div_pos h (by omega); omega
    rw [hE, show 64 - L.length = 63 - L.length + 1 by omega, base_last hlt, Nat.mod_eq_of_lt hlt]
    exact VV.le_refl _
  · have h0 : n / b ≠ 0 := by
      intro h0
      rw [h0] at hz
      simp at hz
    have hge : b ≤ n := by
      rcases Nat.lt_or_ge n b with h | h
      · rw [Nat.div_eq_of_lt h] at h0; exact absurd rfl h0
      · exact h
    have hl11 : L.length < 11 := by
      rcases Nat.lt_or_ge L.length 11 with h | h
      · exact h
      · rw [show 11 - L.length = 0 by omega] at hn; simp at hn; omega
    refine ⟨n / b, Nat.div_lt_self (by omega) (by omega), Up.of ⟨n / b, digB (n % b) :: L, rfl, by simp; omega, ?_, .inr h0, ?_, rfl⟩⟩
    · rw [show 11 - L.length = 11 - (L.length + 1) + 1 by omega, Nat.pow_succ] at hn
      rw [List.length_cons]
      have h8 : n / b ≤ n / 8 := Nat.div_le_div_left hb1 (by decide)
      have : n / 8 < 8 ^ (11 - (L.length + 1)) := Nat.div_lt_of_lt_mul (by omega)
      omega
    · rw [hE, List.length_cons, show 64 - L.length = 64 - (L.length + 1) + 1 by omega, base_step hge, List.append_assoc]
      rfl
/-! ### What shows a number -/
theorem rshown_spec {c : UInt8} {v : Int} (hv : I64 v) : VSpec Tryd.prog 23 [] [.sc (.int .u8 (c.toNat : Int)), intV v] [] (strV (mk (showB c v))) := by
  obtain ⟨hv0, hv1⟩ := hv
  have el : (IntKind.u64.wrap v).tmod 4294967296 = ((lowN v : Nat) : Int) := by
    rw [IntKind.wrap_u64, Int.tmod_eq_emod_of_nonneg (by omega)]; unfold lowN; omega
  have hl : lowN v < 4294967296 := by unfold lowN; omega
  have ec : ∀ k : UInt8, ((c.toNat : Int) == (k.toNat : Int)) = true → c = k := fun k h => by
    have h2 : (c.toNat : Int) = k.toNat := by simpa using h
    exact UInt8.toNat_inj.1 (by omega)
  have en : ∀ k : UInt8, ((c.toNat : Int) == (k.toNat : Int)) = false → c ≠ k := fun k h e => by rw [e] at h; simp at h
  refine vspec_raw tb_ok mixed Tryd.func23 (by kernel_rfl) rfl (rshown_raw (mk (showB c v)) c.toNat v) ?_
  rw [el]
  refine ⟨by decide, fun h => ⟨mk (baseB 10 (lowN v)), rbase_spec (b := 10) hl (by decide) (by decide), trivial, ?_⟩, fun n1 => ⟨fun h => ⟨mk (baseB 16 (lowN v)), rbase_spec (b := 16) hl (by decide) (by decide), trivial, ?_⟩, fun n2 => ⟨fun h => ⟨mk (baseB 8 (lowN v)), rbase_spec (b := 8) hl (by decide) (by decide), trivial, ?_⟩, fun n3 => ⟨fun h => ⟨by decide, rfl, trivial, ?_⟩, fun n4 => ⟨itoaB v, dec_spec ⟨hv0, hv1⟩, trivial, ?_⟩⟩⟩⟩⟩
  · rw [ec 117 h]; exact VV.le_refl _
  · rw [ec 120 h]; exact VV.le_refl _
  · rw [ec 111 h]; exact VV.le_refl _
  · rw [ec 99 h, bytesV_one]
    have : UInt8.ofNat (IntKind.u8.wrap (((lowN v : Nat) : Int).tmod 256)).toNat = UInt8.ofNat (v % 256).toNat := by
      rw [Int.tmod_eq_emod_of_nonneg (by omega), IntWalk.u8_in _ ⟨by omega, by omega⟩]
      congr 1
      unfold lowN; omega
    rw [this]
    exact VV.le_refl _
  · have h1 := en 117 n1
    have h2 := en 120 n2
    have h3 := en 111 n3
    have h4 := en 99 n4
    unfold showB
    rw [if_neg h1, if_neg h2, if_neg h3, if_neg h4]
    exact VV.le_refl _
end Go.Proofs.YthmhbmikcdfkcaaDoor
