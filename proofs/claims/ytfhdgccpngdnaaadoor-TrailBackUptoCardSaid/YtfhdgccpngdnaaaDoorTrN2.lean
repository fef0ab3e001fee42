/-
  A text that is a number's decimal, as the document reads it; the numbers of a line, as it reads them.
-/
import Derived.Test.YtfhdgccpngdnaaaDoorTrN
namespace Go.Proofs.YtfhdgccpngdnaaaDoor
open Go.RowKit

theorem byte_at (t : ByteArray) (i : Nat) : t[i]?.getD (0 : UInt8) = (bs t).getD i 0 := by
  by_cases h : i < t.size
  · rw [getElem?_pos t i h]
    have := Lib.data_getElem? t i h
    show t[i] = ((bs t)[i]?).getD 0
    rw [show (bs t)[i]? = some t[i] from this]; rfl
  · rw [getElem?_neg t i h]
    have : (bs t)[i]? = none := List.getElem?_eq_none (by rw [← size_bs]; omega)
    show (0 : UInt8) = ((bs t)[i]?).getD 0
    rw [this]; rfl
theorem wrap_I64 (n : Int) : I64 (IntKind.i64.wrap n) := by
  unfold I64
  rw [IntKind.wrap_i64]; omega
theorem nDigits_le : ∀ (k u : Nat), 1 ≤ k → u < 10 ^ k → Lib.nDigits u ≤ k
  | 0, u, h, _ => by omega
  | 1, u, _, h => by rw [Lib.nDigits_small (by omega)]; exact Nat.le_refl _
  | k + 2, u, _, h => by
    by_cases hu : u < 10
    · rw [Lib.nDigits_small hu]; omega
    · rw [Lib.nDigits_big hu]
      have := nDigits_le (k + 1) (u / 10) (by omega) (by rw [Nat.pow_succ] at h; omega)
      omega
/-- A digit behind a number. -/
def pushD (neg : Bool) (n : Int) (c : UInt8) : Int :=
  IntKind.i64.wrap (IntKind.i64.wrap (n * 10) + if neg = true then IntKind.i64.wrap (0 - IntKind.i64.wrap (IntKind.u8.wrap ((c.toNat : Int) - 48))) else IntKind.i64.wrap (IntKind.u8.wrap ((c.toNat : Int) - 48)))
theorem pushD_dec {neg : Bool} {n : Int} {d : Nat} (hd : d < 10) (hn : I64 (n * 10)) (hr : I64 (if neg = true then n * 10 - d else n * 10 + d)) : pushD neg n (UInt8.ofNat (48 + d)) = if neg = true then n * 10 - d else n * 10 + d := by
  obtain ⟨a1, a2⟩ := hn
  obtain ⟨b1, b2⟩ := hr
  unfold pushD
  rw [digit_nat hd]
  have e : IntKind.u8.wrap (((48 + d : Nat) : Int) - 48) = d := by
    rw [show (((48 + d : Nat) : Int) - 48) = d by omega]
    exact IntWalk.u8_in _ ⟨by omega, by omega⟩
  rw [e, wrap_id (n := n * 10) a1 a2, wrap_id (n := (d : Int)) (by omega) (by omega)]
  cases neg with
  | true =>
    simp only [if_true] at b1 b2 ⊢
    rw [wrap_id (n := 0 - (d : Int)) (by omega) (by omega), wrap_id (by omega) (by omega)]
    omega
  | false =>
    simp only [Bool.false_eq_true, if_false] at b1 b2 ⊢
    exact wrap_id b1 b2
theorem fold_dec (neg : Bool) : ∀ (u : Nat), (if neg = true then u ≤ 9223372036854775808 else u ≤ 9223372036854775807) → (Lib.decDigits u).foldl (pushD neg) 0 = if neg = true then -(u : Int) else u := by
  intro u
  induction u using Nat.strongRecOn with
  | _ u ih =>
    intro hu
    have hu' : u ≤ 9223372036854775808 := by split at hu <;> omega
    rw [Lib.decDigits]
    split
    · rename_i h
      show pushD neg 0 (UInt8.ofNat (48 + u)) = _
      rw [pushD_dec h ⟨by omega, by omega⟩ (by split <;> exact ⟨by omega, by omega⟩)]
      split <;> omega
    · rename_i h
      rw [List.foldl_append, ih (u / 10) (by omega) (by split <;> rename_i hn <;> simp [hn] at hu <;> omega)]
      show pushD neg _ (UInt8.ofNat (48 + u % 10)) = _
      cases neg with
      | true =>
        simp only [if_true] at hu ⊢
        rw [pushD_dec (Nat.mod_lt _ (by decide)) ⟨by omega, by omega⟩ (by simp only [if_true]; exact ⟨by omega, by omega⟩)]
        simp only [if_true]
        omega
      | false =>
        simp only [Bool.false_eq_true, if_false] at hu ⊢
        rw [pushD_dec (Nat.mod_lt _ (by decide)) ⟨by omega, by omega⟩ (by simp only [Bool.false_eq_true, if_false]; exact ⟨by omega, by omega⟩)]
        simp only [Bool.false_eq_true, if_false]
        omega
def isD (c : UInt8) : Bool := decide (48 ≤ c.toNat ∧ c.toNat ≤ 57)
/-- Is the text's first byte a sign? -/
def signB (T : By) : Bool := T.getD 0 0 == 45
def behindS (T : By) : By := T.drop (if signB T = true then 1 else 0)
def numK (T : By) : Int × Bool :=
  if T.length < 1 ∨ 20 < T.length then (0, false)
  else if (behindS T).all isD = true then ((behindS T).foldl (pushD (signB T)) 0, Lib.itoa ((behindS T).foldl (pushD (signB T)) 0) == T)
  else (0, false)
theorem itoa_len {n : Int} (h : I64 n) : 1 ≤ (Lib.itoa n).length ∧ (Lib.itoa n).length ≤ 20 := by
  obtain ⟨h0, h1⟩ := h
  unfold Lib.itoa
  have key : ∀ u : Nat, u ≤ 9223372036854775808 → 1 ≤ (Lib.decDigits u).length ∧ (Lib.decDigits u).length ≤ 19 := fun u hu => by
    rw [Lib.decDigits_length]
    exact ⟨Lib.nDigits_pos u, nDigits_le 19 u (by omega) (Nat.lt_of_le_of_lt hu (by decide))⟩
  split
  · have := key n.natAbs (by omega)
    simp only [List.length_cons]; omega
  · have := key n.toNat (by omega)
    omega
theorem itoa_sign (n : Int) : signB (Lib.itoa n) = decide (n < 0) ∧ behindS (Lib.itoa n) = Lib.decDigits n.natAbs := by
  unfold behindS
  by_cases h : n < 0
  · have e : Lib.itoa n = 45 :: Lib.decDigits n.natAbs := by unfold Lib.itoa; rw [if_pos h]
    have hs : signB (Lib.itoa n) = true := by rw [e]; rfl
    rw [hs, e]; simp [h]
  · have e : Lib.itoa n = Lib.decDigits n.natAbs := by unfold Lib.itoa; rw [if_neg h, show n.toNat = n.natAbs by omega]
    have hs : signB (Lib.itoa n) = false := by
      rw [e]
      unfold signB
      cases hd : Lib.decDigits n.natAbs with
      | nil => exact absurd hd (dec_ne _)
      | cons c r =>
        have := dec_mem (u := n.natAbs) (c := c) (by rw [hd]; simp)
        simp only [List.getD_cons_zero, beq_eq_false_iff_ne]
        intro hc
        subst hc
        have : (45 : UInt8).toNat = 45 := rfl
        omega
    rw [hs, e]; simp [h]
theorem fold_I64 (neg : Bool) (l : By) : I64 (l.foldl (pushD neg) 0) := by
  have key : ∀ (l : By) (n : Int), I64 n → I64 (l.foldl (pushD neg) n) := by
    intro l
    induction l with
    | nil => exact fun n h => h
    | cons c l ih => exact fun n _ => ih _ (wrap_I64 _)
  exact key l 0 ⟨by decide, by decide⟩
theorem numK_num (T : By) : ((numK T).2 = true → numL T = some (numK T).1) ∧ ((numK T).2 = false → numL T = none) := by
  constructor
  · intro h
    unfold numK at h ⊢
    split at h
    · cases h
    · split at h
      · rename_i h1 h2
        rw [if_neg h1, if_pos h2]
        exact numL_iff.2 ⟨fold_I64 _ _, by simpa using h⟩
      · cases h
  · intro h
    cases hn : numL T with
    | none => rfl
    | some m =>
      exfalso
      obtain ⟨hm, rfl⟩ := numL_iff.1 hn
      obtain ⟨hl1, hl2⟩ := itoa_len hm
      obtain ⟨hs1, hs2⟩ := itoa_sign m
      unfold numK at h
      rw [if_neg (by omega), hs2, if_pos (by
        rw [List.all_eq_true]
        intro c hc
        have := dec_mem hc
        simp [isD]; omega), hs1] at h
      have hf : (Lib.decDigits m.natAbs).foldl (pushD (decide (m < 0))) 0 = m := by
        obtain ⟨h0, h1⟩ := hm
        rw [fold_dec _ _ (by
          by_cases h : m < 0
          · simp only [h, decide_true, if_true]; omega
          · simp only [h, decide_false, Bool.false_eq_true, if_false]; omega)]
        by_cases h : m < 0
        · simp only [h, decide_true, if_true]; omega
        · simp only [h, decide_false, Bool.false_eq_true, if_false]; omega
      rw [hf] at h
      simp at h
theorem foldl_take {T : By} {f : Int → UInt8 → Int} {k : Nat} (hk : k < T.length) : (T.take (k + 1)).foldl f 0 = f ((T.take k).foldl f 0) (T.getD k 0) := by
  have e : T.getD k 0 = T[k] := by simp [List.getD, hk]
  rw [List.take_add_one, List.getElem?_eq_getElem hk, e]
  show List.foldl f 0 (T.take k ++ [T[k]]) = _
  rw [List.foldl_append]; rfl
theorem num_spec (t : ByteArray) : VSpec Tryd.prog 26 [] [strV t] [] (.tup [intV (numK (bs t)).1, boolV (numK (bs t)).2]) := by
  have hsz := size_bs t
  refine vspec_ctx tb_ok mixed shTr annNum true Tryd.func26 (by kernel_rfl) rfl ((num_raw _ _ t).mpr ?_)
  have hbif : (bif decide ((t.size : Int) < (1 : Int)) then true else decide ((t.size : Int) > (20 : Int))) = decide ((bs t).length < 1 ∨ 20 < (bs t).length) := by
    rw [← hsz]
    by_cases h1 : t.size < 1
    · have : (t.size : Int) < 1 := by omega
      simp [h1, this]
    · have : ¬ (t.size : Int) < 1 := by omega
      by_cases h2 : 20 < t.size
      · have h3 : (t.size : Int) > 20 := by omega
        simp [h2, h3]
      · have h3 : ¬ (t.size : Int) > 20 := by omega
        simp [h1, h2, this, h3]
  rw [hbif]
  refine ⟨fun h => ⟨trivial, ?_⟩, fun h => ?_⟩
  · have h' : (bs t).length < 1 ∨ 20 < (bs t).length := by simpa using h
    unfold numK
    rw [if_pos h']
    exact VV.le_refl _
  have h' : ¬ ((bs t).length < 1 ∨ 20 < (bs t).length) := by simpa using h
  have main : ∀ k0 : Nat, k0 = (if signB (bs t) = true then 1 else 0) → SatC (fnCtx Tryd.prog tb shTr annNum true Tryd.f26 [] (.tup [intV (numK (bs t)).1, boolV (numK (bs t)).2])) [1, 1, 1, 1, 1, 0, 1, 0] (mkSt [(0, strV t), (4, intV 0), (5, intV k0), (6, intV k0)] []) := by
    intro k0 hk0
    have hbe : behindS (bs t) = (bs t).drop k0 := by unfold behindS; rw [← hk0]
    have hk1 : k0 ≤ 1 := by rw [hk0]; split <;> omega
    have hlen : (behindS (bs t)).length = t.size - k0 := by rw [hbe, List.length_drop, ← hsz]
    have hkb : (((k0 : Nat) : Int) == 1) = signB (bs t) := by
      rw [hk0]
      cases signB (bs t) <;> rfl
    refine satC_loop tb_ok mixed (fun g st => ∃ j : Nat, j ≤ (behindS (bs t)).length ∧ g = (behindS (bs t)).length - j ∧ ((behindS (bs t)).take j).all isD = true ∧ st = stNum t (((behindS (bs t)).take j).foldl (pushD (signB (bs t))) 0) k0 ((k0 + j : Nat) : Int))
      (by kernel_rfl) (by kernel_rfl) ⟨_, Up.of ⟨0, Nat.zero_le _, rfl, rfl, rfl⟩⟩ ?_
    rintro g st ⟨j, hj, rfl, hall, rfl⟩
    have hI := fold_I64 (signB (bs t)) ((behindS (bs t)).take j)
    refine (num1_raw _ _ t (((behindS (bs t)).take j).foldl (pushD (signB (bs t))) 0) k0 ((k0 + j : Nat) : Int) _).mpr ⟨fun hlt => ?_, fun hge => ?_⟩
    · have hlt' : k0 + j < t.size := by
        have := of_decide_eq_true hlt
        omega
      have hjl : j < (behindS (bs t)).length := by omega
      have hto : ((k0 + j : Nat) : Int).toNat = k0 + j := by omega
      have hc : t[k0 + j]?.getD (0 : UInt8) = (behindS (bs t)).getD j 0 := by
        rw [byte_at, hbe]
        simp [List.getD_eq_getElem?_getD, List.getElem?_drop]
      rw [hto, hc]
      have hmem := getD_mem (d := (0 : UInt8)) hjl
      obtain ⟨c, hce⟩ : ∃ c, c = (behindS (bs t)).getD j 0 := ⟨_, rfl⟩
      rw [← hce] at hmem ⊢
      have htest : (bif decide ((c.toNat : Int) < (48 : Int)) then true else decide ((c.toNat : Int) > (57 : Int))) = !isD c := by
        unfold isD
        by_cases h1 : c.toNat < 48
        · have : (c.toNat : Int) < 48 := by omega
          simp [this]; omega
        · have : ¬ (c.toNat : Int) < 48 := by omega
          by_cases h2 : c.toNat ≤ 57
          · have h3 : ¬ (c.toNat : Int) > 57 := by omega
            have h4 : 48 ≤ c.toNat := by omega
            simp [this, h3, h2, h4]
          · have h3 : (c.toNat : Int) > 57 := by omega
            simp [this, h3, h2]
      rw [htest]
      have hin : (0 : Int) ≤ ((k0 + j : Nat) : Int) ∧ ((k0 + j : Nat) : Int) < (t.size : Int) := ⟨by omega, by omega⟩
      refine ⟨hin, fun _ => hin, fun hbad => ⟨trivial, ?_⟩, fun hgood => ⟨hin, ?_⟩⟩
      · have hbd : isD c = false := by simpa using hbad
        unfold numK
        rw [if_neg h', if_neg (fun ha => by have := List.all_eq_true.1 ha c hmem; rw [hbd] at this; cases this)]
        exact VV.le_refl _
      · have hgd : isD c = true := by simpa using hgood
        have hall' : ((behindS (bs t)).take (j + 1)).all isD = true := by
          rw [List.take_add_one, List.all_append, hall]
          have : (behindS (bs t))[j]? = some c := by rw [hce]; simp [List.getD, hjl]
          rw [this]; simp [hgd]
        have hfold := foldl_take (f := pushD (signB (bs t))) hjl
        rw [← hce] at hfold
        have hw : IntKind.i64.wrap (((k0 + j : Nat) : Int) + 1) = ((k0 + (j + 1) : Nat) : Int) := by rw [wrap_id (by omega) (by omega)]; omega
        rw [hkb, hw]
        constructor
        · intro hs
          refine ⟨(behindS (bs t)).length - (j + 1), by omega, Up.of ⟨j + 1, by omega, rfl, hall', ?_⟩⟩
          rw [hfold]
          unfold pushD
          rw [if_pos hs]; rfl
        · intro hs
          refine ⟨(behindS (bs t)).length - (j + 1), by omega, Up.of ⟨j + 1, by omega, rfl, hall', ?_⟩⟩
          rw [hfold]
          unfold pushD
          rw [if_neg (by rw [hs]; simp)]; rfl
    · have hge' : t.size ≤ k0 + j := by
        have := of_decide_eq_false hge
        omega
      have htk : (behindS (bs t)).take j = behindS (bs t) := List.take_of_length_le (by omega)
      rw [htk] at hall hI ⊢
      refine ⟨itoaB _, dec_spec hI, trivial, ?_⟩
      unfold numK
      rw [if_neg h', if_pos hall, toList_bs, toList_bs, itoaB_bs]
      exact VV.le_refl _
  have hin : (0 : Int) ≤ (0 : Int) ∧ (0 : Int) < (t.size : Int) := ⟨by omega, by omega⟩
  refine ⟨hin, ?_⟩
  have hc0 : (((t[Int.toNat (0 : Int)]?.getD (0 : UInt8)).toNat : Int) == (45 : Int)) = signB (bs t) := by
    rw [show Int.toNat (0 : Int) = 0 from rfl, byte_at]
    unfold signB
    generalize (bs t).getD 0 0 = c
    have : (45 : UInt8).toNat = 45 := rfl
    by_cases hc : c = 45
    · subst hc; rfl
    · have h1 : c.toNat ≠ 45 := fun h => hc (UInt8.toNat_inj.1 h)
      have h2 : ((c.toNat : Int) == 45) = false := by rw [beq_eq_false_iff_ne]; omega
      have h3 : (c == 45) = false := by rw [beq_eq_false_iff_ne]; exact hc
      rw [h2, h3]
  rw [hc0]
  exact ⟨fun h => main 1 (by rw [if_pos h]), fun h => main 0 (by rw [if_neg (by rw [h]; simp)])⟩
end Go.Proofs.YtfhdgccpngdnaaaDoor
