/-
  Layer 11 on trees, I: types, shapes, what is below what.
-/
import Derived.Test.YtdjjlkekbphbaaaDoorGdH
import Derived.Test.YtdjjlkekbphbaaaDoorGdL
namespace Go.Proofs.YtdjjlkekbphbaaaDoor
open Go.RowKit

theorem leafB {a b : Bool} (h : a = b) : leO [] [] ∧ VV.le (.sc (.bool a)) (.sc (.bool b)) := ⟨trivial, VV.le_eq (by rw [h])⟩
theorem leafI {a b : Int} (h : a = b) : leO [] [] ∧ VV.le (.sc (.int .i64 a)) (.sc (.int .i64 b)) := ⟨trivial, VV.le_eq (by rw [h])⟩
theorem leaf2 {a b c d : Int} (h : (a, b) = (c, d)) : leO [] [] ∧ VV.le (.tup [.sc (.int .i64 a), .sc (.int .i64 b)]) (.tup [.sc (.int .i64 c), .sc (.int .i64 d)]) := by
  simp only [Prod.mk.injEq] at h; exact ⟨trivial, VV.le_eq (by rw [h.1, h.2])⟩
theorem leaf3 {a b c d e f : Int} (h : (a, b, c) = (d, e, f)) : leO [] [] ∧ VV.le (.tup [.sc (.int .i64 a), .sc (.int .i64 b), .sc (.int .i64 c)]) (.tup [.sc (.int .i64 d), .sc (.int .i64 e), .sc (.int .i64 f)]) := by
  simp only [Prod.mk.injEq] at h; exact ⟨trivial, VV.le_eq (by rw [h.1, h.2.1, h.2.2])⟩
theorem lt_of {a b : Int} (h : decide (a < b) = true) : a < b := of_decide_eq_true h
theorem ge_of {a b : Int} (h : decide (a < b) = false) : b ≤ a := by have := of_decide_eq_false h; omega
theorem wf_in {n : Int} (h : Ev.wInt .i64 n) : -9223372036854775808 ≤ n ∧ n ≤ 9223372036854775807 := wf_i64.1 h

theorem typ_spec (t : D.Type) : VSpec Tryd.prog 108 [] [.agg (enc_Type t)] [] (boolV (typP t)) := by
  refine vspec_raw tb_ok mixed Tryd.func108 (by kernel_rfl) rfl (typ_raw _ t) (leafB ?_)
  rw [Bool.eq_iff_iff]; simp [typP]; cases t.Signed <;> simp <;> omega
theorem typ_in {t : D.Type} (h : typP t = true) : 1 ≤ t.Bits ∧ t.Bits ≤ 32 ∧ (t.Signed = true → t.Bits = 16 ∨ t.Bits = 32) := by
  unfold typP at h
  simp at h
  refine ⟨h.1, h.2.1, fun hs => ?_⟩
  rcases h.2.2 with h | h
  · rw [hs] at h; cases h
  · exact h
theorem pow_in {n : Nat} (h : n ≤ 32) : (1 : Int) ≤ 2 ^ n ∧ (2 : Int) ^ n ≤ 4294967296 := by
  have h1 : (2 : Nat) ^ n ≤ 2 ^ 32 := Nat.pow_le_pow_right (by omega) h
  have h2 : 1 ≤ (2 : Nat) ^ n := Nat.one_le_two_pow
  have e : (2 : Int) ^ n = ((2 ^ n : Nat) : Int) := by simp
  rw [e]
  have e32 : (2 : Nat) ^ 32 = 4294967296 := by decide
  omega
theorem fits_spec (t : D.Type) (v : Int) : VSpec Tryd.prog 84 [] [.agg (enc_Type t), intV v] [] (boolV (fitsP t v)) := by
  refine vspec_raw tb_ok mixed Tryd.func84 (by kernel_rfl) rfl (fits_raw _ t v) ⟨typP t, typ_spec t, fun h => leafB ?_, fun h => ?_⟩
  · have h' : typP t = false := by simpa using h
    simp [fitsP, h']
  · have h' : typP t = true := by simpa using h
    obtain ⟨h1, h2, h3⟩ := typ_in h'
    have hb : IntKind.i64.bits = 64 := rfl
    have hw : IntKind.i64.wrap (t.Bits - 1) = t.Bits - 1 := wrap_id (by omega) (by omega)
    refine ⟨fun hs => ?_, fun hs => ?_⟩
    · rw [hw]
      refine ⟨by omega, fun _ => by omega, leafB ?_⟩
      have hp := pow_in (n := (t.Bits - 1).toNat) (by omega)
      have hm : min (t.Bits - 1).toNat IntKind.i64.bits = (t.Bits - 1).toNat := by rw [hb]; omega
      rw [hm, wrap_id (n := -1 * _) (by omega) (by omega), wrap_id (n := 1 * _) (by omega) (by omega)]
      have e1 : (-1 : Int) * 2 ^ (t.Bits - 1).toNat = -(2 ^ (t.Bits - 1).toNat) := by omega
      have e2 : (1 : Int) * 2 ^ (t.Bits - 1).toNat = 2 ^ (t.Bits - 1).toNat := by omega
      rw [e1, e2]
      simp only [fitsP, h', hs, cond_true, Bool.true_and, ge_iff_le]
      cases decide (-(2 : Int) ^ (t.Bits - 1).toNat ≤ v) <;> rfl
    · refine ⟨fun _ => by omega, leafB ?_⟩
      have hp := pow_in (n := t.Bits.toNat) (by omega)
      have hm : min t.Bits.toNat IntKind.i64.bits = t.Bits.toNat := by rw [hb]; omega
      rw [hm, wrap_id (n := 1 * _) (by omega) (by omega)]
      have e2 : (1 : Int) * 2 ^ t.Bits.toNat = 2 ^ t.Bits.toNat := by omega
      rw [e2]
      simp only [fitsP, h', hs, cond_false, Bool.true_and, ge_iff_le]
      cases decide (0 ≤ v) <;> rfl
theorem reach_spec {v : D.Var} (hv : wf_Var v) : VSpec Tryd.prog 90 [] [.agg (enc_Var v)] [] (intV (reachP v)) := by
  have hd := hv.Dims
  refine vspec_raw tb_ok mixed Tryd.func90 (by kernel_rfl) rfl (reach_raw _ v) ⟨fun h => leafI ?_, fun h => ?_⟩
  · unfold reachP
    have : (decide (v.Slot < 0) || (decide (1073741824 < v.Slot) || decide (4 < v.Dims.length))) = true := by simp at h ⊢; omega
    rw [this, cond_true]
  · have hb : 0 ≤ v.Slot ∧ v.Slot ≤ 1073741824 ∧ v.Dims.length ≤ 4 := by simp at h; omega
    have e : reachP v = reachL (v.Slot + 1) v.Dims := by
      unfold reachP
      have : (decide (v.Slot < 0) || (decide (1073741824 < v.Slot) || decide (4 < v.Dims.length))) = false := by simp; omega
      rw [this, cond_false]
    rw [e, wrap_id (by omega) (by omega)]
    refine loop_raw tb_ok mixed (fun g st => ∃ (k : Nat) (n : Int), k ≤ v.Dims.length ∧ g = v.Dims.length - k ∧ 0 ≤ n ∧ n ≤ 1073741825 + k * 1152921504606846976 ∧ reachL n (v.Dims.drop k) = reachL (v.Slot + 1) v.Dims ∧ st = stReach n v k) (by kernel_rfl) (by kernel_rfl)
      ⟨_, Up.of ⟨0, v.Slot + 1, Nat.zero_le _, rfl, by omega, by omega, rfl, rfl⟩⟩ ?_
    rintro g st ⟨k, n, hk, rfl, hn0, hn1, hr, rfl⟩
    refine Asks.raw (reach1_raw _ n v k _) ⟨fun hlt => ?_, fun hge => leafI ?_⟩
    · have hlt' : k < v.Dims.length := by have := lt_of hlt; omega
      have hto : (k : Int).toNat = k := by omega
      rw [hto]
      have hdr : v.Dims.drop k = v.Dims.getD k default :: v.Dims.drop (k + 1) := by
        rw [List.drop_eq_getElem_cons hlt']; simp [List.getD, hlt']
      have hw := hd.2 _ (getD_mem (d := default) hlt')
      generalize v.Dims.getD k default = d at hdr hw ⊢
      have hwl := wf_in hw.Len
      rw [hdr] at hr
      refine ⟨⟨by omega, by omega⟩, fun hy => leafI ?_, fun hy => ?_⟩
      · rw [← hr]
        have : dimBad d = true := by
          unfold dimBad
          by_cases hl : d.Len < 1
          · simp [hl]
          · rw [wrap_id (by omega) (by omega)] at hy
            simp at hy ⊢; omega
        show _ = reachL n (d :: _)
        unfold reachL; rw [this]; rfl
      · have hl : 1 ≤ d.Len := by
          by_cases hl : d.Len < 1
          · simp [hl] at hy
          · omega
        have hwr : IntKind.i64.wrap (d.Len - 1) = d.Len - 1 := wrap_id (by omega) (by omega)
        rw [hwr] at hy ⊢
        have hb2 : d.Len - 1 ≤ 1073741824 ∧ 0 ≤ d.Stride ∧ d.Stride ≤ 1073741824 := by simp at hy; omega
        have hbad : dimBad d = false := by unfold dimBad; simp; omega
        have hm1 : 0 ≤ (d.Len - 1) * d.Stride := Int.mul_nonneg (by omega) hb2.2.1
        have hm2 : (d.Len - 1) * d.Stride ≤ 1073741824 * 1073741824 := Int.mul_le_mul hb2.1 hb2.2.2 hb2.2.1 (by omega)
        rw [wrap_id (n := (d.Len - 1) * d.Stride) (by omega) (by omega), wrap_id (n := n + _) (by omega) (by omega), wrap_succ (by omega)]
        refine ⟨v.Dims.length - (k + 1), by omega, Up.of ⟨k + 1, n + (d.Len - 1) * d.Stride, by omega, rfl, by omega, by omega, ?_, rfl⟩⟩
        rw [← hr]
        show _ = reachL n (d :: _)
        conv => rhs; unfold reachL
        rw [hbad]; rfl
    · have hge' : v.Dims.length ≤ k := by have := ge_of hge; omega
      rw [List.drop_eq_nil_of_le hge'] at hr
      rw [← hr]; rfl
theorem types_spec {t : List D.Type} {init : List Int} (hl : t.length ≤ init.length) (hs : t.length ≤ 1048576) : VSpec Tryd.prog 96 [] [encL_Type true t, encL_Int true init] [] (intV (typesP t init)) := by
  refine vspec_raw tb_ok mixed Tryd.func96 (by kernel_rfl) rfl (types_raw _ t init) ?_
  refine loop_idx tb_ok mixed t.length (fun k => stTypes t init k) (fun k => ∀ i, i < k → fitsP (t.getD i default) (init.getD i 0) = true) (by kernel_rfl) (by kernel_rfl) (fun i hi => by omega) ?_
  intro k hk hI J next
  refine Asks.raw (types1_raw _ t init k J) ⟨fun hlt => ?_, fun hge => leafI ?_⟩
  · have hlt' : k < t.length := by have := lt_of hlt; omega
    refine ⟨⟨by omega, by omega⟩, ⟨by omega, by omega⟩, fitsP (t.getD k default) (init.getD k 0), fits_spec _ _, fun hy => leafI ?_, fun hy => next _ hlt' (fun i hi => ?_) (Up.of ?_)⟩
    · exact (badI_some (f := fun i => fitsP (t.getD i default) (init.getD i 0)) hI hlt' (by simpa using hy)).symm
    · rcases Nat.lt_succ_iff_lt_or_eq.1 hi with h | rfl
      · exact hI i h
      · simpa using hy
    · rw [wrap_succ (by omega)]; rfl
  · have hge' : t.length ≤ k := by have := ge_of hge; omega
    exact (badI_none (f := fun i => fitsP (t.getD i default) (init.getD i 0)) fun i hi => hI i (by omega)).symm
theorem shape_spec {s : D.Shape} (hs : wf_Shape s) : VSpec Tryd.prog 97 [] [.agg (enc_Shape s)] [] (boolV (shapeP s)) := by
  have hl := hs.Fields.1
  refine vspec_raw tb_ok mixed Tryd.func97 (by kernel_rfl) rfl (shape_raw _ s) ⟨fun h => leafB ?_, fun h => ?_⟩
  · symm; rw [Bool.eq_false_iff]; intro hc; simp [shapeP] at hc h; omega
  · have e : shapeP s = allI s.Fields.length fun i => typP (s.Fields.getD i default) := by
      unfold shapeP
      have : (decide (0 ≤ s.Room) && decide (s.Room ≤ 16) && decide (1 ≤ s.Fields.length) && decide (s.Fields.length ≤ 8)) = true := by simp at h ⊢; omega
      rw [this, Bool.true_and]
    rw [e]
    refine loop_idx tb_ok mixed s.Fields.length (fun k => stShape s k) (fun k => ∀ i, i < k → typP (s.Fields.getD i default) = true) (by kernel_rfl) (by kernel_rfl) (fun i hi => by omega) ?_
    intro k hk hI J next
    refine Asks.raw (shape1_raw _ s k J) ⟨fun hlt => ?_, fun hge => leafB ?_⟩
    · have hlt' : k < s.Fields.length := by have := lt_of hlt; omega
      refine ⟨⟨by omega, by omega⟩, typP (s.Fields.getD k default), typ_spec _, fun hy => leafB ?_, fun hy => next _ hlt' (fun i hi => ?_) (Up.of ?_)⟩
      · exact (allI_no (f := fun i => typP (s.Fields.getD i default)) hlt' (by simpa using hy)).symm
      · rcases Nat.lt_succ_iff_lt_or_eq.1 hi with h | rfl
        · exact hI i h
        · simpa using hy
      · rw [wrap_succ (by omega)]; rfl
    · have hge' : s.Fields.length ≤ k := by have := ge_of hge; omega
      exact (allI_iff.2 fun i hi => hI i (by omega)).symm
theorem procty_spec (m : D.Model) (n : Int) : VSpec Tryd.prog 123 [] [tpM m, intV n] [] (boolV (procP m n)) := by
  refine vspec_raw tb_ok mixed Tryd.func123 (by kernel_rfl) rfl (procty_raw _ m n) (leafB ?_)
  rw [Bool.eq_iff_iff]; simp [procP]
theorem below_spec' {a : Int} {l : List Int} (hl : l.length ≤ 1099511627776) : VSpec Tryd.prog 119 [] [intV a, encL_Int false l] [] (boolV (belowP a l)) := by
  refine vspec_raw tb_ok mixed Tryd.func119 (by kernel_rfl) rfl (below_raw _ a l) ?_
  refine loop_idx tb_ok mixed l.length (fun k => stBelow a l k) (fun k => ∀ i, i < k → inP a (l.getD i 0) = true) (by kernel_rfl) (by kernel_rfl) (fun i hi => by omega) ?_
  intro k hk hI J next
  refine Asks.raw (below1_raw _ a l k J) ⟨fun hlt => ?_, fun hge => leafB ?_⟩
  · have hlt' : k < l.length := by have := lt_of hlt; omega
    have hto : (k : Int).toNat = k := by omega
    rw [hto]
    refine ⟨⟨by omega, by omega⟩, fun hy => leafB ?_, fun hy => next _ hlt' (fun i hi => ?_) (Up.of ?_)⟩
    · exact (allI_no (f := fun i => inP a (l.getD i 0)) hlt' (by rw [Bool.eq_false_iff]; intro hc; simp [inP] at hc hy; omega)).symm
    · rcases Nat.lt_succ_iff_lt_or_eq.1 hi with h | rfl
      · exact hI i h
      · simp [inP] at hy ⊢; omega
    · rw [wrap_succ (by omega)]; rfl
  · have hge' : l.length ≤ k := by have := ge_of hge; omega
    exact (allI_iff.2 fun i hi => hI i (by omega)).symm
theorem below_spec {a : Int} {l : List Int} (hl : l.length ≤ 1099511627776) : VSpec Tryd.prog 119 [] [intV a, encL_Int true l] [] (boolV (belowP a l)) := by
  refine vspec_raw tb_ok mixed Tryd.func119 (by kernel_rfl) rfl (belowt_raw _ a l) ?_
  refine loop_idx tb_ok mixed l.length (fun k => stBelowt a l k) (fun k => ∀ i, i < k → inP a (l.getD i 0) = true) (by kernel_rfl) (by kernel_rfl) (fun i hi => by omega) ?_
  intro k hk hI J next
  refine Asks.raw (belowt1_raw _ a l k J) ⟨fun hlt => ?_, fun hge => leafB ?_⟩
  · have hlt' : k < l.length := by have := lt_of hlt; omega
    have hto : (k : Int).toNat = k := by omega
    rw [hto]
    refine ⟨⟨by omega, by omega⟩, fun hy => leafB ?_, fun hy => next _ hlt' (fun i hi => ?_) (Up.of ?_)⟩
    · exact (allI_no (f := fun i => inP a (l.getD i 0)) hlt' (by rw [Bool.eq_false_iff]; intro hc; simp [inP] at hc hy; omega)).symm
    · rcases Nat.lt_succ_iff_lt_or_eq.1 hi with h | rfl
      · exact hI i h
      · simp [inP] at hy ⊢; omega
    · rw [wrap_succ (by omega)]; rfl
  · have hge' : l.length ≤ k := by have := ge_of hge; omega
    exact (allI_iff.2 fun i hi => hI i (by omega)).symm
/-- One number alone. -/
theorem below_one {a x : Int} : VSpec Tryd.prog 119 [] [intV a, .sl false 1 1 fun i => List.take 1 (List.drop (i * 1) [.sc (.int .i64 x)])] [] (boolV (inP a x)) := by
  have h := below_spec' (a := a) (l := [x]) (by simp)
  have e : belowP a [x] = inP a x := by simp [belowP, allI, List.getD]
  rw [e] at h
  refine h.le trivial ⟨VV.le_refl _, VV.le_sl (.inl rfl) fun i hi => leL_eq ?_, trivial⟩ trivial (VV.le_refl _)
  obtain rfl : i = 0 := by omega
  rfl
end Go.Proofs.YtdjjlkekbphbaaaDoor
