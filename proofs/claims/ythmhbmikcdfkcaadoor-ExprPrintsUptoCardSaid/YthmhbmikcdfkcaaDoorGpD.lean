/-
  Texts, joined: GdW1, GdW2, GdW3, GdW4, GdW5, GdW6.
-/
import Derived.Test.YthmhbmikcdfkcaaDoorGpC
/-
  Layer 11 on trees, I: types, shapes, what is below what.
-/
namespace Go.Proofs.YthmhbmikcdfkcaaDoor
open Go.RowKit

theorem leafB {a b : Bool} (h : a = b) : leO [] [] ∧ VV.le (.sc (.bool a)) (.sc (.bool b)) := ⟨trivial, VV.le_eq (by rw [h])⟩
theorem leafI {a b : Int} (h : a = b) : leO [] [] ∧ VV.le (.sc (.int .i64 a)) (.sc (.int .i64 b)) := ⟨trivial, VV.le_eq (by rw [h])⟩
theorem leaf2 {a b c d : Int} (h : (a, b) = (c, d)) : leO [] [] ∧ VV.le (.tup [.sc (.int .i64 a), .sc (.int .i64 b)]) (.tup [.sc (.int .i64 c), .sc (.int .i64 d)]) := by
  simp only [Prod.mk.injEq] at h; exact ⟨trivial, VV.le_eq (by rw [h.1, h.2])⟩
theorem leaf3 {a b c d e f : Int} (h : (a, b, c) = (d, e, f)) : leO [] [] ∧ VV.le (.tup [.sc (.int .i64 a), .sc (.int .i64 b), .sc (.int .i64 c)]) (.tup [.sc (.int .i64 d), .sc (.int .i64 e), .sc (.int .i64 f)]) := by
  simp only [Prod.mk.injEq] at h; exact ⟨trivial, VV.le_eq (by rw [h.1, h.2.1, h.2.2])⟩
theorem lt_of {a b : Int} (h : decide (a < b) = true) : a < b := of_decide_eq_true h
theorem ge_of {a b : Int} (h : decide (a < b) = false) : b ≤ a := by have := of_decide_eq_false h; omega
theorem wf_in {n : Int} (h : Ev.wInt .i64 n) : -9223372036854775808 ≤ n ∧ n ≤ 9223372036854775807 := wf_i64.1 h

theorem typ_spec (t : D.Type) : VSpec Tryd.prog 87 [] [.agg (enc_Type t)] [] (boolV (typP t)) := by
  refine vspec_raw tb_ok mixed Tryd.func87 (by kernel_rfl) rfl (typ_raw _ t) (leafB ?_)
  rw [Bool.eq_iff_iff]; simp [typP]; cases t.Signed <;> simp <;> omega
theorem typ_in {t : D.Type} (h : typP t = true) : 1 ≤ t.Bits ∧ t.Bits ≤ 32 ∧ (t.Signed = true → t.Bits = 16 ∨ t.Bits = 32) := by
  unfold typP at h
  simp at h
  refine ⟨h.1, h.2.1, fun hs => ?_⟩
  rcases h.2.2 with h | h
  · rw [hs] at h; cases h
  · exact h
theorem pow_in {n : Nat} (h : n ≤ 32) : (1 : Int) ≤ 2 ^ n ∧ (2 : Int) ^ n ≤ 4294967296 := by
  have h1 : (2 : Nat) ^ n ≤ 2 ^ 32 := Nat.pow_le_pow_right (by omega) h
  have h2 : 1 ≤ (2 : Nat) ^ n := Nat.one_le_two_pow
  have e : (2 : Int) ^ n = ((2 ^ n : Nat) : Int) := by simp
  rw [e]
  have e32 : (2 : Nat) ^ 32 = 4294967296 := by decide
  omega
theorem fits_spec (t : D.Type) (v : Int) : VSpec Tryd.prog 79 [] [.agg (enc_Type t), intV v] [] (boolV (fitsP t v)) := by
  refine vspec_raw tb_ok mixed Tryd.func79 (by kernel_rfl) rfl (fits_raw _ t v) ⟨typP t, typ_spec t, fun h => leafB ?_, fun h => ?_⟩
  · have h' : typP t = false := by simpa using h
    simp [fitsP, h']
  · have h' : typP t = true := by simpa using h
    obtain ⟨h1, h2, h3⟩ := typ_in h'
    have hb : IntKind.i64.bits = 64 := rfl
    have hw : IntKind.i64.wrap (t.Bits - 1) = t.Bits - 1 := wrap_id (by omega) (by omega)
    refine ⟨fun hs => ?_, fun hs => ?_⟩
    · rw [hw]
      refine ⟨by omega, fun _ => by omega, leafB ?_⟩
      have hp := pow_in (n := (t.Bits - 1).toNat) (by omega)
      have hm : min (t.Bits - 1).toNat IntKind.i64.bits = (t.Bits - 1).toNat := by rw [hb]; omega
      rw [hm, wrap_id (n := -1 * _) (by omega) (by omega), wrap_id (n := 1 * _) (by omega) (by omega)]
      have e1 : (-1 : Int) * 2 ^ (t.Bits - 1).toNat = -(2 ^ (t.Bits - 1).toNat) := by omega
      have e2 : (1 : Int) * 2 ^ (t.Bits - 1).toNat = 2 ^ (t.Bits - 1).toNat := by omega
      rw [e1, e2]
      simp only [fitsP, h', hs, cond_true, Bool.true_and, ge_iff_le]
      cases decide (-(2 : Int) ^ (t.Bits - 1).toNat ≤ v) <;> rfl
    · refine ⟨fun _ => by omega, leafB ?_⟩
      have hp := pow_in (n := t.Bits.toNat) (by omega)
      have hm : min t.Bits.toNat IntKind.i64.bits = t.Bits.toNat := by rw [hb]; omega
      rw [hm, wrap_id (n := 1 * _) (by omega) (by omega)]
      have e2 : (1 : Int) * 2 ^ t.Bits.toNat = 2 ^ t.Bits.toNat := by omega
      rw [e2]
      simp only [fitsP, h', hs, cond_false, Bool.true_and, ge_iff_le]
      cases decide (0 ≤ v) <;> rfl
theorem reach_spec {v : D.Var} (hv : wf_Var v) : VSpec Tryd.prog 58 [] [.agg (enc_Var v)] [] (intV (reachP v)) := by
  have hd := hv.Dims
  refine vspec_raw tb_ok mixed Tryd.func58 (by kernel_rfl) rfl (reach_raw _ v) ⟨fun h => leafI ?_, fun h => ?_⟩
  · unfold reachP
    have : (decide (v.Slot < 0) || (decide (1073741824 < v.Slot) || decide (4 < v.Dims.length))) = true := by simp at h ⊢; omega
    rw [this, cond_true]
  · have hb : 0 ≤ v.Slot ∧ v.Slot ≤ 1073741824 ∧ v.Dims.length ≤ 4 := by simp at h; omega
    have e : reachP v = reachL (v.Slot + 1) v.Dims := by
      unfold reachP
      have : (decide (v.Slot < 0) || (decide (1073741824 < v.Slot) || decide (4 < v.Dims.length))) = false := by simp; omega
      rw [this, cond_false]
    rw [e, wrap_id (by omega) (by omega)]
    refine loop_raw tb_ok mixed (fun g st => ∃ (k : Nat) (n : Int), k ≤ v.Dims.length ∧ g = v.Dims.length - k ∧ 0 ≤ n ∧ n ≤ 1073741825 + k * 1152921504606846976 ∧ reachL n (v.Dims.drop k) = reachL (v.Slot + 1) v.Dims ∧ st = stReach n v k) (by kernel_rfl) (by kernel_rfl)
      ⟨_, Up.of ⟨0, v.Slot + 1, Nat.zero_le _, rfl, by omega, by omega, rfl, rfl⟩⟩ ?_
    rintro g st ⟨k, n, hk, rfl, hn0, hn1, hr, rfl⟩
    refine Asks.raw (reach1_raw _ n v k _) ⟨fun hlt => ?_, fun hge => leafI ?_⟩
    · have hlt' : k < v.Dims.length := by have := lt_of hlt; omega
      have hto : (k : Int).toNat = k := by omega
      rw [hto]
      have hdr : v.Dims.drop k = v.Dims.getD k default :: v.Dims.drop (k + 1) := by
        rw [List.drop_eq_getElem_cons hlt']; simp [List.getD, hlt']
      have hw := hd.2 _ (getD_mem (d := default) hlt')
      generalize v.Dims.getD k default = d at hdr hw ⊢
      have hwl := wf_in hw.Len
      rw [hdr] at hr
      refine ⟨⟨by omega, by omega⟩, fun hy => leafI ?_, fun hy => ?_⟩
      · rw [← hr]
        have : dimBad d = true := by
          unfold dimBad
          by_cases hl : d.Len < 1
          · simp [hl]
          · rw [wrap_id (by omega) (by omega)] at hy
            simp at hy ⊢; omega
        show _ = reachL n (d :: _)
        unfold reachL; rw [this]; rfl
      · have hl : 1 ≤ d.Len := by
          by_cases hl : d.Len < 1
          · simp [hl] at hy
          · omega
        have hwr : IntKind.i64.wrap (d.Len - 1) = d.Len - 1 := wrap_id (by omega) (by omega)
        rw [hwr] at hy ⊢
        have hb2 : d.Len - 1 ≤ 1073741824 ∧ 0 ≤ d.Stride ∧ d.Stride ≤ 1073741824 := by simp at hy; omega
        have hbad : dimBad d = false := by unfold dimBad; simp; omega
        have hm1 : 0 ≤ (d.Len - 1) * d.Stride := Int.mul_nonneg (by omega) hb2.2.1
        have hm2 : (d.Len - 1) * d.Stride ≤ 1073741824 * 1073741824 := Int.mul_le_mul hb2.1 hb2.2.2 hb2.2.1 (by omega)
        rw [wrap_id (n := (d.Len - 1) * d.Stride) (by omega) (by omega), wrap_id (n := n + _) (by omega) (by omega), wrap_succ (by omega)]
        refine ⟨v.Dims.length - (k + 1), by omega, Up.of ⟨k + 1, n + (d.Len - 1) * d.Stride, by omega, rfl, by omega, by omega, ?_, rfl⟩⟩
        rw [← hr]
        show _ = reachL n (d :: _)
        conv => rhs; unfold reachL
        rw [hbad]; rfl
    · have hge' : v.Dims.length ≤ k := by have := ge_of hge; omega
      rw [List.drop_eq_nil_of_le hge'] at hr
      rw [← hr]; rfl
theorem types_spec {t : List D.Type} {init : List Int} (hl : t.length ≤ init.length) (hs : t.length ≤ 1048576) : VSpec Tryd.prog 80 [] [encL_Type true t, encL_Int true init] [] (intV (typesP t init)) := by
  refine vspec_raw tb_ok mixed Tryd.func80 (by kernel_rfl) rfl (types_raw _ t init) ?_
  refine loop_idx tb_ok mixed t.length (fun k => stTypes t init k) (fun k => ∀ i, i < k → fitsP (t.getD i default) (init.getD i 0) = true) (by kernel_rfl) (by kernel_rfl) (fun i hi => by omega) ?_
  intro k hk hI J next
  refine Asks.raw (types1_raw _ t init k J) ⟨fun hlt => ?_, fun hge => leafI ?_⟩
  · have hlt' : k < t.length := by have := lt_of hlt; omega
    refine ⟨⟨by omega, by omega⟩, ⟨by omega, by omega⟩, fitsP (t.getD k default) (init.getD k 0), fits_spec _ _, fun hy => leafI ?_, fun hy => next _ hlt' (fun i hi => ?_) (Up.of ?_)⟩
    · exact (badI_some (f := fun i => fitsP (t.getD i default) (init.getD i 0)) hI hlt' (by simpa using hy)).symm
    · rcases Nat.lt_succ_iff_lt_or_eq.1 hi with h | rfl
      · exact hI i h
      · simpa using hy
    · rw [wrap_succ (by omega)]; rfl
  · have hge' : t.length ≤ k := by have := ge_of hge; omega
    exact (badI_none (f := fun i => fitsP (t.getD i default) (init.getD i 0)) fun i hi => hI i (by omega)).symm
theorem shape_spec {s : D.Shape} (hs : wf_Shape s) : VSpec Tryd.prog 81 [] [.agg (enc_Shape s)] [] (boolV (shapeP s)) := by
  have hl := hs.Fields.1
  refine vspec_raw tb_ok mixed Tryd.func81 (by kernel_rfl) rfl (shape_raw _ s) ⟨fun h => leafB ?_, fun h => ?_⟩
  · symm; rw [Bool.eq_false_iff]; intro hc; simp [shapeP] at hc h; omega
  · have e : shapeP s = allI s.Fields.length fun i => typP (s.Fields.getD i default) := by
      unfold shapeP
      have : (decide (0 ≤ s.Room) && decide (s.Room ≤ 16) && decide (1 ≤ s.Fields.length) && decide (s.Fields.length ≤ 8)) = true := by simp at h ⊢; omega
      rw [this, Bool.true_and]
    rw [e]
    refine loop_idx tb_ok mixed s.Fields.length (fun k => stShape s k) (fun k => ∀ i, i < k → typP (s.Fields.getD i default) = true) (by kernel_rfl) (by kernel_rfl) (fun i hi => by omega) ?_
    intro k hk hI J next
    refine Asks.raw (shape1_raw _ s k J) ⟨fun hlt => ?_, fun hge => leafB ?_⟩
    · have hlt' : k < s.Fields.length := by have := lt_of hlt; omega
      refine ⟨⟨by omega, by omega⟩, typP (s.Fields.getD k default), typ_spec _, fun hy => leafB ?_, fun hy => next _ hlt' (fun i hi => ?_) (Up.of ?_)⟩
      · exact (allI_no (f := fun i => typP (s.Fields.getD i default)) hlt' (by simpa using hy)).symm
      · rcases Nat.lt_succ_iff_lt_or_eq.1 hi with h | rfl
        · exact hI i h
        · simpa using hy
      · rw [wrap_succ (by omega)]; rfl
    · have hge' : s.Fields.length ≤ k := by have := ge_of hge; omega
      exact (allI_iff.2 fun i hi => hI i (by omega)).symm
theorem procty_spec (m : D.Model) (n : Int) : VSpec Tryd.prog 93 [] [tpM m, intV n] [] (boolV (procP m n)) := by
  refine vspec_raw tb_ok mixed Tryd.func93 (by kernel_rfl) rfl (procty_raw _ m n) (leafB ?_)
  rw [Bool.eq_iff_iff]; simp [procP]
theorem below_spec' {a : Int} {l : List Int} (hl : l.length ≤ 1099511627776) : VSpec Tryd.prog 89 [] [intV a, encL_Int false l] [] (boolV (belowP a l)) := by
  refine vspec_raw tb_ok mixed Tryd.func89 (by kernel_rfl) rfl (below_raw _ a l) ?_
  refine loop_idx tb_ok mixed l.length (fun k => stBelow a l k) (fun k => ∀ i, i < k → inP a (l.getD i 0) = true) (by kernel_rfl) (by kernel_rfl) (fun i hi => by omega) ?_
  intro k hk hI J next
  refine Asks.raw (below1_raw _ a l k J) ⟨fun hlt => ?_, fun hge => leafB ?_⟩
  · have hlt' : k < l.length := by have := lt_of hlt; omega
    have hto : (k : Int).toNat = k := by omega
    rw [hto]
    refine ⟨⟨by omega, by omega⟩, fun hy => leafB ?_, fun hy => next _ hlt' (fun i hi => ?_) (Up.of ?_)⟩
    · exact (allI_no (f := fun i => inP a (l.getD i 0)) hlt' (by rw [Bool.eq_false_iff]; intro hc; simp [inP] at hc hy; omega)).symm
    · rcases Nat.lt_succ_iff_lt_or_eq.1 hi with h | rfl
      · exact hI i h
      · simp [inP] at hy ⊢; omega
    · rw [wrap_succ (by omega)]; rfl
  · have hge' : l.length ≤ k := by have := ge_of hge; omega
    exact (allI_iff.2 fun i hi => hI i (by omega)).symm
theorem below_spec {a : Int} {l : List Int} (hl : l.length ≤ 1099511627776) : VSpec Tryd.prog 89 [] [intV a, encL_Int true l] [] (boolV (belowP a l)) := by
  refine vspec_raw tb_ok mixed Tryd.func89 (by kernel_rfl) rfl (belowt_raw _ a l) ?_
  refine loop_idx tb_ok mixed l.length (fun k => stBelowt a l k) (fun k => ∀ i, i < k → inP a (l.getD i 0) = true) (by kernel_rfl) (by kernel_rfl) (fun i hi => by omega) ?_
  intro k hk hI J next
  refine Asks.raw (belowt1_raw _ a l k J) ⟨fun hlt => ?_, fun hge => leafB ?_⟩
  · have hlt' : k < l.length := by have := lt_of hlt; omega
    have hto : (k : Int).toNat = k := by omega
    rw [hto]
    refine ⟨⟨by omega, by omega⟩, fun hy => leafB ?_, fun hy => next _ hlt' (fun i hi => ?_) (Up.of ?_)⟩
    · exact (allI_no (f := fun i => inP a (l.getD i 0)) hlt' (by rw [Bool.eq_false_iff]; intro hc; simp [inP] at hc hy; omega)).symm
    · rcases Nat.lt_succ_iff_lt_or_eq.1 hi with h | rfl
      · exact hI i h
      · simp [inP] at hy ⊢; omega
    · rw [wrap_succ (by omega)]; rfl
  · have hge' : l.length ≤ k := by have := ge_of hge; omega
    exact (allI_iff.2 fun i hi => hI i (by omega)).symm
/-- One number alone. -/
theorem below_one {a x : Int} : VSpec Tryd.prog 89 [] [intV a, .sl false 1 1 fun i => List.take 1 (List.drop (i * 1) [.sc (.int .i64 x)])] [] (boolV (inP a x)) := by
  have h := below_spec' (a := a) (l := [x]) (by simp)
  have e : belowP a [x] = inP a x := by simp [belowP, allI, List.getD]
  rw [e] at h
  refine h.le trivial ⟨VV.le_refl _, VV.le_sl (.inl rfl) fun i hi => leL_eq ?_, trivial⟩ trivial (VV.le_refl _)
  obtain rfl : i = 0 := by omega
  rfl
end Go.Proofs.YthmhbmikcdfkcaaDoor
/-
  Layer 11 on trees, II: expressions.
-/
namespace Go.Proofs.YthmhbmikcdfkcaaDoor
open Go.RowKit

theorem bt {b : Bool} {p : Prop} (h : b = true) (k : b = false) : p := by rw [h] at k; cases k
theorem below_one' {a x : Int} : VSpec Tryd.prog 89 [] [intV a, .sl true 1 1 fun i => List.take 1 (List.drop (i * 1) [.sc (.int .i64 x)])] [] (boolV (inP a x)) := by
  have h := below_spec (a := a) (l := [x]) (by simp)
  have e : belowP a [x] = inP a x := by simp [belowP, allI, List.getD]
  rw [e] at h
  refine h.le trivial ⟨VV.le_refl _, VV.le_sl (.inl rfl) fun i hi => leL_eq ?_, trivial⟩ trivial (VV.le_refl _)
  obtain rfl : i = 0 := by omega
  rfl
theorem parts_spec (op : Int) : VSpec Tryd.prog 88 [] [intV op] [] (intV (partsP op)) := by
  refine vspec_raw tb_ok mixed Tryd.func88 (by kernel_rfl) rfl (parts_raw _ op) ?_
  have k0 : ∀ {p : Prop}, (op = 1 ∨ op = 2 ∨ op = 31 ∨ op = 32 ∨ op = 33 ∨ op = 34 ∨ op = 35 ∨ op = 39) → leO [] [] ∧ VV.le (.sc (.int .i64 0)) (.sc (.int .i64 (partsP op : Nat))) := fun h => leafI (by unfold partsP; rw [if_pos h]; rfl)
  have kx : ¬(op = 1 ∨ op = 2 ∨ op = 31 ∨ op = 32 ∨ op = 33 ∨ op = 34 ∨ op = 35 ∨ op = 39) → ((op == (24 : Int)) = true → leO [] [] ∧ (VV.sc (.int .i64 3)).le (.sc (.int .i64 (partsP op : Nat)))) ∧ ((op == (24 : Int)) = false →
      ((bif decide (op ≥ (6 : Int)) then decide (op ≤ (23 : Int)) else false) = true → leO [] [] ∧ (VV.sc (.int .i64 2)).le (.sc (.int .i64 (partsP op : Nat)))) ∧ ((bif decide (op ≥ (6 : Int)) then decide (op ≤ (23 : Int)) else false) = false → leO [] [] ∧ (VV.sc (.int .i64 1)).le (.sc (.int .i64 (partsP op : Nat))))) := by
    intro hn
    refine ⟨fun h => leafI ?_, fun h => ⟨fun h2 => leafI ?_, fun h2 => leafI ?_⟩⟩
    · unfold partsP; rw [if_neg hn, if_pos (by simpa using h)]; rfl
    · unfold partsP; rw [if_neg hn, if_neg (by simpa using h), if_pos (by simp at h2; omega)]; rfl
    · unfold partsP; rw [if_neg hn, if_neg (by simpa using h), if_neg (by simp at h2; omega)]; rfl
  refine ⟨fun h1 => ⟨fun _ => k0 (p := True) (by simp at h1; omega), fun h => bt h1 h⟩, fun h1 => ⟨fun h2 => ⟨fun _ => k0 (p := True) (by simp at h2; omega), fun h => bt h2 h⟩, fun h2 => ⟨fun h3 => ⟨fun _ => k0 (p := True) (by simp at h3; omega), fun h => bt h3 h⟩, fun h3 => ⟨fun h4 => ⟨fun _ => k0 (p := True) (by simp at h4; omega), fun h => bt h4 h⟩, fun h4 => ⟨fun h5 => ⟨fun _ => k0 (p := True) (by simp at h5; omega), fun h => bt h5 h⟩, fun h5 =>
    ⟨fun h6 => ⟨fun _ => k0 (p := True) (by simp at h6; omega), fun h => bt h6 h⟩, fun h6 => ⟨fun h7 => ⟨fun _ => k0 (p := True) (by simp at h7; omega), fun h => bt h7 h⟩, fun h7 => ⟨fun h8 => k0 (p := True) (by simp at h8; omega), fun h8 => kx (by simp at h1 h2 h3 h4 h5 h6 h7 h8; omega)⟩⟩⟩⟩⟩⟩⟩⟩
theorem vari_spec {m : D.Model} {a : Int} {v : D.Var} (hv : wf_Var v) : VSpec Tryd.prog 90 [] [tpM m, intV a, .agg (enc_Var v)] [] (boolV (variableP m a v)) := by
  have hl := hv.Dims.1
  refine vspec_raw tb_ok mixed Tryd.func90 (by kernel_rfl) rfl (vari_raw _ m a v) ?_
  have hloop : ∀ b : Bool, b = allI v.Dims.length (fun i => dimP a (v.Dims.getD i default)) → SatC (fnCtx Tryd.prog tb shGd ann_vari true Tryd.f90 [] (boolV b)) [1, 1, 1, 0, 1, 0] (stVari a v 0) := by
    rintro b rfl
    refine loop_idx tb_ok mixed v.Dims.length (fun k => stVari a v k) (fun k => ∀ i, i < k → dimP a (v.Dims.getD i default) = true) (by kernel_rfl) (by kernel_rfl) (fun i hi => by omega) ?_
    intro k hk hI J next
    refine Asks.raw (vari1_raw _ a v k J) ⟨fun hlt => ?_, fun hge => leafB ?_⟩
    · have hlt' : k < v.Dims.length := by have := lt_of hlt; omega
      have hto : (k : Int).toNat = k := by omega
      rw [hto]
      have hdim : ∀ d : D.Dim, dimP a d = !(bif bif bif bif !(inP a d.I) then true else decide (d.Len < 1) then true else decide (d.Len > 128) then true else decide (d.Stride < 0) then true else decide (d.Stride > 128)) := by
        intro d
        unfold dimP
        cases inP a d.I
        · rfl
        · rw [Bool.eq_iff_iff]; simp <;> omega
      refine ⟨⟨by omega, by omega⟩, inP a (v.Dims.getD k default).I, below_one, fun hy => leafB ?_, fun hy => next _ hlt' (fun i hi => ?_) (Up.of ?_)⟩
      · exact (allI_no (f := fun i => dimP a (v.Dims.getD i default)) hlt' (by show dimP a _ = false; rw [hdim, hy]; rfl)).symm
      · rcases Nat.lt_succ_iff_lt_or_eq.1 hi with h | rfl
        · exact hI i h
        · show dimP a _ = true; rw [hdim, hy]; rfl
      · rw [wrap_succ (by omega)]; rfl
    · have hge' : v.Dims.length ≤ k := by have := ge_of hge; omega
      exact (allI_iff.2 fun i hi => hI i (by omega)).symm
  unfold variableP
  generalize allI v.Dims.length (fun i => dimP a (v.Dims.getD i default)) = al at hloop ⊢
  refine ⟨fun h => leafB ?_, fun h => ⟨fun h2 => ?_, fun h2 => ?_⟩⟩
  · symm; rw [Bool.eq_false_iff]; intro hc; simp at h hc; omega
  all_goals
    have e : (decide (0 ≤ v.Scope) && decide (v.Scope ≤ 2) && decide (0 ≤ v.Slot) && decide (v.Slot ≤ 128) && decide (v.Dims.length ≤ 4)) = true := by simp at h ⊢; omega
    rw [e, Bool.true_and]
  · have e2 : decide (v.Scope = 2) = true := by simpa using h2
    rw [e2, cond_true]
    refine ⟨inP a v.Who, below_one, procP m v.Type_, fun _ => procty_spec _ _, fun hy => leafB ?_, fun hy => hloop _ ?_⟩
    · cases h3 : inP a v.Who <;> cases h4 : procP m v.Type_ <;> rw [h3, h4] at hy <;> first | rfl | cases hy
    · cases h3 : inP a v.Who <;> cases h4 : procP m v.Type_ <;> rw [h3, h4] at hy <;> first | (simp; done) | cases hy
  · have e2 : decide (v.Scope = 2) = false := by simpa using h2
    rw [e2, cond_false]
    refine ⟨fun hy => leafB ?_, fun hy => hloop _ ?_⟩
    · symm; rw [Bool.eq_false_iff]; intro hc; simp at hy hc; omega
    · have : (decide (v.Who = -1) && decide (v.Type_ = -1)) = true := by simp at hy ⊢; omega
      rw [this, Bool.true_and]
theorem matched_spec {m : D.Model} {a : Int} {args mt : List Int} (ha : a ≤ m.Exprs.length) (h1 : args.length ≤ 1048576) (h2 : mt.length ≤ 1048576) :
    VSpec Tryd.prog 91 [] [tpM m, intV a, encL_Int true args, encL_Int true mt] [] (boolV (matchedP m a args mt)) := by
  refine vspec_raw tb_ok mixed Tryd.func91 (by kernel_rfl) rfl (matched_raw _ m a args mt) ⟨belowP a args, fun _ => below_spec (by omega), fun h => leafB ?_, fun h => ?_⟩
  · unfold matchedP
    symm; rw [Bool.eq_false_iff]; intro hc
    simp at hc h
    obtain ⟨⟨⟨⟨c1, c2⟩, c3⟩, c4⟩, _⟩ := hc
    rw [c4] at h
    simp at h
    omega
  · have hb : belowP a args = true := by
      cases hq : belowP a args with
      | true => rfl
      | false => rw [hq] at h; simp at h
    have hlen : 1 ≤ args.length ∧ args.length ≤ 8 ∧ mt.length = args.length := by rw [hb] at h; simp at h; omega
    have e : matchedP m a args mt = allI mt.length fun i => matchP m (args.getD i 0) (mt.getD i 0) := by
      unfold matchedP
      rw [hb]; simp [hlen]
    rw [e]
    have hin := belowP_iff.1 hb
    refine loop_idx tb_ok mixed mt.length (fun k => stMatched m args mt k) (fun k => ∀ i, i < k → matchP m (args.getD i 0) (mt.getD i 0) = true) (by kernel_rfl) (by kernel_rfl) (fun i hi => by omega) ?_
    intro k hk hI J next
    refine Asks.raw (matched1_raw _ m args mt k J) ⟨fun hlt => ?_, fun hge => leafB ?_⟩
    · have hlt' : k < mt.length := by have := lt_of hlt; omega
      have hto : (k : Int).toNat = k := by omega
      rw [hto]
      have hx := hin _ (getD_mem (d := (0 : Int)) (show k < args.length by omega))
      have hm : matchP m (args.getD k 0) (mt.getD k 0) = !(bif bif decide (mt.getD k 0 < -1) then true else decide (mt.getD k 0 > 1) then true else bif mt.getD k 0 == 0 then (m.Exprs.getD (args.getD k 0).toNat default).Op != 2 else false) := by
        unfold matchP exAt
        rw [Bool.eq_iff_iff]; simp <;> omega
      refine ⟨⟨by omega, by omega⟩, fun _ => ⟨by omega, by omega⟩, fun _ => ⟨by omega, by omega⟩, fun hy => leafB ?_, fun hy => next _ hlt' (fun i hi => ?_) (Up.of ?_)⟩
      · exact (allI_no (f := fun i => matchP m (args.getD i 0) (mt.getD i 0)) hlt' (by show matchP m _ _ = false; rw [hm, hy]; rfl)).symm
      · rcases Nat.lt_succ_iff_lt_or_eq.1 hi with h | rfl
        · exact hI i h
        · rw [hm, hy]; rfl
      · rw [wrap_succ (by omega)]; rfl
    · have hge' : mt.length ≤ k := by have := ge_of hge; omega
      exact (allI_iff.2 fun i hi => hI i (by omega)).symm
theorem places_spec {m : D.Model} {x : D.Expr} (h1 : x.Args.length ≤ 1048576) : VSpec Tryd.prog 92 [] [tpM m, .agg (enc_Expr x)] [] (boolV (placesP m x)) := by
  refine vspec_raw tb_ok mixed Tryd.func92 (by kernel_rfl) rfl (places_raw _ m x) ⟨procP m x.N, fun _ => procty_spec _ _, fun h => leafB ?_, fun h => ?_⟩
  · unfold placesP
    symm; rw [Bool.eq_false_iff]; intro hc
    simp at hc h
    obtain ⟨⟨⟨⟨c1, c2⟩, c3⟩, c4⟩, _⟩ := hc
    rw [c3] at h
    simp at h
    omega
  · have hb : procP m x.N = true := by
      cases hq : procP m x.N with
      | true => rfl
      | false => rw [hq] at h; simp at h
    have hp : 0 ≤ x.N ∧ x.N < m.Procs.length := by unfold procP at hb; simp at hb; omega
    have hlen : 0 ≤ x.N ∧ x.N < 1073741824 ∧ 1 ≤ x.Args.length := by rw [hb] at h; simp at h; omega
    refine ⟨⟨by omega, by omega⟩, belowP (locsOf m x.N).length x.Args, below_spec (by omega), leafB ?_⟩
    unfold placesP
    rw [hb]; simp [hlen]
theorem partP_eq {a op : Int} {i : Nat} {p : Int} : partP a op i p = !(bif bif decide ((i : Int) < (partsP op : Nat)) then !(inP a p) else false then true else bif decide ((i : Int) ≥ (partsP op : Nat)) then p != -1 else false) := by
  unfold partP
  by_cases h : i < partsP op
  · have h1 : decide (i < partsP op) = true := by simpa using h
    have h2 : decide ((i : Int) < (partsP op : Nat)) = true := by simp; omega
    have h3 : decide ((i : Int) ≥ (partsP op : Nat)) = false := by simp; omega
    rw [h1, h2, h3]; simp
  · have h1 : decide (i < partsP op) = false := by simpa using h
    have h2 : decide ((i : Int) < (partsP op : Nat)) = false := by simp; omega
    have h3 : decide ((i : Int) ≥ (partsP op : Nat)) = true := by simp; omega
    rw [h1, h2, h3, Bool.eq_iff_iff]; simp
theorem expr_spec {m : D.Model} {a : Int} (h0 : 0 ≤ a) (ha : a < m.Exprs.length) (hw : wf_Expr (exAt m a)) : VSpec Tryd.prog 82 [] [tpM m, intV a] [] (boolV (exprP m a)) := by
  refine vspec_raw tb_ok mixed Tryd.func82 (by kernel_rfl) rfl (expr_raw _ m a) ⟨⟨h0, ha⟩, fun h => leafB ?_, fun h => ?_⟩
  · symm; rw [Bool.eq_false_iff]; intro hc
    unfold exprP at hc
    simp only [Bool.and_eq_true, decide_eq_true_eq] at hc
    have h' : (bif decide ((exAt m a).Op < 1) then true else decide ((exAt m a).Op > 39)) = true := h
    simp at h'
    omega
  · have hop : 1 ≤ (exAt m a).Op ∧ (exAt m a).Op ≤ 39 := by
      have h' : (bif decide ((exAt m a).Op < 1) then true else decide ((exAt m a).Op > 39)) = false := h
      simp at h'; omega
    have hargs := hw.Args.1
    have hmt := hw.Match.1
    have hwv := hw.V
    generalize hb : exprP m a = b
    unfold exprP at hb
    simp only at hb
    show SatC _ _ (stExpr m a (exAt m a) 0)
    generalize exAt m a = x at hop hargs hmt hwv hb ⊢
    have e : (decide (1 ≤ x.Op) && decide (x.Op ≤ 39)) = true := by simp; omega
    rw [e, Bool.true_and] at hb
    refine loop_raw tb_ok mixed (fun g st => (g = 3 ∧ st = stExpr m a x 0) ∨ (g = 2 ∧ partP a x.Op 0 x.A = true ∧ st = stExpr m a x 1) ∨ (g = 1 ∧ partP a x.Op 0 x.A = true ∧ partP a x.Op 1 x.B = true ∧ st = stExpr m a x 2) ∨ (g = 0 ∧ partP a x.Op 0 x.A = true ∧ partP a x.Op 1 x.B = true ∧ partP a x.Op 2 x.C = true ∧ st = stExpr m a x 3))
      (by kernel_rfl) (by kernel_rfl) ⟨3, Up.of (.inl ⟨rfl, rfl⟩)⟩ ?_
    rintro g st (⟨rfl, rfl⟩ | ⟨rfl, p0, rfl⟩ | ⟨rfl, p0, p1, rfl⟩ | ⟨rfl, p0, p1, p2, rfl⟩)
    · refine Asks.raw (expr1_0_raw _ m a x _) ⟨fun _ => ⟨⟨by omega, by omega⟩, _, parts_spec _, _, fun _ => below_one', _, fun _ => parts_spec _, fun hy => leafB ?_, fun hy => ⟨2, by omega, Up.of (.inr (.inl ⟨rfl, ?_, ?_⟩))⟩⟩, fun h => by cases h⟩
      · have hp : partP a x.Op 0 x.A = false := by rw [partP_eq]; exact congrArg (!·) hy
        rw [← hb, hp]; rfl
      · rw [partP_eq]; exact congrArg (!·) hy
      · rw [wrap_id (by omega) (by omega)]; rfl
    · refine Asks.raw (expr1_1_raw _ m a x _) ⟨fun _ => ⟨⟨by omega, by omega⟩, _, parts_spec _, _, fun _ => below_one', _, fun _ => parts_spec _, fun hy => leafB ?_, fun hy => ⟨1, by omega, Up.of (.inr (.inr (.inl ⟨rfl, p0, ?_, ?_⟩)))⟩⟩, fun h => by cases h⟩
      · have hp : partP a x.Op 1 x.B = false := by rw [partP_eq]; exact congrArg (!·) hy
        rw [← hb, p0, hp]; rfl
      · rw [partP_eq]; exact congrArg (!·) hy
      · rw [wrap_id (by omega) (by omega)]; rfl
    · refine Asks.raw (expr1_2_raw _ m a x _) ⟨fun _ => ⟨⟨by omega, by omega⟩, _, parts_spec _, _, fun _ => below_one', _, fun _ => parts_spec _, fun hy => leafB ?_, fun hy => ⟨0, by omega, Up.of (.inr (.inr (.inr ⟨rfl, p0, p1, ?_, ?_⟩)))⟩⟩, fun h => by cases h⟩
      · have hp : partP a x.Op 2 x.C = false := by rw [partP_eq]; exact congrArg (!·) hy
        rw [← hb, p0, p1, hp]; rfl
      · rw [partP_eq]; exact congrArg (!·) hy
      · rw [wrap_id (by omega) (by omega)]; rfl
    · rw [p0, p1, p2] at hb
      simp only [Bool.and_self, Bool.true_and] at hb
      subst hb
      refine Asks.raw (expr1_3_raw _ m a x _) ⟨fun h => (by cases h), fun _ => ⟨fun h1 => ⟨_, fits_spec ⟨32, true⟩ _, leafB ?_⟩, fun h1 => ⟨fun h2 => ⟨_, vari_spec hwv, leafB ?_⟩, fun h2 => ⟨fun h3 => ⟨_, matched_spec (by omega) hargs hmt, leafB ?_⟩, fun h3 => ⟨fun h4 => ⟨_, places_spec hargs, leafB ?_⟩, fun h4 =>
        ⟨fun h5 => ⟨procP m x.N, fun _ => procty_spec _ _, fun hy => ?_, belowP a x.Args, fun _ => below_spec (by omega), leafB ?_⟩, fun h5 => leafB ?_⟩⟩⟩⟩⟩⟩
      · rw [if_pos (by simpa using h1)]
      · rw [if_neg (by simpa using h1), if_pos (by simpa using h2)]
      · rw [if_neg (by simpa using h1), if_neg (by simpa using h2), if_pos (by simpa using h3)]
        cases matchedP m a x.Args x.Match
        · rfl
        · rw [Bool.eq_iff_iff]; simp
      · rw [if_neg (by simpa using h1), if_neg (by simpa using h2), if_neg (by simpa using h3), if_pos (by simpa using h4)]
      · have hb : procP m x.N = true := by
          cases hq : procP m x.N with
          | true => rfl
          | false => rw [hq] at hy; simp at hy
        unfold procP at hb; simp at hb; omega
      · rw [if_neg (by simpa using h1), if_neg (by simpa using h2), if_neg (by simpa using h3), if_neg (by simpa using h4), if_pos (by simpa using h5)]
        cases procP m x.N <;> cases belowP a x.Args <;> first | (simp; done) | (rw [Bool.eq_iff_iff]; simp)
      · rw [if_neg (by simpa using h1), if_neg (by simpa using h2), if_neg (by simpa using h3), if_neg (by simpa using h4), if_neg (by simpa using h5)]
end Go.Proofs.YthmhbmikcdfkcaaDoor
/-
  Layer 11 on trees, III: places, statements, what an expression holds.
-/
namespace Go.Proofs.YthmhbmikcdfkcaaDoor
open Go.RowKit

theorem drop_cons {α : Type} {l : List α} {k : Nat} {d : α} (h : k < l.length) : l.drop k = l.getD k d :: l.drop (k + 1) := by
  rw [List.drop_eq_getElem_cons h]; simp [List.getD, h]
theorem take_push {α : Type} {l : List α} {k : Nat} {d : α} (h : k < l.length) : l.take (k + 1) = l.take k ++ [l.getD k d] := by
  rw [List.take_add_one, List.getElem?_eq_getElem h]; simp [List.getD, h]
theorem cond_lt {α : Type} {i n : Nat} {a b : α} (h : i < n) : (bif Nat.blt i n then a else b) = a := by
  have hb : Nat.blt i n = true := Nat.ble_eq_true_of_le h
  rw [hb, cond_true]
theorem cond_ge {α : Type} {i n : Nat} {a b : α} (h : n ≤ i) : (bif Nat.blt i n then a else b) = b := by
  have hb : Nat.blt i n = false := by
    cases hq : Nat.blt i n with
    | true => have := Nat.le_of_ble_eq_true hq; omega
    | false => rfl
  rw [hb, cond_false]
/-- Rows behind rows. -/
theorem rows_app {α : Type} {f : α → List VV} {d : α} {l r : List α} {F G : Nat → List VV} (h1 : ∀ i, i < l.length → F i = f (l.getD i d)) (h2 : ∀ i, i < r.length → G i = f (r.getD i d)) {i : Nat} (hi : i < (l ++ r).length) :
    (bif i.blt l.length then F i else G (i - l.length)) = f ((l ++ r).getD i d) := by
  by_cases hl : i < l.length
  · rw [cond_lt hl, h1 i hl]
    simp only [List.getD_eq_getElem?_getD, List.getElem?_append_left hl]
  · rw [cond_ge (by omega), h2 _ (by simp at hi; omega)]
    simp only [List.getD_eq_getElem?_getD, List.getElem?_append_right (by omega : l.length ≤ i)]
theorem row_one {x : Int} : ∀ i, i < [x].length → (fun i => List.take 1 (List.drop (i * 1) [VV.sc (.int .i64 x)])) i = (fun n => [intV n]) ([x].getD i 0) := by
  intro i hi
  obtain rfl : i = 0 := by simpa using hi
  rfl
/-- An array's rows, said otherwise. -/
theorem satC_rows {c : Ctx} {rel : List Nat} {l : List (Nat × VV)} {g n sz : Nat} {F G : Nat → List VV} (h : ∀ i, i < n → F i = G i) (k : SatC c rel (mkSt l [.arr true g n sz G])) : SatC c rel (mkSt l [.arr true g n sz F]) :=
  SatC.le (hs := [.arr true g n sz F]) (hs' := [.arr true g n sz G]) (leT_refl _) ⟨Ob.le_arr fun i hi => leL_eq (h i hi), trivial⟩ k

theorem ways_spec {l : D.Loc} (h1 : l.Esc.length ≤ 1048576) : VSpec Tryd.prog 84 [] [.agg (enc_Loc l)] [] (encL_Transs true (waysP l)) := by
  refine vspec_raw tb_ok mixed Tryd.func84 (by kernel_rfl) rfl (ways_raw _ l) ⟨by omega, fun i hi => rfl, trivial, ?_⟩
  have e : 1 + l.Esc.length = (waysP l).length := by simp [waysP]; omega
  rw [e]
  refine VV.le_sl (.inl rfl) fun i hi => leL_eq ?_
  refine rows_app (l := [l.Out]) (r := l.Esc) (f := fun w => [encL_Trans true w]) (d := []) (F := fun i => List.take 1 (List.drop (i * 1) [encL_Trans true l.Out])) (G := fun i => [encL_Trans true (l.Esc.getD i [])]) (fun i hi => ?_) (fun i hi => rfl) hi
  obtain rfl : i = 0 := by simpa using hi
  rfl
theorem frame_spec {p : D.Proc} (hp : wf_Proc p) : VSpec Tryd.prog 75 [] [.agg (enc_Proc p)] [] (boolV (frameP p)) := by
  have h1 := hp.Frame.1
  refine vspec_raw tb_ok mixed Tryd.func75 (by kernel_rfl) rfl (frame_raw _ p) ⟨typesP p.Frame p.Init, fun h => types_spec ?_ h1, leafB ?_⟩
  · simp at h; omega
  · rw [Bool.eq_iff_iff]; simp [frameP]; omega
theorem claimed_spec {p : D.Proc} (hp : wf_Proc p) : VSpec Tryd.prog 77 [] [.agg (enc_Proc p)] [] (boolV (claimedP p)) := by
  have h1 := hp.Locs.1
  refine vspec_raw tb_ok mixed Tryd.func77 (by kernel_rfl) rfl (claimed_raw _ p) ⟨fun h => leafB ?_, fun h => ?_⟩
  · symm; rw [Bool.eq_false_iff]; intro hc; simp [claimedP, -List.length_eq_zero_iff] at hc h; omega
  · have e : claimedP p = allI p.Locs.length fun i => plainLoc (p.Locs.getD i default) := by
      unfold claimedP
      have : (decide (p.Frame.length = 0) && decide (p.Params ≤ 0) && decide (p.Active ≤ 0) && decide (p.Provided = -1)) = true := by simp at h ⊢; omega
      rw [this, Bool.true_and]
    rw [e]
    refine loop_idx tb_ok mixed p.Locs.length (fun k => stClaimed p k) (fun k => ∀ i, i < k → plainLoc (p.Locs.getD i default) = true) (by kernel_rfl) (by kernel_rfl) (fun i hi => by omega) ?_
    intro k hk hI J next
    refine Asks.raw (claimed1_raw _ p k J) ⟨fun hlt => ?_, fun hge => leafB ?_⟩
    · have hlt' : k < p.Locs.length := by have := lt_of hlt; omega
      have hto : (k : Int).toNat = k := by omega
      rw [hto]
      have hpl : ∀ l : D.Loc, plainLoc l = !(bif bif decide ((l.Esc.length : Int) > 0) then true else l.Atomic then true else l.Dstep) := by
        intro l
        unfold plainLoc
        cases l.Atomic <;> cases l.Dstep <;> rw [Bool.eq_iff_iff] <;> simp
      refine ⟨⟨by omega, by omega⟩, fun hy => leafB ?_, fun hy => next _ hlt' (fun i hi => ?_) (Up.of ?_)⟩
      · exact (allI_no (f := fun i => plainLoc (p.Locs.getD i default)) hlt' (by show plainLoc _ = false; rw [hpl, hy]; rfl)).symm
      · rcases Nat.lt_succ_iff_lt_or_eq.1 hi with h | rfl
        · exact hI i h
        · rw [hpl, hy]; rfl
      · rw [wrap_succ (by omega)]; rfl
    · have hge' : p.Locs.length ≤ k := by have := ge_of hge; omega
      exact (allI_iff.2 fun i hi => hI i (by omega)).symm
theorem graph_spec {p : D.Proc} (hp : wf_Proc p) : VSpec Tryd.prog 76 [] [.agg (enc_Proc p)] [] (boolV (graphP p)) := by
  have h1 := hp.Locs.1
  refine vspec_raw tb_ok mixed Tryd.func76 (by kernel_rfl) rfl (graph_raw _ p) ⟨fun h => leafB ?_, fun h => ?_⟩
  · symm; rw [Bool.eq_false_iff]; intro hc; simp [graphP, inP] at hc h; omega
  · have e : graphP p = locsOk p.Locs.length p.Final 0 0 p.Locs := by
      unfold graphP
      have : (decide (1 ≤ p.Locs.length) && decide (p.Locs.length ≤ 256) && inP p.Locs.length p.Start && inP p.Locs.length p.Final) = true := by simp [inP] at h ⊢; omega
      rw [this, Bool.true_and]
    rw [e]
    generalize hb : locsOk p.Locs.length p.Final 0 0 p.Locs = b
    refine loop_raw tb_ok mixed (fun g st => ∃ (k many : Nat), k ≤ p.Locs.length ∧ g = p.Locs.length - k ∧ many ≤ 1024 ∧ locsOk p.Locs.length p.Final many k (p.Locs.drop k) = b ∧ st = stGraph1 p many k) (by kernel_rfl) (by kernel_rfl) ⟨_, Up.of ⟨0, 0, Nat.zero_le _, rfl, by omega, hb, rfl⟩⟩ ?_
    rintro g st ⟨k, many, hk, rfl, hm, hr, rfl⟩
    refine Asks.raw (graph1_raw _ p many k _) ⟨fun hlt => ?_, fun hge => leafB ?_⟩
    · have hlt' : k < p.Locs.length := by have := lt_of hlt; omega
      have hto : (k : Int).toNat = k := by omega
      rw [hto]
      have hwl := hp.Locs.2 _ (getD_mem (d := default) hlt')
      rw [drop_cons (d := default) hlt'] at hr
      generalize p.Locs.getD k default = l at hwl hr ⊢
      have ho := hwl.Out.1
      have hes := hwl.Esc.1
      have hbad : locBad p.Final k l = bif bif decide ((l.Esc.length : Int) > 8) then true else bif l.Dstep then l.Atomic else false then true else bif (k : Int) == p.Final then decide (IntKind.i64.wrap ((l.Out.length : Int) + (l.Esc.length : Int)) > 0) else false := by
        rw [wrap_id (by omega) (by omega)]
        unfold locBad
        cases l.Dstep <;> cases l.Atomic <;> rw [Bool.eq_iff_iff] <;> simp <;> omega
      rw [← hbad]
      unfold locsOk at hr
      refine ⟨⟨by omega, by omega⟩, fun hy => leafB ?_, fun hy => ?_⟩
      · rw [hy, cond_true] at hr; exact hr
      · rw [hy, cond_false] at hr
        refine ⟨waysP l, ways_spec hes, ?_⟩
        have hwsl : (waysP l).length ≤ 1048577 := by simp [waysP]; omega
        have hwse : ∀ w ∈ waysP l, w.length ≤ 1048576 := by
          intro w hw
          rcases List.mem_cons.1 hw with rfl | hw
          · exact ho
          · exact (hwl.Esc.2 w hw).1
        generalize waysP l = ws at hr hwsl hwse ⊢
        generalize hwo : waysOk p.Locs.length many 0 ws = wo at hr
        refine loop_raw tb_ok mixed (fun g st => ∃ (j mn : Nat), j ≤ ws.length ∧ g = ws.length - j ∧ mn ≤ 1024 ∧ waysOk p.Locs.length mn j (ws.drop j) = wo ∧ st = stGraph2 p mn k ws j) (by kernel_rfl) (by kernel_rfl) ⟨_, Up.of ⟨0, many, Nat.zero_le _, rfl, hm, hwo, rfl⟩⟩ ?_
        rintro g st ⟨j, mn, hj, rfl, hmn, hq, rfl⟩
        refine Asks.raw (graph2_raw _ p mn k ws j _ _) ⟨fun hlt2 => ?_, fun hge2 => ?_⟩
        · have hlt2' : j < ws.length := by have := lt_of hlt2; omega
          have hto2 : (j : Int).toNat = j := by omega
          rw [hto2]
          have hwle := hwse _ (getD_mem (d := []) hlt2')
          rw [drop_cons (d := []) hlt2'] at hq
          generalize ws.getD j [] = w at hwle hq ⊢
          unfold waysOk at hq
          rw [wrap_id (n := (mn : Int) + _) (by omega) (by omega)]
          have e1 : (bif decide ((j : Int) > 0) then (w.length : Int) == 0 else false) = (decide (0 < j) && decide (w.length = 0)) := by
            rw [Bool.eq_iff_iff]; simp
          have e2 : decide ((mn : Int) + (w.length : Int) > 1024) = decide (1024 < mn + w.length) := by
            rw [Bool.eq_iff_iff]; simp; omega
          rw [e1, e2]
          refine ⟨⟨by omega, by omega⟩, fun hy1 => leafB ?_, fun hy1 => ⟨fun hy2 => leafB ?_, fun hy2 => ?_⟩⟩
          · rw [hy1, cond_true] at hq; rw [← hq] at hr; exact hr
          · rw [hy1, cond_false, hy2, cond_true] at hq; rw [← hq] at hr; exact hr
          · rw [hy1, cond_false, hy2, cond_false] at hq
            have hmn2 : mn + w.length ≤ 1024 := by simpa using hy2
            rw [show (mn : Int) + (w.length : Int) = ((mn + w.length : Nat) : Int) by omega]
            refine loop_idx tb_ok mixed w.length (fun h => stGraph3 p (mn + w.length : Nat) k ws j w h) (fun h => ∀ i, i < h → inP p.Locs.length (w.getD i default).To = true) (by kernel_rfl) (by kernel_rfl) (fun i hi => by omega) ?_
            intro h3 hh3 hI J3 next
            refine Asks.raw (graph3_raw _ p _ k ws j w h3 _ _ J3) ⟨fun hlt3 => ?_, fun hge3 => ?_⟩
            · have hlt3' : h3 < w.length := by have := lt_of hlt3; omega
              have hto3 : (h3 : Int).toNat = h3 := by omega
              rw [hto3]
              have hin : inP p.Locs.length (w.getD h3 default).To = !(bif decide ((w.getD h3 default).To < 0) then true else decide ((w.getD h3 default).To ≥ (p.Locs.length : Int))) := by
                unfold inP; rw [Bool.eq_iff_iff]; simp
              refine ⟨⟨by omega, by omega⟩, fun hy => leafB ?_, fun hy => next _ hlt3' (fun i hi => ?_) (Up.of ?_)⟩
              · have := allI_no (n := w.length) (f := fun i => inP p.Locs.length (w.getD i default).To) hlt3' (by show inP _ _ = false; rw [hin, hy]; rfl)
                rw [this, cond_false] at hq; rw [← hq] at hr; exact hr
              · rcases Nat.lt_succ_iff_lt_or_eq.1 hi with h | rfl
                · exact hI i h
                · rw [hin, hy]; rfl
              · rw [wrap_succ (by omega)]; rfl
            · have hge3' : w.length ≤ h3 := by have := ge_of hge3; omega
              have := (allI_iff (n := w.length) (f := fun i => inP p.Locs.length (w.getD i default).To)).2 fun i hi => hI i (by omega)
              rw [this, cond_true] at hq
              rw [wrap_succ (by omega)]
              exact ⟨ws.length - (j + 1), by omega, Up.of ⟨j + 1, mn + w.length, by omega, rfl, hmn2, hq, rfl⟩⟩
        · have hge2' : ws.length ≤ j := by have := ge_of hge2; omega
          rw [List.drop_eq_nil_of_le hge2'] at hq
          unfold waysOk at hq
          rw [← hq] at hr
          rw [wrap_succ (by omega)]
          exact ⟨p.Locs.length - (k + 1), by omega, Up.of ⟨k + 1, mn, by omega, rfl, hmn, hr, rfl⟩⟩
    · have hge' : p.Locs.length ≤ k := by have := ge_of hge; omega
      rw [List.drop_eq_nil_of_le hge'] at hr
      exact hr
theorem text_nil (t : ByteArray) : (t.toList == (⟨#[]⟩ : ByteArray).toList) = decide (t.size = 0) := by
  rw [ByteArray.toList_eq, ByteArray.toList_eq, Bool.eq_iff_iff, beq_iff_eq, decide_eq_true_eq]
  show t.data.toList = [] ↔ t.data.size = 0
  rw [← Array.length_toList, List.length_eq_zero_iff]
theorem empty_spec {s : D.Stmt} {u v x : Bool} (h1 : s.Args.length ≤ 1048576) (h2 : s.Match.length ≤ 1048576) : VSpec Tryd.prog 97 [] [.agg (enc_Stmt s), boolV u, boolV v, boolV x] [] (boolV (emptyP s u v x)) := by
  refine vspec_raw tb_ok mixed Tryd.func97 (by kernel_rfl) rfl (empty_raw _ s u v x) (leafB ?_)
  rw [wrap_id (by omega) (by omega), text_nil]
  unfold emptyP
  have e1 : ((s.Args.length : Int) + (s.Match.length : Int) == 0) = decide (s.Args.length + s.Match.length = 0) := by rw [Bool.eq_iff_iff, beq_iff_eq, decide_eq_true_eq]; omega
  have e2 : (s.N == 0) = decide (s.N = 0) := by rw [Bool.eq_iff_iff, beq_iff_eq, decide_eq_true_eq]
  rw [e1, e2]
  generalize decide (s.Args.length + s.Match.length = 0) = b1
  generalize decide (s.N = 0) = b2
  generalize decide (s.Text.size = 0) = b3
  cases u <;> cases v <;> cases x <;> cases b1 <;> cases b2 <;> cases b3 <;> rfl
theorem place_spec (m : D.Model) (a : Int) : VSpec Tryd.prog 96 [] [tpM m, intV a] [] (boolV (placeP m a)) :=
  vspec_raw tb_ok mixed Tryd.func96 (by kernel_rfl) rfl (place_raw _ m a) ⟨inP m.Exprs.length a, below_one, leafB rfl⟩
theorem target_spec (m : D.Model) (a : Int) : VSpec Tryd.prog 98 [] [tpM m, intV a] [] (boolV (targetP m a)) := by
  have hin : ∀ y : Bool, y = placeP m a → y = true → 0 ≤ a ∧ a < m.Exprs.length := fun y hy h => inP_iff.1 (by rw [hy] at h; exact h)
  refine vspec_raw tb_ok mixed Tryd.func98 (by kernel_rfl) rfl (target_raw _ m a) ⟨placeP m a, place_spec m a, fun h => hin _ rfl (by simpa using h), fun h => hin _ rfl ?_, leafB ?_⟩
  · cases hq : placeP m a with
    | true => rfl
    | false => rw [hq] at h; simp at h
  · unfold targetP exAt
    cases placeP m a
    · rfl
    · rw [Bool.eq_iff_iff]; simp
theorem taken_spec {m : D.Model} {s : D.Stmt} (h1 : s.Args.length ≤ 1048576) (h2 : s.Match.length ≤ 1048576) : VSpec Tryd.prog 99 [] [tpM m, .agg (enc_Stmt s)] [] (boolV (takenP m s)) := by
  refine vspec_raw tb_ok mixed Tryd.func99 (by kernel_rfl) rfl (taken_raw _ m s) ⟨matchedP m m.Exprs.length s.Args s.Match, matched_spec (Int.le_refl _) h1 h2, fun h => leafB ?_, fun h => ?_⟩
  · have h' : matchedP m m.Exprs.length s.Args s.Match = false := by simpa using h
    unfold takenP; rw [h', Bool.false_and]
  · have h' : matchedP m m.Exprs.length s.Args s.Match = true := by simpa using h
    have hlen : s.Match.length = s.Args.length := by
      unfold matchedP at h'
      simp only [Bool.and_eq_true, decide_eq_true_eq] at h'
      exact h'.1.1.2
    have e : takenP m s = allI s.Match.length fun i => !decide (s.Match.getD i 0 = 0) || targetP m (s.Args.getD i 0) := by unfold takenP; rw [h', Bool.true_and]
    rw [e]
    refine loop_idx tb_ok mixed s.Match.length (fun k => stTaken m s k) (fun k => ∀ i, i < k → (!decide (s.Match.getD i 0 = 0) || targetP m (s.Args.getD i 0)) = true) (by kernel_rfl) (by kernel_rfl) (fun i hi => by omega) ?_
    intro k hk hI J next
    refine Asks.raw (taken1_raw _ m s k J) ⟨fun hlt => ?_, fun hge => leafB ?_⟩
    · have hlt' : k < s.Match.length := by have := lt_of hlt; omega
      have hto : (k : Int).toNat = k := by omega
      rw [hto]
      have hm : (!decide (s.Match.getD k 0 = 0) || targetP m (s.Args.getD k 0)) = !(bif s.Match.getD k 0 == 0 then !(targetP m (s.Args.getD k 0)) else false) := by
        generalize s.Match.getD k 0 = z
        cases targetP m (s.Args.getD k 0)
        · rw [Bool.eq_iff_iff]; simp
        · simp
      refine ⟨⟨by omega, by omega⟩, fun _ => ⟨by omega, by omega⟩, targetP m (s.Args.getD k 0), fun _ => target_spec _ _, fun hy => leafB ?_, fun hy => next _ hlt' (fun i hi => ?_) (Up.of ?_)⟩
      · exact (allI_no (f := fun i => !decide (s.Match.getD i 0 = 0) || targetP m (s.Args.getD i 0)) hlt' (by show (!decide (s.Match.getD k 0 = 0) || targetP m (s.Args.getD k 0)) = false; rw [hm, hy]; rfl)).symm
      · rcases Nat.lt_succ_iff_lt_or_eq.1 hi with h | rfl
        · exact hI i h
        · rw [hm, hy]; rfl
      · rw [wrap_succ (by omega)]; rfl
    · have hge' : s.Match.length ≤ k := by have := ge_of hge; omega
      exact (allI_iff.2 fun i hi => hI i (by omega)).symm
theorem slots_spec {m : D.Model} {i : Int} {v : D.Var} (h1 : v.Scope = 1 → 0 ≤ i ∧ i < m.Procs.length) (h2 : v.Scope ≠ 0 → v.Scope ≠ 1 → 0 ≤ v.Type_ ∧ v.Type_ < m.Procs.length) : VSpec Tryd.prog 95 [] [tpM m, intV i, .agg (enc_Var v)] [] (intV (slotsP m i v)) := by
  refine vspec_raw tb_ok mixed Tryd.func95 (by kernel_rfl) rfl (slots_raw _ m i v) ⟨fun h => leafI ?_, fun h => ⟨fun k => ⟨h1 (by simpa using k), leafI ?_⟩, fun k => ⟨h2 (by simpa using h) (by simpa using k), leafI ?_⟩⟩⟩
  · unfold slotsP; rw [if_pos (by simpa using h)]
  · unfold slotsP; rw [if_neg (by simpa using h), if_pos (by simpa using k)]
  · unfold slotsP; rw [if_neg (by simpa using h), if_neg (by simpa using k)]
end Go.Proofs.YthmhbmikcdfkcaaDoor
/-
  Layer 11 on trees, IV: statements, what is held, what is used.
-/
namespace Go.Proofs.YthmhbmikcdfkcaaDoor
open Go.RowKit

/-! ### What is frozen may be handed to who only asks that nobody writes to it while he runs -/
def leS (x y : VV) : Prop := ∀ (w : World) (E : Prot) (m : Option Phi) (v : Value), (∀ k, E.br k → E.fz k) → V w E m x v → V w E m y v
theorem leS_refl (x : VV) : leS x x := fun _ _ _ _ _ h => h
theorem leS_sl {n sz : Nat} {f : Nat → List VV} : leS (.sl true n sz f) (.sl false n sz f) := by
  intro w E m v hE h
  obtain ⟨a, cap, rfl, h1, h2, h3⟩ := V.sl_inv h
  refine V.sl_mk h1 h2 fun hp => ?_
  obtain ⟨b, off, rfl, hb, hn, hl, u, hc, hv⟩ := h3 hp
  exact ⟨b, off, rfl, hb, fun hbr => hn (hE b hbr), hl, u, hc, fun i j x hi hx => (hv i j x hi hx).less (fun _ h => h) fun _ _ => trivial⟩
theorem VSpec.frz {P : Program} {f : FuncId} {hs hs' : List Ob} {xs ys : List VV} {r : VV} (h : VSpec P f hs xs hs' r) (hl : ys.length = xs.length) (hle : ∀ (j : Nat) x y, xs[j]? = some x → ys[j]? = some y → leS y x) : VSpec P f hs ys hs' r := by
  refine ⟨h.callable, fun w E φ vs hz hH hφ hs0 => h.call w E φ vs hz hH hφ ⟨hs0.1.trans hl, fun j x hx => ?_⟩⟩
  have hj : j < ys.length := by rw [hl]; exact (List.getElem?_eq_some_iff.1 hx).1
  exact hle j x _ hx (List.getElem?_eq_getElem hj) _ _ _ _ (fun k hk => hk.imp (hH.sub k) fun h => h) (hs0.2 j _ (List.getElem?_eq_getElem hj))

theorem ieq (a b : Int) : (a == b) = decide (a = b) := by rw [Bool.eq_iff_iff, beq_iff_eq, decide_eq_true_eq]
theorem bif_and (a b : Bool) : (bif a then b else false) = (a && b) := by cases a <;> rfl
theorem bif_or (a b : Bool) : (bif a then true else b) = (a || b) := by cases a <;> rfl
theorem nge (n k : Nat) : decide ((n : Int) ≥ k) = decide (k ≤ n) := by rw [Bool.eq_iff_iff, decide_eq_true_eq, decide_eq_true_eq]; omega
theorem nle (n k : Nat) : decide ((n : Int) ≤ k) = decide (n ≤ k) := by rw [Bool.eq_iff_iff, decide_eq_true_eq, decide_eq_true_eq]; omega
theorem ge1 (n : Nat) : decide ((n : Int) ≥ 1) = decide (1 ≤ n) := nge n 1
theorem le8 (n : Nat) : decide ((n : Int) ≤ 8) = decide (n ≤ 8) := nle n 8
theorem le256 (n : Nat) : decide ((n : Int) ≤ 256) = decide (n ≤ 256) := nle n 256
theorem neq0 (n : Nat) : decide ((n : Int) = 0) = decide (n = 0) := by rw [Bool.eq_iff_iff, decide_eq_true_eq, decide_eq_true_eq]; omega
structure SmallS (s : D.Stmt) : Prop where
  a : s.Args.length ≤ 1048576
  m : s.Match.length ≤ 1048576
theorem statement_spec {m : D.Model} {s : D.Stmt} (hs : SmallS s) : VSpec Tryd.prog 94 [] [tpM m, .agg (enc_Stmt s)] [] (boolV (statementP m s)) := by
  have ha := hs.a
  have hb := hs.m
  have em : ∀ u v x : Bool, VSpec Tryd.prog 97 [] [.agg (enc_Stmt s), boolV u, boolV v, boolV x] [] (boolV (emptyP s u v x)) := fun u v x => empty_spec ha hb
  have n1 : ∀ x : Bool, (bif x then s.B == (-1 : Int) else false) = (x && decide (s.B = -1)) := fun x => by rw [ieq, bif_and]
  have hkn : ∀ {k : Int}, (s.Kind == k) = true → s.Kind = k := fun h => by simpa using h
  have hkf : ∀ {k : Int}, (s.Kind == k) = false → s.Kind ≠ k := fun h => by simpa using h
  refine vspec_raw tb_ok mixed Tryd.func94 (by kernel_rfl) rfl (statement_raw _ m s) ?_
  have t13 : s.Kind = 1 ∨ s.Kind = 3 → statementP m s = (placeP m s.A && decide (s.B = -1) && emptyP s true true true) := fun h => by unfold statementP; rw [if_pos h]
  have t2 : s.Kind = 2 → statementP m s = (targetP m s.A && placeP m s.B && emptyP s true true true) := fun h => by unfold statementP; rw [if_neg (by omega), if_pos h]
  have t4 : s.Kind = 4 → statementP m s = (decide (s.A = -1) && decide (s.B = -1) && belowP m.Exprs.length s.Args && decide (s.Match.length = 0) && decide (s.Text.size ≤ 256) && decide (s.N = 0)) := fun h => by unfold statementP; rw [if_neg (by omega), if_neg (by omega), if_pos h]
  have t5 : s.Kind = 5 → statementP m s = (placeP m s.A && decide (s.B = -1) && decide (1 ≤ s.Args.length) && decide (s.Args.length ≤ 8) && belowP m.Exprs.length s.Args && decide (s.Match.length = 0) && (decide (s.N = 0) || decide (s.N = 1)) && decide (s.Text.size = 0)) := fun h => by unfold statementP; rw [if_neg (by omega), if_neg (by omega), if_neg (by omega), if_pos h]
  have t6 : s.Kind = 6 → statementP m s = (placeP m s.A && decide (s.B = -1) && takenP m s && decide (0 ≤ s.N) && decide (s.N ≤ 3) && decide (s.Text.size = 0)) := fun h => by unfold statementP; rw [if_neg (by omega), if_neg (by omega), if_neg (by omega), if_neg (by omega), if_pos h]
  have t7 : s.Kind = 7 ∨ s.Kind = 8 → statementP m s = (decide (s.A = -1) && decide (s.B = -1) && emptyP s true true true) := fun h => by unfold statementP; rw [if_neg (by omega), if_neg (by omega), if_neg (by omega), if_neg (by omega), if_neg (by omega), if_pos h]
  have t9 : s.Kind = 9 → statementP m s = (targetP m s.A && decide (s.B = -1) && decide (0 ≤ s.N) && decide (s.N < m.Shapes.length) && emptyP s true false true) := fun h => by unfold statementP; rw [if_neg (by omega), if_neg (by omega), if_neg (by omega), if_neg (by omega), if_neg (by omega), if_neg (by omega), if_pos h]
  have tx : ¬(s.Kind = 1 ∨ s.Kind = 3) → s.Kind ≠ 2 → s.Kind ≠ 4 → s.Kind ≠ 5 → s.Kind ≠ 6 → ¬(s.Kind = 7 ∨ s.Kind = 8) → s.Kind ≠ 9 → statementP m s = false := fun h1 h2 h3 h4 h5 h6 h7 => by unfold statementP; rw [if_neg h1, if_neg h2, if_neg h3, if_neg h4, if_neg h5, if_neg h6, if_neg h7]
  generalize statementP m s = b at t13 t2 t4 t5 t6 t7 t9 tx ⊢
  exact ⟨fun h1 => ⟨fun _ => ⟨_, place_spec m s.A, _, fun _ => em true true true, leafB (by rw [t13 (.inl (hkn h1)), n1, bif_and])⟩, fun h => bt h1 h⟩, fun h1 => ⟨fun h3 => ⟨_, place_spec m s.A, _, fun _ => em true true true, leafB (by rw [t13 (.inr (hkn h3)), n1, bif_and])⟩, fun h3 => ⟨fun h2 => ⟨_, target_spec m s.A, _, fun _ => place_spec m s.B, _, fun _ => em true true true, leafB (by rw [t2 (hkn h2), bif_and, bif_and])⟩, fun h2 => ⟨fun h4 => ⟨_, fun _ => below_spec (by omega), leafB (by rw [t4 (hkn h4)]; simp only [ieq, bif_and, neq0, le256])⟩, fun h4 => ⟨fun h5 => ⟨_, place_spec m s.A, _, fun _ => below_spec (by omega), leafB (by rw [t5 (hkn h5)]; simp only [ieq, bif_and, bif_or, neq0, text_nil, le8, ge1])⟩, fun h5 => ⟨fun h6 => ⟨_, place_spec m s.A, _, fun _ => taken_spec ha hb, leafB (by rw [t6 (hkn h6)]; simp only [ieq, bif_and, text_nil, ge_iff_le])⟩, fun h6 => ⟨fun h7 => ⟨fun _ => ⟨_, fun _ => em true true true, leafB (by rw [t7 (.inl (hkn h7))]; simp only [ieq, bif_and])⟩, fun h => bt h7 h⟩, fun h7 => ⟨fun h8 => ⟨_, fun _ => em true true true, leafB (by rw [t7 (.inr (hkn h8))]; simp only [ieq, bif_and])⟩, fun h8 => ⟨fun h9 => ⟨_, target_spec m s.A, _, fun _ => em true false true, leafB (by rw [t9 (hkn h9)]; simp only [ieq, bif_and, ge_iff_le])⟩, fun h9 => leafB (tx (fun h => h.elim (hkf h1) (hkf h3)) (hkf h2) (hkf h4) (hkf h5) (hkf h6) (fun h => h.elim (hkf h7) (hkf h8)) (hkf h9)).symm⟩⟩⟩⟩⟩⟩⟩⟩⟩
theorem held_spec {x : D.Expr} (h1 : x.Args.length ≤ 1048576) (h2 : x.V.Dims.length ≤ 1048576) : VSpec Tryd.prog 83 [] [.agg (enc_Expr x)] [] (encL_Int true (heldP x)) := by
  have hp3 := parts_le x.Op
  have hP : ([x.A, x.B, x.C].take (partsP x.Op)).length = partsP x.Op := by simp; omega
  have hrow : ∀ i, i < ([x.A, x.B, x.C].take (partsP x.Op)).length → List.take 1 (List.drop (i * 1) [VV.sc (.int .i64 x.A), .sc (.int .i64 x.B), .sc (.int .i64 x.C)]) = [intV (([x.A, x.B, x.C].take (partsP x.Op)).getD i 0)] := by
    intro i hi
    rw [hP] at hi
    have : ([x.A, x.B, x.C].take (partsP x.Op)).getD i 0 = [x.A, x.B, x.C].getD i 0 := by simp only [List.getD_eq_getElem?_getD, List.getElem?_take, hi, if_true]
    rw [this]
    rcases (show i = 0 ∨ i = 1 ∨ i = 2 by omega) with rfl | rfl | rfl <;> rfl
  have hto : ((partsP x.Op : Nat) : Int).toNat = partsP x.Op := by omega
  have loop : ∀ (L : List Int), L.length ≤ 2097152 → L ++ x.V.Dims.map D.Dim.I = heldP x → SatC (fnCtx Tryd.prog tb shGd ann_held true Tryd.f83 [] (encL_Int true (heldP x))) [1, 1, 1, 0, 1, 0, 1, 1, 0] (stHeld x L 0) := by
    intro L hL hR
    generalize heldP x = R at hR ⊢
    refine loop_idx tb_ok mixed x.V.Dims.length (fun k => stHeld x (L ++ (x.V.Dims.take k).map D.Dim.I) k) (fun _ => True) (by kernel_rfl) (by kernel_rfl) trivial ?_ |> fun h => by simpa using h
    intro k hk _ J next
    have hlen : (L ++ (x.V.Dims.take k).map D.Dim.I).length = L.length + k := by simp; omega
    refine Asks.raw (held1_raw _ x _ k J) ⟨fun hlt => ?_, fun hge => ⟨trivial, ?_⟩⟩
    · have hlt' : k < x.V.Dims.length := by have := lt_of hlt; omega
      have hto : (k : Int).toNat = k := by omega
      rw [hto]
      refine ⟨⟨by omega, by omega⟩, by rw [hlen]; omega, next _ hlt' trivial ?_⟩
      have hpush : (x.V.Dims.take (k + 1)).map D.Dim.I = (x.V.Dims.take k).map D.Dim.I ++ [(x.V.Dims.getD k default).I] := by rw [take_push (d := default) hlt']; simp
      have e : L ++ (x.V.Dims.take (k + 1)).map D.Dim.I = (L ++ (x.V.Dims.take k).map D.Dim.I) ++ [(x.V.Dims.getD k default).I] := by rw [hpush, List.append_assoc]
      rw [e, wrap_succ (by omega)]
      generalize L ++ (x.V.Dims.take k).map D.Dim.I = M
      generalize (x.V.Dims.getD k default).I = z
      refine Up.mk (l' := [(3, .ow 0 0 (M ++ [z]).length), (45, encL_Dim true x.V.Dims), (46, intV x.V.Dims.length), (47, intV ((k + 1 : Nat) : Int))]) (hs' := [.arr true 0 (M ++ [z]).length 1 (rowsIn (M ++ [z]))]) ?_ ?_ rfl
      · rw [show M.length + 1 = (M ++ [z]).length by simp]; exact leT_refl _
      · rw [show M.length + 1 = (M ++ [z]).length by simp]
        exact ⟨Ob.le_arr fun i hi => leL_eq (rows_app (f := fun n => [intV n]) (d := 0) (l := M) (r := [z]) (F := fun i => [.sc (.int .i64 (M.getD i 0))]) (fun i hi => rfl) row_one hi), trivial⟩
    · have hge' : x.V.Dims.length ≤ k := by have := ge_of hge; omega
      rw [List.take_of_length_le hge', hR]
      exact VV.le_refl _
  refine vspec_raw tb_ok mixed Tryd.func83 (by kernel_rfl) rfl (held_raw _ x) ⟨(partsP x.Op : Nat), parts_spec _, ?_⟩
  rw [hto]
  have hpp : partsP x.Op = ([x.A, x.B, x.C].take (partsP x.Op)).length := hP.symm
  generalize hLp : [x.A, x.B, x.C].take (partsP x.Op) = P at hrow hpp loop
  have hheld : heldP x = P ++ ((if x.Op = 30 ∨ x.Op = 39 then x.Args else []) ++ (if x.Op = 2 then (if x.V.Scope = 2 then [x.V.Who] else []) ++ x.V.Dims.map D.Dim.I else [])) := by unfold heldP; rw [hLp]
  generalize heldP x = R at hheld loop ⊢
  rw [hpp] at hp3 ⊢
  refine ⟨⟨by omega, by omega⟩, by omega, fun h => ⟨by omega, fun i hi => rfl, fun k => ?_, fun k => ⟨trivial, ?_⟩⟩, fun h => ⟨fun k => ⟨fun q => ⟨by omega, ?_⟩, fun q => ?_⟩, fun k => ⟨trivial, ?_⟩⟩⟩
  · simp at h k; omega
  · have e : R = P ++ x.Args := by rw [hheld, if_pos (by simpa using h), if_neg (by simpa using k)]; simp
    subst e
    rw [show P.length + x.Args.length = (P ++ x.Args).length by simp]
    exact VV.le_sl (.inl rfl) fun i hi => leL_eq (rows_app (f := fun n => [intV n]) (d := 0) (l := P) (r := x.Args) (G := fun j => [.sc (.int .i64 (x.Args.getD j 0))]) hrow (fun i hi => rfl) hi)
  · have h' : ¬(x.Op = 30 ∨ x.Op = 39) := by simpa using h
    have e : (P ++ [x.V.Who]) ++ x.V.Dims.map D.Dim.I = R := by rw [hheld, if_neg h', if_pos (by simpa using k), if_pos (by simpa using q)]; simp
    refine SatC.le (l' := [(3, .ow 0 0 (P ++ [x.V.Who]).length), (45, encL_Dim true x.V.Dims), (46, intV x.V.Dims.length), (47, intV 0)]) (hs' := [.arr true 0 (P ++ [x.V.Who]).length 1 (rowsIn (P ++ [x.V.Who]))]) ?_ ?_ (loop _ (by simp; omega) e)
    · rw [show P.length + 1 = (P ++ [x.V.Who]).length by simp]; exact leT_refl _
    · rw [show P.length + 1 = (P ++ [x.V.Who]).length by simp]
      exact ⟨Ob.le_arr fun i hi => leL_eq (rows_app (f := fun n => [intV n]) (d := 0) (l := P) (r := [x.V.Who]) hrow row_one hi), trivial⟩
  · have h' : ¬(x.Op = 30 ∨ x.Op = 39) := by simpa using h
    have e : P ++ x.V.Dims.map D.Dim.I = R := by rw [hheld, if_neg h', if_pos (by simpa using k), if_neg (by simpa using q)]; simp
    exact satC_rows (G := rowsIn P) (fun i hi => hrow i hi) (loop _ (by omega) e)
  · have h' : ¬(x.Op = 30 ∨ x.Op = 39) := by simpa using h
    have e : R = P := by rw [hheld, if_neg h', if_neg (by simpa using k)]; simp
    subst e
    exact VV.le_sl (.inl rfl) fun i hi => leL_eq (hrow i hi)
end Go.Proofs.YthmhbmikcdfkcaaDoor
/-
  Layer 11 on trees, V: what a proctype uses.
-/
namespace Go.Proofs.YthmhbmikcdfkcaaDoor
open Go.RowKit

/-- A model whose expressions were looked at. -/
structure Ready (m : D.Model) : Prop where
  wf : wf_Model m
  ex : ∀ k : Nat, k < m.Exprs.length → exprP m k = true
def InE (m : D.Model) (l : List Int) : Prop := ∀ x ∈ l, 0 ≤ x ∧ x < m.Exprs.length
theorem exAt_mem {m : D.Model} {k : Int} (h0 : 0 ≤ k) (h : k < m.Exprs.length) : exAt m k ∈ m.Exprs := getD_mem (by omega)
theorem Ready.at {m : D.Model} (h : Ready m) {k : Int} (h0 : 0 ≤ k) (hk : k < m.Exprs.length) : exprP m k = true := by
  have := h.ex k.toNat (by omega)
  rwa [show ((k.toNat : Nat) : Int) = k by omega] at this
theorem Ready.held {m : D.Model} (h : Ready m) {k : Int} (h0 : 0 ≤ k) (hk : k < m.Exprs.length) : InE m (heldP (exAt m k)) := fun x hx => by
  have := held_in (h.at h0 hk) x hx; omega
theorem Ready.small {m : D.Model} (h : Ready m) : ∀ x ∈ m.Exprs, x.Args.length ≤ 1048576 ∧ x.V.Dims.length ≤ 1048576 := fun x hx =>
  ⟨(h.wf.Exprs.2 x hx).Args.1, (h.wf.Exprs.2 x hx).V.Dims.1⟩
theorem Ready.slots {m : D.Model} (h : Ready m) {k : Int} (h0 : 0 ≤ k) (hk : k < m.Exprs.length) (h2 : (exAt m k).Op = 2) : (exAt m k).V.Scope ≠ 0 → (exAt m k).V.Scope ≠ 1 → 0 ≤ (exAt m k).V.Type_ ∧ (exAt m k).V.Type_ < m.Procs.length := by
  have hx := h.at h0 hk
  unfold exprP at hx
  simp only [Bool.and_eq_true] at hx
  obtain ⟨_, hO⟩ := hx
  generalize exAt m k = x at *
  rw [if_neg (by omega), if_pos h2] at hO
  simp only [Bool.and_eq_true, variableP] at hO
  obtain ⟨⟨⟨⟨⟨⟨hs0, hs2⟩, _⟩, _⟩, _⟩, hW⟩, _⟩ := hO
  intro n0 n1
  have hs : x.V.Scope = 2 := by simp at hs0 hs2; omega
  simp only [hs, decide_true, cond_true, Bool.and_eq_true] at hW
  have := hW.2
  unfold procP at this
  simp at this; omega
/-- What holds when one more is looked at. -/
structure Inv (m : D.Model) (i run : Int) (n : Nat) (b : Bool) (seen : List Bool) (todo : List Int) (k : Nat) : Prop where
  sl : seen.length = m.Exprs.length
  le : k ≤ todo.length
  mem : InE m todo
  sum : todo.length + load m seen = n
  res : usesL m i run (todo.length - k + load m seen + 1) seen (todo.drop k) = b
section
variable {m : D.Model} {i run : Int} {n : Nat} {b : Bool} {seen : List Bool} {todo : List Int} {k : Nat}
theorem Inv.at (h : Inv m i run n b seen todo k) (hk : k < todo.length) : 0 ≤ todo.getD k 0 ∧ todo.getD k 0 < m.Exprs.length := h.mem _ (getD_mem hk)
theorem Inv.step (h : Inv m i run n b seen todo k) (hk : k < todo.length) :
    (bif seen.getD (todo.getD k 0).toNat false then usesL m i run (todo.length - (k + 1) + load m seen + 1) seen (todo.drop (k + 1)) else bif useBad m i run (todo.getD k 0) then false
      else usesL m i run (todo.length - (k + 1) + load m seen + 1) (seen.set (todo.getD k 0).toNat true) (todo.drop (k + 1) ++ heldP (exAt m (todo.getD k 0)))) = b := by
  have := h.res
  rw [drop_cons (d := 0) hk, show todo.length - k + load m seen + 1 = (todo.length - (k + 1) + load m seen + 1) + 1 by omega] at this
  exact this
theorem Inv.had (h : Inv m i run n b seen todo k) (hk : k < todo.length) (hs : seen.getD (todo.getD k 0).toNat false = true) : Inv m i run n b seen todo (k + 1) := by
  have := h.step hk
  rw [hs, cond_true] at this
  exact ⟨h.sl, hk, h.mem, h.sum, this⟩
theorem Inv.bad (h : Inv m i run n b seen todo k) (hk : k < todo.length) (hs : seen.getD (todo.getD k 0).toNat false = false) (hu : useBad m i run (todo.getD k 0) = true) : false = b := by
  have := h.step hk
  rw [hs, cond_false, hu, cond_true] at this
  exact this
theorem Inv.more (hr : Ready m) (h : Inv m i run n b seen todo k) (hk : k < todo.length) (hs : seen.getD (todo.getD k 0).toNat false = false) (hu : useBad m i run (todo.getD k 0) = false) :
    Inv m i run n b (seen.set (todo.getD k 0).toNat true) (todo ++ heldP (exAt m (todo.getD k 0))) (k + 1) := by
  have ht := h.at hk
  have hl := load_set (m := m) hs (by rw [h.sl]; omega) h.sl
  have := h.step hk
  rw [hs, cond_false, hu, cond_false] at this
  have hsum := h.sum
  have hx : m.Exprs.getD (todo.getD k 0).toNat default = exAt m (todo.getD k 0) := rfl
  rw [hx] at hl
  refine ⟨by simp [h.sl], by simp; omega, fun x hxm => ?_, by rw [List.length_append]; omega, ?_⟩
  · rcases List.mem_append.1 hxm with hxm | hxm
    · exact h.mem x hxm
    · exact hr.held ht.1 ht.2 x hxm
  · rw [List.drop_append_of_le_length hk, List.length_append]
    rw [show todo.length + (heldP (exAt m (todo.getD k 0))).length - (k + 1) + load m (seen.set (todo.getD k 0).toNat true) + 1 = todo.length - (k + 1) + load m seen + 1 by omega]
    exact this
end
theorem useBad_eq (m : D.Model) (i run k : Int) : useBad m i run k = ((bif bif (exAt m k).Op == 39 then k != run else false then true else bif i == m.Claim then bif bif (exAt m k).Op == 31 then true else (exAt m k).Op == 39 then true else bif (exAt m k).Op == 2 then (exAt m k).V.Scope == 1 else false else false) ||
    ((exAt m k).Op == 2 && decide (slotsP m i (exAt m k).V < reachP (exAt m k).V))) := by
  unfold useBad
  simp only [ieq, bif_and, bif_or, bne, Bool.or_assoc, decide_not]
theorem set_row {l : List Bool} {t j : Nat} (hj : j < l.length) : (bif j.beq t then [VV.sc (.bool true)] else [.sc (.bool (l.getD j false))]) = [boolV ((l.set t true).getD j false)] := by
  cases hq : j.beq t with
  | true =>
    have := Nat.eq_of_beq_eq_true hq; subst this
    simp [List.getD, hj, boolV]
  | false =>
    have hne : t ≠ j := by rintro rfl; simp at hq
    simp [List.getD, hne, boolV]
theorem app_row {l r : List Int} {F : Nat → List VV} (hF : ∀ i, i < l.length → F i = [intV (l.getD i 0)]) {i : Nat} (hi : i < (l ++ r).length) : (bif i.blt l.length then F i else (fun j => [intV (r.getD j 0)]) (i - l.length)) = rowsIn (l ++ r) i :=
  rows_app (f := fun n => [intV n]) (d := 0) (l := l) (r := r) (G := fun j => [intV (r.getD j 0)]) hF (fun _ _ => rfl) hi
theorem uses_spec {m : D.Model} {i run : Int} {list : List Int} (hr : Ready m) (hi0 : 0 ≤ i) (hi : i < m.Procs.length) (hin : InE m list) (hlen : list.length ≤ 2097152) :
    VSpec Tryd.prog 86 [] [tpM m, intV i, encL_Int false list, intV run] [] (boolV (usesP m i list run)) := by
  have hN := hr.wf.Exprs.1
  have hload := load_le hr.small (noneSeen m)
  have hmul : m.Exprs.length * 2097156 ≤ 1048576 * 2097156 := Nat.mul_le_mul_right _ hN
  generalize hb : usesP m i list run = b
  have inv0 : Inv m i run (list.length + load m (noneSeen m)) b (noneSeen m) list 0 := ⟨by simp [noneSeen], Nat.zero_le _, hin, rfl, by rw [← hb]; rfl⟩
  generalize hn : list.length + load m (noneSeen m) = n at inv0
  have hn2 : n ≤ 4398046511104 := by omega
  have small : ∀ {t : Int}, 0 ≤ t → t < m.Exprs.length → (exAt m t).Args.length ≤ 1048576 ∧ (exAt m t).V.Dims.length ≤ 1048576 := fun h0 h1 => hr.small _ (exAt_mem h0 h1)
  have wfv : ∀ {t : Int}, 0 ≤ t → t < m.Exprs.length → wf_Var (exAt m t).V := fun h0 h1 => (hr.wf.Exprs.2 _ (exAt_mem h0 h1)).V
  refine vspec_raw tb_ok mixed Tryd.func86 (by kernel_rfl) rfl (uses_raw _ m i list run) ?_
  refine scope_raw tb_ok mixed 0 (fun g st => ∃ (seen : List Bool) (todo : List Int) (k : Nat), Inv m i run n b seen todo k ∧ g = todo.length - k + load m seen ∧ st = stUses m i list run seen todo k) (by kernel_rfl) (by kernel_rfl) (by kernel_rfl) (by kernel_rfl) (Asks.raw (uses0_raw _ m i list run _) ?_) fun g st h => ?_
  · have hnn : ((m.Exprs.length : Int).toNat) = m.Exprs.length := by omega
    rw [hnn]
    have hto : Int.toNat 0 = 0 := rfl
    have hz : ∀ j, j < m.Exprs.length → (noneSeen m).getD j false = false := fun j hj => by simp [noneSeen, List.getD, hj]
    have hsl : (noneSeen m).length = m.Exprs.length := by simp [noneSeen]
    refine ⟨⟨by omega, by omega, by omega⟩, by omega, fun _ _ => rfl, fun h => leafB ?_, fun h => ?_⟩
    · have h0 : list.length = 0 := by simp at h; omega
      have := inv0.res
      rw [List.eq_nil_of_length_eq_zero h0] at this
      rw [← this]; rfl
    · have h0 : 0 < list.length := by simp at h; omega
      have ht := inv0.at h0
      rw [hto]
      have hs := hz (list.getD 0 0).toNat (by omega)
      have hbad := useBad_eq m i run (list.getD 0 0)
      have more := fun hu => inv0.more hr h0 hs hu
      have bad := fun hu => inv0.bad h0 hs hu
      have hsm := small ht.1 ht.2
      have hwv := wfv ht.1 ht.2
      have hsum := inv0.sum
      have hsl2 := hr.slots ht.1 ht.2
      refine ⟨⟨by omega, by omega⟩, ⟨by omega, by omega⟩, fun h => (by cases h), fun _ => ⟨⟨by omega, by omega⟩, ⟨by omega, by omega⟩, fun hc => leafB (bad (by rw [hbad, Bool.or_eq_true]; exact .inl hc)), fun hc => ?_⟩⟩
      have fin : useBad m i run (list.getD 0 0) = false → (list.length + (heldP (exAt m (list.getD 0 0))).length) * 8 ≤ 140737488355328 ∧ ∃ g, Up (fun st => ∃ (seen : List Bool) (todo : List Int) (k : Nat), Inv m i run n b seen todo k ∧ g = todo.length - k + load m seen ∧ st = stUses m i list run seen todo k)
          (mkSt [(0, tpM m), (1, intV i), (2, encL_Int false list), (3, intV run), (9, .ow 0 0 m.Exprs.length), (10, .ow 1 0 (list.length + (heldP (exAt m (list.getD 0 0))).length)), (11, intV (IntKind.i64.wrap (0 + 1)))]
            [.arr true 0 m.Exprs.length 1 (fun j => bif j.beq (list.getD 0 0).toNat then [.sc (.bool true)] else [.sc (.bool false)]), .arr true 0 (list.length + (heldP (exAt m (list.getD 0 0))).length) 1 (fun j => bif j.blt list.length then (fun j => [intV (list.getD j 0)]) j else (fun j => [intV ((heldP (exAt m (list.getD 0 0))).getD j 0)]) (j - list.length))]) := by
        intro hu
        have hm := more hu
        have hm2 := hm.sum
        generalize heldP (exAt m (list.getD 0 0)) = H at hm hm2 ⊢
        generalize (list.getD 0 0).toNat = t at hm hm2 ⊢
        rw [List.length_append] at hm2
        refine ⟨by omega, (list ++ H).length - (0 + 1) + load m ((noneSeen m).set t true), ?_⟩
        have hw1 : IntKind.i64.wrap (0 + 1) = ((1 : Nat) : Int) := rfl
        have hnl : m.Exprs.length = ((noneSeen m).set t true).length := by simp [noneSeen]
        refine Up.mk (l' := [(0, tpM m), (1, intV i), (2, encL_Int false list), (3, intV run), (9, .ow 0 0 ((noneSeen m).set t true).length), (10, .ow 1 0 (list ++ H).length), (11, intV ((1 : Nat) : Int))])
          (hs' := [.arr true 0 ((noneSeen m).set t true).length 1 (rowsBo ((noneSeen m).set t true)), .arr true 0 (list ++ H).length 1 (rowsIn (list ++ H))]) ?_ ?_ ⟨_, _, _, hm, rfl, rfl⟩
        · rw [hw1, ← hnl, List.length_append]; exact leT_refl _
        · rw [← hnl, ← List.length_append]
          refine ⟨Ob.le_arr fun j hj => leL_eq ?_, Ob.le_arr fun j hj => leL_eq (app_row (fun i hi => rfl) hj), trivial⟩
          have := set_row (l := noneSeen m) (t := t) (j := j) (by omega)
          rw [hz j hj] at this
          exact this
      refine ⟨fun h2 => ⟨_, reach_spec hwv, _, slots_spec (fun _ => ⟨hi0, hi⟩) (hsl2 (eq_of_beq h2)), fun h3 => leafB (bad ?_), fun h3 => ?_⟩, fun h2 => ?_⟩
      · rw [hbad, Bool.or_eq_true, Bool.and_eq_true]; exact .inr ⟨h2, h3⟩
      · have hu : useBad m i run (list.getD 0 0) = false := by
          rw [hbad, Bool.or_eq_false_iff, Bool.and_eq_false_iff]; exact ⟨hc, .inr h3⟩
        obtain ⟨f1, f2⟩ := fin hu
        exact ⟨heldP (exAt m (list.getD 0 0)), held_spec hsm.1 hsm.2, f1, fun i hi => rfl, f2⟩
      · have hu : useBad m i run (list.getD 0 0) = false := by
          rw [hbad, Bool.or_eq_false_iff, Bool.and_eq_false_iff]; exact ⟨hc, .inl h2⟩
        obtain ⟨f1, f2⟩ := fin hu
        exact ⟨heldP (exAt m (list.getD 0 0)), held_spec hsm.1 hsm.2, f1, fun i hi => rfl, f2⟩
  · obtain ⟨seen, todo, k, inv, rfl, rfl⟩ := h
    refine Asks.raw (uses1_raw _ m i list run seen todo k _) ⟨fun h => leafB ?_, fun h => ?_⟩
    · have h0 : k = todo.length := by simp at h; omega
      have := inv.res
      rw [List.drop_eq_nil_of_le (by omega)] at this
      rw [← this, usesL]
    · have hle := inv.le
      have h0 : k < todo.length := by simp at h; omega
      have ht := inv.at h0
      have hto : (k : Int).toNat = k := by omega
      rw [hto]
      have hbad := useBad_eq m i run (todo.getD k 0)
      have hsm := small ht.1 ht.2
      have hwv := wfv ht.1 ht.2
      have hsum := inv.sum
      have hsle := inv.sl
      have hsl2 := hr.slots ht.1 ht.2
      refine ⟨⟨by omega, by omega⟩, ⟨by omega, by omega⟩, fun hs => ?_, fun hs => ?_⟩
      · have hh := inv.had h0 hs
        refine ⟨todo.length - (k + 1) + load m seen, by omega, Up.of ⟨seen, todo, k + 1, hh, rfl, ?_⟩⟩
        rw [wrap_succ (by omega)]; rfl
      have more := fun hu => inv.more hr h0 hs hu
      have bad := fun hu => inv.bad h0 hs hu
      refine ⟨⟨by omega, by omega⟩, ⟨by omega, by omega⟩, fun hc => leafB (bad (by rw [hbad, Bool.or_eq_true]; exact .inl hc)), fun hc => ?_⟩
      have fin : useBad m i run (todo.getD k 0) = false → (todo.length + (heldP (exAt m (todo.getD k 0))).length) * 8 ≤ 140737488355328 ∧ ∃ g', g' < todo.length - k + load m seen ∧ Up (fun st => ∃ (seen : List Bool) (todo : List Int) (k : Nat), Inv m i run n b seen todo k ∧ g' = todo.length - k + load m seen ∧ st = stUses m i list run seen todo k)
          (mkSt [(0, tpM m), (1, intV i), (2, encL_Int false list), (3, intV run), (9, .ow 0 0 seen.length), (10, .ow 1 0 (todo.length + (heldP (exAt m (todo.getD k 0))).length)), (11, intV (IntKind.i64.wrap (k + 1)))]
            [.arr true 0 seen.length 1 (fun j => bif j.beq (todo.getD k 0).toNat then [.sc (.bool true)] else [.sc (.bool (seen.getD j false))]), .arr true 0 (todo.length + (heldP (exAt m (todo.getD k 0))).length) 1 (fun j => bif j.blt todo.length then rowsIn todo j else (fun j => [intV ((heldP (exAt m (todo.getD k 0))).getD j 0)]) (j - todo.length))]) := by
        intro hu
        have hm := more hu
        have hm2 := hm.sum
        generalize heldP (exAt m (todo.getD k 0)) = H at hm hm2 ⊢
        generalize (todo.getD k 0).toNat = t at hm hm2 ⊢
        rw [List.length_append] at hm2
        refine ⟨by omega, (todo ++ H).length - (k + 1) + load m (seen.set t true), by rw [List.length_append]; omega, ?_⟩
        have hnl : seen.length = (seen.set t true).length := by simp
        refine Up.mk (l' := [(0, tpM m), (1, intV i), (2, encL_Int false list), (3, intV run), (9, .ow 0 0 (seen.set t true).length), (10, .ow 1 0 (todo ++ H).length), (11, intV ((k + 1 : Nat) : Int))])
          (hs' := [.arr true 0 (seen.set t true).length 1 (rowsBo (seen.set t true)), .arr true 0 (todo ++ H).length 1 (rowsIn (todo ++ H))]) ?_ ?_ ⟨_, _, _, hm, rfl, rfl⟩
        · rw [wrap_succ (by omega), ← hnl, List.length_append]; exact leT_refl _
        · rw [← hnl, ← List.length_append]
          exact ⟨Ob.le_arr fun j hj => leL_eq (set_row hj), Ob.le_arr fun j hj => leL_eq (app_row (fun i hi => rfl) hj), trivial⟩
      refine ⟨fun h2 => ⟨_, reach_spec hwv, _, slots_spec (fun _ => ⟨hi0, hi⟩) (hsl2 (eq_of_beq h2)), fun h3 => leafB (bad ?_), fun h3 => ?_⟩, fun h2 => ?_⟩
      · rw [hbad, Bool.or_eq_true, Bool.and_eq_true]; exact .inr ⟨h2, h3⟩
      · have hu : useBad m i run (todo.getD k 0) = false := by
          rw [hbad, Bool.or_eq_false_iff, Bool.and_eq_false_iff]; exact ⟨hc, .inr h3⟩
        obtain ⟨f1, f2⟩ := fin hu
        exact ⟨heldP (exAt m (todo.getD k 0)), held_spec hsm.1 hsm.2, f1, fun i hi => rfl, f2⟩
      · have hu : useBad m i run (todo.getD k 0) = false := by
          rw [hbad, Bool.or_eq_false_iff, Bool.and_eq_false_iff]; exact ⟨hc, .inl h2⟩
        obtain ⟨f1, f2⟩ := fin hu
        exact ⟨heldP (exAt m (todo.getD k 0)), held_spec hsm.1 hsm.2, f1, fun i hi => rfl, f2⟩
/-- The same list, however it is said. -/
theorem uses_at {m : D.Model} {i run : Int} {list : List Int} {n : Nat} {F : Nat → List VV} (hr : Ready m) (hi0 : 0 ≤ i) (hi : i < m.Procs.length) (hin : InE m list) (hlen : list.length ≤ 2097152) (hn : n = list.length) (hF : ∀ j, j < list.length → F j = [intV (list.getD j 0)]) :
    VSpec Tryd.prog 86 [] [tpM m, intV i, .sl false n 1 F, intV run] [] (boolV (usesP m i list run)) := by
  subst hn
  exact (uses_spec hr hi0 hi hin hlen).le trivial ⟨VV.le_refl _, VV.le_refl _, VV.le_sl (.inl rfl) fun j hj => leL_eq (hF j hj), VV.le_refl _, trivial⟩ trivial (VV.le_refl _)
def wayList (s : D.Stmt) : List Int := s.Args ++ ((if 0 ≤ s.A then [s.A] else []) ++ (if 0 ≤ s.B then [s.B] else []))
theorem placeP_in {m : D.Model} {a : Int} (h : placeP m a = true) : 0 ≤ a ∧ a < m.Exprs.length := inP_iff.1 h
theorem targetP_in {m : D.Model} {a : Int} (h : targetP m a = true) : 0 ≤ a ∧ a < m.Exprs.length := by
  unfold targetP at h
  simp only [Bool.and_eq_true] at h
  exact placeP_in h.1.1
theorem matchedP_in {m : D.Model} {a : Int} {args mt : List Int} (h : matchedP m a args mt = true) : 1 ≤ args.length ∧ args.length ≤ 8 ∧ mt.length = args.length ∧ ∀ x ∈ args, 0 ≤ x ∧ x < a := by
  unfold matchedP at h
  simp only [Bool.and_eq_true, decide_eq_true_eq] at h
  exact ⟨h.1.1.1.1, h.1.1.1.2, h.1.1.2, belowP_iff.1 h.1.2⟩
/-- The parts of a statement are some of the model's. -/
theorem stmt_in {m : D.Model} {s : D.Stmt} (h : statementP m s = true) : InE m s.Args ∧ (0 ≤ s.A → s.A < m.Exprs.length) ∧ (0 ≤ s.B → s.B < m.Exprs.length) := by
  have none : ∀ {n t : Bool}, emptyP s true n t = true → InE m s.Args := fun he => by
    unfold emptyP at he
    simp only [Bool.and_eq_true, Bool.not_true, Bool.false_or, decide_eq_true_eq] at he
    have : s.Args = [] := List.eq_nil_of_length_eq_zero (by omega)
    rw [this]; intro x hx; cases hx
  unfold statementP at h
  split at h
  · simp only [Bool.and_eq_true, decide_eq_true_eq] at h
    exact ⟨none h.2, fun _ => (placeP_in h.1.1).2, fun h0 => by omega⟩
  split at h
  · simp only [Bool.and_eq_true] at h
    exact ⟨none h.2, fun _ => (targetP_in h.1.1).2, fun _ => (placeP_in h.1.2).2⟩
  split at h
  · simp only [Bool.and_eq_true, decide_eq_true_eq] at h
    exact ⟨belowP_iff.1 h.1.1.1.2, fun h0 => by omega, fun h0 => by omega⟩
  split at h
  · simp only [Bool.and_eq_true, decide_eq_true_eq] at h
    exact ⟨belowP_iff.1 h.1.1.1.2, fun _ => (placeP_in h.1.1.1.1.1.1.1).2, fun h0 => by omega⟩
  split at h
  · simp only [Bool.and_eq_true, decide_eq_true_eq] at h
    have ht := h.1.1.1.2
    unfold takenP at ht
    simp only [Bool.and_eq_true] at ht
    exact ⟨(matchedP_in ht.1).2.2.2, fun _ => (placeP_in h.1.1.1.1.1).2, fun h0 => by omega⟩
  split at h
  · simp only [Bool.and_eq_true, decide_eq_true_eq] at h
    exact ⟨none h.2, fun h0 => by omega, fun h0 => by omega⟩
  split at h
  · simp only [Bool.and_eq_true, decide_eq_true_eq] at h
    exact ⟨none h.2, fun _ => (targetP_in h.1.1.1.1).2, fun h0 => by omega⟩
  · cases h
theorem wayList_in {m : D.Model} {s : D.Stmt} (h : statementP m s = true) : InE m (wayList s) := by
  obtain ⟨h1, h2, h3⟩ := stmt_in h
  intro x hx
  unfold wayList at hx
  rcases List.mem_append.1 hx with hx | hx
  · exact h1 x hx
  rcases List.mem_append.1 hx with hx | hx
  · split at hx
    · rename_i h0; obtain rfl := List.mem_singleton.1 hx; exact ⟨h0, h2 h0⟩
    · cases hx
  · split at hx
    · rename_i h0; obtain rfl := List.mem_singleton.1 hx; exact ⟨h0, h3 h0⟩
    · cases hx
theorem way_spec {m : D.Model} {i : Int} {s : D.Stmt} (hr : Ready m) (hi0 : 0 ≤ i) (hi : i < m.Procs.length) (hs : SmallS s) : VSpec Tryd.prog 85 [] [tpM m, intV i, .agg (enc_Stmt s)] [] (boolV (wayP m i s)) := by
  have ha := hs.a
  have hkn : ∀ {k : Int}, (s.Kind == k) = true → s.Kind = k := fun h => by simpa using h
  have hkf : ∀ {k : Int}, (s.Kind == k) = false → s.Kind ≠ k := fun h => by simpa using h
  have ec : (bif bif bif bif i == m.Claim then s.Kind != 1 else false then s.Kind != 3 else false then s.Kind != 7 else false then s.Kind != 8 else false) = (decide (i = m.Claim) && (decide (s.Kind ≠ 1) && (decide (s.Kind ≠ 3) && (decide (s.Kind ≠ 7) && decide (s.Kind ≠ 8))))) := by
    simp only [ieq, bif_and, bne, Bool.and_assoc, decide_not]
  refine vspec_raw tb_ok mixed Tryd.func85 (by kernel_rfl) rfl (way_raw _ m i s) ⟨statementP m s, statement_spec hs, ?_⟩
  rw [ec]
  have ew : wayP m i s = (statementP m s && !(decide (i = m.Claim) && (decide (s.Kind ≠ 1) && (decide (s.Kind ≠ 3) && (decide (s.Kind ≠ 7) && decide (s.Kind ≠ 8))))) && usesP m i (wayList s) (if s.Kind = 1 then s.A else if s.Kind = 2 then s.B else -1)) := rfl
  generalize (decide (i = m.Claim) && (decide (s.Kind ≠ 1) && (decide (s.Kind ≠ 3) && (decide (s.Kind ≠ 7) && decide (s.Kind ≠ 8))))) = cl at ew ⊢
  refine ⟨fun h => leafB ?_, fun h => ?_⟩
  · rw [ew]
    cases hq : statementP m s
    · rfl
    · rw [hq] at h
      have : cl = true := by simpa using h
      rw [this]; rfl
  · have hq : statementP m s = true := by
      cases hq : statementP m s with
      | true => rfl
      | false => rw [hq] at h; simp at h
    have hcl : cl = false := by rw [hq] at h; simpa using h
    rw [hq, hcl] at ew
    simp only [Bool.not_false, Bool.true_and] at ew
    have hin := wayList_in hq
    have go : ∀ (run : Int) (n : Nat) (F : Nat → List VV), n = (wayList s).length → (∀ j, j < (wayList s).length → F j = [intV ((wayList s).getD j 0)]) → VSpec Tryd.prog 86 [] [tpM m, intV i, .sl false n 1 F, intV run] [] (boolV (usesP m i (wayList s) run)) := fun run n F hn hF =>
      uses_at hr hi0 hi hin (by unfold wayList; simp only [List.length_append]; split <;> split <;> simp <;> omega) hn hF
    have r1 : s.Kind = 1 → wayP m i s = usesP m i (wayList s) s.A := fun h => by rw [ew, if_pos h]
    have r2 : s.Kind ≠ 1 → s.Kind = 2 → wayP m i s = usesP m i (wayList s) s.B := fun h h' => by rw [ew, if_neg h, if_pos h']
    have r3 : s.Kind ≠ 1 → s.Kind ≠ 2 → wayP m i s = usesP m i (wayList s) (-1) := fun h h' => by rw [ew, if_neg h, if_neg h']
    generalize wayP m i s = b at r1 r2 r3 ⊢
    refine ⟨by omega, fun _ _ => rfl, fun hA => ⟨by omega, fun hB => ⟨by omega, ?_⟩, fun hB => ?_⟩, fun hA => ⟨fun hB => ⟨by omega, ?_⟩, fun hB => ?_⟩⟩
    · have hL : wayList s = (s.Args ++ [s.A]) ++ [s.B] := by unfold wayList; rw [if_pos (by simpa using hA), if_pos (by simpa using hB), List.append_assoc]
      have c1 : s.Args.length + 1 + 1 = (wayList s).length := by rw [hL]; simp
      have e1 : s.Args.length + 1 = (s.Args ++ [s.A]).length := by simp
      have c2 : ∀ j, j < (wayList s).length → (bif Nat.blt j (s.Args.length + 1) then (fun j => bif Nat.blt j s.Args.length then [VV.sc (.int .i64 (s.Args.getD j 0))] else (fun i => List.take 1 (List.drop (i * 1) [VV.sc (.int .i64 s.A)])) (j - s.Args.length)) j else (fun i => List.take 1 (List.drop (i * 1) [VV.sc (.int .i64 s.B)])) (j - (s.Args.length + 1))) = [intV ((wayList s).getD j 0)] := by
        rw [hL, e1]
        exact fun j hj => rows_app (f := fun n => [intV n]) (d := 0) (l := s.Args ++ [s.A]) (r := [s.B]) (F := fun j => bif Nat.blt j s.Args.length then [VV.sc (.int .i64 (s.Args.getD j 0))] else (fun i => List.take 1 (List.drop (i * 1) [VV.sc (.int .i64 s.A)])) (j - s.Args.length)) (fun i hi => rows_app (f := fun n => [intV n]) (d := 0) (l := s.Args) (r := [s.A]) (F := fun j => [.sc (.int .i64 (s.Args.getD j 0))]) (fun i hi => rfl) row_one hi) row_one hj
      exact ⟨fun k1 => ⟨_, go _ _ _ c1 c2, leafB (r1 (hkn k1)).symm⟩, fun k1 => ⟨fun k2 => ⟨_, go _ _ _ c1 c2, leafB (r2 (hkf k1) (hkn k2)).symm⟩, fun k2 => ⟨_, go _ _ _ c1 c2, leafB (r3 (hkf k1) (hkf k2)).symm⟩⟩⟩
    · have hL : wayList s = s.Args ++ [s.A] := by unfold wayList; rw [if_pos (by simpa using hA), if_neg (by simpa using hB), List.append_nil]
      have c1 : s.Args.length + 1 = (wayList s).length := by rw [hL]; simp
      have c2 : ∀ j, j < (wayList s).length → (bif Nat.blt j s.Args.length then [VV.sc (.int .i64 (s.Args.getD j 0))] else (fun i => List.take 1 (List.drop (i * 1) [VV.sc (.int .i64 s.A)])) (j - s.Args.length)) = [intV ((wayList s).getD j 0)] := by
        rw [hL]
        exact fun j hj => rows_app (f := fun n => [intV n]) (d := 0) (l := s.Args) (r := [s.A]) (F := fun j => [.sc (.int .i64 (s.Args.getD j 0))]) (fun i hi => rfl) row_one hj
      exact ⟨fun k1 => ⟨_, go _ _ _ c1 c2, leafB (r1 (hkn k1)).symm⟩, fun k1 => ⟨fun k2 => ⟨_, go _ _ _ c1 c2, leafB (r2 (hkf k1) (hkn k2)).symm⟩, fun k2 => ⟨_, go _ _ _ c1 c2, leafB (r3 (hkf k1) (hkf k2)).symm⟩⟩⟩
    · have hL : wayList s = s.Args ++ [s.B] := by unfold wayList; rw [if_neg (by simpa using hA), if_pos (by simpa using hB), List.nil_append]
      have c1 : s.Args.length + 1 = (wayList s).length := by rw [hL]; simp
      have c2 : ∀ j, j < (wayList s).length → (bif Nat.blt j s.Args.length then [VV.sc (.int .i64 (s.Args.getD j 0))] else (fun i => List.take 1 (List.drop (i * 1) [VV.sc (.int .i64 s.B)])) (j - s.Args.length)) = [intV ((wayList s).getD j 0)] := by
        rw [hL]
        exact fun j hj => rows_app (f := fun n => [intV n]) (d := 0) (l := s.Args) (r := [s.B]) (F := fun j => [.sc (.int .i64 (s.Args.getD j 0))]) (fun i hi => rfl) row_one hj
      exact ⟨fun k1 => ⟨_, go _ _ _ c1 c2, leafB (r1 (hkn k1)).symm⟩, fun k1 => ⟨fun k2 => ⟨_, go _ _ _ c1 c2, leafB (r2 (hkf k1) (hkn k2)).symm⟩, fun k2 => ⟨_, go _ _ _ c1 c2, leafB (r3 (hkf k1) (hkf k2)).symm⟩⟩⟩
    · have hL : wayList s = s.Args := by unfold wayList; rw [if_neg (by simpa using hA), if_neg (by simpa using hB), List.append_nil, List.append_nil]
      have c1 : s.Args.length = (wayList s).length := by rw [hL]
      have c2 : ∀ j, j < (wayList s).length → [intV (s.Args.getD j 0)] = [intV ((wayList s).getD j 0)] := by rw [hL]; exact fun _ _ => rfl
      exact ⟨fun k1 => ⟨_, go _ _ _ c1 c2, leafB (r1 (hkn k1)).symm⟩, fun k1 => ⟨fun k2 => ⟨_, go _ _ _ c1 c2, leafB (r2 (hkf k1) (hkn k2)).symm⟩, fun k2 => ⟨_, go _ _ _ c1 c2, leafB (r3 (hkf k1) (hkf k2)).symm⟩⟩⟩
end Go.Proofs.YthmhbmikcdfkcaaDoor
/-
  Layer 11 on trees, VI: all of a proctype; the tables; Check.
-/
namespace Go.Proofs.YthmhbmikcdfkcaaDoor
open Go.RowKit

theorem wf_trans {t : D.Trans} (h : wf_Trans t) : SmallS t.S := ⟨h.S.Args.1, h.S.Match.1⟩
theorem wf_ways {l : D.Loc} (h : wf_Loc l) : (waysP l).length ≤ 1048577 ∧ ∀ w ∈ waysP l, wfL_Trans w := by
  refine ⟨by have := h.Esc.1; simp [waysP]; omega, fun w hw => ?_⟩
  rcases List.mem_cons.1 hw with rfl | hw
  · exact h.Out
  · exact h.Esc.2 w hw
theorem proc_spec {m : D.Model} {i : Int} (hr : Ready m) (hi0 : 0 ≤ i) (hi : i < m.Procs.length) (hpv : (m.Procs.getD i.toNat default).Provided < m.Exprs.length) :
    VSpec Tryd.prog 78 [] [tpM m, intV i] [] (boolV (procAllP m i)) := by
  have hw := hr.wf.Procs.2 _ (getD_mem (d := default) (show i.toNat < m.Procs.length by omega))
  refine vspec_raw tb_ok mixed Tryd.func78 (by kernel_rfl) rfl (proc_raw _ m i) ⟨⟨hi0, hi⟩, ?_⟩
  generalize hb : procAllP m i = b
  unfold procAllP at hb
  simp only at hb
  generalize m.Procs.getD i.toNat default = p at hw hpv hb ⊢
  have hl := hw.Locs.1
  have bad : ∀ k, k < p.Locs.length → locP m i (p.Locs.getD k default) = false → false = b := fun k hk hf => by
    rw [allI_no (f := fun k => locP m i (p.Locs.getD k default)) hk hf] at hb
    simpa using hb
  refine loop_idx tb_ok mixed p.Locs.length (fun k => stProc1 m i p k) (fun k => ∀ j, j < k → locP m i (p.Locs.getD j default) = true) (by kernel_rfl) (by kernel_rfl) (fun i hi => by omega) ?_
  intro k hk hI J next
  refine Asks.raw (proc1_raw _ m i p k J) ⟨fun hlt => ?_, fun hge => ⟨usesP m i [p.Provided] (-1), fun hy => ?_, leafB ?_⟩⟩
  · have hlt' : k < p.Locs.length := by have := lt_of hlt; omega
    have hto : (k : Int).toNat = k := by omega
    rw [hto]
    have hwl := hw.Locs.2 _ (getD_mem (d := default) hlt')
    have bad' := bad k hlt'
    have next' : ∀ st', locP m i (p.Locs.getD k default) = true → Up (fun s => s = stProc1 m i p ((k + 1 : Nat) : Int)) st' → J st' := fun st' h hu => next st' hlt' (fun j hj => by
      rcases Nat.lt_succ_iff_lt_or_eq.1 hj with h' | rfl
      · exact hI j h'
      · exact h) hu
    generalize p.Locs.getD k default = l at hwl bad' next' ⊢
    obtain ⟨hws, hwe⟩ := wf_ways hwl
    refine ⟨⟨by omega, by omega⟩, waysP l, ways_spec hwl.Esc.1, ?_⟩
    unfold locP at bad' next'
    generalize waysP l = ws at hws hwe bad' next' ⊢
    refine loop_idx tb_ok mixed ws.length (fun j => stProc2 m i p k ws j) (fun j => ∀ x, x < j → transP m i (ws.getD x []) = true) (by kernel_rfl) (by kernel_rfl) (fun i hi => by omega) ?_
    intro j hj hI2 J2 next2
    refine Asks.raw (proc2_raw _ m i p k ws j J J2) ⟨fun hlt2 => ?_, fun hge2 => ?_⟩
    · have hlt2' : j < ws.length := by have := lt_of hlt2; omega
      have hto2 : (j : Int).toNat = j := by omega
      rw [hto2]
      have hwle := hwe _ (getD_mem (d := []) hlt2')
      have bad2 : transP m i (ws.getD j []) = false → false = b := fun hf => bad' (allI_no (f := fun x => transP m i (ws.getD x [])) hlt2' hf)
      have next2' : ∀ st', transP m i (ws.getD j []) = true → Up (fun s => s = stProc2 m i p k ws ((j + 1 : Nat) : Int)) st' → J2 st' := fun st' h hu => next2 st' hlt2' (fun x hx => by
        rcases Nat.lt_succ_iff_lt_or_eq.1 hx with h' | rfl
        · exact hI2 x h'
        · exact h) hu
      generalize ws.getD j [] = w at hwle bad2 next2' ⊢
      have hwl1 := hwle.1
      refine ⟨⟨by omega, by omega⟩, ?_⟩
      refine loop_idx tb_ok mixed w.length (fun h => stProc3 m i p k ws j w h) (fun h => ∀ x, x < h → wayP m i (w.getD x default).S = true) (by kernel_rfl) (by kernel_rfl) (fun i hi => by omega) ?_
      intro h hh hI3 J3 next3
      refine Asks.raw (proc3_raw _ m i p k ws j w h J J2 J3) ⟨fun hlt3 => ?_, fun hge3 => ?_⟩
      · have hlt3' : h < w.length := by have := lt_of hlt3; omega
        have hto3 : (h : Int).toNat = h := by omega
        rw [hto3]
        have hst := wf_trans (hwle.2 _ (getD_mem (d := default) hlt3'))
        refine ⟨⟨by omega, by omega⟩, wayP m i (w.getD h default).S, way_spec hr hi0 hi hst, fun hy => leafB ?_, fun hy => next3 _ hlt3' (fun x hx => ?_) (Up.of ?_)⟩
        · exact bad2 (allI_no (f := fun x => wayP m i (w.getD x default).S) hlt3' (by simpa using hy))
        · rcases Nat.lt_succ_iff_lt_or_eq.1 hx with h' | rfl
          · exact hI3 x h'
          · simpa using hy
        · rw [wrap_succ (by omega)]; rfl
      · have hge3' : w.length ≤ h := by have := ge_of hge3; omega
        refine next2' _ (allI_iff.2 fun x hx => hI3 x (by omega)) (Up.of ?_)
        rw [wrap_succ (by omega)]; rfl
    · have hge2' : ws.length ≤ j := by have := ge_of hge2; omega
      refine next' _ (allI_iff.2 fun x hx => hI2 x (by omega)) (Up.of ?_)
      rw [wrap_succ (by omega)]; rfl
  · have h0 : 0 ≤ p.Provided := by simp at hy; omega
    refine VSpec.frz (uses_at (list := [p.Provided]) (n := 1) hr hi0 hi (fun x hx => ?_) (by simp) rfl row_one) rfl ?_
    · obtain rfl := List.mem_singleton.1 hx; exact ⟨h0, hpv⟩
    · intro j x y hx hy
      match j with
      | 0 => simp at hx hy; subst hx hy; exact leS_refl _
      | 1 => simp at hx hy; subst hx hy; exact leS_refl _
      | 2 => simp only [List.getElem?_cons_succ, List.getElem?_cons_zero, Option.some.injEq] at hx hy; subst hx hy; exact leS_sl
      | 3 => simp at hx hy; subst hx hy; exact leS_refl _
      | j + 4 => simp at hx
  · have hge' : p.Locs.length ≤ k := by have := ge_of hge; omega
    rw [← hb, (allI_iff (n := p.Locs.length) (f := fun k => locP m i (p.Locs.getD k default))).2 fun j hj => hI j (by omega), Bool.true_and, bif_or]

/-! ### The tables -/
theorem exprsL_ok {m : D.Model} : ∀ (g i : Nat) (had : List Bool), g + i = m.Exprs.length → exprsL m g i had < 0 → ∀ j, i ≤ j → j < m.Exprs.length → exprP m j = true
  | 0, i, had, h, _, j, h1, h2 => by omega
  | g + 1, i, had, h, hn, j, h1, h2 => by
    unfold exprsL at hn
    cases he : exprP m i with
    | false => rw [he, cond_false] at hn; omega
    | true =>
      rw [he, cond_true] at hn
      split at hn
      · rename_i had' _
        by_cases hij : i = j
        · subst hij; exact he
        · exact exprsL_ok g (i + 1) had' (by omega) hn j (by omega) h2
      · omega
theorem exprs_ok {m : D.Model} (h : exprsP m < 0) : ∀ k : Nat, k < m.Exprs.length → exprP m k = true := fun k hk => exprsL_ok _ 0 _ rfl h k (Nat.zero_le _) hk
theorem badI_neg {n : Nat} {f : Nat → Bool} (h : badI n f < 0) : ∀ i, i < n → f i = true := by
  rcases badI_cases (n := n) (f := f) with ⟨_, h2⟩ | ⟨k, _, h2, _⟩
  · exact h2
  · omega
theorem badI_ge {n : Nat} {f : Nat → Bool} : -1 ≤ badI n f := by
  rcases badI_cases (n := n) (f := f) with ⟨h1, _⟩ | ⟨k, _, h2, _⟩ <;> omega
theorem ngt (n k : Nat) : decide ((n : Int) > k) = decide (k < n) := by rw [Bool.eq_iff_iff, decide_eq_true_eq, decide_eq_true_eq]; omega
theorem tables_spec {m : D.Model} (hw : wf_Model m) : VSpec Tryd.prog 74 [] [tpM m] [] (.tup [intV (tablesP m).1, intV (tablesP m).2]) := by
  have hG := hw.Globals.1
  have hS := hw.Shapes.1
  have hC := hw.Chans.1
  have hE := hw.Exprs.1
  refine vspec_raw tb_ok mixed Tryd.func74 (by kernel_rfl) rfl (tables_raw _ _ m) ?_
  have t1 : (bif decide ((m.Globals.length : Int) > 128) then true else (m.Init.length : Int) != (m.Globals.length : Int)) = (decide (128 < m.Globals.length) || !decide (m.Init.length = m.Globals.length)) := by rw [Bool.eq_iff_iff]; simp; omega
  have t2 : (bif decide ((m.Shapes.length : Int) > 32) then true else decide ((m.Chans.length : Int) > 32)) = (decide (32 < m.Shapes.length) || decide (32 < m.Chans.length)) := by rw [Bool.eq_iff_iff]; simp; omega
  have t3 : (bif bif bif bif decide ((m.Procs.length : Int) < 1) then true else decide ((m.Procs.length : Int) > 16) then true else decide (m.Claim < (-1 : Int)) then true else decide (m.Claim ≥ (m.Procs.length : Int)) then true else decide ((m.Exprs.length : Int) > 4096)) =
      (decide (m.Procs.length < 1) || (decide (16 < m.Procs.length) || (decide (m.Claim < -1) || (decide ((m.Procs.length : Int) ≤ m.Claim) || decide (4096 < m.Exprs.length))))) := by
    have u1 : decide ((m.Procs.length : Int) < 1) = decide (m.Procs.length < 1) := by rw [Bool.eq_iff_iff, decide_eq_true_eq, decide_eq_true_eq]; omega
    have u2 : decide ((m.Procs.length : Int) > 16) = decide (16 < m.Procs.length) := ngt _ 16
    have u3 : decide ((m.Exprs.length : Int) > 4096) = decide (4096 < m.Exprs.length) := ngt _ 4096
    rw [u1, u2, u3]; simp only [bif_or, Bool.or_assoc]
  rw [t1, t2]
  generalize hR : tablesP m = R
  unfold tablesP at hR
  refine ⟨fun h => leaf2 (by rw [h, cond_true] at hR; exact hR), fun h => ⟨typesP m.Globals m.Init, types_spec (by simp at h; omega) hG, fun h2 => leaf2 (by rw [h, cond_false, h2, cond_true] at hR; exact hR), fun h2 => ⟨fun h3 => leaf2 ?_, fun h3 => ?_⟩⟩⟩
  · rw [h, cond_false, h2, cond_false, h3, cond_true] at hR; exact hR
  rw [h, cond_false, h2, cond_false, h3, cond_false] at hR
  -- the shapes
  refine loop_idx tb_ok mixed m.Shapes.length (fun k => stTab1 m k) (fun k => ∀ i, i < k → shapeP (m.Shapes.getD i default) = true) (by kernel_rfl) (by kernel_rfl) (fun i hi => by omega) ?_
  intro k hk hI J next
  refine Asks.raw (tables1_raw _ _ m k J) ⟨fun hlt => ?_, fun hge => ?_⟩
  · have hlt' : k < m.Shapes.length := by have := lt_of hlt; omega
    refine ⟨⟨by omega, by omega⟩, shapeP (m.Shapes.getD k default), shape_spec (hw.Shapes.2 _ (getD_mem hlt')), fun hy => leaf2 ?_, fun hy => next _ hlt' (fun i hi => ?_) (Up.of ?_)⟩
    · have e : shapesP m = k := badI_some (f := fun i => shapeP (m.Shapes.getD i default)) hI hlt' (by simpa using hy)
      rw [e, show decide ((0 : Int) ≤ (k : Int)) = true by simp, cond_true] at hR
      exact hR
    · rcases Nat.lt_succ_iff_lt_or_eq.1 hi with h | rfl
      · exact hI i h
      · simpa using hy
    · rw [wrap_succ (by omega)]; rfl
  have hge' : m.Shapes.length ≤ k := by have := ge_of hge; omega
  have es : shapesP m = -1 := badI_none (f := fun i => shapeP (m.Shapes.getD i default)) fun i hi => hI i (by omega)
  rw [es, show decide ((0 : Int) ≤ -1) = false from rfl, cond_false] at hR
  -- the channels
  clear hI next
  refine loop_idx tb_ok mixed m.Chans.length (fun k => stTab2 m k) (fun k => ∀ i, i < k → inP m.Shapes.length (m.Chans.getD i 0) = true) (by kernel_rfl) (by kernel_rfl) (fun i hi => by omega) ?_
  intro k hk hI J next
  refine Asks.raw (tables2_raw _ _ m k J) ⟨fun hlt => ?_, fun hge => ?_⟩
  · have hlt' : k < m.Chans.length := by have := lt_of hlt; omega
    have hto : (k : Int).toNat = k := by omega
    rw [hto]
    have hin : inP m.Shapes.length (m.Chans.getD k 0) = !(bif decide (m.Chans.getD k 0 < 0) then true else decide (m.Chans.getD k 0 ≥ (m.Shapes.length : Int))) := by unfold inP; rw [Bool.eq_iff_iff]; simp
    refine ⟨⟨by omega, by omega⟩, fun hy => leaf2 ?_, fun hy => next _ hlt' (fun i hi => ?_) (Up.of ?_)⟩
    · have e : chansP m = k := badI_some (f := fun i => inP m.Shapes.length (m.Chans.getD i 0)) hI hlt' (by show inP _ _ = false; rw [hin, hy]; rfl)
      rw [e, show decide ((0 : Int) ≤ (k : Int)) = true by simp, cond_true] at hR
      exact hR
    · rcases Nat.lt_succ_iff_lt_or_eq.1 hi with h | rfl
      · exact hI i h
      · rw [hin, hy]; rfl
    · rw [wrap_succ (by omega)]; rfl
  have hge' : m.Chans.length ≤ k := by have := ge_of hge; omega
  have ec : chansP m = -1 := badI_none (f := fun i => inP m.Shapes.length (m.Chans.getD i 0)) fun i hi => hI i (by omega)
  rw [ec, show decide ((0 : Int) ≤ -1) = false from rfl, cond_false] at hR
  rw [t3]
  refine ⟨fun h4 => leaf2 (by rw [h4, cond_true] at hR; exact hR), fun h4 => ⟨⟨by omega, by omega, by omega⟩, ?_⟩⟩
  rw [h4, cond_false] at hR
  clear hI next
  -- the expressions
  have hnn : ((m.Exprs.length : Int).toNat) = (noneSeen m).length := by simp [noneSeen]
  have hnl : (noneSeen m).length = m.Exprs.length := by simp [noneSeen]
  refine SatC.le (l' := [(0, tpM m), (4, .bp 0 0), (10, .ow 1 0 (noneSeen m).length), (116, intV m.Exprs.length), (117, intV 0)]) (hs' := [.box (enc_Model m), .arr true 0 (noneSeen m).length 1 (rowsBo (noneSeen m))]) ?_ ?_ ?_
  · rw [hnn]; exact leT_refl _
  · rw [hnn]
    refine ⟨Ob.le_refl _, Ob.le_arr fun i hi => leL_eq ?_, trivial⟩
    have : (noneSeen m).getD i false = false := by
      have hi' : i < m.Exprs.length := by rw [← hnl]; exact hi
      simp [noneSeen, List.getD, hi']
    show _ = [boolV ((noneSeen m).getD i false)]
    rw [this]; rfl
  generalize hX : exprsP m = X at hR
  have fin : ∀ {y : Int × Int}, (bif decide (0 ≤ X) then ((3 : Int), X) else (0, 0)) = y → y = R := fun h => by rw [← h]; exact hR
  refine loop_raw tb_ok mixed (fun g st => ∃ (k : Nat) (had : List Bool), k ≤ m.Exprs.length ∧ g = m.Exprs.length - k ∧ had.length = m.Exprs.length ∧ exprsL m (m.Exprs.length - k) k had = X ∧ st = stTab3 m had k) (by kernel_rfl) (by kernel_rfl) ⟨_, Up.of ⟨0, noneSeen m, Nat.zero_le _, rfl, hnl, hX, rfl⟩⟩ ?_
  rintro g st ⟨k, had, hk, rfl, hhl, hr, rfl⟩
  refine Asks.raw (tables3_raw _ _ m had k _) ⟨fun hlt => ?_, fun hge => leaf2 (fin ?_)⟩
  · have hlt' : k < m.Exprs.length := by have := lt_of hlt; omega
    have hto : (k : Int).toNat = k := by omega
    rw [hto]
    have hwx : wf_Expr (m.Exprs.getD k default) := hw.Exprs.2 _ (getD_mem hlt')
    rw [show m.Exprs.length - k = (m.Exprs.length - (k + 1)) + 1 by omega] at hr
    unfold exprsL at hr
    refine ⟨exprP m k, expr_spec (by omega) (by omega) (by unfold exAt; rw [hto]; exact hwx), fun hy => leaf2 (fin ?_), fun hy => ⟨⟨by omega, by omega⟩, heldP (m.Exprs.getD k default), held_spec hwx.Args.1 hwx.V.Dims.1, ?_⟩⟩
    · rw [show exprP m k = false by simpa using hy, cond_false] at hr
      rw [← hr, show decide ((0 : Int) ≤ (k : Int)) = true by simp, cond_true]
    · have hye : exprP m k = true := by simpa using hy
      rw [hye, cond_true] at hr
      have hin := held_in hye
      have hhlen := held_len hwx.Args.1 hwx.V.Dims.1
      unfold exAt at hin
      rw [hto] at hin
      generalize heldP (m.Exprs.getD k default) = l at hin hhlen hr ⊢
      generalize ho : hadL had l = o at hr
      refine loop_raw tb_ok mixed (fun g st => ∃ (j : Nat) (had' : List Bool), j ≤ l.length ∧ g = l.length - j ∧ had'.length = m.Exprs.length ∧ hadL had' (l.drop j) = o ∧ st = stTab4 m had' k l j) (by kernel_rfl) (by kernel_rfl) ⟨_, Up.of ⟨0, had, Nat.zero_le _, rfl, hhl, ho, rfl⟩⟩ ?_
      rintro g st ⟨j, had', hj, rfl, hhl', hq, rfl⟩
      refine Asks.raw (tables4_raw _ _ m had' k l j _ _) ⟨fun hlt2 => ?_, fun hge2 => ?_⟩
      · have hlt2' : j < l.length := by have := lt_of hlt2; omega
        have hto2 : (j : Int).toNat = j := by omega
        rw [hto2]
        have hpi := hin _ (getD_mem (d := 0) hlt2')
        rw [drop_cons (d := 0) hlt2'] at hq
        generalize l.getD j 0 = p at hpi hq ⊢
        unfold hadL at hq
        refine ⟨⟨by omega, by omega⟩, ⟨by omega, by omega⟩, fun hy => leaf2 (fin ?_), fun hy => ⟨⟨by omega, by omega⟩, l.length - (j + 1), by omega, ?_⟩⟩
        · rw [hy, cond_true] at hq
          rw [← hq] at hr
          rw [← hr, show decide ((0 : Int) ≤ (k : Int)) = true by simp, cond_true]
        · rw [hy, cond_false] at hq
          have hsl : (had'.set p.toNat true).length = had'.length := by simp
          rw [wrap_succ (by omega)]
          refine Up.mk (l' := [(0, tpM m), (4, .bp 0 0), (10, .ow 1 0 (had'.set p.toNat true).length), (11, intV k), (116, intV m.Exprs.length), (117, intV k), (130, encL_Int true l), (131, intV l.length), (132, intV ((j + 1 : Nat) : Int))])
            (hs' := [.box (enc_Model m), .arr true 0 (had'.set p.toNat true).length 1 (rowsBo (had'.set p.toNat true))]) ?_ ?_ ⟨j + 1, had'.set p.toNat true, by omega, rfl, by rw [hsl]; exact hhl', hq, rfl⟩
          · rw [hsl]; exact leT_refl _
          · rw [hsl]
            exact ⟨Ob.le_refl _, Ob.le_arr fun i hi => leL_eq (set_row hi), trivial⟩
      · have hge2' : l.length ≤ j := by have := ge_of hge2; omega
        rw [List.drop_eq_nil_of_le hge2'] at hq
        unfold hadL at hq
        rw [← hq] at hr
        rw [wrap_succ (by omega)]
        exact ⟨m.Exprs.length - (k + 1), by omega, Up.of ⟨k + 1, had', by omega, rfl, hhl', hr, rfl⟩⟩
  · have hge' : m.Exprs.length ≤ k := by have := ge_of hge; omega
    rw [show m.Exprs.length - k = 0 by omega] at hr
    unfold exprsL at hr
    rw [← hr]; rfl
/-! ### Check -/
theorem ik_eq (a b : Int) (x : Bool) : (bif a == b then !x else false) = (decide (a = b) && !x) := by rw [ieq, bif_and]
theorem frameBad_eq (m : D.Model) (k : Nat) : frameBad m k = (bif bif bif bif !(frameP (m.Procs.getD k default)) then true else !(graphP (m.Procs.getD k default)) then true else decide ((m.Procs.getD k default).Provided < (-1 : Int)) then true else decide ((m.Procs.getD k default).Provided ≥ (m.Exprs.length : Int)) then true else bif (k : Int) == m.Claim then !(claimedP (m.Procs.getD k default)) else false) := by
  unfold frameBad
  simp only [ik_eq, bif_or, Bool.or_assoc]
theorem many_succ {m : D.Model} {k : Nat} (hk : k < m.Procs.length) : manyP m (k + 1) = manyP m k + (m.Procs.getD k default).Active := by
  unfold manyP
  rw [take_push (d := default) hk, List.map_append, List.sum_append]
  simp
/-- Of the tables that may be: the expressions. -/
theorem tables_ready {m : D.Model} (hw : wf_Model m) (h : ¬ 0 < (tablesP m).1) : Ready m := by
  refine ⟨hw, exprs_ok ?_⟩
  have hx : -1 ≤ exprsP m := by
    unfold exprsP
    have : ∀ (g i : Nat) (had : List Bool), -1 ≤ exprsL m g i had := by
      intro g
      induction g with
      | zero => intro i had; unfold exprsL; omega
      | succ g ih =>
        intro i had
        unfold exprsL
        cases exprP m i with
        | false => simp only [cond_false]; omega
        | true =>
          simp only [cond_true]
          split
          · exact ih _ _
          · omega
    exact this _ _ _
  refine Classical.byContradiction fun hn => h ?_
  unfold tablesP
  generalize (decide (128 < m.Globals.length) || !decide (m.Init.length = m.Globals.length)) = b1
  generalize decide (0 ≤ typesP m.Globals m.Init) = b2
  generalize (decide (32 < m.Shapes.length) || decide (32 < m.Chans.length)) = b3
  generalize decide (0 ≤ shapesP m) = b4
  generalize decide (0 ≤ chansP m) = b5
  generalize (decide (m.Procs.length < 1) || (decide (16 < m.Procs.length) || (decide (m.Claim < -1) || (decide ((m.Procs.length : Int) ≤ m.Claim) || decide (4096 < m.Exprs.length))))) = b6
  rw [show decide (0 ≤ exprsP m) = true by simp; omega]
  cases b1 <;> cases b2 <;> cases b3 <;> cases b4 <;> cases b5 <;> cases b6 <;> simp
theorem check_spec {m : D.Model} (hw : wf_Model m) : VSpec Tryd.prog 64 [] [.agg (enc_Model m)] [] (.tup [intV (checkP m).1, intV (checkP m).2.1, intV (checkP m).2.2]) := by
  have hP := hw.Procs.1
  refine vspec_raw tb_ok mixed Tryd.func64 (by kernel_rfl) rfl (check_raw _ _ _ m) ⟨tablesP m, tables_spec hw, ?_⟩
  generalize hR : checkP m = R
  unfold checkP at hR
  refine ⟨fun h => leaf3 (by rw [show decide (0 < (tablesP m).1) = true from h, cond_true] at hR; exact hR), fun h => ?_⟩
  have hready := tables_ready hw (of_decide_eq_false h)
  rw [show decide (0 < (tablesP m).1) = false from h, cond_false] at hR
  refine loop_idx tb_ok mixed m.Procs.length (fun k => stCheck1 m (manyP m k) k) (fun k => (∀ i, i < k → (!frameBad m i) = true) ∧ 0 ≤ manyP m k ∧ manyP m k ≤ 16 * k) (by kernel_rfl) (by kernel_rfl) ⟨fun i hi => by omega, by simp [manyP], by simp [manyP]⟩ ?_
  intro k hk ⟨hI, hm0, hm1⟩ J next
  refine Asks.raw (check1_raw _ _ _ m (manyP m k) k J) ⟨fun hlt => ?_, fun hge => ?_⟩
  · have hlt' : k < m.Procs.length := by have := lt_of hlt; omega
    have hto : (k : Int).toNat = k := by omega
    rw [hto]
    have hwp := hw.Procs.2 _ (getD_mem (d := default) hlt')
    refine ⟨⟨by omega, by omega⟩, frameP (m.Procs.getD k default), frame_spec hwp, graphP (m.Procs.getD k default), fun _ => graph_spec hwp, claimedP (m.Procs.getD k default), fun _ => claimed_spec hwp, ?_⟩
    rw [← frameBad_eq]
    refine ⟨fun hy => leaf3 ?_, fun hy => ?_⟩
    · have e : framesP m = k := badI_some (f := fun i => !frameBad m i) hI hlt' (by rw [hy]; rfl)
      rw [e, show decide ((0 : Int) ≤ (k : Int)) = true by simp, cond_true] at hR
      exact hR
    · have hfr : frameP (m.Procs.getD k default) = true := by
        rw [frameBad_eq] at hy
        cases hq : frameP (m.Procs.getD k default) with
        | true => rfl
        | false => rw [hq] at hy; simp at hy
      have hac : 0 ≤ (m.Procs.getD k default).Active ∧ (m.Procs.getD k default).Active ≤ 16 := by
        unfold frameP at hfr
        simp only [Bool.and_eq_true, decide_eq_true_eq] at hfr
        omega
      have hms := many_succ hlt'
      refine next _ hlt' ⟨fun i hi => ?_, by omega, by omega⟩ (Up.of ?_)
      · rcases Nat.lt_succ_iff_lt_or_eq.1 hi with h | rfl
        · exact hI i h
        · rw [hy]; rfl
      · rw [hms, wrap_succ (by omega), wrap_id (n := manyP m k + _) (by omega) (by omega)]; rfl
  · have hge' : k = m.Procs.length := by have := ge_of hge; omega
    subst hge'
    have e : framesP m = -1 := badI_none (f := fun i => !frameBad m i) fun i hi => hI i (by omega)
    rw [e, show decide ((0 : Int) ≤ -1) = false from rfl, cond_false] at hR
    refine ⟨fun h2 => leaf3 (by rw [show decide (16 < manyP m m.Procs.length) = true from h2, cond_true] at hR; exact hR), fun h2 => ?_⟩
    rw [show decide (16 < manyP m m.Procs.length) = false from h2, cond_false] at hR
    have hpv : ∀ i, i < m.Procs.length → (m.Procs.getD i default).Provided < m.Exprs.length := fun i hi => by
      have := hI i hi
      rw [frameBad_eq] at this
      simp only [bif_or, Bool.not_eq_true', Bool.or_eq_false_iff, decide_eq_false_iff_not] at this
      omega
    clear hI next
    refine loop_idx tb_ok mixed m.Procs.length (fun k => stCheck2 m k) (fun k => ∀ i : Nat, i < k → procAllP m i = true) (by kernel_rfl) (by kernel_rfl) (fun i hi => by omega) ?_
    intro k hk hI J next
    refine Asks.raw (check2_raw _ _ _ m k J) ⟨fun hlt => ?_, fun hge => leaf3 ?_⟩
    · have hlt' : k < m.Procs.length := by have := lt_of hlt; omega
      refine ⟨procAllP m k, proc_spec hready (by omega) (by omega) (hpv _ (by omega)), fun hy => leaf3 ?_, fun hy => next _ hlt' (fun i hi => ?_) (Up.of ?_)⟩
      · have e : procsP m = k := badI_some (f := fun i : Nat => procAllP m i) hI hlt' (by simpa using hy)
        rw [e, show decide ((0 : Int) ≤ (k : Int)) = true by simp, cond_true] at hR
        exact hR
      · rcases Nat.lt_succ_iff_lt_or_eq.1 hi with h | rfl
        · exact hI i h
        · simpa using hy
      · rw [wrap_succ (by omega)]; rfl
    · have hge' : m.Procs.length ≤ k := by have := ge_of hge; omega
      have e : procsP m = -1 := badI_none (f := fun i : Nat => procAllP m i) fun i hi => hI i (by omega)
      rw [e, show decide ((0 : Int) ≤ -1) = false from rfl, cond_false] at hR
      exact hR
end Go.Proofs.YthmhbmikcdfkcaaDoor
