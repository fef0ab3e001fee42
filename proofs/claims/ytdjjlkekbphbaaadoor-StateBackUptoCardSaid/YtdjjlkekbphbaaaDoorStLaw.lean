/-
  Layer 12 on trees: the law StateBack answers true.
-/
import Derived.Test.YtdjjlkekbphbaaaDoorStSho
namespace Go.Proofs.YtdjjlkekbphbaaaDoor
open Go.RowKit
theorem bytes_eq (a b : ByteArray) : (a.toList == b.toList) = decide (a = b) := by
  rw [ByteArray.toList_eq, ByteArray.toList_eq, Bool.eq_iff_iff, beq_iff_eq, decide_eq_true_eq]
  constructor
  · intro h
    obtain ⟨⟨x⟩⟩ := a; obtain ⟨⟨y⟩⟩ := b
    have : x = y := h
    rw [this]
  · rintro rfl; rfl
theorem encode_ok {m : D.Model} {s : D.State} (h : (encodeP m s).2 = 0) : mayP m = true ∧ stFits m s = true ∧ encodeP m s = (textP s, 0) := by
  by_cases h0 : stCheck m s = 0
  · obtain ⟨h1, h2⟩ := check_zero h0
    exact ⟨h1, h2, by unfold encodeP; rw [decide_eq_true h0]; rfl⟩
  · unfold encodeP at h
    rw [decide_eq_false h0] at h
    exact absurd h h0
theorem encode_fit {m : D.Model} {s : D.State} (h1 : mayP m = true) (h2 : stFits m s = true) : encodeP m s = (textP s, 0) := by
  unfold encodeP stCheck
  rw [h1, h2]; rfl
theorem Fit.text {s : D.State} (h : Fit s) (hn : ∀ n ∈ stateL s, I64 n) : (textP s).size ≤ 67108864 := by
  have h1 := h.len
  have h2 := rowB_len hn
  unfold textP
  rw [size_mk]
  omega
theorem law_spec {x : D.spinneretlaw12_StateBackIn} (hx : wf_spinneretlaw12_StateBackIn x) : VSpec Tryd.prog 3 [] [.agg (enc_spinneretlaw12_StateBackIn x)] [] (boolV true) := by
  have hw := hx.M
  have tail : ∃ y : D.State × Int, VSpec Tryd.prog 8 [] [.agg (enc_Model x.M), strV x.Text] [] (.tup [.agg (enc_State y.1), intV y.2]) ∧ ((y.2 == 0) = true → ∃ y7 : ByteArray × Int, VSpec Tryd.prog 7 [] [.agg (enc_Model x.M), .agg (enc_State y.1)] [] (.tup [strV y7.1, intV y7.2]) ∧ leO [] [] ∧ VV.le (boolV (bif bif true then y7.2 == 0 else false then y7.1.toList == x.Text.toList else false)) (boolV true)) ∧ ((y.2 == 0) = false → leO [] [] ∧ VV.le (boolV true) (boolV true)) := by
    refine ⟨decodeP x.M x.Text, decode_spec hw (Nat.le_trans hx.Text (by decide)), fun h => ?_, fun _ => leafB rfl⟩
    have h0 : (decodeP x.M x.Text).2 = 0 := by simpa using h
    obtain ⟨h1, h2, h3, h4⟩ := encode_decode (m := x.M) (t := x.Text) (s := (decodeP x.M x.Text).1) (by rw [← h0])
    generalize (decodeP x.M x.Text).1 = s at h2 h3 h4 ⊢
    have hf := fit_of h1 h2
    refine ⟨encodeP x.M s, encode_spec hw hf.small h4, leafB ?_⟩
    rw [encode_fit h1 h2, bytes_eq, h3]
    simp
  have hSs := small_of hx.S
  have hSn := nums_of hx.S
  have hTs := small_of hx.T
  have hTn := nums_of hx.T
  refine vspec_raw tb_ok mixed Tryd.func3 (by kernel_rfl) rfl (law_raw true x) ⟨true, shown_spec, encodeP x.M x.S, encode_spec hw hSs hSn, encodeP x.M x.T, encode_spec hw hTs hTn, fun h => ?_, fun h => ⟨fun hb => ?_, fun _ => tail⟩⟩
  · have h0 : (encodeP x.M x.S).2 = 0 := by simpa using h
    obtain ⟨h1, h2, h3⟩ := encode_ok h0
    have hf := fit_of h1 h2
    rw [h3]
    have hd := decode_spec (m := x.M) (t := textP x.S) hw (hf.text hSn)
    rw [decode_encode (lim_of h1) hSn h1 h2] at hd
    refine ⟨(x.S, 0), hd, decide (x.S = x.S), rsame_spec hSs, fun hb => absurd hb (by simp), fun _ => ⟨fun hb => ⟨decide (x.S = x.T), rsame_spec hSs, fun hc => ?_, fun _ => tail⟩, fun _ => tail⟩⟩
    have h0' : (encodeP x.M x.T).2 = 0 := by simpa using hb
    obtain ⟨_, k2, k3⟩ := encode_ok h0'
    rw [k3, bytes_eq] at hc
    exfalso
    have : decide (x.S = x.T) = decide (textP x.S = textP x.T) := by
      rw [Bool.eq_iff_iff, decide_eq_true_eq, decide_eq_true_eq]
      exact ⟨fun e => by rw [e], text_inj (lim_of h1) hSn hTn h1 h2 k2⟩
    rw [this] at hc
    cases hq : decide (textP x.S = textP x.T) <;> rw [hq] at hc <;> simp at hc
  · rw [h, cond_false] at hb
    exact absurd hb (by simp)
end Go.Proofs.YtdjjlkekbphbaaaDoor
