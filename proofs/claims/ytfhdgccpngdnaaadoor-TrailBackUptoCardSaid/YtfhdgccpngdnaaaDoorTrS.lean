/-
  The document's text of a search's end; two ends that are the same.
-/
import Derived.Test.YtfhdgccpngdnaaaDoorTrN3
namespace Go.Proofs.YtfhdgccpngdnaaaDoor
open Go.RowKit

theorem le_args (l : List Int) {n : Nat} (hn : n = l.length) : VV.le (.sl false n 1 fun i => List.take 1 (List.drop (i * 1) (l.map intV))) (encI false l) := by
  subst hn
  refine VV.le_sl (.inl rfl) fun i hi => leL_eq ?_
  rw [Nat.mul_one, List.drop_eq_getElem_cons (by simpa using hi)]
  simp [List.getD, hi]
theorem line23_args {word : ByteArray} (l : List Int) {n : Nat} (hn : n = l.length) (h : LineOk word l) : VSpec Tryd.prog 14 [] [strV word, .sl false n 1 fun i => List.take 1 (List.drop (i * 1) (l.map intV))] [] (strV (lineB word l)) :=
  VSpec.le (line23_spec (fun _ => dec_spec) h) trivial ⟨VV.le_refl _, le_args l hn, trivial⟩ trivial (VV.le_refl _)
theorem found_ok {f : D.Found} (h : FdI f) : LineOk foundB (fdL f) := ⟨h.hd, by show 6 ≤ 1099511627776; omega, by show 5 ≤ 1099511627776; omega⟩
theorem move_ok {v : D.Move} (h : ∀ n ∈ mvL v, I64 n) : LineOk moveB (mvL v) := ⟨h, by show 7 ≤ 1099511627776; omega, by show 4 ≤ 1099511627776; omega⟩
theorem lineB_size {word : ByteArray} {l : List Int} (hl : ∀ n ∈ l, I64 n) : (lineB word l).size ≤ word.size + 22 * l.length + 1 := by
  unfold lineB
  rw [ByteArray.size_append]
  have := lineW_size hl word
  have : nlB.size = 1 := rfl
  omega
/-- The text, a move behind another. -/
def prT (f : D.Found) (i : Nat) : ByteArray := mk (joinNl (lineL (bs foundB) (fdL f) :: moveLines f.Cycle 0 (f.Trail.take i)))
def cycNl : ByteArray := ⟨#[99, 121, 99, 108, 101, 10]⟩
theorem bs_append (a b : ByteArray) : bs (a ++ b) = bs a ++ bs b := by simp [bs, ByteArray.data_append]
theorem prT_zero (f : D.Found) : prT f 0 = lineB foundB (fdL f) := by
  apply bs_inj
  unfold prT
  rw [bs_mk, lineB_bs]
  rfl
theorem prT_succ {f : D.Found} {i : Nat} (hi : i < f.Trail.length) :
    prT f (i + 1) = if (i : Int) = f.Cycle then prT f i ++ cycNl ++ lineB moveB (mvL (f.Trail.getD i default)) else prT f i ++ lineB moveB (mvL (f.Trail.getD i default)) := by
  have e : f.Trail.getD i default = f.Trail[i] := by simp [List.getD, hi]
  apply bs_inj
  unfold prT
  rw [List.take_add_one, List.getElem?_eq_getElem hi, e]
  show bs (mk (joinNl (_ :: moveLines f.Cycle 0 (f.Trail.take i ++ [f.Trail[i]])))) = _
  rw [moveLines_append, List.length_take, Nat.min_eq_left (by omega), ← List.cons_append, joinNl_append]
  simp only [moveLines, Nat.zero_add]
  split
  · rw [bs_append, bs_append, bs_mk, bs_mk, lineB_bs, joinNl_append]
    simp [joinNl, cycNl, bs, cycB]
  · rw [bs_append, bs_mk, bs_mk, lineB_bs]
    simp [joinNl]
theorem prT_all (f : D.Found) : prT f f.Trail.length = mk (joinNl (printLines f)) := by
  unfold prT printLines
  rw [List.take_length]
theorem prT_size {f : D.Found} (h : FdI f) : ∀ i, i ≤ f.Trail.length → (prT f i).size ≤ 138 + 165 * i
  | 0, _ => by
    rw [prT_zero]
    have := lineB_size (word := foundB) h.hd
    have : foundB.size = 5 := rfl
    have : (fdL f).length = 6 := rfl
    omega
  | i + 1, hi => by
    have ih := prT_size h i (by omega)
    have hm := h.tr (f.Trail.getD i default) (getD_mem (by omega))
    have h1 := lineB_size (word := moveB) hm
    have : moveB.size = 4 := rfl
    have : (mvL (f.Trail.getD i default)).length = 7 := rfl
    have : cycNl.size = 6 := rfl
    rw [prT_succ (by omega)]
    split <;> simp only [ByteArray.size_append] <;> omega
/-- What may be printed. -/
structure FdS (f : D.Found) : Prop where
  fit : FdI f
  len : f.Trail.length ≤ 67108864
theorem okT {x : D.Found} : (bif bif bif decide (x.Kind < (1 : Int)) then true else decide (x.Kind > (4 : Int)) then true else decide (x.Cycle < (-1 : Int)) then true else decide (x.Cycle ≥ (x.Trail.length : Int))) = !decide (FdOk x) := by
  unfold FdOk
  by_cases h1 : x.Kind < 1
  · have : ¬ 1 ≤ x.Kind := by omega
    simp [h1, this]
  · have h1' : 1 ≤ x.Kind := by omega
    by_cases h2 : x.Kind > 4
    · have : ¬ x.Kind ≤ 4 := by omega
      simp [h1, h2, this]
    · have h2' : x.Kind ≤ 4 := by omega
      by_cases h3 : x.Cycle < -1
      · have : ¬ -1 ≤ x.Cycle := by omega
        simp [h1, h2, h3, this]
      · have h3' : -1 ≤ x.Cycle := by omega
        by_cases h4 : x.Cycle ≥ x.Trail.length
        · have : ¬ x.Cycle < x.Trail.length := by omega
          simp [h1, h2, h3, h4, this]
        · have h4' : x.Cycle < x.Trail.length := by omega
          simp [h1, h2, h3, h4, h1', h2', h3', h4']
theorem print23_spec {f : D.Found} (h : FdS f) : VSpec Tryd.prog 7 [] [.agg (encFd f)] [] (.tup [strV (printP f).1, intV (printP f).2]) := by
  have hlen := h.len
  refine vspec_raw tb_ok mixed Tryd.func7 (by kernel_rfl) rfl (pr23_raw (printP f).1 (printP f).2 f) ?_
  rw [okT]
  refine ⟨fun hb => ⟨trivial, ?_⟩, fun hg => ⟨lineB foundB (fdL f), line23_args (fdL f) rfl (found_ok h.fit), ?_⟩⟩
  · unfold printP
    rw [if_neg (of_decide_eq_false (by rw [Bool.not_eq_true'] at hb; exact hb))]
    exact VV.le_refl _
  have hok : FdOk f := of_decide_eq_true (by rw [Bool.not_eq_false'] at hg; exact hg)
  have hpr : printP f = (prT f f.Trail.length, 0) := by unfold printP; rw [if_pos hok, prT_all]
  rw [hpr]
  refine loop_raw tb_ok mixed (fun g st => ∃ i : Nat, i ≤ f.Trail.length ∧ g = f.Trail.length - i ∧ st = stPr23 f (prT f i) i)
    (by kernel_rfl) (by kernel_rfl) ⟨_, Up.of ⟨0, Nat.zero_le _, rfl, by rw [prT_zero]; rfl⟩⟩ ?_
  rintro g st ⟨i, hi, rfl, rfl⟩
  have hsz := prT_size h.fit i hi
  refine Asks.raw (pr231_raw _ _ f (prT f i) i _) ⟨fun hlt => ?_, fun hge => ⟨trivial, ?_⟩⟩
  · have hlt' : i < f.Trail.length := by
      have := of_decide_eq_true hlt
      omega
    have hto : (i : Int).toNat = i := by omega
    have hm := h.fit.tr (f.Trail.getD i default) (getD_mem (by omega))
    have hls := lineB_size (word := moveB) hm
    have hmb : moveB.size = 4 := rfl
    have h7 : (mvL (f.Trail.getD i default)).length = 7 := rfl
    have hcs : cycNl.size = 6 := rfl
    have hsucc := prT_succ hlt'
    have hw : IntKind.i64.wrap ((i : Int) + 1) = ((i + 1 : Nat) : Int) := by rw [wrap_id (by omega) (by omega)]; omega
    rw [hto, hw]
    refine ⟨⟨by omega, by omega⟩, fun hc => ⟨?_, lineB moveB (mvL (f.Trail.getD i default)), line23_args (mvL (f.Trail.getD i default)) rfl (move_ok hm), ?_, f.Trail.length - (i + 1), by omega, Up.of ⟨i + 1, by omega, rfl, ?_⟩⟩,
      fun hc => ⟨lineB moveB (mvL (f.Trail.getD i default)), line23_args (mvL (f.Trail.getD i default)) rfl (move_ok hm), ?_, f.Trail.length - (i + 1), by omega, Up.of ⟨i + 1, by omega, rfl, ?_⟩⟩⟩
    · show (((prT f i).size + cycNl.size : Nat) : Int) ≤ _; omega
    · show (((prT f i ++ cycNl).size + _ : Nat) : Int) ≤ _; rw [ByteArray.size_append]; omega
    · rw [if_pos (by simpa using hc)] at hsucc
      rw [hsucc]; rfl
    · show (((prT f i).size + _ : Nat) : Int) ≤ _; omega
    · rw [if_neg (by simpa using hc)] at hsucc
      rw [hsucc]; rfl
  · have hge' : f.Trail.length ≤ i := by
      have := of_decide_eq_false hge
      omega
    obtain rfl : i = f.Trail.length := by omega
    exact VV.le_refl _
/-- An end is the same as itself. -/
theorem moves_same {x : List D.Move} (hx : x.length ≤ 67108864) : VSpec Tryd.prog 18 [] [encTr x, encTr x] [] (boolV true) := by
  refine vspec_raw tb_ok mixed Tryd.func18 (by kernel_rfl) rfl (sm_raw true x x) ⟨fun h => by simp at h, fun _ => ?_⟩
  refine loop_raw tb_ok mixed (fun g st => ∃ i : Nat, i ≤ x.length ∧ g = x.length - i ∧ st = stSm x x i)
    (by kernel_rfl) (by kernel_rfl) ⟨_, Up.of ⟨0, Nat.zero_le _, rfl, rfl⟩⟩ ?_
  rintro g st ⟨i, hi, rfl, rfl⟩
  refine Asks.raw (sm1_raw _ x x i _) ⟨fun hlt => ?_, fun hge => ⟨trivial, VV.le_refl _⟩⟩
  have hlt' : i < x.length := by
    have := of_decide_eq_true hlt
    omega
  have hw : IntKind.i64.wrap ((i : Int) + 1) = ((i + 1 : Nat) : Int) := by rw [wrap_id (by omega) (by omega)]; omega
  rw [hw]
  exact ⟨⟨by omega, by omega⟩, ⟨by omega, by omega⟩, fun h => by simp at h, fun _ => ⟨x.length - (i + 1), by omega, Up.of ⟨i + 1, by omega, rfl, rfl⟩⟩⟩
theorem found_same {x : D.Found} (hx : x.Trail.length ≤ 67108864) : VSpec Tryd.prog 10 [] [.agg (encFd x), .agg (encFd x)] [] (boolV true) := by
  refine vspec_raw tb_ok mixed Tryd.func10 (by kernel_rfl) rfl (sf_raw true x x) ⟨true, moves_same hx, trivial, ?_⟩
  simp only [beq_self_eq_true, cond_true]
  exact VV.le_refl _
end Go.Proofs.YtfhdgccpngdnaaaDoor
