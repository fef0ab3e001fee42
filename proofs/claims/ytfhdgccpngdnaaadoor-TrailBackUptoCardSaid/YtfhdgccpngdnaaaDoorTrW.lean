/-
  A line of a word and numbers; a number's numeral.
-/
import Derived.Test.YtfhdgccpngdnaaaDoorTrR
import Derived.IntWalk
import Derived.Lib.ItoaLen
namespace Go.Proofs.YtfhdgccpngdnaaaDoor
open Go.RowKit

theorem wrap_id {n : Int} (h1 : -9223372036854775808 ≤ n) (h2 : n ≤ 9223372036854775807) : IntKind.i64.wrap n = n := IntWalk.i64_in n ⟨h1, h2⟩
theorem getD_mem {α : Type} {l : List α} {i : Nat} {d : α} (h : i < l.length) : l.getD i d ∈ l := by simp [List.getD, h]
theorem size_mk (l : List UInt8) : (⟨l.toArray⟩ : ByteArray).size = l.length := by simp [ByteArray.size]
theorem size_itoa {n : Int} (h : I64 n) : (itoaB n).size ≤ 21 := by
  unfold itoaB
  rw [size_mk]
  exact Lib.itoa_length_le n h.1 h.2
theorem lineW_size {l : List Int} (hl : ∀ n ∈ l, I64 n) : ∀ (word : ByteArray), (lineW word l).size ≤ word.size + 22 * l.length := by
  induction l with
  | nil => intro word; simp [lineW]
  | cons n l ih =>
    intro word
    have h1 := ih (fun m hm => hl m (List.mem_cons_of_mem _ hm)) (word ++ (spB ++ itoaB n))
    have h2 := size_itoa (hl n (List.mem_cons_self ..))
    have h3 : spB.size = 1 := rfl
    show (lineW (word ++ (spB ++ itoaB n)) l).size ≤ _
    rw [ByteArray.size_append, ByteArray.size_append] at h1
    rw [List.length_cons]; omega
theorem lineW_succ {word : ByteArray} {l : List Int} {k : Nat} (hk : k < l.length) : lineW word (l.take (k + 1)) = lineW word (l.take k) ++ (spB ++ itoaB (l.getD k 0)) := by
  have e : l.getD k 0 = l[k] := by simp [List.getD, hk]
  rw [List.take_add_one, List.getElem?_eq_getElem hk, e]
  show List.foldl _ word (l.take k ++ [l[k]]) = _
  rw [List.foldl_append]
  rfl
/-- What a line is made of. -/
structure LineOk (word : ByteArray) (l : List Int) : Prop where
  nums : ∀ n ∈ l, I64 n
  len : l.length ≤ 1099511627776
  wd : word.size ≤ 1099511627776
theorem LineOk.sz {word : ByteArray} {l : List Int} (h : LineOk word l) (k : Nat) : (lineW word (l.take k)).size ≤ 25288767438849 := by
  have h1 := lineW_size (l := l.take k) (fun n hn => h.nums n (List.mem_of_mem_take hn)) word
  have h2 : (l.take k).length ≤ l.length := by simp; omega
  have := h.len; have := h.wd; omega

theorem line_spec {word : ByteArray} {l : List Int} (h : LineOk word l) : VSpec Tryd.prog 12 [] [strV word, encI false l] [] (strV (lineB word l)) := by
  have hlen := h.len
  refine vspec_ctx tb_ok mixed shTr annLine true Tryd.func12 (by kernel_rfl) rfl ((line_raw word l).mpr ?_)
  refine satC_loop tb_ok mixed (fun g st => ∃ k : Nat, k ≤ l.length ∧ g = l.length - k ∧ st = stLine (lineW word (l.take k)) l k) (by kernel_rfl) (by kernel_rfl) ⟨_, Up.of ⟨0, Nat.zero_le _, rfl, rfl⟩⟩ ?_
  rintro g st ⟨k, hk, rfl, rfl⟩
  have hs := h.sz k
  refine (line1_raw word l (lineW word (l.take k)) k _).mpr ⟨fun hlt => ?_, fun hge => ?_⟩
  · have hlt' : k < l.length := by simpa using hlt
    have hn : I64 (l.getD (k : Int).toNat 0) := h.nums _ (getD_mem (by simpa using hlt'))
    have hz := size_itoa hn
    have h1 : spB.size = 1 := rfl
    refine ⟨⟨by omega, by omega⟩, itoaB (l.getD (k : Int).toNat 0), itoa_spec hn, ?_, ?_, l.length - (k + 1), by omega, Up.of ⟨k + 1, by omega, rfl, ?_⟩⟩
    · show ((spB.size + _ : Nat) : Int) ≤ _; omega
    · show (((lineW word (l.take k)).size + (spB ++ _).size : Nat) : Int) ≤ _; rw [ByteArray.size_append]; omega
    · rw [wrap_id (by omega) (by omega), show ((k : Int) + 1) = ((k + 1 : Nat) : Int) by omega, lineW_succ hlt']
      rfl
  · have hge' : l.length ≤ k := by simpa using hge
    refine ⟨?_, trivial, ?_⟩
    · show (((lineW word (l.take k)).size + nlB.size : Nat) : Int) ≤ _
      have : nlB.size = 1 := rfl
      omega
    · rw [List.take_of_length_le hge']; exact VV.le_refl _
theorem line23_spec (hd : ∀ n, I64 n → VSpec Tryd.prog 21 [] [intV n] [] (strV (itoaB n))) {word : ByteArray} {l : List Int} (h : LineOk word l) :
    VSpec Tryd.prog 14 [] [strV word, encI false l] [] (strV (lineB word l)) := by
  have hlen := h.len
  refine vspec_ctx tb_ok mixed shTr annLine23 true Tryd.func14 (by kernel_rfl) rfl ((line23_raw word l).mpr ?_)
  refine satC_loop tb_ok mixed (fun g st => ∃ k : Nat, k ≤ l.length ∧ g = l.length - k ∧ st = stLine23 (lineW word (l.take k)) l k) (by kernel_rfl) (by kernel_rfl) ⟨_, Up.of ⟨0, Nat.zero_le _, rfl, rfl⟩⟩ ?_
  rintro g st ⟨k, hk, rfl, rfl⟩
  have hs := h.sz k
  have h1 : spB.size = 1 := rfl
  refine (line231_raw word l (lineW word (l.take k)) k _).mpr ⟨fun hlt => ?_, fun hge => ?_⟩
  · have hlt' : k < l.length := by simpa using hlt
    have hn : I64 (l.getD (k : Int).toNat 0) := h.nums _ (getD_mem (by simpa using hlt'))
    have hz := size_itoa hn
    refine ⟨?_, ⟨by omega, by omega⟩, itoaB (l.getD (k : Int).toNat 0), hd _ hn, ?_, l.length - (k + 1), by omega, Up.of ⟨k + 1, by omega, rfl, ?_⟩⟩
    · show (((lineW word (l.take k)).size + spB.size : Nat) : Int) ≤ _; omega
    · show (((lineW word (l.take k) ++ spB).size + _ : Nat) : Int) ≤ _; rw [ByteArray.size_append]; omega
    · rw [wrap_id (by omega) (by omega), show ((k : Int) + 1) = ((k + 1 : Nat) : Int) by omega, lineW_succ hlt', ← ByteArray.append_assoc]
      rfl
  · have hge' : l.length ≤ k := by simpa using hge
    refine ⟨?_, trivial, ?_⟩
    · show (((lineW word (l.take k)).size + nlB.size : Nat) : Int) ≤ _
      have : nlB.size = 1 := rfl
      omega
    · rw [List.take_of_length_le hge']; exact VV.le_refl _
/-- A byte, as a text. -/
theorem bytesV_one (k : Int) : bytesV 1 (rowsF [[VV.sc (Value.int IntKind.u8 k)]]) = ⟨#[UInt8.ofNat k.toNat]⟩ := rfl
theorem digit_wrap {d : Int} (h0 : 0 ≤ d) (h1 : d < 10) : UInt8.ofNat (IntKind.u8.wrap (IntKind.i64.wrap (48 + d))).toNat = UInt8.ofNat (48 + d.toNat) := by
  rw [wrap_id (by omega) (by omega)]
  have : IntKind.u8.wrap (48 + d) = 48 + d := IntWalk.u8_in _ ⟨by omega, by omega⟩
  rw [this]
  congr 1
  omega
/-- The digits that are still to come, and those that are there. -/
theorem dec_step {m : Int} {s : List UInt8} : Lib.decDigits m.natAbs ++ s = (if m.tdiv 10 = 0 then [] else Lib.decDigits (m.tdiv 10).natAbs) ++ (UInt8.ofNat (48 + (m.natAbs % 10)) :: s) := by
  have e : (m.tdiv 10).natAbs = m.natAbs / 10 := by rw [Int.natAbs_tdiv]; rfl
  rw [Lib.decDigits]
  split
  · rename_i h
    have : m.tdiv 10 = 0 := by
      have : (m.tdiv 10).natAbs = 0 := by omega
      omega
    rw [if_pos this, Nat.mod_eq_of_lt h]; rfl
  · rename_i h
    have : m.tdiv 10 ≠ 0 := by
      intro h0
      rw [h0] at e
      simp at e
      omega
    rw [if_neg this, e]
    simp
theorem mk_append (l : List UInt8) (s : ByteArray) : (⟨l.toArray⟩ : ByteArray) ++ s = ⟨(l ++ s.data.toList).toArray⟩ := by
  apply ByteArray.ext
  simp [ByteArray.data_append]
theorem dec_spec {n : Int} (hn : I64 n) : VSpec Tryd.prog 21 [] [intV n] [] (strV (itoaB n)) := by
  obtain ⟨hn0, hn1⟩ := hn
  refine vspec_ctx tb_ok mixed shTr annDec true Tryd.func21 (by kernel_rfl) rfl ((dec_raw n).mpr ?_)
  refine satC_loop tb_ok mixed (fun g st => ∃ (m : Int) (s : List UInt8), I64 m ∧ g = m.natAbs ∧ Lib.decDigits m.natAbs ++ s = Lib.decDigits n.natAbs ∧ s.length ≤ 40 ∧ (s = [] ∨ m ≠ 0) ∧ st = stDec m ⟨s.toArray⟩ (decide (n < 0)))
    (by kernel_rfl) (by kernel_rfl) ⟨_, Up.of ⟨n, [], ⟨hn0, hn1⟩, rfl, by simp, by simp, .inl rfl, rfl⟩⟩ ?_
  rintro g st ⟨m, s, ⟨hm0, hm1⟩, rfl, hd, hsl, hor, rfl⟩
  have hlen : (Lib.decDigits n.natAbs).length ≤ 20 := by
    rw [Lib.decDigits_length]
    exact Lib.nDigits_le20 _ (by omega)
  have ea : (m.tdiv 10).natAbs = m.natAbs / 10 := by rw [Int.natAbs_tdiv]; rfl
  have eb : (m.tmod 10).natAbs = m.natAbs % 10 := by rw [Int.natAbs_tmod]; rfl
  have ec := Int.tmod_add_mul_tdiv m 10
  have hmod : m.tmod 10 = if m < 0 then -((m.natAbs % 10 : Nat) : Int) else ((m.natAbs % 10 : Nat) : Int) := by
    split <;> omega
  have hdv : -9223372036854775808 ≤ m.tdiv 10 ∧ m.tdiv 10 ≤ 9223372036854775807 := by omega
  have step := dec_step (m := m) (s := s)
  have hsl' : s.length + 1 ≤ 21 := by
    have := congrArg List.length hd
    have h1 : 1 ≤ (Lib.decDigits m.natAbs).length := by rw [Lib.decDigits_length]; exact Lib.nDigits_pos _
    rw [List.length_append] at this
    omega
  have size1 : ∀ c : UInt8, ((⟨#[c]⟩ : ByteArray) ++ ⟨s.toArray⟩) = ⟨(c :: s).toArray⟩ := fun c => by
    have := mk_append [c] ⟨s.toArray⟩
    simpa using this
  have fin : m.tdiv 10 = 0 → UInt8.ofNat (48 + (m.natAbs % 10)) :: s = Lib.decDigits n.natAbs := fun h0 => by
    rw [← hd, step, if_pos h0]; rfl
  have go : m.tdiv 10 ≠ 0 → Lib.decDigits (m.tdiv 10).natAbs ++ (UInt8.ofNat (48 + (m.natAbs % 10)) :: s) = Lib.decDigits n.natAbs := fun h0 => by
    rw [← hd, step, if_neg h0]
  have itoa_neg : n < 0 → itoaB n = ⟨#[45]⟩ ++ ⟨(Lib.decDigits n.natAbs).toArray⟩ := fun h => by
    unfold itoaB Lib.itoa
    rw [if_pos h]
    have := mk_append [45] ⟨(Lib.decDigits n.natAbs).toArray⟩
    simpa using this.symm
  have itoa_pos : ¬ n < 0 → itoaB n = ⟨(Lib.decDigits n.natAbs).toArray⟩ := fun h => by
    unfold itoaB Lib.itoa
    rw [if_neg h, show n.toNat = n.natAbs by omega]
  have key : ∀ d : Int, 0 ≤ d → d < 10 → d.toNat = m.natAbs % 10 → ∀ (J : St → Prop), (∀ st', (∃ (m' : Int) (s' : List UInt8), I64 m' ∧ m'.natAbs < m.natAbs ∧ Lib.decDigits m'.natAbs ++ s' = Lib.decDigits n.natAbs ∧ s'.length ≤ 40 ∧ m' ≠ 0 ∧ st' = stDec m' ⟨s'.toArray⟩ (decide (n < 0))) → J st') →
      (true = true ∧ (((bytesV 1 (rowsF [[VV.sc (Value.int IntKind.u8 (IntKind.u8.wrap (IntKind.i64.wrap (48 + d))))]])).size + (⟨s.toArray⟩ : ByteArray).size : Nat) : Int) ≤ 9223372036854775807 ∧ (10 : Int) ≠ 0 ∧
        ((IntKind.i64.wrap (m.tdiv 10) == 0) = true → (decide (n < 0) = true → (((⟨#[45]⟩ : ByteArray).size + (bytesV 1 (rowsF [[VV.sc (Value.int IntKind.u8 (IntKind.u8.wrap (IntKind.i64.wrap (48 + d))))]]) ++ ⟨s.toArray⟩).size : Nat) : Int) ≤ 9223372036854775807 ∧ leO [] [] ∧
            (VV.sc (Value.string ((⟨#[45]⟩ : ByteArray) ++ (bytesV 1 (rowsF [[VV.sc (Value.int IntKind.u8 (IntKind.u8.wrap (IntKind.i64.wrap (48 + d))))]]) ++ ⟨s.toArray⟩)))).le (VV.sc (Value.string (itoaB n)))) ∧
          (decide (n < 0) = false → leO [] [] ∧ (VV.sc (Value.string (bytesV 1 (rowsF [[VV.sc (Value.int IntKind.u8 (IntKind.u8.wrap (IntKind.i64.wrap (48 + d))))]]) ++ ⟨s.toArray⟩))).le (VV.sc (Value.string (itoaB n))))) ∧
        ((IntKind.i64.wrap (m.tdiv 10) == 0) = false → J (mkSt [(0, VV.sc (Value.int IntKind.i64 (IntKind.i64.wrap (m.tdiv 10)))), (3, VV.sc (Value.string (bytesV 1 (rowsF [[VV.sc (Value.int IntKind.u8 (IntKind.u8.wrap (IntKind.i64.wrap (48 + d))))]]) ++ ⟨s.toArray⟩))), (4, VV.sc (Value.bool (decide (n < 0))))] []))) := by
    intro d h0 h1 h2 J hJ
    rw [bytesV_one, digit_wrap h0 h1, h2, wrap_id hdv.1 hdv.2, size1]
    refine ⟨rfl, ?_, by decide, fun hz => ⟨fun hneg => ⟨?_, trivial, ?_⟩, fun hpos => ⟨trivial, ?_⟩⟩, fun hz => hJ _ ⟨m.tdiv 10, _, hdv, ?_, go ?_, by simp; omega, ?_, rfl⟩⟩
    · rw [size_mk]; show ((1 + s.length : Nat) : Int) ≤ _; omega
    · rw [size_mk]; show ((1 + (s.length + 1) : Nat) : Int) ≤ _; omega
    · rw [fin (by simpa using hz), itoa_neg (by simpa using hneg)]; exact VV.le_refl _
    · rw [fin (by simpa using hz), itoa_pos (by simpa using hpos)]; exact VV.le_refl _
    · have : m.tdiv 10 ≠ 0 := by simpa using hz
      have e : (m.tdiv 10).natAbs = m.natAbs / 10 := by rw [Int.natAbs_tdiv]; rfl
      omega
    · simpa using hz
    · simpa using hz
  have hJ : ∀ st', (∃ (m' : Int) (s' : List UInt8), I64 m' ∧ m'.natAbs < m.natAbs ∧ Lib.decDigits m'.natAbs ++ s' = Lib.decDigits n.natAbs ∧ s'.length ≤ 40 ∧ m' ≠ 0 ∧ st' = stDec m' ⟨s'.toArray⟩ (decide (n < 0))) →
      ∃ g', g' < m.natAbs ∧ Up (fun st => ∃ (m : Int) (s : List UInt8), I64 m ∧ g' = m.natAbs ∧ Lib.decDigits m.natAbs ++ s = Lib.decDigits n.natAbs ∧ s.length ≤ 40 ∧ (s = [] ∨ m ≠ 0) ∧ st = stDec m ⟨s.toArray⟩ (decide (n < 0))) st' := by
    rintro st' ⟨m', s', a1, a2, a3, a4, a5, a6⟩
    exact ⟨_, a2, Up.of ⟨m', s', a1, rfl, a3, a4, .inr a5, a6⟩⟩
  refine (dec1_raw n m ⟨s.toArray⟩ (decide (n < 0)) _).mpr ⟨by decide, fun hneg => ?_, fun hpos => ?_⟩
  · have hneg' : m.tmod 10 < 0 := by simpa using hneg
    have hm : m < 0 := by
      rw [hmod] at hneg'
      split at hneg'
      · assumption
      · omega
    have hd2 : IntKind.i64.wrap (0 - m.tmod 10) = ((m.natAbs % 10 : Nat) : Int) := by
      rw [hmod, if_pos hm, wrap_id (by omega) (by omega)]; omega
    rw [hd2]
    exact key _ (by omega) (by omega) (by omega) _ hJ
  · have hpos' : 0 ≤ m.tmod 10 := by simpa using hpos
    have hd2 : m.tmod 10 = ((m.natAbs % 10 : Nat) : Int) := by
      rw [hmod] at hpos' ⊢
      split at hpos'
      · rename_i h; rw [if_pos h]; omega
      · rename_i h; rw [if_neg h]
    rw [hd2]
    exact key _ (by omega) (by omega) (by omega) _ hJ
end Go.Proofs.YtfhdgccpngdnaaaDoor
