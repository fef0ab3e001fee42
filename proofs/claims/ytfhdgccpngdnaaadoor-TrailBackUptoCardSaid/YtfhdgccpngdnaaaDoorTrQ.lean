/-
  A search's end, read.
-/
import Derived.Test.YtfhdgccpngdnaaaDoorTrS
namespace Go.Proofs.YtfhdgccpngdnaaaDoor
open Go.RowKit

theorem extract_end (s : ByteArray) (i : Nat) : bs (s.extract i s.size) = (bs s).drop i := by
  rw [extract_bs, List.take_of_length_le (by rw [List.length_drop, ← size_bs]; exact Nat.le_refl _)]
theorem line_at (s : ByteArray) (i : Nat) (hi : i ≤ s.size) :
    (Lib.indexByte (bs (s.extract i s.size)) 10 = -1 ∧ pieces 10 ((bs s).drop i) = [(bs s).drop i]) ∨
    ∃ k : Nat, Lib.indexByte (bs (s.extract i s.size)) 10 = k ∧ i + k < s.size ∧ (∃ u r, pieces 10 ((bs s).drop (i + k + 1)) = u :: r ∧ pieces 10 ((bs s).drop i) = bs (s.extract i (i + k)) :: u :: r) ∧ (bs (s.extract i (i + k))).length = k := by
  rw [extract_end]
  have hge := Lib.indexByte_ge ((bs s).drop i) 10
  by_cases h : Lib.indexByte ((bs s).drop i) 10 = -1
  · exact .inl ⟨h, pieces_none (byte_none h)⟩
  · obtain ⟨k, hk⟩ : ∃ k : Nat, Lib.indexByte ((bs s).drop i) 10 = k := ⟨(Lib.indexByte ((bs s).drop i) 10).toNat, by omega⟩
    obtain ⟨h1, h2, h3⟩ := byte_some hk
    rw [List.length_drop, ← size_bs] at h1
    rw [List.drop_drop] at h2
    have e : bs (s.extract i (i + k)) = ((bs s).drop i).take k := by rw [extract_bs, show i + k - i = k by omega]
    refine .inr ⟨k, hk, by omega, ?_, ?_⟩
    · cases hp : pieces 10 ((bs s).drop (i + k + 1)) with
      | nil => exact absurd hp (pieces_ne _ _)
      | cons u r =>
        refine ⟨u, r, rfl, ?_⟩
        rw [← hp, e]
        conv => lhs; rw [h2]
        rw [pieces_cut h3, show i + (k + 1) = i + k + 1 by omega]
    · rw [e, List.length_take, List.length_drop, ← size_bs]; omega
theorem le_zero (n : Int) (r : D.Found × Int × Int) (h : r = (zeroFd, 43, n)) :
    VV.le (.tup [.agg [.sc (.int .i64 0), .sc (.int .i64 0), .sc (.int .i64 0), .sc (.int .i64 0), .nl, .sc (.int .i64 0), .sc (.int .i64 0), .sc (.int .i64 0)], .sc (.int .i64 43), .sc (.int .i64 n)]) (.tup [.agg (encFd r.1), intV r.2.1, intV r.2.2]) := by
  subst h
  exact VV.le_tup ⟨VV.le_agg ⟨VV.le_refl _, VV.le_refl _, VV.le_refl _, VV.le_refl _, VV.le_nil, VV.le_refl _, VV.le_refl _, VV.le_refl _, trivial⟩, VV.le_refl _, VV.le_refl _, trivial⟩
theorem le_found (f : D.Found) (r : D.Found × Int × Int) (h : r = (f, 0, 0)) :
    VV.le (.tup [.agg (encFd f), .sc (.int .i64 0), .sc (.int .i64 0)]) (.tup [.agg (encFd r.1), intV r.2.1, intV r.2.2]) := by
  subst h
  exact VV.le_refl _
theorem cyc_test (t : ByteArray) (c : Int) : (bif t.toList == cycB.toList then decide (c < 0) else false) = decide (bs t = bs cycB ∧ c < 0) := by
  rw [toList_bs, toList_bs]
  by_cases h : bs t = bs cycB
  · rw [h]; simp
  · have : (bs t == bs cycB) = false := by rw [beq_eq_false_iff_ne]; exact h
    rw [this]; simp [h]
theorem numsR_cases (word : ByteArray) (many : Nat) (hw : (32 : UInt8) ∉ bs word) (t : ByteArray) : (numsL (bs word) many (bs t) = none ∧ numsR word many t = ([], false)) ∨ ∃ l, numsL (bs word) many (bs t) = some l ∧ l.length = many ∧ numsR word many t = (l, true) := by
  cases h : numsL (bs word) many (bs t) with
  | none => exact .inl ⟨rfl, numsR_none h⟩
  | some l => exact .inr ⟨l, rfl, ((numsL_iff hw).1 h).1, numsR_some h⟩
/-- Where the reading stands. -/
structure At (s : ByteArray) (f : D.Found) (i : Nat) (first due : Bool) : Prop where
  le : i ≤ s.size
  go : parseP (pieces 10 ((bs s).drop i)) f i first due = parseT s
  len : f.Trail.length ≤ i
theorem At.start (s : ByteArray) : At s startFd 0 true false := ⟨Nat.zero_le _, rfl, Nat.le_refl _⟩
theorem At.done {s : ByteArray} {f : D.Found} {i : Nat} (h : At s f i false false) (hi : i = s.size) : parseT s = (f, 0, 0) := by
  rw [← h.go, hi, List.drop_eq_nil_of_le (by rw [← size_bs]; exact Nat.le_refl _)]
  show parseP [[]] f s.size false false = _
  unfold parseP
  rw [if_pos ⟨rfl, rfl, rfl⟩]
theorem At.last {s : ByteArray} {f : D.Found} {i : Nat} {first due : Bool} (h : At s f i first due) (hp : pieces 10 ((bs s).drop i) = [(bs s).drop i]) (hn : ¬ (i = s.size ∧ first = false ∧ due = false)) : parseT s = (zeroFd, 43, (i : Int)) := by
  rw [← h.go, hp]
  unfold parseP
  rw [if_neg]
  rintro ⟨h1, h2⟩
  have := congrArg List.length h1
  rw [List.length_drop, ← size_bs] at this
  have := h.le
  exact hn ⟨by simp at *; omega, h2⟩
theorem At.line {s : ByteArray} {f : D.Found} {i k : Nat} {first due : Bool} (h : At s f i first due) (hik : i + k < s.size) (hu : ∃ u r, pieces 10 ((bs s).drop (i + k + 1)) = u :: r ∧ pieces 10 ((bs s).drop i) = bs (s.extract i (i + k)) :: u :: r)
    (hl : (bs (s.extract i (i + k))).length = k) : (stepP (bs (s.extract i (i + k))) f first due = none → parseT s = (zeroFd, 43, (i : Int))) ∧
      ∀ f' due', stepP (bs (s.extract i (i + k))) f first due = some (f', due') → f'.Trail.length ≤ f.Trail.length + 1 → At s f' (i + k + 1) false due' := by
  obtain ⟨u, r, h1, h2⟩ := hu
  have hgo := h.go
  rw [h2] at hgo
  unfold parseP at hgo
  refine ⟨fun hs => ?_, fun f' due' hs hle => ⟨by omega, ?_, by have := h.len; omega⟩⟩
  · rw [hs] at hgo; exact hgo.symm
  · rw [hs, hl] at hgo
    rw [h1]; exact hgo
/-- What a line does, as the program tells the cases apart. -/
theorem step_first (t : ByteArray) (f : D.Found) (due : Bool) : stepP (bs t) f true due =
    match numsL (bs foundB) 6 (bs t) with
    | some l => if 1 ≤ l.getD 0 0 ∧ l.getD 0 0 ≤ 4 then some (⟨l.getD 0 0, l.getD 1 0, l.getD 2 0, l.getD 3 0, f.Trail, f.Cycle, l.getD 4 0, l.getD 5 0⟩, due) else none
    | none => none := by
  conv => lhs; unfold stepP
  rw [if_pos rfl]; rfl
theorem step_later (t : ByteArray) (f : D.Found) (due : Bool) : stepP (bs t) f false due =
    if bs t = bs cycB ∧ f.Cycle < 0 then some (⟨f.Kind, f.What, f.Err, f.At, f.Trail, f.Trail.length, f.States, f.Steps⟩, true)
    else match numsL (bs moveB) 7 (bs t) with
      | some l => some (⟨f.Kind, f.What, f.Err, f.At, f.Trail ++ [mvOf l], f.Cycle, f.States, f.Steps⟩, false)
      | none => none := by
  conv => lhs; unfold stepP
  rw [if_neg (by simp)]; rfl
theorem kind_test (q : List Int × Bool) : (bif bif !q.2 then true else decide (q.1.getD (Int.toNat 0) 0 < (1 : Int)) then true else decide (q.1.getD (Int.toNat 0) 0 > (4 : Int))) = !(q.2 && decide (1 ≤ q.1.getD 0 0 ∧ q.1.getD 0 0 ≤ 4)) := by
  show (bif bif !q.2 then true else decide (q.1.getD 0 0 < (1 : Int)) then true else decide (q.1.getD 0 0 > (4 : Int))) = _
  cases q.2 with
  | false => rfl
  | true =>
    generalize q.1.getD 0 0 = n
    by_cases h1 : n < 1
    · have : ¬ 1 ≤ n := by omega
      simp [h1, this]
    · have h1' : 1 ≤ n := by omega
      by_cases h2 : n > 4
      · have : ¬ n ≤ 4 := by omega
        simp [h1, h2, this]
      · have h2' : n ≤ 4 := by omega
        simp [h1, h2, h1', h2']
theorem le_mv (f : D.Found) (l : List Int) (g : Nat) : Ob.le (.arr true g (f.Trail.length + 1) 7 fun i => bif i.blt f.Trail.length then encMv (f.Trail.getD i default) else (fun i => List.take 7 (List.drop (i * 7) (encMv (mvOf l)))) (i - f.Trail.length)) (.arr true g (f.Trail ++ [mvOf l]).length 7 (rowsMv (f.Trail ++ [mvOf l]))) :=
  le_push encMv default f.Trail (mvOf l) (encMv (mvOf l)) rfl
end Go.Proofs.YtfhdgccpngdnaaaDoor
