/-
  The numbers of a line, as the document reads them.
-/
import Derived.Test.YtfhdgccpngdnaaaDoorTrN2
namespace Go.Proofs.YtfhdgccpngdnaaaDoor
open Go.RowKit

theorem extract_bs (t : ByteArray) (a b : Nat) : bs (t.extract a b) = ((bs t).drop a).take (b - a) := Lib.extract_data t a b
/-- The pieces so far: of what is behind them none is cut yet. -/
def CutS (c : UInt8) (T : By) (l : List By) (fr i : Nat) : Prop := fr ≤ i ∧ c ∉ (T.drop fr).take (i - fr) ∧ l ++ pieces c (T.drop fr) = pieces c T
theorem CutS.start (c : UInt8) (T : By) : CutS c T [] 0 0 := ⟨Nat.le_refl _, by simp, rfl⟩
theorem CutS.miss {c : UInt8} {T : By} {l : List By} {fr i : Nat} (h : CutS c T l fr i) (hi : i < T.length) (hc : T.getD i 0 ≠ c) : CutS c T l fr (i + 1) := by
  obtain ⟨h1, h2, h3⟩ := h
  refine ⟨by omega, fun hm => ?_, h3⟩
  rw [show i + 1 - fr = (i - fr) + 1 by omega, List.take_add_one] at hm
  rcases List.mem_append.1 hm with hm | hm
  · exact h2 hm
  · rw [List.getElem?_drop, show fr + (i - fr) = i by omega, List.getElem?_eq_getElem hi] at hm
    simp only [Option.toList_some, List.mem_singleton] at hm
    apply hc
    rw [hm]; simp [List.getD, hi]
theorem CutS.hit {c : UInt8} {T : By} {l : List By} {fr i : Nat} (h : CutS c T l fr i) (hi : i < T.length) (hc : T.getD i 0 = c) : pieces c (T.drop fr) = (T.drop fr).take (i - fr) :: pieces c (T.drop (i + 1)) ∧ CutS c T (l ++ [(T.drop fr).take (i - fr)]) (i + 1) (i + 1) := by
  obtain ⟨h1, h2, h3⟩ := h
  have e : T.drop fr = (T.drop fr).take (i - fr) ++ c :: T.drop (i + 1) := by
    have hd : T.drop i = c :: T.drop (i + 1) := by
      rw [List.drop_eq_getElem_cons hi, ← hc]; simp [List.getD, hi]
    conv => lhs; rw [← List.take_append_drop (i - fr) (T.drop fr), List.drop_drop, show fr + (i - fr) = i by omega, hd]
  have e2 : pieces c (T.drop fr) = (T.drop fr).take (i - fr) :: pieces c (T.drop (i + 1)) := by
    conv => lhs; rw [e]
    exact pieces_cut h2
  refine ⟨e2, Nat.le_refl _, by simp, ?_⟩
  rw [← h3, e2]; simp
theorem CutS.last {c : UInt8} {T : By} {l : List By} {fr : Nat} (h : CutS c T l fr T.length) : pieces c (T.drop fr) = [T.drop fr] ∧ l ++ [T.drop fr] = pieces c T := by
  obtain ⟨h1, h2, h3⟩ := h
  rw [List.take_of_length_le (by simp)] at h2
  rw [pieces_none h2] at h3
  exact ⟨pieces_none h2, h3⟩
theorem bs_map_length {l : List ByteArray} {q : List By} (h : l.map bs = q) : l.length = q.length := by rw [← h]; simp

theorem nums23_spec {s word : ByteArray} {many : Nat} (hs : s.size ≤ 67108864) (hm : many ≤ 100) : VSpec Tryd.prog 17 [] [strV s, strV word, intV many] [] (.tup [encI true (numsR word many s).1, boolV (numsR word many s).2]) := by
  have hplen := pieces_len 32 (bs s)
  have hsz := size_bs s
  rw [← hsz] at hplen
  refine vspec_ctx tb_ok mixed shTr annN23 true Tryd.func17 (by kernel_rfl) rfl ((nums23_raw _ _ s word many).mpr ?_)
  refine SatC.own 3 8 1 (rowsS []) rfl ?_
  refine satC_loop tb_ok mixed (fun g st => ∃ (i fr : Nat) (l : List ByteArray), (i ≤ s.size ∧ CutS 32 (bs s) (l.map bs) fr i ∧ l.length ≤ i ∨ i = s.size + 1 ∧ l.map bs = pieces 32 (bs s)) ∧ g = s.size + 1 - i ∧ fr ≤ i ∧ st = stN23a s word many l fr i)
    (by kernel_rfl) (by kernel_rfl) ⟨_, Up.of ⟨0, 0, [], .inl ⟨Nat.zero_le _, CutS.start _ _, Nat.le_refl _⟩, rfl, Nat.le_refl _, rfl⟩⟩ ?_
  rintro g st ⟨i, fr, l, hor, rfl, hfi, rfl⟩
  refine (nums23a_raw _ _ s word many l fr i _).mpr ⟨fun hle => ?_, fun hgt => ?_⟩
  · have hle' : i ≤ s.size := by
      have := of_decide_eq_true hle
      omega
    obtain ⟨h1, hcut, hll⟩ : i ≤ s.size ∧ CutS 32 (bs s) (l.map bs) fr i ∧ l.length ≤ i := by
      rcases hor with h | ⟨h, _⟩
      · exact h
      · omega
    have hto : (i : Int).toNat = i := by omega
    have hfo : (fr : Int).toNat = fr := by omega
    rw [hto, hfo, byte_at]
    have hw : IntKind.i64.wrap ((i : Int) + 1) = ((i + 1 : Nat) : Int) := by rw [wrap_id (by omega) (by omega)]; omega
    rw [hw]
    have hpush : (l ++ [s.extract fr i]).map bs = l.map bs ++ [((bs s).drop fr).take (i - fr)] := by rw [List.map_append, List.map_singleton, extract_bs]
    have htest : (bif ((i : Int) == (s.size : Int)) then true else (((bs s).getD i 0).toNat : Int) == (32 : Int)) = decide (i = s.size ∨ (bs s).getD i 0 = 32) := by
      have h3 : ((((bs s).getD i 0).toNat : Int) == (32 : Int)) = decide ((bs s).getD i 0 = 32) := by
        generalize (bs s).getD i 0 = c
        by_cases hc : c = 32
        · subst hc; rfl
        · have h1 : c.toNat ≠ 32 := fun h => hc (UInt8.toNat_inj.1 h)
          have h2 : ((c.toNat : Int) == 32) = false := by rw [beq_eq_false_iff_ne]; omega
          rw [h2]; simp [hc]
      rw [h3]
      by_cases hi : i = s.size
      · have : ((i : Int) == (s.size : Int)) = true := by rw [beq_iff_eq]; omega
        rw [this]; simp [hi]
      · have : ((i : Int) == (s.size : Int)) = false := by rw [beq_eq_false_iff_ne]; omega
        rw [this]; simp [hi]
    rw [htest]
    refine ⟨fun hg => ⟨by omega, ?_⟩, fun hyes => ⟨⟨by omega, by omega, by omega⟩, by omega, s.size + 1 - (i + 1), by omega, Up.mk (l' := [(0, strV s), (1, strV word), (2, intV many), (8, .ow 0 0 (l ++ [s.extract fr i]).length), (9, intV ((i + 1 : Nat) : Int)), (10, intV ((i + 1 : Nat) : Int))]) (hs' := [.arr true 0 (l ++ [s.extract fr i]).length 1 (rowsS (l ++ [s.extract fr i]))]) ?_ ⟨le_push (fun b => [strV b]) default l (s.extract fr i) _ rfl, trivial⟩
        ⟨i + 1, i + 1, l ++ [s.extract fr i], ?_, rfl, Nat.le_refl _, rfl⟩⟩, fun hno => ⟨s.size + 1 - (i + 1), by omega, Up.of ⟨i + 1, fr, l, ?_, rfl, by omega, rfl⟩⟩⟩
    · have hg' : ((i : Int) == (s.size : Int)) = false := by simpa using hg
      rw [beq_eq_false_iff_ne] at hg'
      omega
    · exact ⟨⟨rfl, VV.le_refl _⟩, ⟨rfl, VV.le_refl _⟩, ⟨rfl, VV.le_refl _⟩, ⟨rfl, VV.le_eq (by simp)⟩, ⟨rfl, VV.le_refl _⟩, ⟨rfl, VV.le_refl _⟩, trivial⟩
    · rcases of_decide_eq_true hyes with hi | hc
      · subst hi
        refine .inr ⟨rfl, ?_⟩
        rw [hsz] at hcut
        have := hcut.last.2
        rw [hpush, List.take_of_length_le (by simp [hsz])]
        exact this
      · have hi : i < s.size := by
          rcases Nat.lt_or_ge i s.size with h | h
          · exact h
          · rw [List.getD_eq_getElem?_getD, List.getElem?_eq_none (by rw [← hsz]; exact h)] at hc
            exact absurd hc (by decide)
        refine .inl ⟨by omega, ?_, by simp; omega⟩
        rw [hpush]
        exact (hcut.hit (by rw [← hsz]; exact hi) hc).2
    · have hno' : ¬ (i = s.size ∨ (bs s).getD i 0 = 32) := of_decide_eq_false hno
      have hi : i < s.size := by omega
      exact .inl ⟨by omega, hcut.miss (by rw [← hsz]; exact hi) (fun h => hno' (.inr h)), by omega⟩
  · have hgt' : s.size < i := by
      have := of_decide_eq_false hgt
      omega
    have hp : l.map bs = pieces 32 (bs s) := by
      rcases hor with h | ⟨_, h⟩
      · omega
      · exact h
    cases l with
    | nil => exact absurd hp.symm (pieces_ne _ _)
    | cons w r =>
    have hp : pieces 32 (bs s) = bs w :: r.map bs := hp.symm
    rw [hp] at hplen
    have hrl : r.length ≤ s.size := by simp at hplen; omega
    have hmw : IntKind.i64.wrap ((many : Int) + 1) = (many : Int) + 1 := wrap_id (by omega) (by omega)
    have hnl : numsL (bs word) many (bs s) = if bs w = bs word ∧ r.length = many then numsOf (r.map bs) else none := by
      unfold numsL
      rw [hp]
      simp
    have htest : (bif !(((w :: r).getD (Int.toNat (0 : Int)) default).toList == word.toList) then true else (((w :: r).length : Int) != IntKind.i64.wrap ((many : Int) + (1 : Int)))) = !decide (bs w = bs word ∧ r.length = many) := by
      rw [hmw, toList_bs, toList_bs]
      show (bif !(bs w == bs word) then true else (((r.length + 1 : Nat) : Int) != (many : Int) + 1)) = _
      by_cases h1 : bs w = bs word
      · rw [h1]
        by_cases h2 : r.length = many
        · subst h2; simp
        · have : (((r.length + 1 : Nat) : Int) != (many : Int) + 1) = true := by
            rw [bne_iff_ne]; omega
          rw [this]; simp [h2]
      · simp [h1]
    rw [htest]
    refine ⟨⟨by omega, by simp only [List.length_cons]; omega⟩, fun h => ⟨trivial, ?_⟩, fun h => ?_⟩
    · rw [if_neg (of_decide_eq_false (by rw [Bool.not_eq_true'] at h; exact h))] at hnl
      exact le_none _ (numsR_none hnl)
    have hc : bs w = bs word ∧ r.length = many := by simpa using h
    rw [if_pos hc] at hnl
    refine SatC.own 1 11 1 (rowsI []) rfl ?_
    refine satC_loop tb_ok mixed (fun g st => ∃ (k : Nat) (out : List Int), k ≤ r.length ∧ g = r.length - k ∧ out.length = k ∧ numsOf (r.map bs) = (numsOf ((r.map bs).drop k)).map (out ++ ·) ∧ st = stN23b (w :: r) out ((k + 1 : Nat) : Int))
      (by kernel_rfl) (by kernel_rfl) ⟨_, Up.of ⟨0, [], Nat.zero_le _, rfl, rfl, by simp, rfl⟩⟩ ?_
    rintro g st ⟨k, out, hk, rfl, hol, hinv, rfl⟩
    refine (nums23b_raw _ _ (w :: r) out ((k + 1 : Nat) : Int) _).mpr ⟨fun hlt => ?_, fun hge => ⟨trivial, ?_⟩⟩
    · have hlt' : k < r.length := by
        have := of_decide_eq_true hlt
        simp only [List.length_cons] at this
        omega
      obtain ⟨t, htk⟩ : ∃ t, t = r.getD k default := ⟨_, rfl⟩
      have htd : (r.map bs).drop k = bs t :: (r.map bs).drop (k + 1) := by
        have : (r.map bs)[k]'(by simpa using hlt') = bs t := by rw [htk]; simp [List.getD, hlt']
        rw [List.drop_eq_getElem_cons (by simpa using hlt'), this]
      have hget : (w :: r).getD (((k + 1 : Nat) : Int)).toNat default = t := by
        rw [htk, show (((k + 1 : Nat) : Int)).toNat = k + 1 by omega]; rfl
      rw [hget]
      obtain ⟨hn1, hn2⟩ := numK_num (bs t)
      refine ⟨⟨by omega, by simp only [List.length_cons]; omega⟩, numK (bs t), num_spec t, fun hbad => ⟨trivial, ?_⟩, fun hgood => ⟨by omega, ?_⟩⟩
      · refine le_none _ (numsR_none ?_)
        rw [hnl, hinv, htd]
        unfold numsOf
        rw [hn2 (by simpa using hbad)]; rfl
      · have hsome := hn1 (by simpa using hgood)
        generalize (numK (bs t)).1 = n at hsome
        refine ⟨r.length - (k + 1), by omega, Up.mk (l' := [(8, .ow 0 0 (w :: r).length), (11, .ow 1 0 (out ++ [n]).length), (12, intV ((k + 1 + 1 : Nat) : Int))]) (hs' := [.arr true 0 (w :: r).length 1 (rowsS (w :: r)), .arr true 0 (out ++ [n]).length 1 (rowsI (out ++ [n]))]) ?_ ⟨Ob.le_refl _, le_push (fun n => [intV n]) 0 out n _ rfl, trivial⟩ ⟨k + 1, out ++ [n], by omega, rfl, by simp [hol], ?_, rfl⟩⟩
        · rw [wrap_id (by omega) (by omega), show (((k + 1 : Nat) : Int) + 1) = ((k + 1 + 1 : Nat) : Int) by omega]
          exact ⟨⟨rfl, VV.le_refl _⟩, ⟨rfl, VV.le_eq (by simp)⟩, ⟨rfl, VV.le_refl _⟩, trivial⟩
        · rw [hinv, htd]
          conv => lhs; unfold numsOf
          rw [hsome]
          cases numsOf ((r.map bs).drop (k + 1)) with
          | none => rfl
          | some l => simp
    · have hge' : r.length ≤ k := by
        have := of_decide_eq_false hge
        simp only [List.length_cons] at this
        omega
      rw [List.drop_eq_nil_of_le (by simpa using hge')] at hinv
      have := numsR_some (word := word) (s := s) (many := many) (l := out) (by rw [hnl, hinv]; simp [numsOf])
      rw [this]
      exact VV.le_refl _
end Go.Proofs.YtfhdgccpngdnaaaDoor
