/-
  The numbers of a line, as the program reads them and as the document does.
-/
import Derived.Test.YtfhdgccpngdnaaaDoorTrX
import Derived.Test.YtfhdgccpngdnaaaDoorTrP2
namespace Go.Proofs.YtfhdgccpngdnaaaDoor
open Go.RowKit

theorem push_rows {α : Type} {sz : Nat} (enc : α → List VV) (d : α) (q : List α) (x : α) (R : List VV) (hR : List.take sz R = enc x) (i : Nat) (hi : i < (q ++ [x]).length) :
    (bif i.blt q.length then enc (q.getD i d) else (fun i => List.take sz (List.drop (i * sz) R)) (i - q.length)) = enc ((q ++ [x]).getD i d) := by
  by_cases hiq : i < q.length
  · have hb : Nat.blt i q.length = true := Nat.ble_eq_true_of_le hiq
    rw [hb, cond_true]
    simp only [List.getD_eq_getElem?_getD, List.getElem?_append_left hiq]
  · have hiq' : i = q.length := by simp at hi; omega
    subst hiq'
    have hb : Nat.blt q.length q.length = false := by
      cases hq : Nat.blt q.length q.length with
      | true => have := Nat.le_of_ble_eq_true hq; omega
      | false => rfl
    rw [hb, cond_false]
    simp only [Nat.sub_self, Nat.zero_mul, List.drop_zero, hR]
    simp
theorem le_push {α : Type} {g sz : Nat} (enc : α → List VV) (d : α) (q : List α) (x : α) (R : List VV) (hR : List.take sz R = enc x) :
    Ob.le (.arr true g (q.length + 1) sz fun i => bif i.blt q.length then enc (q.getD i d) else (fun i => List.take sz (List.drop (i * sz) R)) (i - q.length)) (.arr true g (q ++ [x]).length sz fun i => enc ((q ++ [x]).getD i d)) := by
  have hn : q.length + 1 = (q ++ [x]).length := by simp
  rw [hn]
  exact Ob.le_arr fun i hi => leL_eq (push_rows enc d q x R hR i hi)
theorem toList_bs (a : ByteArray) : a.toList = bs a := ByteArray.toList_eq a
theorem bs_inj {a b : ByteArray} (h : bs a = bs b) : a = b := by rw [← mk_bs a, h, mk_bs]
theorem bs_getD (y : List ByteArray) (k : Nat) : bs (y.getD k default) = (y.map bs).getD k [] := by
  simp only [List.getD_eq_getElem?_getD, List.getElem?_map]
  cases y[k]? with
  | none => rfl
  | some b => rfl
def numsR (word : ByteArray) (many : Nat) (s : ByteArray) : List Int × Bool :=
  match numsL (bs word) many (bs s) with
  | some l => (l, true)
  | none => ([], false)
theorem numsR_none {word s : ByteArray} {many : Nat} (h : numsL (bs word) many (bs s) = none) : numsR word many s = ([], false) := by unfold numsR; rw [h]
theorem numsR_some {word s : ByteArray} {many : Nat} {l : List Int} (h : numsL (bs word) many (bs s) = some l) : numsR word many s = (l, true) := by unfold numsR; rw [h]
theorem le_none (r : List Int × Bool) (h : r = ([], false)) : VV.le (.tup [.nl, .sc (.bool false)]) (.tup [encI true r.1, boolV r.2]) := by
  subst h
  exact VV.le_tup ⟨VV.le_nil, VV.le_refl _, trivial⟩
theorem parseR_num {t : ByteArray} : ((parseR t).2 = true → numL (bs t) = none) ∧ ((parseR t).2 = false → I64 (parseR t).1 ∧ numL (bs t) = if Lib.itoa (parseR t).1 = bs t then some (parseR t).1 else none) := by
  unfold parseR numL
  have e : t.data.toList = bs t := rfl
  rw [e]
  rcases hp : Lib.parseIntB 64 (bs t) with v | _ | _
  · refine ⟨fun h => by simp at h, fun _ => ⟨?_, rfl⟩⟩
    have := Lib.parseIntB_bounds hp
    exact ⟨by simpa using this.1, by have := this.2; simp at this; show v ≤ _; omega⟩
  · exact ⟨fun _ => rfl, fun h => by simp at h⟩
  · exact ⟨fun _ => rfl, fun h => by simp at h⟩
theorem itoaB_bs (n : Int) : bs (itoaB n) = Lib.itoa n := by simp [bs, itoaB]

theorem nums_spec {s word : ByteArray} {many : Nat} (hs : s.size ≤ 67108864) (hm : many ≤ 100) : VSpec Tryd.prog 16 [] [strV s, strV word, intV many] [] (.tup [encI true (numsR word many s).1, boolV (numsR word many s).2]) := by
  have hy := split_bs s
  have hplen := pieces_len 32 (bs s)
  rw [← size_bs] at hplen
  have hpm : ∀ p ∈ pieces 32 (bs s), p.length ≤ s.size := fun p hp => by rw [size_bs]; exact (pieces_mem hp).2
  have hspl := split_spec (s := s) (by omega)
  refine vspec_ctx tb_ok mixed shTr annNums true Tryd.func16 (by kernel_rfl) rfl ((nums_raw _ _ s word many).mpr ⟨splitL s, hspl, ?_⟩)
  generalize splitL s = ys at hy
  cases ys with
  | nil => exact absurd hy.symm (pieces_ne _ _)
  | cons w r =>
    have hp : pieces 32 (bs s) = bs w :: r.map bs := hy.symm
    rw [hp] at hplen hpm
    have hrl : r.length ≤ s.size := by simp at hplen; omega
    have hmw : IntKind.i64.wrap ((many : Int) + 1) = (many : Int) + 1 := wrap_id (by omega) (by omega)
    have hnl : numsL (bs word) many (bs s) = if bs w = bs word ∧ r.length = many then numsOf (r.map bs) else none := by
      unfold numsL
      rw [hp]
      simp
    have htest : (bif !(((w :: r).getD (Int.toNat (0 : Int)) default).toList == word.toList) then true else (((w :: r).length : Int) != IntKind.i64.wrap ((many : Int) + (1 : Int)))) = !decide (bs w = bs word ∧ r.length = many) := by
      rw [hmw, toList_bs, toList_bs]
      show (bif !(bs w == bs word) then true else (((r.length + 1 : Nat) : Int) != (many : Int) + 1)) = _
      by_cases h1 : bs w = bs word
      · rw [h1]
        by_cases h2 : r.length = many
        · subst h2; simp
        · have : (((r.length + 1 : Nat) : Int) != (many : Int) + 1) = true := by
            rw [bne_iff_ne]; omega
          rw [this]; simp [h2]
      · simp [h1]
    rw [htest]
    refine ⟨⟨by omega, by simp only [List.length_cons]; omega⟩, fun h => ⟨trivial, ?_⟩, fun h => ⟨⟨by omega, by simp only [List.length_cons]; omega, by omega⟩, ?_⟩⟩
    · rw [if_neg (of_decide_eq_false (by rw [Bool.not_eq_true'] at h; exact h))] at hnl
      exact le_none _ (numsR_none hnl)
    · have hc : bs w = bs word ∧ r.length = many := by simpa using h
      rw [if_pos hc] at hnl
      have hlen : (((w :: r).length : Int) - 1).toNat = r.length := by simp
      rw [hlen]
      refine SatC.le (l' := [(9, .nl), (29, .sl true r.length 1 (rowsS r)), (30, intV r.length), (31, intV 0)]) ⟨⟨rfl, VV.le_refl _⟩, ⟨rfl, VV.le_eq ?_⟩, ⟨rfl, VV.le_refl _⟩, ⟨rfl, VV.le_refl _⟩, trivial⟩ (leO_refl []) ?_
      · congr 1
        funext i
        show [strV ((w :: r).getD (1 + i) default)] = [strV (r.getD i default)]
        rw [Nat.add_comm 1 i]; rfl
      refine SatC.own 0 9 1 (rowsI []) rfl ?_
      refine satC_loop tb_ok mixed (fun g st => ∃ (k : Nat) (out : List Int), k ≤ r.length ∧ g = r.length - k ∧ out.length = k ∧ numsOf (r.map bs) = (numsOf ((r.map bs).drop k)).map (out ++ ·) ∧ st = stNums out r k)
        (by kernel_rfl) (by kernel_rfl) ⟨_, Up.of ⟨0, [], Nat.zero_le _, rfl, rfl, by simp, rfl⟩⟩ ?_
      rintro g st ⟨k, out, hk, rfl, hol, hinv, rfl⟩
      refine (nums1_raw _ _ out r k _).mpr ⟨fun hlt => ?_, fun hge => ⟨trivial, ?_⟩⟩
      · have hlt' : k < r.length := by simpa using hlt
        have ht : (r.getD k default) ∈ r := getD_mem hlt'
        obtain ⟨t, htk⟩ : ∃ t, t = r.getD k default := ⟨_, rfl⟩
        have htd : (r.map bs).drop k = bs t :: (r.map bs).drop (k + 1) := by
          have : (r.map bs)[k]'(by simpa using hlt') = bs t := by rw [htk]; simp [List.getD, hlt']
          rw [List.drop_eq_getElem_cons (by simpa using hlt'), this]
        have hts : t.size ≤ s.size := by
          rw [size_bs t]
          exact hpm _ (List.mem_cons_of_mem _ (List.mem_map_of_mem (by rw [htk]; exact ht)))
        show ((0 : Int) ≤ (k : Int) ∧ _) ∧ ∃ (y : Int × Bool), VSpec _ _ [] [VV.sc (Value.string (r.getD k default)), _, _] _ _ ∧ _
        have hkn : (k : Int).toNat = k := by omega
        rw [hkn, ← htk]
        obtain ⟨hn1, hn2⟩ := parseR_num (t := t)
        refine ⟨⟨by omega, by omega⟩, parseR t, parse_spec (by omega), itoaB (parseR t).1, fun he => format_spec (hn2 ?_).1, fun hbad => ⟨trivial, ?_⟩, fun hgood => ⟨by rw [hol]; omega, ?_⟩⟩
        · simpa using he
        · refine le_none _ (numsR_none ?_)
          rw [hnl, hinv, htd]
          have hnone : numL (bs t) = none := by
            cases h2 : (parseR t).2 with
            | true => exact hn1 h2
            | false =>
              rw [(hn2 h2).2]
              rw [h2] at hbad
              simp only [cond_false, toList_bs, itoaB_bs] at hbad
              rw [if_neg (by simpa using hbad)]
          unfold numsOf
          rw [hnone]; rfl
        · have h2 : (parseR t).2 = false := by
            cases h2 : (parseR t).2 with
            | true => rw [h2] at hgood; simp at hgood
            | false => rfl
          rw [h2] at hgood
          simp only [cond_false, toList_bs, itoaB_bs] at hgood
          have hsome := (hn2 h2).2
          rw [if_pos (by simpa using hgood)] at hsome
          generalize (parseR t).1 = n at hsome
          refine ⟨r.length - (k + 1), by omega, Up.mk (l' := [(9, .ow 0 0 (out ++ [n]).length), (29, .sl true r.length 1 (rowsS r)), (30, intV r.length), (31, intV ((k + 1 : Nat) : Int))]) (hs' := [.arr true 0 (out ++ [n]).length 1 (rowsI (out ++ [n]))]) ?_ ⟨le_push (fun n => [intV n]) 0 out n _ rfl, trivial⟩ ⟨k + 1, out ++ [n], by omega, rfl, by simp [hol], ?_, rfl⟩⟩
          · rw [wrap_id (by omega) (by omega), show ((k : Int) + 1) = ((k + 1 : Nat) : Int) by omega]
            exact ⟨⟨rfl, VV.le_eq (by simp)⟩, ⟨rfl, VV.le_refl _⟩, ⟨rfl, VV.le_refl _⟩, ⟨rfl, VV.le_refl _⟩, trivial⟩
          · rw [hinv, htd]
            conv => lhs; unfold numsOf
            rw [hsome]
            cases numsOf ((r.map bs).drop (k + 1)) with
            | none => rfl
            | some l => simp
      · have hge' : r.length ≤ k := by simpa using hge
        rw [List.drop_eq_nil_of_le (by simpa using hge')] at hinv
        have := numsR_some (word := word) (s := s) (many := many) (l := out) (by rw [hnl, hinv]; simp [numsOf])
        rw [this]
        exact VV.le_refl _
end Go.Proofs.YtfhdgccpngdnaaaDoor
