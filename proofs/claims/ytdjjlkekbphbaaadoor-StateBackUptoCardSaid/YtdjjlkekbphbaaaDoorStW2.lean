/-
  Layer 12 on trees, II: numbers of a text; a reader.
-/
import Derived.Test.YtdjjlkekbphbaaaDoorStW1
namespace Go.Proofs.YtdjjlkekbphbaaaDoor
open Go.RowKit

/-- A slice that is nil, as an array of the run's own, without elements. -/
theorem Cv.own {l : List (Nat × VV)} {hs : List Ob} (k t sz : Nat) (f : Nat → List VV) (hk : l[k]? = some (t, .nl)) : Cv (mkSt l hs) (mkSt (l.set k (t, .ow hs.length 0 0)) (hs ++ [.arr true 0 0 sz f])) := by
  intro N E φ a w hr
  have hnone : φ hs.length = none := hr.fr _ (Nat.le_refl _)
  have hroom : Room w [Pl.arr 0 0 none] w := Room.one (Below.refl _ _) fun k hk => by obtain ⟨_, e'⟩ := hk; cases e'
  have hidn : ∀ i, i < [Ob.arr true 0 0 sz f].length → φ (hs.length + i) = none := fun i hi => by
    simp only [List.length_cons, List.length_nil, Nat.zero_add, Nat.lt_one_iff] at hi
    subst hi; exact hnone
  have hnews : News w E φ hs.length [Ob.arr true 0 0 sz f] [Pl.arr 0 0 none] w := News.one hroom ⟨rfl, rfl, rfl⟩
  have hext := hnews.ext hidn
  have hat : addP φ hs.length [Pl.arr 0 0 none] hs.length = some (.arr 0 0 none) := addP_at (i := 0) rfl
  have hlt : ∀ id, φ id ≠ none → id < hs.length := fun id hn => by
    rcases Nat.lt_or_ge id hs.length with h' | h'
    · exact h'
    · exact absurd (hr.fr id h') hn
  refine ⟨addP φ hs.length [Pl.arr 0 0 none], ⟨hr.sz, hr.df, hr.old.ext hext, fun t' => ?_, ?_, fun id hid => ?_, fun id hid => ?_⟩, hext⟩
  · show V w _ _ (lookT t' _) _
    have hv : V w _ _ (lookT t' l) _ := hr.tm t'
    rcases lookT_set (y := .ow hs.length 0 0) hk t' with e | ⟨e1, e2⟩
    · rw [e]; exact hv.ext hext
    · rw [e2]
      rw [e1] at hv
      rw [hv.nl_inv]
      exact .ow hat (Nat.le_refl _) (hd0 := none) ⟨rfl, rfl⟩ fun _ => ⟨rfl, Nat.le_refl _⟩
  · refine hr.hp.news hr.old.lt hnews hidn (fun k hk => ?_) fun i o ho => ?_
    · have := hlt k hk
      show obsH (hs ++ _) k = obsH hs k
      simp [obsH, List.getElem?_append_left this]
    · show obsH (hs ++ _) (hs.length + i) = o
      unfold obsH
      rw [List.getD_eq_getElem?_getD, List.getElem?_append_right (by omega), show hs.length + i - hs.length = i by omega, ho]
      rfl
  · have hid' : (hs ++ [Ob.arr true 0 0 sz f]).length ≤ id := hid
    simp only [List.length_append, List.length_cons, List.length_nil] at hid'
    rw [addP_out (.inr (by simp <;> omega))]
    exact hr.fr id (by show hs.length ≤ id; omega)
  · have hid' : id < (hs ++ [Ob.arr true 0 0 sz f]).length := hid
    simp only [List.length_append, List.length_cons, List.length_nil] at hid'
    by_cases he : id = hs.length
    · subst he; rw [hat]; simp
    · rw [addP_out (.inl (by omega))]
      exact hr.lv id (by show id < hs.length; omega)

/-! ### A reader -/
theorem clone_at {l : List Int} {n : Nat} {F : Nat → List VV} (hl : Len l.length) (hn : n = l.length) (hF : ∀ i, i < l.length → F i = [intV (l.getD i 0)]) : VSpec Tryd.prog 46 [] [.sl true n 1 F] [] (encL_Int true l) := by
  unfold Len at hl
  subst hn
  exact (clone_spec (by omega)).le trivial ⟨VV.le_sl (.inl rfl) fun i hi => leL_eq (hF i hi), trivial⟩ trivial (VV.le_refl _)
theorem take_len {n : Nat} {r : Rdr} (hn : n ≤ 128) : (takeP n r).2.length = n := by
  unfold takeP
  split
  · simp; omega
  · simp; omega
theorem take_spec {r : Rdr} {n : Nat} (hl : Len r.1.length) (hn : Len n) : VSpec Tryd.prog 23 [obR r] [.bp 0 0, intV n] [obR (takeP n r).1] (encL_Int true (takeP n r).2) := by
  obtain ⟨l, bad⟩ := r
  unfold Len at hn
  have hl' := hl
  unfold Len at hl'
  simp only at hl'
  refine vspec_raw (L := annR) tb_ok mixed Tryd.func23 (by kernel_rfl) rfl (take_raw (takeP n (l, bad)).1.1 (takeP n (l, bad)).2 (takeP n (l, bad)).1.2 l bad n) ⟨fun h => ?_, fun h => ?_⟩
  · have hlt : l.length < n := by simp at h; omega
    have e : takeP n (l, bad) = ((l, true), List.replicate (min n 128) 0) := by unfold takeP; rw [if_pos hlt]
    rw [e]
    have hmx : (bif true then max (bif false then max (n : Int) 128 else min (n : Int) 128) 0 else min (bif false then max (n : Int) 128 else min (n : Int) 128) 0) = ((min n 128 : Nat) : Int) := by
      simp only [cond_true, cond_false]; omega
    rw [hmx]
    refine ⟨⟨by omega, by omega, by omega⟩, ⟨Ob.le_refl _, trivial⟩, ?_⟩
    rw [show (((min n 128 : Nat) : Int)).toNat = (List.replicate (min n 128) (0 : Int)).length by simp]
    refine VV.le_sl (.inl rfl) fun i hi => leL_eq ?_
    have : (List.replicate (min n 128) (0 : Int)).getD i 0 = 0 := by simp at hi; simp [List.getD, hi]
    show _ = [intV _]
    rw [this]; rfl
  · have hle : n ≤ l.length := by simp at h; omega
    have e : takeP n (l, bad) = ((l.drop n, bad), l.take n) := by unfold takeP; rw [if_neg (by simpa using hle)]
    rw [e]
    refine ⟨⟨by omega, by omega, by simp <;> omega⟩, l.take n, clone_at (by unfold Len; simp; omega) (by simp <;> omega) (fun i hi => ?_), ⟨by omega, by simp <;> omega, by omega⟩, ⟨Ob.le_box ⟨?_, VV.le_refl _, trivial⟩, trivial⟩, VV.le_refl _⟩
    · have hi' : i < n := by simp at hi; omega
      have : (l.take n).getD i 0 = l.getD i 0 := by simp only [List.getD_eq_getElem?_getD, List.getElem?_take, hi', if_true]
      rw [this, show Int.toNat 0 + i = i by simp]
    · have hnn : ((l.length : Int) - (n : Int)).toNat = (l.drop n).length := by simp <;> omega
      show VV.le (.sl true ((l.length : Int) - (n : Int)).toNat 1 _) _
      rw [hnn]
      refine VV.le_sl (.inl rfl) fun i hi => leL_eq ?_
      have : (l.drop n).getD i 0 = l.getD (n + i) 0 := by simp only [List.getD_eq_getElem?_getD, List.getElem?_drop]
      show _ = [intV _]
      rw [this, show (n : Int).toNat = n by omega]
theorem one_spec {r : Rdr} {a b : Int} (hl : Len r.1.length) : VSpec Tryd.prog 24 [obR r] [.bp 0 0, intV a, intV b] [obR (oneP a b r).1] (intV (oneP a b r).2) := by
  have hlen := take_len (n := 1) (r := r) (by omega)
  have ht := take_spec (r := r) (n := 1) hl (by unfold Len; omega)
  have hone : oneP a b r = bif (takeP 1 r).1.2 || (decide ((takeP 1 r).2.getD 0 0 < a) || decide (b ≤ (takeP 1 r).2.getD 0 0)) then (((takeP 1 r).1.1, true), 0) else ((takeP 1 r).1, (takeP 1 r).2.getD 0 0) := rfl
  generalize oneP a b r = o at hone ⊢
  obtain ⟨⟨l', b'⟩, v⟩ := o
  obtain ⟨l, bad⟩ := r
  refine vspec_raw (L := annR) tb_ok mixed Tryd.func24 (by kernel_rfl) rfl (one_raw l' v b' l bad a b) ⟨takeP 1 (l, bad), ht, fun _ => ⟨by omega, by omega⟩, fun _ => ⟨by omega, by omega⟩, ?_⟩
  generalize takeP 1 (l, bad) = t at hlen hone ⊢
  obtain ⟨⟨tl, tb⟩, tv⟩ := t
  simp only at hlen hone ⊢
  have hto : Int.toNat 0 = 0 := rfl
  rw [hto]
  have hc : (bif bif tb then true else decide (tv.getD 0 0 < a) then true else decide (tv.getD 0 0 ≥ b)) = (tb || (decide (tv.getD 0 0 < a) || decide (b ≤ tv.getD 0 0))) := by
    simp only [bif_or, Bool.or_assoc]
  rw [hc]
  refine ⟨fun h => ?_, fun h => ⟨⟨by omega, by omega⟩, ?_⟩⟩
  · rw [h, cond_true] at hone
    simp only [Prod.mk.injEq] at hone
    obtain ⟨⟨rfl, rfl⟩, rfl⟩ := hone
    exact ⟨⟨Ob.le_refl _, trivial⟩, VV.le_refl _⟩
  · rw [h, cond_false] at hone
    simp only [Prod.mk.injEq] at hone
    obtain ⟨⟨rfl, rfl⟩, rfl⟩ := hone
    exact ⟨⟨Ob.le_refl _, trivial⟩, VV.le_refl _⟩

/-! ### The numbers of a text -/
theorem bs_ext {t : ByteArray} {i j : Nat} : bs (t.extract i j) = ((bs t).take j).drop i := by
  unfold bs
  simp [List.drop_take]
theorem bs_at {t : ByteArray} {k : Nat} (h : k < t.size) : (bs t)[k]? = some (t[k]?.getD 0) := by
  have h' : k < t.data.size := h
  rw [getElem?_pos t k h]
  unfold bs
  rw [Array.getElem?_toList, Array.getElem?_eq_getElem h']
  rfl
theorem byte_test {t : ByteArray} {k : Nat} : (((t[k]?.getD (0 : UInt8)).toNat : Int) != 44) = !(decide (t[k]?.getD 0 = (44 : UInt8))) := by
  generalize t[k]?.getD (0 : UInt8) = c
  rw [Bool.eq_iff_iff]
  simp only [bne_iff_ne, ne_eq, Bool.not_eq_true', decide_eq_false_iff_not]
  refine ⟨fun h e => h (by rw [e]; rfl), fun h e => h ?_⟩
  apply UInt8.toNat_inj.1
  have : (44 : UInt8).toNat = 44 := rfl
  omega
structure NumI (t : ByteArray) (R : List Int × Bool) (out : List Int) (fr k : Nat) : Prop where
  fk : fr ≤ k
  kt : k ≤ t.size
  ol : out.length ≤ k
  res : scanP out (((bs t).take k).drop fr) ((bs t).drop k) = R
theorem NumI.next {t : ByteArray} {R : List Int × Bool} {out : List Int} {fr k : Nat} (h : NumI t R out fr k) (hk : k < t.size) :
    scanP out (((bs t).take k).drop fr) (t[k]?.getD 0 :: (bs t).drop (k + 1)) = R ∧ ((bs t).take k).drop fr ++ [t[k]?.getD 0] = ((bs t).take (k + 1)).drop fr := by
  have e := bs_at hk
  have hl : k < (bs t).length := by rw [← size_bs]; exact hk
  have hv : (bs t)[k] = t[k]?.getD 0 := by rw [List.getElem?_eq_getElem hl] at e; simpa using e
  refine ⟨?_, ?_⟩
  · rw [← hv, ← List.drop_eq_getElem_cons hl]; exact h.res
  · rw [List.take_add_one, e]
    simp only [Option.toList_some]
    rw [List.drop_append_of_le_length (by have := h.fk; simp; omega)]
theorem NumI.plain {t : ByteArray} {R : List Int × Bool} {out : List Int} {fr k : Nat} (h : NumI t R out fr k) (hk : k < t.size) (hc : t[k]?.getD 0 ≠ (44 : UInt8)) : NumI t R out fr (k + 1) := by
  obtain ⟨h1, h2⟩ := h.next hk
  rw [scanP, if_neg hc, h2] at h1
  exact ⟨by have := h.fk; omega, hk, by have := h.ol; omega, h1⟩
theorem NumI.num {t : ByteArray} {R : List Int × Bool} {out : List Int} {fr k : Nat} {n : Int} (h : NumI t R out fr k) (hk : k < t.size) (hc : t[k]?.getD 0 = (44 : UInt8)) (hn : numL (bs (t.extract fr k)) = some n) : NumI t R (out ++ [n]) (k + 1) (k + 1) := by
  obtain ⟨h1, h2⟩ := h.next hk
  rw [bs_ext] at hn
  rw [scanP, if_pos hc, hn] at h1
  refine ⟨Nat.le_refl _, hk, by have := h.ol; simp; omega, ?_⟩
  rw [show ((bs t).take (k + 1)).drop (k + 1) = [] by simp]
  exact h1
theorem NumI.none {t : ByteArray} {R : List Int × Bool} {out : List Int} {fr k : Nat} (h : NumI t R out fr k) (hk : k < t.size) (hc : t[k]?.getD 0 = (44 : UInt8)) (hn : numL (bs (t.extract fr k)) = none) : ([], false) = R := by
  obtain ⟨h1, h2⟩ := h.next hk
  rw [bs_ext] at hn
  rw [scanP, if_pos hc, hn] at h1
  exact h1
theorem NumI.end {t : ByteArray} {R : List Int × Bool} {out : List Int} {fr : Nat} (h : NumI t R out fr t.size) : (out, decide (fr = t.size)) = R := by
  have hr := h.res
  rw [show (bs t).drop t.size = [] from List.drop_eq_nil_of_le (by rw [← size_bs]; exact Nat.le_refl _)] at hr
  unfold scanP at hr
  rw [← hr]
  congr 1
  have hf := h.fk
  rw [Bool.eq_iff_iff, decide_eq_true_eq, decide_eq_true_eq, List.drop_eq_nil_iff]
  simp only [List.length_take, ← size_bs]
  omega
theorem num_of {t : ByteArray} {fr k : Nat} (hb : (bif (parseR (t.extract fr k)).2 then true else !((itoaB (parseR (t.extract fr k)).1).toList == (t.extract fr k).toList)) = false) : I64 (parseR (t.extract fr k)).1 ∧ numL (bs (t.extract fr k)) = some (parseR (t.extract fr k)).1 := by
  obtain ⟨_, h2⟩ := parseR_num (t := t.extract fr k)
  cases hp : (parseR (t.extract fr k)).2 with
  | true => rw [hp] at hb; simp at hb
  | false =>
    rw [hp] at hb
    obtain ⟨h3, h4⟩ := h2 hp
    refine ⟨h3, ?_⟩
    rw [h4]
    have : Lib.itoa (parseR (t.extract fr k)).1 = bs (t.extract fr k) := by
      simp only [cond_false, Bool.not_eq_false', beq_iff_eq] at hb
      rw [ByteArray.toList_eq, ByteArray.toList_eq] at hb
      have e1 : (itoaB (parseR (t.extract fr k)).1).data.toList = Lib.itoa (parseR (t.extract fr k)).1 := bs_mk _
      rw [e1] at hb
      exact hb
    rw [if_pos this]
theorem num_no {t : ByteArray} {fr k : Nat} (hb : (bif (parseR (t.extract fr k)).2 then true else !((itoaB (parseR (t.extract fr k)).1).toList == (t.extract fr k).toList)) = true) : numL (bs (t.extract fr k)) = none := by
  obtain ⟨h1, h2⟩ := parseR_num (t := t.extract fr k)
  cases hp : (parseR (t.extract fr k)).2 with
  | true => exact h1 hp
  | false =>
    rw [hp] at hb
    obtain ⟨h3, h4⟩ := h2 hp
    rw [h4, if_neg]
    intro e
    simp only [cond_false, Bool.not_eq_true', beq_eq_false_iff_ne] at hb
    apply hb
    rw [ByteArray.toList_eq, ByteArray.toList_eq]
    have e1 : (itoaB (parseR (t.extract fr k)).1).data.toList = Lib.itoa (parseR (t.extract fr k)).1 := bs_mk _
    rw [e1, e]; rfl
theorem ext_size {t : ByteArray} {i j : Nat} : (t.extract i j).size ≤ t.size := by
  rw [size_bs, bs_ext, size_bs]; simp; omega
theorem numbers_spec {t : ByteArray} (ht : t.size ≤ 67108864) : VSpec Tryd.prog 22 [] [strV t] [] (.tup [encL_Int true (scanP [] [] (bs t)).1, boolV (scanP [] [] (bs t)).2]) := by
  generalize hR : scanP [] [] (bs t) = R
  have inv0 : NumI t R [] 0 0 := ⟨Nat.le_refl _, Nat.zero_le _, Nat.le_refl _, hR⟩
  refine vspec_raw tb_ok mixed Tryd.func22 (by kernel_rfl) rfl (numbers_raw _ _ t) ?_
  have le1 : ∀ {out : List Int} {b : Bool}, (out, b) = R → leO [] [] ∧ VV.le (.tup [encL_Int true out, .sc (.bool b)]) (.tup [encL_Int true R.1, boolV R.2]) := by
    rintro out b rfl; exact ⟨trivial, VV.le_refl _⟩
  have le0 : ([], false) = R → leO [] [] ∧ VV.le (.tup [.nl, .sc (.bool false)]) (.tup [encL_Int true R.1, boolV R.2]) := by
    rintro rfl; exact ⟨trivial, VV.le_tup ⟨VV.le_nil, VV.le_refl _, trivial⟩⟩
  have fmt : ∀ (fr k : Nat), (true && (parseR (t.extract fr k)).2 == false) = true → VSpec Tryd.prog 42 [] [intV (parseR (t.extract fr k)).1, intV 10] [] (strV (itoaB (parseR (t.extract fr k)).1)) := fun fr k h => by
    have := (parseR_num (t := t.extract fr k)).2 (by simpa using h)
    exact format_spec this.1
  refine scope_raw tb_ok mixed 0 (fun g st => ∃ (out : List Int) (fr k : Nat), NumI t R out fr k ∧ g = t.size - k ∧ st = stNumb t out fr k) (by kernel_rfl) (by kernel_rfl) (by kernel_rfl) (by kernel_rfl) (Asks.raw (numbers0_raw _ _ t _) ?_) fun g st h => ?_
  · have hto : Int.toNat 0 = 0 := rfl
    rw [hto, byte_test]
    refine ⟨fun h => ?_, fun h => ?_⟩
    · have h0 : t.size = 0 := by simp at h; omega
      have := NumI.end (t := t) (R := R) (out := []) (fr := 0) (by rw [h0]; exact inv0)
      rw [show decide (0 = t.size) = true by simp [h0]] at this
      rw [← this]
      exact ⟨trivial, VV.le_tup ⟨VV.le_nil, VV.le_refl _, trivial⟩⟩
    · have h0 : 0 < t.size := by simp at h; omega
      refine ⟨⟨by omega, by omega⟩, fun hc => ?_, fun hc => ⟨⟨by omega, by omega, by omega⟩, parseR (t.extract 0 0), parse_spec (by have := ext_size (t := t) (i := 0) (j := 0); omega), itoaB (parseR (t.extract 0 0)).1, fmt 0 0, fun _ => ⟨by omega, by omega, by omega⟩, fun hb => le0 (inv0.none h0 (by simpa using hc) (num_no hb)), fun hb => ?_⟩⟩
      · have hn := inv0.plain h0 (by simpa using hc)
        exact ⟨t.size - 1, Up.cv (Cv.own 1 4 1 (rowsIn []) rfl) (Up.of ⟨[], 0, 1, hn, rfl, rfl⟩)⟩
      · obtain ⟨_, hq⟩ := num_of hb
        have hn := inv0.num h0 (by simpa using hc) hq
        generalize (parseR (t.extract 0 0)).1 = n at hn ⊢
        refine ⟨by omega, t.size - 1, Up.mk (l' := [(0, strV t), (4, .ow 0 0 ([] ++ [n]).length), (5, intV ((1 : Nat) : Int)), (6, intV ((1 : Nat) : Int))]) (hs' := [.arr true 0 ([] ++ [n]).length 1 (rowsIn ([] ++ [n]))]) (leT_refl _) ⟨Ob.le_arr fun i hi => leL_eq ?_, trivial⟩ ⟨_, _, _, hn, rfl, rfl⟩⟩
        obtain rfl : i = 0 := by omega
        rfl
  · obtain ⟨out, fr, k, inv, rfl, rfl⟩ := h
    have hfk := inv.fk
    have hkt := inv.kt
    have hol := inv.ol
    have hto : (k : Int).toNat = k := by omega
    have htf : (fr : Int).toNat = fr := by omega
    refine Asks.raw (numbers1_raw _ _ t out fr k _) ?_
    rw [hto, htf, byte_test]
    refine ⟨fun h => ?_, fun h => ?_⟩
    · have h0 : k = t.size := by simp at h; omega
      subst h0
      have := inv.end
      have e : ((fr : Int) == (t.size : Int)) = decide (fr = t.size) := by rw [Bool.eq_iff_iff, beq_iff_eq, decide_eq_true_eq]; omega
      rw [e]
      exact le1 this
    · have h0 : k < t.size := by simp at h; omega
      refine ⟨⟨by omega, by omega⟩, fun hc => ?_, fun hc => ⟨⟨by omega, by omega, by omega⟩, parseR (t.extract fr k), parse_spec (by have := ext_size (t := t) (i := fr) (j := k); omega), itoaB (parseR (t.extract fr k)).1, fmt fr k, fun _ => ⟨by omega, by omega, by omega⟩, fun hb => le0 (inv.none h0 (by simpa using hc) (num_no hb)), fun hb => ?_⟩⟩
      · have hn := inv.plain h0 (by simpa using hc)
        rw [wrap_succ (by omega)]
        exact ⟨t.size - (k + 1), by omega, Up.of ⟨out, fr, k + 1, hn, rfl, rfl⟩⟩
      · obtain ⟨_, hq⟩ := num_of hb
        have hn := inv.num h0 (by simpa using hc) hq
        generalize (parseR (t.extract fr k)).1 = n at hn ⊢
        rw [wrap_succ (by omega), show out.length + 1 = (out ++ [n]).length by simp]
        refine ⟨by simp <;> omega, t.size - (k + 1), by omega, Up.mk (l' := [(0, strV t), (4, .ow 0 0 (out ++ [n]).length), (5, intV ((k + 1 : Nat) : Int)), (6, intV ((k + 1 : Nat) : Int))]) (hs' := [.arr true 0 (out ++ [n]).length 1 (rowsIn (out ++ [n]))]) (leT_refl _) ⟨Ob.le_arr fun i hi => leL_eq ?_, trivial⟩ ⟨_, _, _, hn, rfl, rfl⟩⟩
        exact rows_app (f := fun n => [intV n]) (d := 0) (l := out) (r := [n]) (F := fun i => [.sc (.int .i64 (out.getD i 0))]) (fun _ _ => rfl) row_one hi
end Go.Proofs.YtdjjlkekbphbaaaDoor
