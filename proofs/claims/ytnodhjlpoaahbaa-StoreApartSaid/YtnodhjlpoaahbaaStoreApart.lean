/-
  StoreApart: every text has one number, every number one text, and numbers rise from 0 on: for every list of texts.
-/
import Derived.Test.YtnodhjlpoaahbaaStoreAbs
import Derived.Test.YtnodhjlpoaahbaaLawKit
import Derived.Test.YtnodhjlpoaahbaaRead
namespace Go.Proofs.Ytnodhjlpoaahbaa.storeApart
open Go.ChangeShapes Go.WideShapes Go.ChangeAt Go.RowKit
open Go.Proofs.Ytnodhjlpoaahbaa

/-- What the store has come to behind i texts of the list. -/
def After (w : World) (n0 B : Nat) (ss : List ByteArray) (i : Nat) (wr : World) : Prop :=
  ∃ ks bs F, Sto wr n0 B 20000 ks bs F ∧ ks.length ≤ i ∧ (∀ j, j < i → ss.getD j default ∈ ks) ∧ Below w.heap.size w wr

theorem putK_len (ks : List ByteArray) (key : ByteArray) (i : Nat) (h : ks.length ≤ i) : (putK ks 20000 key).length ≤ i + 1 := by
  unfold putK
  split
  · omega
  · split
    · simp; omega
    · omega
theorem putK_mem (ks : List ByteArray) (key : ByteArray) (h : (ks.length : Int) < 20000) : key ∈ putK ks 20000 key := by
  unfold putK
  split
  · rename_i hm; exact metB_iff.1 hm
  · simp
theorem putK_old (ks : List ByteArray) (key x : ByteArray) (h : x ∈ ks) : x ∈ putK ks 20000 key := by
  unfold putK
  split
  · exact h
  · split
    · simp [h]
    · exact h
/-- What Put answers is right: no error, the number of the text, new only if it is the next one. -/
theorem put_right (ks : List ByteArray) (key : ByteArray) (h : (ks.length : Int) < 20000) (hnd : (putK ks 20000 key).Nodup) :
    putE ks 20000 key = 0 ∧ noneE (putN ks 20000 key) (putK ks 20000 key).length = 0 ∧ keyV (putK ks 20000 key) (putN ks 20000 key) = key ∧
    findN (putK ks 20000 key) key = putN ks 20000 key ∧ findIs (putK ks 20000 key) key = true ∧
    putIs ks 20000 key = (putN ks 20000 key == (ks.length : Int)) ∧ decide ((ks.length : Int) < putN ks 20000 key) = false := by
  have hmem := putK_mem ks key h
  obtain ⟨p1, p2⟩ := idx_at hmem
  have hmet := metB_iff.2 hmem
  by_cases hm : metB ks key = true
  · obtain ⟨q1, q2⟩ := idx_at (metB_iff.1 hm)
    have eK : putK ks 20000 key = ks := by unfold putK; rw [if_pos hm]
    have eN : putN ks 20000 key = posOf ks key := by unfold putN; rw [if_pos hm]
    have hin : inB (posOf ks key : Int) ks.length = true := inB_iff.2 ⟨by omega, by omega⟩
    rw [eK, eN]
    refine ⟨by unfold putE; rw [if_pos hm], by unfold noneE; rw [if_pos hin], by unfold keyV; rw [if_pos hin]; exact q2, by unfold findN; rw [if_pos hm], hm, ?_, ?_⟩
    · unfold putIs; rw [if_pos hm]
      have : ((posOf ks key : Int) == (ks.length : Int)) = false := by simp; omega
      rw [this]
    · simp; omega
  · have eK : putK ks 20000 key = ks ++ [key] := by unfold putK; rw [if_neg hm, if_pos h]
    have eN : putN ks 20000 key = ks.length := by unfold putN; rw [if_neg hm, if_pos h]
    rw [eK] at p1 p2 hmet hnd
    have hin : inB (ks.length : Int) (ks ++ [key]).length = true := inB_iff.2 ⟨by omega, by simp; omega⟩
    have hp : posOf (ks ++ [key]) key = ks.length := by
      refine nodup_inj hnd p1 (by simp) ?_
      have e1 : (ks ++ [key])[posOf (ks ++ [key]) key] = key := by rw [List.getD, List.getElem?_eq_getElem p1] at p2; exact p2
      rw [e1]; simp
    rw [eK, eN]
    refine ⟨by unfold putE; rw [if_neg hm, if_pos h], by unfold noneE; rw [if_pos hin], by unfold keyV; rw [if_pos hin]; simp [List.getD], by unfold findN; rw [if_pos hmet, hp], hmet, ?_, by simp⟩
    unfold putIs; rw [if_neg hm, decide_eq_true h]; simp
theorem find_right (ks : List ByteArray) (key : ByteArray) (h : key ∈ ks) : findIs ks key = true ∧ keyV ks (findN ks key) = key := by
  obtain ⟨q1, q2⟩ := idx_at h
  have hm := metB_iff.2 h
  have hin : inB (posOf ks key : Int) ks.length = true := inB_iff.2 ⟨by omega, by omega⟩
  refine ⟨hm, ?_⟩
  unfold findN keyV
  rw [if_pos hm, if_pos hin]; exact q2

set_option maxRecDepth 100000 in
set_option maxHeartbeats 1000000 in
theorem walk (v : Value) (ss : List ByteArray) (w : World) (hl : Rd.slice 1 Rd.str (fun k => k < w.heap.size) w [v] ss) :
    Calls Try.prog 4 #[v] w fun e w' => e = .returned (.bool true) ∧ Below w.heap.size w w' := by
  obtain ⟨ao, cap, ev, hcap, hmax, hel⟩ := hl
  simp only [List.cons.injEq, and_true] at ev
  subst ev
  have hlen : ss.length ≤ maxLen := Nat.le_trans hcap hmax
  unfold maxLen at hlen
  have hcell : ∀ wr, Below w.heap.size w wr → ∀ i, i < ss.length → ∃ b off, ao = some ⟨b, off, none⟩ ∧ wr.cell? ⟨b, off + i, none⟩ = some (.string (ss.getD i default)) ∧ (ss.getD i default).size ≤ maxLen := by
    intro wr hb i hi
    obtain ⟨b, off, e1, h1, h2⟩ := hel (by omega)
    obtain ⟨es, h3, h4, h5, h6⟩ := h2 i ss[i] (by simp [hi])
    have h7 := h4 0 (by omega)
    rw [h5] at h7
    have e2 : ss.getD i default = ss[i] := by simp [List.getD, hi]
    refine ⟨b, off, e1, ?_, by rw [e2]; exact h6⟩
    rw [hb.cell (p := ⟨b, off + i, none⟩) h1, e2]
    simpa using h7
  go_enter Try.func4, Try.ntmps4
  go_wp2_with fail
  refine (shown18 _).mono ?_; rintro e w1 ⟨rfl, hb1⟩
  go_wp2_with fail
  refine (sto_new 20000 _ (by decide) (by decide)).mono ?_; rintro e w2 ⟨rfl, hb2, F2, hs2⟩
  have hB2 := hb1.trans (hb2.mono hb1.size)
  go_wp2
  go_loopw [6] (fun i wr => ∃ k : Nat, k ≤ ss.length ∧ k ≤ 3000 ∧ i = .int .i64 k ∧ After w w1.heap.size (w1.heap.size + 1) ss k wr) (fun i _ => ss.length - (intOf i).toNat)
  case atStart => exact ⟨0, by omega, by omega, rfl, [], [], F2, hs2, by simp, fun j h => by omega, hB2⟩
  case round =>
    obtain ⟨k, hk, hk3, rfl, ks, bs, G, hs, hkl, hin, hbr⟩ := hrel
    have hx : (k < ss.length ∧ k < 3000) ∨ k = ss.length ∨ (k < ss.length ∧ k = 3000) := by omega
    rcases hx with ⟨hlt, hl3⟩ | hx
    · obtain ⟨b, off, rfl, hc, hsz⟩ := hcell wr hbr k hlt
      generalize hkey : ss.getD k default = key at *
      have HK := Lib.hid hkey
      clear hkey
      go_wp2_with fail
      refine (sto_len hs).mono ?_; rintro e w3 ⟨rfl, rfl⟩
      go_wp2_with fail
      refine (sto_put key hsz hs).mono ?_; rintro e w4 ⟨rfl, F4, hs4, ht4, hf4⟩
      have hb4 := hbr.trans (ht4.below hbr.size fun k hk => Nat.le_trans hb1.size (hs.ge hk))
      obtain ⟨b', off', e', hc4, _⟩ := hcell w4 hb4 k hlt
      simp only [Option.some.injEq, Addr.mk.injEq, and_true] at e'
      obtain ⟨rfl, rfl⟩ := e'
      rw [HK.out] at hc4
      obtain ⟨r1, r2, r3, r4, r5, r6, r7⟩ := put_right ks key (by omega) hs4.nodup
      have hm4 : ∀ j, j < k + 1 → ss.getD j default ∈ putK ks 20000 key := by
        intro j hj
        by_cases e : j = k
        · subst e; rw [HK.out]; exact putK_mem ks key (by omega)
        · exact putK_old ks key _ (hin j (by omega))
      have HM := Lib.hid hm4
      have hl4 := putK_len ks key k hkl
      generalize putN ks 20000 key = n at *
      have R2 := Lib.hid r2
      have R3 := Lib.hid r3
      have R4 := Lib.hid r4
      have R5 := Lib.hid r5
      rw [r1, r6]
      clear r1 r2 r3 r4 r5 r6 hm4 hin
      go_wp2_with fail
      refine (sto_key n hs4).mono ?_; rintro e w5 ⟨rfl, rfl⟩
      rw [R2.out, R3.out]
      go_wp2_with fail
      refine (sto_find key hsz hs4).mono ?_; rintro e w5 ⟨rfl, nq, rfl⟩
      rw [R4.out, R5.out]
      have hc5 : (w4.drewN nq).cell? ⟨b, off + k, none⟩ = some (.string key) := hc4
      go_wp2
      go_roundw
      case rel => exact ⟨k + 1, by omega, by omega, by go_num, _, _, F4, hs4.drewN nq, hl4, HM.out, below_drewN hb4 nq⟩
      case measure => simp [intOf]; omega
    · have HIN : Hid (∀ j, j < ss.length → j < 3000 → ss.getD j default ∈ ks) := by
        intro j h1 h2; exact hin j (by omega)
      clear hin hkl
      rcases hx with rfl | ⟨hlt, rfl⟩
      all_goals
        go_wp2
        go_loopw [15] (fun i wr => ∃ k : Nat, k ≤ ss.length ∧ k ≤ 3000 ∧ i = .int .i64 k ∧ Sto wr w1.heap.size (w1.heap.size + 1) 20000 ks bs G ∧ Below w.heap.size w wr) (fun i _ => ss.length - (intOf i).toNat)
        case atStart => exact ⟨0, by omega, by omega, rfl, hs, hbr⟩
        case round =>
          obtain ⟨i, hk', hk3', rfl, hs, hbr⟩ := hrel
          have hy : (i < ss.length ∧ i < 3000) ∨ i = ss.length ∨ (i < ss.length ∧ i = 3000) := by omega
          rcases hy with ⟨hlt', hl3'⟩ | hy
          · obtain ⟨b, off, rfl, hc, hsz⟩ := hcell _ hbr i hlt'
            have hmem := HIN.out i hlt' hl3'
            generalize ss.getD i default = key at *
            obtain ⟨r1, r2⟩ := find_right ks key hmem
            clear hmem
            go_wp2_with fail
            refine (sto_find key hsz hs).mono ?_; rintro e w5 ⟨rfl, nq, rfl⟩
            rw [r1]
            go_wp2_with fail
            refine (sto_key _ (hs.drewN nq)).mono ?_; rintro e w5 ⟨rfl, rfl⟩
            rw [r2]
            clear r1 r2
            go_wp2
            go_roundw
            case rel => exact ⟨i + 1, by omega, by omega, by go_num, hs.drewN nq, below_drewN hbr nq⟩
            case measure => simp [intOf]; omega
          · rcases hy with rfl | ⟨hlt', rfl⟩
            all_goals
              go_wp2
              try (go_ret; exact ⟨rfl, hbr⟩)

set_option maxRecDepth 100000 in
theorem lifted (os : Os) (started : os.Started) (H : Type) (enc : TypeId × Value → H) :
    ReturnsInHanded {} Try.checked os 4 .any (Rows.storeApartSpec.pre6 enc Try.prog Try.f4 Rows.storeApartRow.domain false) (Rows.storeApartSpec.post enc Try.prog Try.f4 false true false false) := by
  refine returnsInHanded_of_change (C := Try.checked) own started (by kernel_rfl) Try.func4
    (ChangeSpec.witness6 (enc := enc) (C := Try.checked) false ⟨#[], #[.slice none 0 0], []⟩ 8 (by kernel_rfl) (by kernel_rfl) (by kernel_rfl) (by kernel_rfl)) ?_
  intro W base args ds gs before hval0 hW hcnd _
  have hval : ∀ (j : Nat) t v, Try.f4.params[j]? = some t → args[j]? = some v → Value.okWide Try.prog W .any base t v := hval0
  have hW' := hW
  obtain ⟨p, q, hA0, hV, rfl, hfz, hnd⟩ := hW
  have hA : DataW.TrodAll enc Try.prog W 0 (fun _ => true) true Try.f4.params.toList args.toList ds p := hA0
  rw [Try.params4] at hA hval
  obtain ⟨v0, d0, rfl, rfl, h0⟩ := trodAll_one hA
  have hv := okWide_slice Try.underlying39 (hval 0 39 v0 rfl rfl)
  obtain ⟨ss, hl, _⟩ := Rd.open_one (Rd.opens_slice (size := 1) Try.underlying39 (by kernel_rfl) (by decide) (Rd.opens_str Try.underlying9)) h0
  have hl' : Rd.slice 1 Rd.str (fun k => k < W.heap.size) W [v0] ss := by obtain ⟨a0, len, cap, rfl⟩ := hv; exact hl
  refine (walk v0 ss W hl').mono fun e W' ⟨he, hb⟩ => ?_
  subst he
  exact ⟨_, rfl, law_post laidOut (by kernel_rfl) rfl Try.underlying4 rfl hW' (fun ds h => match ds, h with | [_], _ => rfl) hb⟩

theorem over : Rows.storeApartRow.holds Try.pinned (OpenSpec.ofChange Rows.storeApartSpec) :=
  OpenClaim.holds_of_wide 4 Try.f4 rfl rfl rfl rfl rfl rfl rfl ⟨rfl, rfl, rfl, rfl, rfl⟩ rfl rfl rfl rfl rfl (by kernel_rfl) Try.func4 (by kernel_rfl)
    (of_decide_eq_true (by kernel_rfl)) (by unfold Func.isWrapper; first | (rw [if_pos (by decide +kernel)]; kernel_rfl) | (rw [if_neg (by decide +kernel)]; exact ⟨rfl, rfl⟩))
    (fun os started H enc _ => lifted os started H enc)

theorem proved : Rows.StoreApartSaid := over
end Go.Proofs.Ytnodhjlpoaahbaa.storeApart
