/-
  StorePlays: whatever is put, asked and marked, in whatever order, all is answered as the document says: for every size and every list of acts.
-/
import Derived.Test.YtnodhjlpoaahbaaStoreDoes
import Derived.Test.YtnodhjlpoaahbaaLawKit
import Derived.Test.YtnodhjlpoaahbaaReadStore
namespace Go.Proofs.Ytnodhjlpoaahbaa.storePlays
open Go.ChangeShapes Go.WideShapes Go.ChangeAt Go.RowKit
open Go.Proofs.Ytnodhjlpoaahbaa

set_option maxHeartbeats 400000 in
theorem takes (most : Int) (w : World) : Calls Try.prog 11 #[.int .i64 most] w fun e w' => e = .returned (.bool (decide (1 ≤ most ∧ most ≤ 20000))) ∧ w = w' := by
  by_cases h1 : 1 ≤ most
  · by_cases h2 : most ≤ 20000
    · have HR := Lib.hid (decide_eq_true (show 1 ≤ most ∧ most ≤ 20000 from ⟨h1, h2⟩))
      generalize decide (1 ≤ most ∧ most ≤ 20000) = r at *
      go_enter Try.func11, Try.ntmps11
      go_wp2
      go_ret
      exact ⟨by rw [HR.out]; rfl, rfl⟩
    · have HR := Lib.hid (decide_eq_false (show ¬ (1 ≤ most ∧ most ≤ 20000) from fun h => h2 h.2))
      have d2 : decide (most ≤ 20000) = false := by simp; omega
      generalize decide (1 ≤ most ∧ most ≤ 20000) = r at *
      go_enter Try.func11, Try.ntmps11
      go_wp2
      go_ret
      exact ⟨by rw [HR.out]; rfl, rfl⟩
  · have HR := Lib.hid (decide_eq_false (show ¬ (1 ≤ most ∧ most ≤ 20000) from fun h => h1 h.1))
    have d2 : decide (1 ≤ most) = false := by simp; omega
    generalize decide (1 ≤ most ∧ most ≤ 20000) = r at *
    go_enter Try.func11, Try.ntmps11
    go_wp2
    go_ret
    exact ⟨by rw [HR.out]; rfl, rfl⟩

set_option maxRecDepth 100000 in
set_option maxHeartbeats 1000000 in
theorem walk_no (most : Int) (v : Value) (w : World) (hm : most < 1 ∨ 20000 < most) :
    Calls Try.prog 3 #[.int .i64 most, v] w fun e w' => e = .returned (.bool true) ∧ Below w.heap.size w w' := by
  have hd : decide (1 ≤ most ∧ most ≤ 20000) = false := by simp; omega
  have HT := fun w => takes most w
  rw [hd] at HT
  clear hd
  go_enter Try.func3, Try.ntmps3
  go_wp2_with fail
  refine (shown18 _).mono ?_; rintro e w1 ⟨rfl, hb1⟩
  go_wp2_with fail
  refine (new_no most _ hm).mono ?_; rintro e w2 ⟨rfl, rfl⟩
  go_wp2_with fail
  refine (HT _).mono ?_; rintro e w2 ⟨rfl, rfl⟩
  go_wp2
  go_ret
  exact ⟨by simp, hb1⟩

set_option maxRecDepth 100000 in
set_option maxHeartbeats 1000000 in
theorem walk_yes (most : Int) (v : Value) (l : List D.spinneretlaw18_Act) (w : World) (hl : Rd.slice 4 rd_spinneretlaw18_Act (fun k => k < w.heap.size) w [v] l) (hm1 : 1 ≤ most) (hm2 : most ≤ 20000) :
    Calls Try.prog 3 #[.int .i64 most, v] w fun e w' => e = .returned (.bool true) ∧ Below w.heap.size w w' := by
  have hd : decide (1 ≤ most ∧ most ≤ 20000) = true := by simp; omega
  have HT := fun w => takes most w
  rw [hd] at HT
  clear hd
  obtain ⟨ao, cap, ev, hcap, hmax, hel⟩ := hl
  simp only [List.cons.injEq, and_true] at ev
  subst ev
  have hlen : l.length ≤ maxLen := Nat.le_trans hcap hmax
  unfold maxLen at hlen
  have hcell : ∀ wr, Below w.heap.size w wr → ∀ i, i < l.length → ∃ (b off : Nat) (x : D.spinneretlaw18_Act), ao = some ⟨b, off, none⟩ ∧ wr.cell? ⟨b, off + i * 4, none⟩ = some (.int .i64 x.Kind) ∧ wr.cell? ⟨b, off + i * 4 + 1, none⟩ = some (.int .i64 x.N) ∧
      wr.cell? ⟨b, off + i * 4 + 2, none⟩ = some (.string x.Key) ∧ wr.cell? ⟨b, off + i * 4 + 3, none⟩ = some (.int .u64 x.Bits) ∧ x.Key.size ≤ maxLen := by
    intro wr hb i hi
    obtain ⟨b, off, e1, h1, h2⟩ := hel (by omega)
    obtain ⟨es, h3, h4, p0, q0, rfl, _, ⟨rfl, _⟩, p1, q1, rfl, _, ⟨rfl, _⟩, p2, q2, rfl, _, ⟨rfl, h6⟩, p3, q3, rfl, _, ⟨rfl, _⟩, rfl⟩ := h2 i l[i] (by simp [hi])
    refine ⟨b, off, l[i], e1, ?_, ?_, ?_, ?_, h6⟩
    · rw [hb.cell (p := ⟨b, off + i * 4, none⟩) h1]; exact h4 0 (by omega)
    · rw [hb.cell (p := ⟨b, off + i * 4 + 1, none⟩) h1]; exact h4 1 (by omega)
    · rw [hb.cell (p := ⟨b, off + i * 4 + 2, none⟩) h1]; exact h4 2 (by omega)
    · rw [hb.cell (p := ⟨b, off + i * 4 + 3, none⟩) h1]; exact h4 3 (by omega)
  go_enter Try.func3, Try.ntmps3
  go_wp2_with fail
  refine (shown18 _).mono ?_; rintro e w1 ⟨rfl, hb1⟩
  go_wp2_with fail
  refine (sto_new most _ hm1 hm2).mono ?_; rintro e w2 ⟨rfl, hb2, F2, hs2⟩
  have hB2 := hb1.trans (hb2.mono hb1.size)
  go_wp2_with fail
  refine (HT _).mono ?_; rintro e w3 ⟨rfl, rfl⟩
  have HB : Hid (Both (w2.alloc (.cells #[.int .i64 most, .slice none 0 0] 32)) w1.heap.size (w1.heap.size + 1) w2.heap.size most [] []) := by
    refine ⟨F2, .slice none 0 0, hs2.kept fun k hk _ => Below.heap_alloc _ _ _ hk, ⟨heap_alloc_new _ _, World.ownsRow_nil _ _ _ _, hb2.size, rfl, by simp, hm2⟩, ?_, ?_, ?_⟩
    · rintro k hk (rfl | h)
      · have := hs2.lt hk; omega
      · simp [Value.ownBlock] at h
    · have := hb2.size; simp; omega
    · rintro k (rfl | h)
      · exact hb2.size
      · simp [Value.ownBlock] at h
  go_wp2
  go_loopw [10] (fun i wr => ∃ k : Nat, k ≤ l.length ∧ i = .int .i64 k ∧ (∃ ks bs, Both wr w1.heap.size (w1.heap.size + 1) w2.heap.size most ks bs) ∧ Below w.heap.size w wr) (fun i _ => l.length - (intOf i).toNat)
  case atStart => exact ⟨0, by omega, rfl, ⟨_, _, HB.out⟩, hB2.alloc hB2.size _⟩
  case round =>
    obtain ⟨k, hk, rfl, ⟨ks, bs, hboth⟩, hbr⟩ := hrel
    by_cases hlt : k < l.length
    · obtain ⟨b, off, x, rfl, c0, c1, c2, c3, hsz⟩ := hcell wr hbr k hlt
      obtain ⟨kind, n, key, bits⟩ := x
      simp only at c0 c1 c2 c3 hsz
      go_wp2_with fail
      refine (does_calls kind n bits key hsz hboth).mono ?_; rintro e w3 ⟨rfl, ⟨ks3, bs3, hboth3⟩, hbel3⟩
      have hboth' := hboth3
      obtain ⟨F3, rv3, hs3, hr3, _, _, _⟩ := hboth3
      have hbr3 := hbr.trans (hbel3.mono hb1.size)
      obtain ⟨ka, kc, rfl, _⟩ := hr3.shape
      have r1 : w3.cell? ⟨w2.heap.size, 1, none⟩ = some (.slice ka ks3.length kc) := cell_of_blk hr3.blk rfl
      go_wp2_with fail
      refine (sto_len hs3).mono ?_; rintro e w4 ⟨rfl, rfl⟩
      go_wp2
      go_roundw
      case rel => exact ⟨k + 1, by omega, by go_num, ⟨ks3, bs3, hboth'⟩, hbr3⟩
      case measure => simp [intOf]; omega
    · obtain rfl : k = l.length := by omega
      go_wp2
      go_ret
      exact ⟨rfl, hbr⟩
theorem walk (most : Int) (v : Value) (l : List D.spinneretlaw18_Act) (w : World) (hl : Rd.slice 4 rd_spinneretlaw18_Act (fun k => k < w.heap.size) w [v] l) :
    Calls Try.prog 3 #[.int .i64 most, v] w fun e w' => e = .returned (.bool true) ∧ Below w.heap.size w w' := by
  by_cases hm : most < 1 ∨ 20000 < most
  · exact walk_no most v w hm
  · exact walk_yes most v l w hl (by omega) (by omega)

set_option maxRecDepth 100000 in
theorem lifted (os : Os) (started : os.Started) (H : Type) (enc : TypeId × Value → H) :
    ReturnsInHanded {} Try.checked os 3 .any (Rows.storePlaysSpec.pre6 enc Try.prog Try.f3 Rows.storePlaysRow.domain false) (Rows.storePlaysSpec.post enc Try.prog Try.f3 false true false false) := by
  refine returnsInHanded_of_change (C := Try.checked) own started (by kernel_rfl) Try.func3
    (ChangeSpec.witness6 (enc := enc) (C := Try.checked) false ⟨#[], #[.int .i64 0, .slice none 0 0], []⟩ 8 (by kernel_rfl) (by kernel_rfl) (by kernel_rfl) (by kernel_rfl)) ?_
  intro W base args ds gs before hval0 hW hcnd _
  have hval : ∀ (j : Nat) t v, Try.f3.params[j]? = some t → args[j]? = some v → Value.okWide Try.prog W .any base t v := hval0
  have hW' := hW
  obtain ⟨p, q, hA0, hV, rfl, hfz, hnd⟩ := hW
  have hA : DataW.TrodAll enc Try.prog W 0 (fun _ => true) true Try.f3.params.toList args.toList ds p := hA0
  rw [Try.params3] at hA hval
  obtain ⟨v0, v1, d0, d1, p0, p1, rfl, rfl, rfl, h0, h1⟩ := trodAll_two hA
  obtain ⟨most, rfl, rfl, rfl, wmost⟩ := open_int Try.underlying3 (hval 0 3 v0 rfl rfl) h0
  have hv := okWide_slice Try.underlying22 (hval 1 22 v1 rfl rfl)
  obtain ⟨l, hl, _⟩ := Rd.open_one (Rd.opens_slice (size := 4) Try.underlying22 (by kernel_rfl) (by decide) opens_spinneretlaw18_Act) h1
  have hl' : Rd.slice 4 rd_spinneretlaw18_Act (fun k => k < W.heap.size) W [v1] l := by obtain ⟨a0, len, cap, rfl⟩ := hv; exact hl
  refine (walk most v1 l W hl').mono fun e W' ⟨he, hb⟩ => ?_
  subst he
  exact ⟨_, rfl, law_post laidOut (by kernel_rfl) rfl Try.underlying4 rfl hW' (fun ds h => match ds, h with | [_, _], _ => rfl) hb⟩

theorem over : Rows.storePlaysRow.holds Try.pinned (OpenSpec.ofChange Rows.storePlaysSpec) :=
  OpenClaim.holds_of_wide 3 Try.f3 rfl rfl rfl rfl rfl rfl rfl ⟨rfl, rfl, rfl, rfl, rfl⟩ rfl rfl rfl rfl rfl (by kernel_rfl) Try.func3 (by kernel_rfl)
    (of_decide_eq_true (by kernel_rfl)) (by unfold Func.isWrapper; first | (rw [if_pos (by decide +kernel)]; kernel_rfl) | (rw [if_neg (by decide +kernel)]; exact ⟨rfl, rfl⟩))
    (fun os started H enc _ => lifted os started H enc)

theorem proved : Rows.StorePlaysSaid := over
end Go.Proofs.Ytnodhjlpoaahbaa.storePlays
