/-
  The walk of layer 13's Put.
-/
import Derived.Test.YtiflenddalmfaaaChPut
import Derived.RegionTactic
namespace Go.Proofs.Ytiflenddalmfaaa
open Go.RowKit

set_option maxRecDepth 100000 in
set_option maxHeartbeats 2000000 in
theorem put_calls {w : World} {fv qv mv : Value} {fs : List D.Type} {q : List (List Int)} {m : List Int} (room sh : Int) (sorted : Bool) (hfs : Is (Pkg.slice 2 16 p_Type) w [fv] fs) (hq : Is pQ w [qv] q) (hm : Is pM w [mv] m)
    (hsm : Small q) (hq1 : (q.length + 1) * 24 ≤ 140737488355328) (hm8 : m.length * 8 ≤ 140737488355328) :
    Calls Try.prog 6 #[.agg #[.int .i64 room, fv], .agg #[.int .i64 sh, qv], mv, .bool sorted] w fun e w' =>
      (∃ ov vs, e = .returned (.tuple #[.agg #[.int .i64 (putSh room fs q m sh), ov], .int .i64 (putE room fs q m)]) ∧ OwnQ w' w.heap.size ov vs (putQ room fs q m sorted)) ∧ Below w.heap.size w w' := by
  obtain ⟨mo, mc, rfl, hm1, hm2, hmw, hm3⟩ := is_ints hm
  obtain ⟨fo, fc, rfl, hf1, hf2, hf3⟩ := is_types hfs
  obtain ⟨qo, qc, rfl, hqa, hqb, hqc⟩ := is_slice1 hq
  obtain ⟨ki, khi, khz0, khz1, khz2⟩ := info_parts' info_i64
  have hm2' := hm2
  have hf2' := hf2
  have hqb' := hqb
  unfold maxLen at hm2' hf2' hqb'
  by_cases hl : m.length = fs.length
  · have hne : ((m.length : Int) != (fs.length : Int)) = false := by simp [hl]
    have HL := Lib.hid hl
    have hle1 := Nat.le_of_eq hl
    have hle2 := Nat.le_of_eq hl.symm
    clear hl
    go_enter Try.func6, Try.ntmps6
    go_wp2_with (at_make; refine wpList_make_full _ rfl (.tmp 24) (.tmp 24) 29 rfl w.heap.size 2 ki (.int .i64 0) 1 Try.underlying29 khi khz0 khz1 .i64 .i64 _ _ m.length rfl rfl ?hL ?hC ?b2 ?b3 ?b4 ?hK)
    case hL => omega
    case hC => omega
    case b2 => rw [khz2]; omega
    case b3 => unfold maxLen; omega
    case b4 => simp; omega
    case hK =>
      intro w1 hown1 hgrow1
      have P0 : PF w (w1.alloc (.cells #[.slice (some ⟨w.heap.size + 3, 0, none⟩) m.length m.length] 29)) room sh (.slice fo fs.length fc) (.slice qo q.length qc) w1.heap.size m.length (fitTo fs m 0) := by
        have hs1 := hgrow1.size
        simp at hs1
        refine ⟨?_, ?_, ?_, heap_alloc_new _ _, ⟨?_, fun i hi => ?_⟩, fitTo_len HL.out (Nat.zero_le _), ?_⟩
        · rw [Below.heap_alloc _ _ _ (by omega), hgrow1.block _ (by simp; omega) (by simp)]
          rw [Below.heap_alloc _ _ _ (by simp; omega), Below.heap_alloc _ _ _ (by simp)]
          exact heap_alloc_new _ _
        · rw [Below.heap_alloc _ _ _ (by omega), hgrow1.block _ (by simp) (by simp)]
          rw [Below.heap_alloc _ _ _ (by simp)]
          have := heap_alloc_new (w.alloc (.cells #[.int .i64 room, .slice fo fs.length fc] 24)) (.cells #[.int .i64 sh, .slice qo q.length qc] 27)
          simpa using this
        · rw [Below.heap_alloc _ _ _ (by omega), hgrow1.block _ (by simp) (by simp)]
          have := heap_alloc_new ((w.alloc (.cells #[.int .i64 room, .slice fo fs.length fc] 24)).alloc (.cells #[.int .i64 sh, .slice qo q.length qc] 27)) (.cells #[.int .i64 0, .slice none 0 0] 27)
          simpa using this
        · have hz : (fitTo fs m 0).map (Value.int .i64) = (madeCells #[Value.int .i64 0] m.length).toList := by rw [zero_ints]; simp [fitTo]
          rw [hz, fitTo_len HL.out (Nat.zero_le _)]
          exact hown1.alloc _
        · have : (fitTo fs m 0).getD i 0 = 0 := by simp [fitTo, List.getD, List.getElem?_replicate]; split <;> rfl
          rw [this]; rfl
        · exact (((((Below.refl _ w).alloc (Nat.le_refl _) _).alloc (by simp) _).alloc (by simp; omega) _).grown hgrow1 (by simp; omega) (by simp)).alloc (by omega) _
      clear hown1 hgrow1
      have c0 := cell_of_blk P0.b0 (i := 1) rfl
      go_wp2
      go_loopw [29] (fun i wr => ∃ k : Nat, k ≤ m.length ∧ i = .int .i64 k ∧ (∀ j t, j < k → fs[j]? = some t → typeP t = true) ∧ PF w wr room sh (.slice fo fs.length fc) (.slice qo q.length qc) w1.heap.size m.length (fitTo fs m k)) (fun i _ => m.length - (intOf i).toNat)
      case atStart => exact ⟨0, Nat.zero_le _, rfl, fun j t h => by omega, P0⟩
      case round =>
        obtain ⟨k, hk, rfl, hty, hp⟩ := hrel
        by_cases hlt : k < m.length
        · obtain ⟨mb, moff, rfl, hmb, hmc⟩ := hm3 (by omega)
          obtain ⟨fb, foff, rfl, hfb, hfc⟩ := hf3 (by omega)
          have ht : fs[k]? = some fs[k] := by simp [show k < fs.length by omega]
          obtain ⟨hc0, hc1⟩ := hfc k _ ht
          have hm0 := hmc k hlt
          have hset := fitTo_set HL.out hlt _ ht
          have hwf := fit_wf fs[k].Bits (m.getD k 0) fs[k].Signed
          rw [← hp.below.cell (p := ⟨fb, foff + k * 2, none⟩) hfb] at hc0
          rw [← hp.below.cell (p := ⟨fb, foff + k * 2 + 1, none⟩) hfb] at hc1
          have hsz := hp.below.size
          obtain ⟨hlt2, hltX⟩ := hp.lt
          have HT := Lib.hid ht
          have HSET := Lib.hid hset
          clear hmc hfc hm hm3 hf3 ht hset hqc hfs hq
          generalize fs[k] = t at *
          generalize m.getD k 0 = z at *
          obtain ⟨tb, ts⟩ := t
          have hA : Below wr.heap.size wr (wr.alloc (.cells #[.int .i64 tb, .bool ts] 42)) := below_one _ _
          have HG := gtype_calls ⟨tb, ts⟩ (wr.alloc (.cells #[.int .i64 tb, .bool ts] 42))
          unfold tyV at HG
          by_cases hgt : typeP ⟨tb, ts⟩ = true
          · rw [hgt] at HG
            have HTY : Hid (∀ j t, j < k + 1 → fs[j]? = some t → typeP t = true) := by
              intro j t hj he
              by_cases e : j = k
              · subst e; rw [HT.out] at he; cases he; exact hgt
              · exact hty j t (by omega) he
            clear hty
            go_wp2_with fail
            refine HG.mono ?_; rintro e w2 ⟨rfl, hb2⟩
            have hp2 := (hp.kept hA).kept hb2
            have hT2 : w2.heap[wr.heap.size]? = some (.cells #[.int .i64 tb, .bool ts] 42 (0, 0)) := (hb2.block _ (by simp)).trans (heap_alloc_new _ _)
            have mc2 : w2.cell? ⟨mb, moff + k, none⟩ = some (.int .i64 z) := (hp2.below.cell (p := ⟨mb, moff + k, none⟩) hmb).trans hm0
            have t0 : w2.cell? ⟨wr.heap.size, 0, none⟩ = some (.int .i64 tb) := cell_of_blk hT2 rfl
            have t1 : w2.cell? ⟨wr.heap.size, 1, none⟩ = some (.bool ts) := cell_of_blk hT2 rfl
            have x0 : w2.cell? ⟨w1.heap.size, 0, none⟩ = some (.slice (some ⟨w.heap.size + 3, 0, none⟩) m.length m.length) := cell_of_blk hp2.b4 rfl
            have hT3 := blk_lt hT2
            have hX3 := blk_lt hp2.b4
            have hm3' : mb < w2.heap.size := by have := hb2.size; simp at this; omega
            go_wp2
            go_region_with (go_at_call 16; (with_reducible refine (vfit _ _ _ _).mono ?_); rintro e w3 ⟨rfl, hb3⟩; obtain ⟨hc3, hf3⟩ := bcell hb3; have hp3 := hp2.kept (w2 := w3) ⟨hb3.os, hb3.tape, hb3.output, hb3.size, hb3.block⟩; have x3 := hp3.cell hlt; have f3 := hp3.free k; have x03 := cell_of_blk hp3.b4 (i := 0) rfl; have HP : Hid (PF w (w3.setCell ⟨w.heap.size + 3, k, none⟩ (.int .i64 (fitP tb ts z))) room sh (.slice (some ⟨fb, foff, none⟩) fs.length fc) (.slice qo q.length qc) w1.heap.size m.length (fitTo fs m (k + 1))) := (by have := hp3.set hwf hlt; rw [HSET.out] at this; exact this))
            all_goals
              go_wp2
              go_roundw
              case rel => exact ⟨k + 1, by omega, by go_num, HTY.out, HP.out⟩
              case measure => simp [intOf]; omega
          · have HE : Hid (putE room fs q m = 42) := by
              unfold Hid putE
              rw [if_neg (by simp [HL.out]), if_pos]
              simp only [List.all_eq_false]
              exact ⟨_, List.mem_iff_getElem?.2 ⟨k, HT.out⟩, hgt⟩
            rw [Bool.eq_false_iff.2 hgt] at HG
            clear hty
            go_wp2_with fail
            refine HG.mono ?_; rintro e w2 ⟨rfl, hb2⟩
            have hp2 := (hp.kept hA).kept hb2
            have r0 : w2.cell? ⟨w.heap.size + 2, 0, none⟩ = some (.int .i64 0) := cell_of_blk hp2.b2 rfl
            have r1 : w2.cell? ⟨w.heap.size + 2, 1, none⟩ = some (.slice none 0 0) := cell_of_blk hp2.b2 rfl
            have f0 : w2.frozen? ⟨w.heap.size + 2, 0, none⟩ = false := free_of_blk hp2.b2
            have f1 : w2.frozen? ⟨w.heap.size + 2, 1, none⟩ = false := free_of_blk hp2.b2
            go_wp2
            have hres : ((w2.setCell ⟨w.heap.size + 2, 0, none⟩ (.int .i64 0)).setCell ⟨w.heap.size + 2, 1, none⟩ (.slice none 0 0)).heap[w.heap.size + 2]? = some (.cells #[.int .i64 0, .slice none 0 0] 27 (0, 0)) := by
              rw [blk_set (blk_set hp2.b2 _)]; rfl
            refine ret_cell2 rfl rfl hres Try.underlying27 rfl (by kernel_rfl) rfl ⟨⟨.slice none 0 0, [], ?_, ?_⟩, ?_⟩
            · rw [HE.out, putSh_bad HE.out (by decide)]; rfl
            · rw [putQ_bad HE.out (by decide)]; exact OwnQ.nil _ _
            · exact (hp2.below.setCell (p := ⟨w.heap.size + 2, 0, none⟩) (Nat.le_add_right _ _) _).setCell (p := ⟨w.heap.size + 2, 1, none⟩) (Nat.le_add_right _ _) _
        · obtain rfl : k = m.length := by omega
          rw [fitTo_all HL.out] at hp
          have b0 : wr.cell? ⟨w.heap.size, 0, none⟩ = some (.int .i64 room) := cell_of_blk hp.b0 rfl
          have b1 : wr.cell? ⟨w.heap.size + 1, 0, none⟩ = some (.int .i64 sh) := cell_of_blk hp.b1 rfl
          have b2 : wr.cell? ⟨w.heap.size + 1, 1, none⟩ = some (.slice qo q.length qc) := cell_of_blk hp.b1 rfl
          have hall : fs.all typeP = true := by
            rw [List.all_eq_true]
            intro t ht
            obtain ⟨j, hj⟩ := List.mem_iff_getElem?.1 ht
            exact hty j t (by have := (List.getElem?_eq_some_iff.1 hj).1; omega) hj
          clear hty hm3 hf3
          by_cases hroom : room ≤ q.length
          · have HE : Hid (putE room fs q m = 45) := by
              unfold Hid putE
              rw [if_neg (by simp [HL.out]), if_neg (by simp [hall]), if_pos hroom]
            have r0 : wr.cell? ⟨w.heap.size + 2, 0, none⟩ = some (.int .i64 0) := cell_of_blk hp.b2 rfl
            have r1 : wr.cell? ⟨w.heap.size + 2, 1, none⟩ = some (.slice none 0 0) := cell_of_blk hp.b2 rfl
            have f0 : wr.frozen? ⟨w.heap.size + 2, 0, none⟩ = false := free_of_blk hp.b2
            have f1 : wr.frozen? ⟨w.heap.size + 2, 1, none⟩ = false := free_of_blk hp.b2
            go_wp2
            have hres : ((wr.setCell ⟨w.heap.size + 2, 0, none⟩ (.int .i64 0)).setCell ⟨w.heap.size + 2, 1, none⟩ (.slice none 0 0)).heap[w.heap.size + 2]? = some (.cells #[.int .i64 0, .slice none 0 0] 27 (0, 0)) := by
              rw [blk_set (blk_set hp.b2 _)]; rfl
            refine ret_cell2 rfl rfl hres Try.underlying27 rfl (by kernel_rfl) rfl ⟨⟨.slice none 0 0, [], ?_, ?_⟩, ?_⟩
            · rw [HE.out, putSh_bad HE.out (by decide)]; rfl
            · rw [putQ_bad HE.out (by decide)]; exact OwnQ.nil _ _
            · exact (hp.below.setCell (p := ⟨w.heap.size + 2, 0, none⟩) (Nat.le_add_right _ _) _).setCell (p := ⟨w.heap.size + 2, 1, none⟩) (Nat.le_add_right _ _) _
          · have HE : Hid (putE room fs q m = 0) := by
              unfold Hid putE
              rw [if_neg (by simp [HL.out]), if_neg (by simp [hall]), if_neg hroom]
            have HC := copied_calls sh (hq.below stays_Q hp.below) hsm
            go_wp2_with fail
            refine HC.mono ?_; rintro e w2 ⟨ov, vs, rfl, hown2, hb2⟩
            obtain ⟨oo, oc, rfl, _⟩ := own_one hown2.row
            have hpO := (hp.kept hb2).kept (below_one _ (.cells #[.int .i64 sh, .slice oo q.length oc] 27))
            have hOO : (w2.alloc (.cells #[.int .i64 sh, .slice oo q.length oc] 27)).heap[w2.heap.size]? = _ := heap_alloc_new _ _
            have hownO := (hown2.base hp.below.size).alloc (.cells #[.int .i64 sh, .slice oo q.length oc] 27)
            have xO : (w2.alloc (.cells #[.int .i64 sh, .slice oo q.length oc] 27)).cell? ⟨w1.heap.size, 0, none⟩ = some (.slice (some ⟨w.heap.size + 3, 0, none⟩) m.length m.length) := cell_of_blk hpO.b4 rfl
            have HX := index_calls hownO.is xO hpO.x.is
            have hn1 : w.heap.size + 2 ≠ w2.heap.size := by have h1 := hb2.size; have h2 := hp.lt; omega
            have hn2 : w2.heap.size ≠ w.heap.size + 2 := fun e => hn1 e.symm
            have hn3 : w.heap.size ≤ w2.heap.size := by have h1 := hb2.size; have h2 := hp.lt; omega
            have HSH : Hid (putSh room fs q m sh = sh) := by unfold Hid putSh; rw [HE.out, if_pos rfl]
            clear hown2 HC hq P0 c0 b0 b1 b2
            cases sorted with
            | false =>
              have HI := put_ins hpO hownO hOO q.length (w2.heap.size + 1) (by simp) (Nat.le_refl _) hq1
              have HQ : Hid (putQ room fs q m false = putAt q q.length (fitM fs m)) := by unfold Hid putQ putX; rw [HE.out, if_pos rfl]; rfl
              go_wp2_with fail
              refine HI.mono ?_; rintro e w4 ⟨ao, cap, vs', rfl, hq4, hO4, hr4, hb4⟩
              have cO0 : w4.cell? ⟨w2.heap.size, 0, none⟩ = some (.int .i64 sh) := cell_of_blk hO4 rfl
              have cO1 : w4.cell? ⟨w2.heap.size, 1, none⟩ = some (.slice oo q.length oc) := cell_of_blk hO4 rfl
              have fO1 : w4.frozen? ⟨w2.heap.size, 1, none⟩ = false := free_of_blk hO4
              have r0 : w4.cell? ⟨w.heap.size + 2, 0, none⟩ = some (.int .i64 0) := cell_of_blk hr4 rfl
              have r1 : w4.cell? ⟨w.heap.size + 2, 1, none⟩ = some (.slice none 0 0) := cell_of_blk hr4 rfl
              have f0 : w4.frozen? ⟨w.heap.size + 2, 0, none⟩ = false := free_of_blk hr4
              have f1 : w4.frozen? ⟨w.heap.size + 2, 1, none⟩ = false := free_of_blk hr4
              go_wp2
              have hO5 := blk_set (i := 1) hO4 (.slice ao (q.length + 1) cap)
              have hr5 : (w4.setCell ⟨w2.heap.size, 1, none⟩ (.slice ao (q.length + 1) cap)).heap[w.heap.size + 2]? = _ := (Below.heap_setCell _ _ _ _ hn1).trans hr4
              have hres : (((w4.setCell ⟨w2.heap.size, 1, none⟩ (.slice ao (q.length + 1) cap)).setCell ⟨w.heap.size + 2, 0, none⟩ (.int .i64 sh)).setCell ⟨w.heap.size + 2, 1, none⟩ (.slice ao (q.length + 1) cap)).heap[w.heap.size + 2]? = some (.cells #[.int .i64 sh, .slice ao (q.length + 1) cap] 27 (0, 0)) := by
                rw [blk_set (blk_set hr5 _)]; rfl
              refine ret_cell2 rfl rfl hres Try.underlying27 rfl (by kernel_rfl) rfl ⟨⟨.slice ao (q.length + 1) cap, vs', ?_, ?_⟩, ?_⟩
              · rw [HE.out, HSH.out]; rfl
              · rw [HQ.out]; exact ((hq4.set hO4 (by decide) (by decide) _).set hr5 (by decide) (by decide) _).set (blk_set hr5 _) (by decide) (by decide) _
              · exact ((hb4.setCell (p := ⟨w2.heap.size, 1, none⟩) hn3 _).setCell (p := ⟨w.heap.size + 2, 0, none⟩) (Nat.le_add_right _ _) _).setCell (p := ⟨w.heap.size + 2, 1, none⟩) (Nat.le_add_right _ _) _
            | true =>
              have HQ : Hid (putQ room fs q m true = putAt q (firstP (fitM fs m) q) (fitM fs m)) := by unfold Hid putQ putX; rw [HE.out, if_pos rfl]; rfl
              go_wp2_with fail
              refine HX.mono ?_; rintro e w3 ⟨rfl, nq, rfl⟩
              have hle := firstP_le (fitM fs m) q
              have HI := put_ins (wO := (w2.alloc (.cells #[.int .i64 sh, .slice oo q.length oc] 27)).drewN nq) (hpO.kept (below_drewN (Below.refl _ _) nq)) (hownO.same fun _ _ _ => rfl) hOO (firstP (fitM fs m) q) (w2.heap.size + 1) (by simp) hle hq1
              by_cases hf : firstP (fitM fs m) q < q.length
              · have HIX : Hid (idxP (fitM fs m) q = (firstP (fitM fs m) q : Nat)) := by unfold Hid idxP; rw [if_pos hf]
                rw [HIX.out]
                generalize firstP (fitM fs m) q = at_ at *
                go_wp2_with fail
                refine HI.mono ?_; rintro e w4 ⟨ao, cap, vs', rfl, hq4, hO4, hr4, hb4⟩
                have cO0 : w4.cell? ⟨w2.heap.size, 0, none⟩ = some (.int .i64 sh) := cell_of_blk hO4 rfl
                have cO1 : w4.cell? ⟨w2.heap.size, 1, none⟩ = some (.slice oo q.length oc) := cell_of_blk hO4 rfl
                have fO1 : w4.frozen? ⟨w2.heap.size, 1, none⟩ = false := free_of_blk hO4
                have r0 : w4.cell? ⟨w.heap.size + 2, 0, none⟩ = some (.int .i64 0) := cell_of_blk hr4 rfl
                have r1 : w4.cell? ⟨w.heap.size + 2, 1, none⟩ = some (.slice none 0 0) := cell_of_blk hr4 rfl
                have f0 : w4.frozen? ⟨w.heap.size + 2, 0, none⟩ = false := free_of_blk hr4
                have f1 : w4.frozen? ⟨w.heap.size + 2, 1, none⟩ = false := free_of_blk hr4
                go_wp2
                have hO5 := blk_set (i := 1) hO4 (.slice ao (q.length + 1) cap)
                have hr5 : (w4.setCell ⟨w2.heap.size, 1, none⟩ (.slice ao (q.length + 1) cap)).heap[w.heap.size + 2]? = _ := (Below.heap_setCell _ _ _ _ hn1).trans hr4
                have hres : (((w4.setCell ⟨w2.heap.size, 1, none⟩ (.slice ao (q.length + 1) cap)).setCell ⟨w.heap.size + 2, 0, none⟩ (.int .i64 sh)).setCell ⟨w.heap.size + 2, 1, none⟩ (.slice ao (q.length + 1) cap)).heap[w.heap.size + 2]? = some (.cells #[.int .i64 sh, .slice ao (q.length + 1) cap] 27 (0, 0)) := by
                  rw [blk_set (blk_set hr5 _)]; rfl
                refine ret_cell2 rfl rfl hres Try.underlying27 rfl (by kernel_rfl) rfl ⟨⟨.slice ao (q.length + 1) cap, vs', ?_, ?_⟩, ?_⟩
                · rw [HE.out, HSH.out]; rfl
                · rw [HQ.out]; exact ((hq4.set hO4 (by decide) (by decide) _).set hr5 (by decide) (by decide) _).set (blk_set hr5 _) (by decide) (by decide) _
                · exact ((hb4.setCell (p := ⟨w2.heap.size, 1, none⟩) hn3 _).setCell (p := ⟨w.heap.size + 2, 0, none⟩) (Nat.le_add_right _ _) _).setCell (p := ⟨w.heap.size + 2, 1, none⟩) (Nat.le_add_right _ _) _
              · have HIX : Hid (idxP (fitM fs m) q = -1) := by unfold Hid idxP; rw [if_neg hf]
                rw [HIX.out]
                have he : firstP (fitM fs m) q = q.length := by omega
                rw [he] at HI HQ
                go_wp2_with fail
                refine HI.mono ?_; rintro e w4 ⟨ao, cap, vs', rfl, hq4, hO4, hr4, hb4⟩
                have cO0 : w4.cell? ⟨w2.heap.size, 0, none⟩ = some (.int .i64 sh) := cell_of_blk hO4 rfl
                have cO1 : w4.cell? ⟨w2.heap.size, 1, none⟩ = some (.slice oo q.length oc) := cell_of_blk hO4 rfl
                have fO1 : w4.frozen? ⟨w2.heap.size, 1, none⟩ = false := free_of_blk hO4
                have r0 : w4.cell? ⟨w.heap.size + 2, 0, none⟩ = some (.int .i64 0) := cell_of_blk hr4 rfl
                have r1 : w4.cell? ⟨w.heap.size + 2, 1, none⟩ = some (.slice none 0 0) := cell_of_blk hr4 rfl
                have f0 : w4.frozen? ⟨w.heap.size + 2, 0, none⟩ = false := free_of_blk hr4
                have f1 : w4.frozen? ⟨w.heap.size + 2, 1, none⟩ = false := free_of_blk hr4
                go_wp2
                have hO5 := blk_set (i := 1) hO4 (.slice ao (q.length + 1) cap)
                have hr5 : (w4.setCell ⟨w2.heap.size, 1, none⟩ (.slice ao (q.length + 1) cap)).heap[w.heap.size + 2]? = _ := (Below.heap_setCell _ _ _ _ hn1).trans hr4
                have hres : (((w4.setCell ⟨w2.heap.size, 1, none⟩ (.slice ao (q.length + 1) cap)).setCell ⟨w.heap.size + 2, 0, none⟩ (.int .i64 sh)).setCell ⟨w.heap.size + 2, 1, none⟩ (.slice ao (q.length + 1) cap)).heap[w.heap.size + 2]? = some (.cells #[.int .i64 sh, .slice ao (q.length + 1) cap] 27 (0, 0)) := by
                  rw [blk_set (blk_set hr5 _)]; rfl
                refine ret_cell2 rfl rfl hres Try.underlying27 rfl (by kernel_rfl) rfl ⟨⟨.slice ao (q.length + 1) cap, vs', ?_, ?_⟩, ?_⟩
                · rw [HE.out, HSH.out]; rfl
                · rw [HQ.out]; exact ((hq4.set hO4 (by decide) (by decide) _).set hr5 (by decide) (by decide) _).set (blk_set hr5 _) (by decide) (by decide) _
                · exact ((hb4.setCell (p := ⟨w2.heap.size, 1, none⟩) hn3 _).setCell (p := ⟨w.heap.size + 2, 0, none⟩) (Nat.le_add_right _ _) _).setCell (p := ⟨w.heap.size + 2, 1, none⟩) (Nat.le_add_right _ _) _
  · have HE : Hid (putE room fs q m = 42) := by
      unfold Hid putE; rw [if_pos hl]
    have hne : ((m.length : Int) != (fs.length : Int)) = true := by simp; omega
    clear hl
    go_enter Try.func6, Try.ntmps6
    go_wp2
    have hres : (((w.alloc (.cells #[.int .i64 room, .slice fo fs.length fc] 24)).alloc (.cells #[.int .i64 sh, .slice qo q.length qc] 27)).alloc (.cells #[.int .i64 0, .slice none 0 0] 27)).heap[w.heap.size + 2]? = some (.cells #[.int .i64 0, .slice none 0 0] 27 (0, 0)) := by
      have := heap_alloc_new ((w.alloc (.cells #[.int .i64 room, .slice fo fs.length fc] 24)).alloc (.cells #[.int .i64 sh, .slice qo q.length qc] 27)) (.cells #[.int .i64 0, .slice none 0 0] 27)
      simpa using this
    refine ret_cell2 rfl rfl hres Try.underlying27 rfl (by kernel_rfl) rfl ⟨⟨.slice none 0 0, [], ?_, ?_⟩, ?_⟩
    · rw [HE.out, putSh_bad HE.out (by decide)]; rfl
    · rw [putQ_bad HE.out (by decide)]; exact OwnQ.nil _ _
    · exact (((Below.refl _ w).alloc (Nat.le_refl _) _).alloc (by simp) _).alloc (by simp; omega) _
end Go.Proofs.Ytiflenddalmfaaa
