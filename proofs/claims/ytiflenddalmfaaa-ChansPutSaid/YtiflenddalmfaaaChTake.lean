/-
  The walks of slices.Delete of one message, and of layer 13's Take.
-/
import Derived.Test.YtiflenddalmfaaaChInsert2
import Derived.Deep.RegionLaw
import Derived.Lib.SlicesDelete
namespace Go.Proofs.Ytiflenddalmfaaa
open Go.RowKit Go.Lib

/-- One cut out. -/
def cutAt {α : Type} (l : List α) (i : Nat) : List α := l.take i ++ l.drop (i + 1)
theorem cutAt_len {α : Type} {l : List α} {i : Nat} (h : i < l.length) : (cutAt l i).length = l.length - 1 := by
  unfold cutAt; simp; omega
theorem cutAt_lo {α : Type} {l : List α} {i j : Nat} (h : i < l.length) (hj : j < i) : (cutAt l i)[j]? = l[j]? := by
  unfold cutAt
  rw [List.getElem?_append_left (by simp; omega), List.getElem?_take, if_pos hj]
theorem cutAt_hi {α : Type} {l : List α} {i j : Nat} (h : i < l.length) (hj : i ≤ j) : (cutAt l i)[j]? = l[j + 1]? := by
  unfold cutAt
  rw [List.getElem?_append_right (by simp; omega), List.length_take, List.getElem?_drop]
  congr 1; omega
theorem OwnQ.cutAt {w w' : World} {n0 i : Nat} {v v' : Value} {vs : List Value} {q : List (List Int)} (h : OwnQ w n0 v vs q) (hi : i < q.length)
    (hr : w'.ownsRow n0 29 1 v' (q.length - 1) (cutAt vs i)) (ht : ∀ k, k < w.heap.size → v.ownBlock ≠ some k → w'.heap[k]? = w.heap[k]?) : OwnQ w' n0 v' (cutAt vs i) (cutAt q i) := by
  have hl := h.len
  have sep : ∀ (x : Value) (l : List Int), OwnM w n0 x l → OwnM w' n0 x l := fun x l hx => hx.same fun k hk => ht k (hx.row.lt k hk).2 fun e => by
    obtain ⟨c1, e1⟩ := ownsRow_blk hx.row hk
    obtain ⟨c2, e2⟩ := ownsRow_blk h.row e
    exact blk_ne e1 e2 (by decide) rfl
  refine ⟨by rw [cutAt_len hi]; exact hr, by rw [cutAt_len hi, cutAt_len (by omega), hl], fun j x l hx hl' => ?_⟩
  by_cases hj : j < i
  · rw [cutAt_lo (by omega) hj] at hx hl'
    exact sep x l (h.each j x l hx hl')
  · rw [cutAt_hi (by omega) (by omega)] at hx hl'
    exact sep x l (h.each _ x l hx hl')

set_option maxHeartbeats 1000000 in
set_option maxRecDepth 100000 in
theorem delete_calls {w : World} {n0 : Nat} {qv : Value} {vs : List Value} {q : List (List Int)} (i : Nat) (hq : OwnQ w n0 qv vs q) (hi : i < q.length) :
    Calls Try.prog 25 #[qv, .int .i64 i, .int .i64 ((i : Int) + 1)] w fun e w' =>
      ∃ ao cap vs', e = .returned (.slice ao (q.length - 1 : Nat) cap) ∧ OwnQ w' n0 (.slice ao (q.length - 1 : Nat) cap) vs' (cutAt q i) ∧ Touch w w' (fun k => qv.ownBlock = some k) := by
  have hlen := hq.len
  obtain ⟨ki, khi, khz0, khz1, khz2⟩ := info_parts' info_msg
  rcases hq.row.2 with ⟨rfl, h0⟩ | ⟨g, cap, cur, rfl, hb, hg, h1, h2, h3, h4⟩
  · omega
  have hm2 := h2
  unfold maxLen at hm2
  have hcell : ∀ j, j < cap → (w.cell? ⟨g, j, none⟩).isSome = true := fun j hj => by
    rw [cell_of_blk hg (by rw [Array.getElem?_eq_getElem (by omega)])]; rfl
  obtain ⟨news, hnews⟩ : ∃ news, news = vs.drop (i + 1) := ⟨_, rfl⟩
  have hnl : news.length = q.length - (i + 1) := by rw [hnews]; simp [hlen]
  obtain ⟨A, hA, hsrc⟩ : ∃ A : Addr, (if cap = i + 1 then some (⟨g, 0, none⟩ : Addr) else some ⟨g, i + 1, none⟩) = some A ∧ Hid (∀ (t : Nat) (u : Value), news[t]? = some u → w.drew.cell? (A.add t) = some u) := by
    by_cases h : cap = i + 1
    · refine ⟨⟨g, 0, none⟩, by simp [h], fun t u hu => ?_⟩
      have := (List.getElem?_eq_some_iff.1 hu).1
      omega
    · refine ⟨⟨g, i + 1, none⟩, by simp [h], fun t u hu => ?_⟩
      have ht := (List.getElem?_eq_some_iff.1 hu).1
      rw [hnews, List.getElem?_drop] at hu
      rw [Addr.add_lit]
      have := hq.row.cellAt (i + 1 + t) (by omega)
      rw [hu] at this; exact this
  have s1 : Hid (news.length = (q.length - (i + 1)) * 1) := by rw [Nat.mul_one]; exact hnl
  have s2 : Hid (∀ u ∈ news, u.oneCell' = true) := by
    intro u hu
    rw [hnews] at hu
    obtain ⟨j, hj, rfl⟩ := List.getElem_of_mem (List.mem_of_mem_drop hu)
    exact one_cell_of_own (hq.each j vs[j] q[j] (by simp [hj]) (by simp [show j < q.length by omega])).row
  have s3 : Hid (∀ t, t < news.length → (w.drew.cell? ⟨g, 0 + i * 1 + t, none⟩).isSome = true ∧ w.drew.frozen? ⟨g, 0 + i * 1 + t, none⟩ = false) := by
    intro t ht
    exact ⟨hcell _ (by omega), free_of_blk hg⟩
  obtain ⟨W1, hW1⟩ : ∃ W1, W1 = w.drew.setCells g (0 + i * 1) news := ⟨_, rfl⟩
  obtain ⟨c1, e1, z1⟩ := setCells_blk news (0 + i * 1) w.drew cur hg
  rw [← hW1] at e1
  have hcl : ∀ ty, (Builtin.clear_ #[25] ty #[.slice (some ⟨g, i + (q.length - (i + 1)), none⟩) (q.length - (i + (q.length - (i + 1)))) (cap - (i + (q.length - (i + 1))))]).run Try.prog W1 = .ok (.tuple #[]) (W1.setCells g (i + (q.length - (i + 1))) (List.replicate (q.length - (i + (q.length - (i + 1)))) (.slice none 0 0))) :=
    fun ty => Lib.run_clear_slice W1 _ _ ty _ Try.underlying25 Try.zeroValue29 rfl rfl g (i + (q.length - (i + 1))) _ _ (by omega) (fun t ht => by rw [cell_of_blk e1 (by rw [Array.getElem?_eq_getElem (by omega)])]; rfl) (fun t ht => free_of_blk e1)
  have hic : i ≤ cap := by omega
  have hjc : i + 1 ≤ cap := by omega
  have hj0 : (0 : Int) ≤ (i : Int) + 1 := by omega
  have hjn : (i : Int) + 1 ≤ (q.length : Int) := by omega
  have hW : Hid (W1 = w.drew.setCells g (0 + i * 1) news) := hW1
  have HF : Hid (∃ ao cap' vs', (Value.slice (some ⟨g, 0, none⟩) (i + (q.length - (i + 1))) cap) = .slice ao (q.length - 1 : Nat) cap' ∧ OwnQ (W1.setCells g (i + (q.length - (i + 1))) (List.replicate (q.length - (i + (q.length - (i + 1)))) (.slice none 0 0))) n0 (.slice ao (q.length - 1 : Nat) cap') vs' (cutAt q i) ∧ Touch w (W1.setCells g (i + (q.length - (i + 1))) (List.replicate (q.length - (i + (q.length - (i + 1)))) (.slice none 0 0))) (fun k => (Value.slice (some ⟨g, 0, none⟩) q.length cap).ownBlock = some k)) := by
    have n1 : i + (q.length - (i + 1)) = q.length - 1 := by omega
    rw [n1, show q.length - (q.length - 1) = 1 by omega]
    obtain ⟨c2, e2, z2⟩ := setCells_blk (List.replicate 1 (Value.slice none 0 0)) (q.length - 1) W1 c1 e1
    have far : ∀ k, k ≠ g → (W1.setCells g (q.length - 1) (List.replicate 1 (Value.slice none 0 0))).heap[k]? = w.heap[k]? := fun k hk => by rw [setCells_far hk, hW1, setCells_far hk]; rfl
    obtain ⟨s1, s2, s3, s4⟩ := setCells_same news (0 + i * 1) g w.drew
    obtain ⟨s5, s6, s7, s8⟩ := setCells_same (List.replicate 1 (Value.slice none 0 0)) (q.length - 1) g W1
    rw [← hW1] at s1 s2 s3 s4
    refine ⟨_, _, cutAt vs i, rfl, hq.cutAt hi (ownsRow_of_cells e2 hb (by omega) h2 (by omega) (by rw [cutAt_len (by omega), hlen]) fun j hj => ?_) fun k _ hne => far k fun e => hne (by rw [e]; rfl),
      ⟨s5.trans s1, s6.trans s2, s7.trans s3, by rw [s8, s4]; exact Nat.le_refl _, fun k _ hne => far k fun e => hne (by rw [e]; rfl)⟩⟩
    rw [setCells_out (.inl hj), hW1]
    by_cases hji : j < i
    · rw [setCells_out (.inl (by omega)), cutAt_lo (by omega) hji]
      exact hq.row.cellAt j (by omega)
    · rw [setCells_in (w := w.drew) (o := 0 + i * 1) (vs := news) (fun k hk => hcell (0 + i * 1 + k) (by omega)) (by omega) (by omega), cutAt_hi (by omega) (by omega), hnews, List.getElem?_drop]
      congr 1; omega
  clear hW1 e1 hcell
  go_enter Try.func25, Try.ntmps25
  go_wp2_with fail
  go_region_law (refine step_append_room rfl (.tmp 22) (.tmp 25) 25 rfl 29 ki 1 Try.underlying25 khi khz1 g 0 i cap (by simp [Act.eval, Act.put]) A (q.length - (i + 1)) (cap - (i + 1)) news (by simp [Act.eval, Act.put]) s1.out hsrc.out s2.out (by omega) s3.out ?_; rw [← hW.out])
  go_wp2
  go_ret
  obtain ⟨ao, cap', vs', e, h5, h6⟩ := HF.out
  exact ⟨ao, cap', vs', by rw [← e]; rfl, h5, h6⟩

theorem OwnQ.base' {w : World} {n0 n1 : Nat} {v : Value} {vs : List Value} {q : List (List Int)} (h : OwnQ w n0 v vs q) (hb : n1 ≤ n0) : OwnQ w n1 v vs q :=
  ⟨⟨h.row.1, h.row.2.imp id fun ⟨g, cap, cur, e, h1, h2⟩ => ⟨g, cap, cur, e, Nat.le_trans hb h1, h2⟩⟩, h.len, fun i u m hu hm => (h.each i u m hu hm).base hb⟩
set_option maxRecDepth 100000 in
set_option maxHeartbeats 1000000 in
theorem take_none {w : World} {qv : Value} {q : List (List Int)} (sh n : Int) (hq : Is pQ w [qv] q) (hn : n < 0 ∨ (q.length : Int) ≤ n) :
    Calls Try.prog 13 #[.agg #[.int .i64 sh, qv], .int .i64 n] w fun e w' => e = .returned (.tuple #[.agg #[.int .i64 0, .slice none 0 0], .slice none 0 0, .int .i64 46]) ∧ Below w.heap.size w w' := by
  obtain ⟨qo, qc, rfl, _⟩ := is_slice1 hq
  have hres : ((w.alloc (.cells #[.int .i64 sh, .slice qo q.length qc] 27)).alloc (.cells #[.int .i64 0, .slice none 0 0] 27)).heap[w.heap.size + 1]? = some (.cells #[.int .i64 0, .slice none 0 0] 27 (0, 0)) := by
    have := heap_alloc_new (w.alloc (.cells #[.int .i64 sh, .slice qo q.length qc] 27)) (.cells #[.int .i64 0, .slice none 0 0] 27)
    simpa using this
  have hb : Below w.heap.size w ((w.alloc (.cells #[.int .i64 sh, .slice qo q.length qc] 27)).alloc (.cells #[.int .i64 0, .slice none 0 0] 27)) := ((Below.refl _ w).alloc (Nat.le_refl _) _).alloc (by simp) _
  rcases hn with hn | hn
  · go_enter Try.func13, Try.ntmps13
    go_wp2
    exact ret_cell3 rfl rfl hres Try.underlying27 rfl (by kernel_rfl) rfl ⟨rfl, hb⟩
  · have hd : decide (n < 0) = false := by simp; omega
    go_enter Try.func13, Try.ntmps13
    go_wp2
    exact ret_cell3 rfl rfl hres Try.underlying27 rfl (by kernel_rfl) rfl ⟨rfl, hb⟩

set_option maxRecDepth 100000 in
set_option maxHeartbeats 1000000 in
theorem take_calls {w : World} {qv : Value} {q : List (List Int)} (sh : Int) (n : Nat) (hq : Is pQ w [qv] q) (hsm : Small q) (hn : n < q.length) :
    Calls Try.prog 13 #[.agg #[.int .i64 sh, qv], .int .i64 n] w fun e w' => ∃ ov vs mv, e = .returned (.tuple #[.agg #[.int .i64 sh, ov], mv, .int .i64 0]) ∧
      OwnQ w' w.heap.size ov vs (cutAt q n) ∧ OwnM w' w.heap.size mv (q.getD n []) ∧ Below w.heap.size w w' := by
  obtain ⟨qo, qc, rfl, _⟩ := is_slice1 hq
  generalize hw0 : (w.alloc (.cells #[.int .i64 sh, .slice qo q.length qc] 27)).alloc (.cells #[.int .i64 0, .slice none 0 0] 27) = w0
  have hb0 : Below w.heap.size w w0 := by rw [← hw0]; exact ((Below.refl _ w).alloc (Nat.le_refl _) _).alloc (by simp) _
  have hres0 : w0.heap[w.heap.size + 1]? = some (.cells #[.int .i64 0, .slice none 0 0] 27 (0, 0)) := by
    have := heap_alloc_new (w.alloc (.cells #[.int .i64 sh, .slice qo q.length qc] 27)) (.cells #[.int .i64 0, .slice none 0 0] 27)
    rw [← hw0]; simpa using this
  have HC := copied_calls sh (hq.below stays_Q hb0) hsm
  rw [← hw0] at HC
  have HW := Lib.hid hw0
  clear hw0
  have hnd : (n : Int) < (q.length : Int) := by omega
  have hql := hsm.1
  obtain ⟨mm, hmm⟩ : ∃ mm, mm = q.getD n [] := ⟨_, rfl⟩
  rw [← hmm]
  have HMM := Lib.hid hmm
  clear hmm
  go_enter Try.func13, Try.ntmps13
  go_wp2_with fail
  (with_reducible refine HC.mono ?_); rintro e w2 ⟨ov, vs, rfl, hown2, hb2⟩
  rw [HW.out] at hown2 hb2
  obtain ⟨oo, oc, rfl, _, _, h3⟩ := own_one hown2.row
  obtain ⟨g, rfl, hg1, hg2, hg3⟩ := h3 (by omega)
  have hvn : n < vs.length := by rw [hown2.len]; exact hn
  have hmv := hown2.each n vs[n] mm (by simp [hvn]) (by rw [HMM.out]; simp [List.getD, hn])
  obtain ⟨mo, mc, hme, _⟩ := own_one hmv.row
  have hmc := hg3 n hn
  rw [List.getElem?_eq_getElem hvn, hme] at hmc
  rw [hme] at hmv
  have hg2' := hg2
  have hs0 : w.heap.size ≤ w0.heap.size := hb0.size
  have hs2 : w0.heap.size ≤ w2.heap.size := hb2.size
  have hres2 : w2.heap[w.heap.size + 1]? = _ := (hb2.block _ (blk_lt hres0)).trans hres0
  have hl2 := blk_lt hres2
  have hn1 : w.heap.size + 1 ≠ w2.heap.size := by omega
  have hn2 : w2.heap.size ≠ w.heap.size + 1 := fun e => hn1 e.symm
  have HD := delete_calls n ((hown2.base' hs0).alloc (.cells #[.int .i64 sh, .slice (some ⟨g, 0, none⟩) q.length oc] 27)) hn
  clear hme h3 hg3
  go_wp2_with fail
  (with_reducible refine HD.mono ?_); rintro e w4 ⟨ao, cap, vs', rfl, hq4, ht4⟩
  have hO4 : w4.heap[w2.heap.size]? = some (.cells #[.int .i64 sh, .slice (some ⟨g, 0, none⟩) q.length oc] 27 (0, 0)) := by
    rw [ht4.block _ (by simp) (by simp [Value.ownBlock]; omega)]; exact heap_alloc_new _ _
  have hr4 : w4.heap[w.heap.size + 1]? = some (.cells #[.int .i64 0, .slice none 0 0] 27 (0, 0)) := by
    rw [ht4.block _ (by simp; omega) (by intro e; obtain ⟨cur, hcur⟩ := ownsRow_blk hown2.row e; exact blk_ne hres2 hcur (by decide) rfl), Below.heap_alloc _ _ _ hl2]; exact hres2
  have hm4 : OwnM w4 w.heap.size (.slice mo mm.length mc) mm := (hmv.base hs0).same fun k hk => by
    have hkl := (hmv.row.lt k hk).2
    rw [ht4.block _ (by simp; omega) (by intro e; obtain ⟨cur, hcur⟩ := ownsRow_blk hown2.row e; obtain ⟨cur', hcur'⟩ := ownsRow_blk hmv.row hk; exact blk_ne hcur' hcur (by decide) rfl), Below.heap_alloc _ _ _ hkl]
  have hb4 : Below w.heap.size w w4 := ((hb0.trans (hb2.mono hs0)).alloc (by omega) _).trans (ht4.below (by simp; omega) fun k hk => Nat.le_trans hs0 (hown2.row.lt k hk).1)
  have cO0 : w4.cell? ⟨w2.heap.size, 0, none⟩ = some (.int .i64 sh) := cell_of_blk hO4 rfl
  have cO1 : w4.cell? ⟨w2.heap.size, 1, none⟩ = some (.slice (some ⟨g, 0, none⟩) q.length oc) := cell_of_blk hO4 rfl
  have fO1 : w4.frozen? ⟨w2.heap.size, 1, none⟩ = false := free_of_blk hO4
  have r0 : w4.cell? ⟨w.heap.size + 1, 0, none⟩ = some (.int .i64 0) := cell_of_blk hr4 rfl
  have r1 : w4.cell? ⟨w.heap.size + 1, 1, none⟩ = some (.slice none 0 0) := cell_of_blk hr4 rfl
  have f0 : w4.frozen? ⟨w.heap.size + 1, 0, none⟩ = false := free_of_blk hr4
  have f1 : w4.frozen? ⟨w.heap.size + 1, 1, none⟩ = false := free_of_blk hr4
  clear hown2 hmv ht4 hmc
  go_wp2
  have hr5 : (w4.setCell ⟨w2.heap.size, 1, none⟩ (.slice ao (q.length - 1) cap)).heap[w.heap.size + 1]? = _ := (Below.heap_setCell _ _ _ _ hn1).trans hr4
  have hres : (((w4.setCell ⟨w2.heap.size, 1, none⟩ (.slice ao (q.length - 1) cap)).setCell ⟨w.heap.size + 1, 0, none⟩ (.int .i64 sh)).setCell ⟨w.heap.size + 1, 1, none⟩ (.slice ao (q.length - 1) cap)).heap[w.heap.size + 1]? = some (.cells #[.int .i64 sh, .slice ao (q.length - 1) cap] 27 (0, 0)) := by
    rw [blk_set (blk_set hr5 _)]; rfl
  refine ret_cell3 rfl rfl hres Try.underlying27 rfl (by kernel_rfl) rfl ⟨.slice ao (q.length - 1) cap, vs', .slice mo mm.length mc, rfl, ?_, ?_, ?_⟩
  · exact ((hq4.set hO4 (by decide) (by decide) _).set hr5 (by decide) (by decide) _).set (blk_set hr5 _) (by decide) (by decide) _
  · refine hm4.same fun k hk => ?_
    have e : ∀ {B : Nat} {c : Array Value}, w4.heap[B]? = some (.cells c 27 (0, 0)) → k ≠ B := fun hB e => by
      subst e; obtain ⟨cur, hcur⟩ := ownsRow_blk hm4.row hk; exact blk_ne hcur hB (by decide) rfl
    rw [Below.heap_setCell _ _ _ _ (e hr4), Below.heap_setCell _ _ _ _ (e hr4), Below.heap_setCell _ _ _ _ (e hO4)]
  · exact ((hb4.setCell (p := ⟨w2.heap.size, 1, none⟩) (by simp; omega) _).setCell (p := ⟨w.heap.size + 1, 0, none⟩) (Nat.le_add_right _ _) _).setCell (p := ⟨w.heap.size + 1, 1, none⟩) (Nat.le_add_right _ _) _
end Go.Proofs.Ytiflenddalmfaaa
