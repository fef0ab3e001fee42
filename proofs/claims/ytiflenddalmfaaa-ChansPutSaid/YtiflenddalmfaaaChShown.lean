/-
  The document's examples at the head of the laws of layer 13.
-/
import Derived.Test.YtiflenddalmfaaaChPutW
import Derived.Test.YtiflenddalmfaaaChFind
import Derived.Test.YtiflenddalmfaaaChTake
namespace Go.Proofs.Ytiflenddalmfaaa
open Go.RowKit

theorem is_lit {w : World} {b : Nat} {t : TypeId} {xs : List Int} {n : Nat} (hn : xs.length = n) (hb : w.heap[b]? = some (.cells (xs.map (Value.int .i64)).toArray t (0, 0))) (hw : ∀ x ∈ xs, (Lit.int .i64 x).wf = true) (hm : n ≤ maxLen) :
    Is pM w [.slice (some ⟨b, 0, none⟩) n n] xs := by
  subst hn
  refine is_slice1_mk (Nat.le_refl _) hm (blk_lt hb) fun i x hx => ⟨.int .i64 x, ?_, rfl, hw x (List.mem_of_getElem? hx)⟩
  rw [Nat.zero_add]
  refine cell_of_blk hb ?_
  simp [hx]

theorem is_t8 {w : World} {f : Nat} (h : w.heap[f]? = some (.cells #[.int .i64 8, .bool false] 42 (0, 0))) : Is (Pkg.slice 2 16 p_Type) w [.slice (some ⟨f, 0, none⟩) 1 1] [⟨8, false⟩] := by
  refine is_slice_mk (xs := [(⟨8, false⟩ : D.Type)]) (Nat.le_refl _) (by unfold maxLen; decide) (blk_lt h) fun i x hx => ?_
  obtain rfl : i = 0 := by have := (List.getElem?_eq_some_iff.1 hx).1; simpa using this
  simp only [List.getElem?_cons_zero, Option.some.injEq] at hx
  subst hx
  refine ⟨[.int .i64 8, .bool false], rfl, fun k hk => ?_, ?_⟩
  · obtain rfl | rfl : k = 0 ∨ k = 1 := by omega
    · exact cell_of_blk h rfl
    · exact cell_of_blk h rfl
  · simp only [p_Type, is_via, is_cons_int, is_cons_bool, is_unit]
    exact ⟨_, rfl, by decide, _, rfl, rfl⟩
theorem is_nil (w : World) : Is pQ w [.slice none 0 0] [] := is_slice_none (Nat.zero_le _)
theorem below_of_drewN {w w' : World} (h : ∃ n, w' = w.drewN n) : Below w.heap.size w w' := by
  obtain ⟨n, rfl⟩ := h; exact below_drewN (Below.refl _ _) n

/-- What the examples keep: the shape. -/
structure ShI (w W : World) : Prop where
  f : W.heap[w.heap.size]? = some (.cells #[.int .i64 8, .bool false] 42 (0, 0))
  s : W.heap[w.heap.size + 1]? = some (.cells #[.int .i64 2, .slice (some ⟨w.heap.size, 0, none⟩) 1 1] 24 (0, 0))
  b : Below w.heap.size w W
theorem ShI.next {w W W' : World} (h : ShI w W) (hb : Below W.heap.size W W') : ShI w W' :=
  ⟨(hb.block _ (blk_lt h.f)).trans h.f, (hb.block _ (blk_lt h.s)).trans h.s, h.b.trans (hb.mono h.b.size)⟩
theorem ShI.alloc {w W : World} (h : ShI w W) (o : Obj) : ShI w (W.alloc o) := h.next (below_one _ _)
theorem ShI.first (w : World) : ShI w ((w.alloc (.cells #[.int .i64 8, .bool false] 42)).alloc (.cells #[.int .i64 2, .slice (some ⟨w.heap.size, 0, none⟩) 1 1] 24)) := by
  refine ⟨?_, ?_, ((Below.refl _ _).alloc (Nat.le_refl _) _).alloc (by simp) _⟩
  · rw [Below.heap_alloc _ _ _ (by simp)]; exact heap_alloc_new _ _
  · have := heap_alloc_new (w.alloc (.cells #[.int .i64 8, .bool false] 42)) (.cells #[.int .i64 2, .slice (some ⟨w.heap.size, 0, none⟩) 1 1] 24)
    simpa using this
/-- Two literals of two numbers, laid behind one another. -/
theorem is_lits {w : World} (a b c d : Int) (n : Nat) (hn : w.heap.size = n) (h : ∀ x ∈ [a, b, c, d], (Lit.int .i64 x).wf = true) :
    Is pM ((w.alloc (.cells #[.int .i64 a, .int .i64 b] 2)).alloc (.cells #[.int .i64 c, .int .i64 d] 2)) [.slice (some ⟨n, 0, none⟩) 2 2] [a, b] ∧
    Is pM ((w.alloc (.cells #[.int .i64 a, .int .i64 b] 2)).alloc (.cells #[.int .i64 c, .int .i64 d] 2)) [.slice (some ⟨n + 1, 0, none⟩) 2 2] [c, d] := by
  subst hn
  constructor
  · refine is_lit (t := 2) (xs := [a, b]) rfl ?_ (fun x hx => h x (by simp at hx ⊢; rcases hx with rfl | rfl <;> simp)) (by unfold maxLen; decide)
    rw [Below.heap_alloc _ _ _ (by simp)]; exact heap_alloc_new w _
  · refine is_lit (t := 2) (xs := [c, d]) rfl ?_ (fun x hx => h x (by simp at hx ⊢; rcases hx with rfl | rfl <;> simp)) (by unfold maxLen; decide)
    have := heap_alloc_new (w.alloc (.cells #[.int .i64 a, .int .i64 b] 2)) (.cells #[.int .i64 c, .int .i64 d] 2)
    simpa using this
theorem is_lit1 {w : World} (a : Int) (n : Nat) (hn : w.heap.size = n) (t : TypeId) (h : (Lit.int .i64 a).wf = true) : Is pM (w.alloc (.cells #[.int .i64 a] t)) [.slice (some ⟨n, 0, none⟩) 1 1] [a] := by
  subst hn
  exact is_lit (xs := [a]) rfl (heap_alloc_new _ _) (by simpa using h) (by unfold maxLen; decide)

set_option maxRecDepth 100000 in
set_option maxHeartbeats 2000000 in
theorem shown13 (w : World) :
    Calls Try.prog 4 #[] w fun e w' => e = .returned (.bool true) ∧ Below w.heap.size w w' := by
  have I0 := ShI.first w
  go_enter Try.func4, Try.ntmps4
  go_wp2_with fail
  obtain ⟨x1, x2⟩ := is_lits (w := ((w.alloc (.cells #[.int .i64 8, .bool false] 42)).alloc (.cells #[.int .i64 2, .slice (some ⟨w.heap.size, 0, none⟩) 1 1] 24))) 1 5 2 0 (w.heap.size + 2) (by simp) (by decide)
  refine (less_calls x1 x2).mono ?_; rintro e w1 ⟨rfl, hw1⟩
  have I1 := ((I0.alloc _).alloc _).next (below_of_drewN hw1)
  clear hw1 x1 x2 I0
  rw [show lessP [1, 5] [2, 0] = true by decide]
  go_wp2_with fail
  obtain ⟨x1, x2⟩ := is_lits (w := w1) 1 5 1 5 w1.heap.size rfl (by decide)
  refine (less_calls x1 x2).mono ?_; rintro e w2 ⟨rfl, hw2⟩
  have I2 := ((I1.alloc _).alloc _).next (below_of_drewN hw2)
  clear hw2 x1 x2 I1
  rw [show lessP [1, 5] [1, 5] = false by decide]
  have s0 : w2.cell? ⟨w.heap.size + 1, 0, none⟩ = some (.int .i64 2) := cell_of_blk I2.s rfl
  have s1 : w2.cell? ⟨w.heap.size + 1, 1, none⟩ = some (.slice (some ⟨w.heap.size, 0, none⟩) 1 1) := cell_of_blk I2.s rfl
  go_wp2_with fail
  refine (put_calls 2 0 false (is_t8 (I2.alloc _).f) (is_nil _) (is_lit1 300 w2.heap.size rfl _ (by decide)) ⟨by simp, by simp⟩ (by simp) (by simp)).mono ?_
  rintro e w3 ⟨⟨ov3, vs3, rfl, hq3⟩, hb3⟩
  have I3 := (I2.alloc _).next hb3
  rw [show putSh 2 [⟨8, false⟩] [] [300] 0 = 0 by rfl, show putE 2 [⟨8, false⟩] [] [300] = 0 by rfl]
  rw [show putQ 2 [⟨8, false⟩] [] [300] false = [[44]] by rfl] at hq3
  obtain ⟨o3, p3, rfl, _⟩ := own_one hq3.row
  have s0 : (w3.alloc (.cells #[.int .i64 0, .slice o3 1 p3] 27)).cell? ⟨w.heap.size + 1, 0, none⟩ = some (.int .i64 2) := cell_of_blk (I3.alloc _).s rfl
  have s1 : (w3.alloc (.cells #[.int .i64 0, .slice o3 1 p3] 27)).cell? ⟨w.heap.size + 1, 1, none⟩ = some (.slice (some ⟨w.heap.size, 0, none⟩) 1 1) := cell_of_blk (I3.alloc _).s rfl
  clear hb3 I2
  go_wp2_with fail
  refine (put_calls 2 0 true (is_t8 ((I3.alloc _).alloc _).f) ((hq3.is.alloc stays_Q _).alloc stays_Q _) (is_lit1 7 (w3.heap.size + 1) (by simp) _ (by decide)) ⟨by simp, by simp⟩ (by simp) (by simp)).mono ?_
  rintro e w4 ⟨⟨ov4, vs4, rfl, hq4⟩, hb4⟩
  have I4 := ((I3.alloc _).alloc _).next hb4
  rw [show putSh 2 [⟨8, false⟩] [[44]] [7] 0 = 0 by rfl, show putE 2 [⟨8, false⟩] [[44]] [7] = 0 by rfl]
  rw [show putQ 2 [⟨8, false⟩] [[44]] [7] true = [[7], [44]] by rfl] at hq4
  obtain ⟨o4, p4, rfl, _⟩ := own_one hq4.row
  have hqd := hq4.is
  have hD := heap_alloc_new w4 (.cells #[.int .i64 0, .slice o4 2 p4] 27)
  have s0 : (w4.alloc (.cells #[.int .i64 0, .slice o4 2 p4] 27)).cell? ⟨w.heap.size + 1, 0, none⟩ = some (.int .i64 2) := cell_of_blk (I4.alloc _).s rfl
  have s1 : (w4.alloc (.cells #[.int .i64 0, .slice o4 2 p4] 27)).cell? ⟨w.heap.size + 1, 1, none⟩ = some (.slice (some ⟨w.heap.size, 0, none⟩) 1 1) := cell_of_blk (I4.alloc _).s rfl
  clear hb4 I3 hq3 hq4
  go_wp2_with fail
  refine (put_calls 2 0 true (is_t8 ((I4.alloc _).alloc _).f) ((hqd.alloc stays_Q _).alloc stays_Q _) (is_lit1 7 (w4.heap.size + 1) (by simp) _ (by decide)) ⟨by simp, by simp⟩ (by simp) (by simp)).mono ?_
  rintro e w5 ⟨⟨ov5, vs5, rfl, hq5⟩, hb5⟩
  have I5 := ((I4.alloc _).alloc _).next hb5
  rw [show putSh 2 [⟨8, false⟩] [[7], [44]] [7] 0 = 0 by rfl, show putE 2 [⟨8, false⟩] [[7], [44]] [7] = 45 by rfl]
  rw [show putQ 2 [⟨8, false⟩] [[7], [44]] [7] true = [] by rfl] at hq5
  obtain ⟨o5, p5, rfl, _⟩ := own_one hq5.row
  have hqe := (((hqd.alloc stays_Q (.cells #[.int .i64 0, .slice o4 2 p4] 27)).alloc stays_Q (.cells #[.int .i64 7] 2)).below stays_Q hb5).alloc stays_Q (.cells #[.int .i64 0, .slice o5 0 p5] 27)
  have hDe : (w5.alloc (.cells #[.int .i64 0, .slice o5 0 p5] 27)).heap[w4.heap.size]? = some (.cells #[.int .i64 0, .slice o4 2 p4] 27 (0, 0)) := by
    have h1 : w5.heap[w4.heap.size]? = _ := (hb5.block _ (by simp; omega)).trans ((Below.heap_alloc _ _ _ (by simp)).trans hD)
    exact (Below.heap_alloc _ _ _ (blk_lt h1)).trans h1
  have d0 : (w5.alloc (.cells #[.int .i64 0, .slice o5 0 p5] 27)).cell? ⟨w4.heap.size, 0, none⟩ = some (.int .i64 0) := cell_of_blk hDe rfl
  have d1 : (w5.alloc (.cells #[.int .i64 0, .slice o5 0 p5] 27)).cell? ⟨w4.heap.size, 1, none⟩ = some (.slice o4 2 p4) := cell_of_blk hDe rfl
  clear hb5 I4 hq5 hqd hD
  go_wp2_with fail
  refine (find_calls 0 false ((hqe.alloc stays_Q _).alloc stays_Q _) ((is_lit1 44 (w5.heap.size + 1) (by simp) _ (by decide)).alloc stays_M _) (is_lit1 1 (w5.heap.size + 2) (by simp) _ (by decide))).mono ?_
  rintro e w6 ⟨rfl, hb6⟩
  have I6 := (((I5.alloc _).alloc _).alloc _).next hb6
  rw [show findP [44] [1] false 0 [[7], [44]] = -1 by rfl]
  have hqf := ((hqe.alloc stays_Q (.cells #[.int .i64 44] 2)).alloc stays_Q (.cells #[.int .i64 1] 3)).below stays_Q hb6
  have hDf : w6.heap[w4.heap.size]? = _ := (hb6.block _ (by have := blk_lt hDe; simp at this ⊢; omega)).trans ((Below.heap_alloc _ _ _ (by have := blk_lt hDe; simp at this ⊢; omega)).trans ((Below.heap_alloc _ _ _ (blk_lt hDe)).trans hDe))
  have d0 : w6.cell? ⟨w4.heap.size, 0, none⟩ = some (.int .i64 0) := cell_of_blk hDf rfl
  have d1 : w6.cell? ⟨w4.heap.size, 1, none⟩ = some (.slice o4 2 p4) := cell_of_blk hDf rfl
  clear hb6 I5 hqe hDe
  go_wp2_with fail
  refine (find_calls 0 true ((hqf.alloc stays_Q _).alloc stays_Q _) ((is_lit1 44 w6.heap.size rfl _ (by decide)).alloc stays_M _) (is_lit1 1 (w6.heap.size + 1) (by simp) _ (by decide))).mono ?_
  rintro e w7 ⟨rfl, hb7⟩
  have I7 := ((I6.alloc _).alloc _).next hb7
  rw [show findP [44] [1] true 0 [[7], [44]] = 1 by rfl]
  have hqg := ((hqf.alloc stays_Q (.cells #[.int .i64 44] 2)).alloc stays_Q (.cells #[.int .i64 1] 3)).below stays_Q hb7
  have hDg : w7.heap[w4.heap.size]? = _ := (hb7.block _ (by have := blk_lt hDf; simp; omega)).trans ((Below.heap_alloc _ _ _ (by have := blk_lt hDf; simp; omega)).trans ((Below.heap_alloc _ _ _ (blk_lt hDf)).trans hDf))
  have d0 : w7.cell? ⟨w4.heap.size, 0, none⟩ = some (.int .i64 0) := cell_of_blk hDg rfl
  have d1 : w7.cell? ⟨w4.heap.size, 1, none⟩ = some (.slice o4 2 p4) := cell_of_blk hDg rfl
  clear hb7 I6 hqf hDf
  go_wp2_with fail
  refine (take_calls 0 1 hqg ⟨by simp, by simp⟩ (by simp)).mono ?_
  rintro e w8 ⟨ov8, vs8, mv8, rfl, hq8, hm8, hb8⟩
  have I8 := I7.next hb8
  obtain ⟨o8, p8, rfl, _⟩ := own_one hq8.row
  obtain ⟨mo, mp, rfl, _, _, hmc⟩ := own_one hm8.row
  obtain ⟨mg, rfl, hmg, hmg2, hmc⟩ := hmc (by decide)
  have hm0 : w8.cell? ⟨mg, 0, none⟩ = some (.int .i64 44) := hmc 0 (by decide)
  have hqh := (hqg.below stays_Q hb8).alloc stays_Q (.cells #[.int .i64 0, .slice o8 1 p8] 27)
  have hDh : (w8.alloc (.cells #[.int .i64 0, .slice o8 1 p8] 27)).heap[w4.heap.size]? = _ := (Below.heap_alloc _ _ _ (Nat.lt_of_lt_of_le (blk_lt hDg) hb8.size)).trans ((hb8.block _ (blk_lt hDg)).trans hDg)
  have d0 : (w8.alloc (.cells #[.int .i64 0, .slice o8 1 p8] 27)).cell? ⟨w4.heap.size, 0, none⟩ = some (.int .i64 0) := cell_of_blk hDh rfl
  have d1 : (w8.alloc (.cells #[.int .i64 0, .slice o8 1 p8] 27)).cell? ⟨w4.heap.size, 1, none⟩ = some (.slice o4 2 p4) := cell_of_blk hDh rfl
  rw [show (cutAt ([[7], [44]] : List (List Int)) 1).length = 1 from rfl]
  clear hb8 I7 hqg hDg hmc
  go_wp2_with fail
  refine (take_none 0 2 hqh (.inr (by decide))).mono ?_
  rintro e w9 ⟨rfl, hb9⟩
  have I9 := (I8.alloc _).next hb9
  have hm9 : w9.cell? ⟨mg, 0, none⟩ = some (.int .i64 44) := (hb9.cell (p := ⟨mg, 0, none⟩) (by simp; omega)).trans (Lib.cell?_alloc_some _ hm0)
  have hm10 := Lib.cell?_alloc_some (.cells #[.int .i64 0, .slice none 0 0] 27) hm9
  have hml : (0 : Int) < (([[7], [44]] : List (List Int)).getD 1 []).length := by decide
  clear hqh hDh d0 d1 I8
  go_wp2
  go_ret
  exact ⟨by simp, (I9.alloc _).b⟩
end Go.Proofs.Ytiflenddalmfaaa
