/-
  The walks of layer 12's Numbers and SameChan, where both are the same; of layer 13's spoil.
-/
import Derived.Test.YtiflenddalmfaaaChMade
namespace Go.Proofs.Ytiflenddalmfaaa
open Go.RowKit

set_option maxHeartbeats 1000000 in
theorem numbers_same {w : World} {va vb : Value} {xs : List Int} (ha : Is pM w [va] xs) (hb : Is pM w [vb] xs) :
    Calls Try.prog 23 #[va, vb] w fun e w' => e = .returned (.bool true) ∧ ∃ n, w' = w.drewN n := by
  obtain ⟨ao, ca, rfl, ha1, ha2, _, ha3⟩ := is_ints ha
  obtain ⟨bo, cb, rfl, hb1, hb2, _, hb3⟩ := is_ints hb
  clear ha hb
  unfold maxLen at ha2 hb2
  go_enter Try.func23, Try.ntmps23
  go_wp2
  go_loopw [5] (fun i wr => ∃ k : Nat, k ≤ xs.length ∧ i = .int .i64 k ∧ ∃ n, wr = w.drewN n) (fun i _ => xs.length - (intOf i).toNat)
  case atStart => exact ⟨0, Nat.zero_le _, rfl, 0, rfl⟩
  case round =>
    obtain ⟨k, hk1, rfl, nq, rfl⟩ := hrel
    by_cases hx : k < xs.length
    · obtain ⟨b, off, rfl, hbl, hc⟩ := ha3 (by omega)
      obtain ⟨b', off', rfl, hbl', hc'⟩ := hb3 (by omega)
      have c1 := hc k hx
      have c2 := hc' k hx
      clear hc hc' ha3 hb3
      generalize xs.getD k 0 = z at *
      go_wp2
      go_quiet (fail)
      go_wp2
      go_roundw
      case rel => exact ⟨k + 1, by omega, by go_num, _, rfl⟩
      case measure => simp [intOf]; omega
    · clear ha3 hb3
      go_wp2
      go_ret
      exact ⟨rfl, _, rfl⟩

/-- A quiet call in a loop whose world has drawn already. -/
theorem quiet_on {P : Program} {f : FuncId} {args : Array Value} {w : World} {a n : Nat} {v : Value} (h : Calls P f args (w.drewN (a + n)) fun e w' => e = .returned v ∧ ∃ m, w' = (w.drewN (a + n)).drewN m) :
    Calls P f args (w.drewN (a + n)) fun e w'' => e = .returned v ∧ ∃ m, w'' = w.drewN (a + m) :=
  h.mono fun _ _ ⟨he, m, hm⟩ => ⟨he, n + m, by rw [hm, World.drewN_drewN, Nat.add_assoc]⟩
set_option maxRecDepth 100000 in
set_option maxHeartbeats 1000000 in
theorem same_same {w : World} {va vb : Value} {q : List (List Int)} (sh : Int) (ha : Is pQ w [va] q) (hb : Is pQ w [vb] q) :
    Calls Try.prog 8 #[.agg #[.int .i64 sh, va], .agg #[.int .i64 sh, vb]] w fun e w' => e = .returned (.bool true) ∧ Below w.heap.size w w' := by
  obtain ⟨ao, ca, rfl, ha1, ha2, ha3⟩ := is_slice1 ha
  obtain ⟨bo, cb, rfl, hb1, hb2, hb3⟩ := is_slice1 hb
  clear ha hb
  unfold maxLen at ha2 hb2
  generalize hw0 : (w.alloc (.cells #[.int .i64 sh, .slice ao q.length ca] 27)).alloc (.cells #[.int .i64 sh, .slice bo q.length cb] 27) = w0
  have hb0 : Below w.heap.size w w0 := by rw [← hw0]; exact ((Below.refl _ w).alloc (Nat.le_refl _) _).alloc (by simp) _
  have q0 : w0.heap[w.heap.size]? = some (.cells #[.int .i64 sh, .slice ao q.length ca] 27 (0, 0)) := by
    rw [← hw0, Below.heap_alloc _ _ _ (by simp)]; exact heap_alloc_new _ _
  have q1 : w0.heap[w.heap.size + 1]? = some (.cells #[.int .i64 sh, .slice bo q.length cb] 27 (0, 0)) := by
    have := heap_alloc_new (w.alloc (.cells #[.int .i64 sh, .slice ao q.length ca] 27)) (.cells #[.int .i64 sh, .slice bo q.length cb] 27)
    rw [← hw0]; simpa using this
  have HW := Lib.hid hw0
  clear hw0
  go_enter Try.func8, Try.ntmps8
  go_wp2
  rw [HW.out]
  go_loopw [5] (fun i wr => ∃ k : Nat, k ≤ q.length ∧ i = .int .i64 k ∧ ∃ n, wr = w0.drewN n) (fun i _ => q.length - (intOf i).toNat)
  case atStart => exact ⟨0, Nat.zero_le _, rfl, 0, rfl⟩
  case round =>
    obtain ⟨k, hk1, rfl, nq, rfl⟩ := hrel
    have c0 : w0.cell? ⟨w.heap.size, 1, none⟩ = some (.slice ao q.length ca) := cell_of_blk q0 rfl
    have c1 : w0.cell? ⟨w.heap.size + 1, 1, none⟩ = some (.slice bo q.length cb) := cell_of_blk q1 rfl
    by_cases hx : k < q.length
    · obtain ⟨b, off, rfl, hbl, hc⟩ := ha3 (by omega)
      obtain ⟨b', off', rfl, hbl', hc'⟩ := hb3 (by omega)
      obtain ⟨u, hu, hm⟩ := hc k q[k] (by simp [hx])
      obtain ⟨u', hu', hm'⟩ := hc' k q[k] (by simp [hx])
      rw [← hb0.cell (p := ⟨b, off + k, none⟩) hbl] at hu
      rw [← hb0.cell (p := ⟨b', off' + k, none⟩) hbl'] at hu'
      have HC := fun n => numbers_same ((hm.below stays_M hb0).drewN stays_M n) ((hm'.below stays_M hb0).drewN stays_M n)
      obtain ⟨uo, uc, rfl, _⟩ := is_ints hm
      obtain ⟨vo, vc, rfl, _⟩ := is_ints hm'
      clear hc hc' ha3 hb3
      go_wp2
      go_quiet ((go_at_call 23; exact quiet_on (HC _)))
      go_wp2
      go_roundw
      case rel => exact ⟨k + 1, by omega, by go_num, _, rfl⟩
      case measure => simp [intOf]; omega
    · clear ha3 hb3
      go_wp2
      go_ret
      exact ⟨rfl, below_drewN hb0 _⟩
end Go.Proofs.Ytiflenddalmfaaa
