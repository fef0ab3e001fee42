/-
  Messages as they lie in memory; the walks of both Less.
-/
import Derived.Test.YtnodhjlpoaahbaaDataChans
import Derived.Test.YtnodhjlpoaahbaaChPlain
import Derived.Test.YtnodhjlpoaahbaaValFit
import Derived.Test.YtnodhjlpoaahbaaScope
import Derived.Test.YtnodhjlpoaahbaaTouch
import Derived.BigQuiet
import Derived.Deep.QuietTactic
import Derived.Lib.Hide
namespace Go.Proofs.Ytnodhjlpoaahbaa
open Go.RowKit

def pM : Pkg (List Int) := Pkg.slice 1 8 (Pkg.int .i64)
def pQ : Pkg (List (List Int)) := Pkg.slice 1 24 pM
theorem stays_M : Pkg.Stays pM := Pkg.stays_slice (Pkg.stays_int _)
theorem stays_Q : Pkg.Stays pQ := Pkg.stays_slice stays_M
set_option maxHeartbeats 400000 in
theorem less_calls {w : World} {va vb : Value} {xs ys : List Int} (ha : Is pM w [va] xs) (hb : Is pM w [vb] ys) :
    Calls Try.prog 26 #[va, vb] w fun e w' => e = .returned (.bool (lessP xs ys)) ∧ ∃ n, w' = w.drewN n := by
  obtain ⟨ao, ca, rfl, ha1, ha2, _, ha3⟩ := is_ints ha
  obtain ⟨bo, cb, rfl, hb1, hb2, _, hb3⟩ := is_ints hb
  clear ha hb
  unfold maxLen at ha2 hb2
  go_enter Try.func26, Try.ntmps26
  go_wp2
  go_step3
  go_wp2
  refine wp_label ?_
  rename_i K hK
  refine hK _ _ ?_
  clear hK K
  go_wp2
  go_loopw [5] (fun i wr => ∃ k : Nat, k ≤ xs.length ∧ k ≤ ys.length ∧ i = .int .i64 k ∧ (∀ j, j < k → xs.getD j 0 = ys.getD j 0) ∧ ∃ n, wr = w.drewN n) (fun i _ => xs.length - (intOf i).toNat)
  case atStart => exact ⟨0, Nat.zero_le _, Nat.zero_le _, rfl, fun j h => by omega, 0, rfl⟩
  case round =>
    obtain ⟨k, hk1, hk2, rfl, hs, nq, rfl⟩ := hrel
    by_cases hx : k < xs.length
    · by_cases hy : k < ys.length
      · obtain ⟨b, off, rfl, hbl, hc⟩ := ha3 (by omega)
        obtain ⟨b', off', rfl, hbl', hc'⟩ := hb3 (by omega)
        have c1 := hc k hx
        have c2 := hc' k hy
        by_cases he : xs.getD k 0 = ys.getD k 0
        · have HS : Hid (∀ j, j < k + 1 → xs.getD j 0 = ys.getD j 0) := fun j hj => by
            by_cases e : j = k
            · subst e; exact he
            · exact hs j (by omega)
          rw [← he] at c2
          clear hs hc hc' ha3 hb3 he
          generalize xs.getD k 0 = z at *
          go_wp2
          go_quiet (fail)
          go_wp2
          go_roundw
          case rel => exact ⟨k + 1, by omega, by omega, by go_num, HS.out, _, rfl⟩
          case measure => simp [intOf]; omega
        · have HL := Lib.hid (lessP_differ k xs ys hx hy hs he)
          have hne : (xs.getD k 0 != ys.getD k 0) = true := by simpa using he
          clear hs hc hc' ha3 hb3 he
          generalize xs.getD k 0 = z at *
          generalize ys.getD k 0 = z' at *
          go_wp2
          go_quiet (fail)
          go_wp2
          go_quiet (fail)
          go_wp2
          rw [Exit.noGoto_ret]
          go_ret
          exact ⟨by rw [HL.out]; rfl, _, World.drewN_drewN _ _ _⟩
      · have HL := Lib.hid (lessP_end k xs ys hk1 hk2 (.inr (by omega)) hs)
        clear hs ha3 hb3
        go_wp2
        rw [Exit.noGoto_ret]
        go_ret
        exact ⟨by rw [HL.out]; rfl, _, rfl⟩
    · have HL := Lib.hid (lessP_end k xs ys hk1 hk2 (.inl (by omega)) hs)
      clear hs ha3 hb3
      go_wp2
      rw [Exit.noGoto_ret]
      go_ret
      exact ⟨by rw [HL.out]; rfl, _, rfl⟩

set_option maxHeartbeats 400000 in
theorem rless_calls {w : World} {va vb : Value} {xs ys : List Int} (ha : Is pM w [va] xs) (hb : Is pM w [vb] ys) :
    Calls Try.prog 27 #[va, vb] w fun e w' => e = .returned (.bool (lessP xs ys)) ∧ ∃ n, w' = w.drewN n := by
  obtain ⟨ao, ca, rfl, ha1, ha2, _, ha3⟩ := is_ints ha
  obtain ⟨bo, cb, rfl, hb1, hb2, _, hb3⟩ := is_ints hb
  clear ha hb
  unfold maxLen at ha2 hb2
  go_enter Try.func27, Try.ntmps27
  go_wp2
  go_loopw [5] (fun i wr => ∃ k : Nat, k ≤ xs.length ∧ k ≤ ys.length ∧ i = .int .i64 k ∧ (∀ j, j < k → xs.getD j 0 = ys.getD j 0) ∧ ∃ n, wr = w.drewN n) (fun i _ => xs.length - (intOf i).toNat)
  case atStart => exact ⟨0, Nat.zero_le _, Nat.zero_le _, rfl, fun j h => by omega, 0, rfl⟩
  case round =>
    obtain ⟨k, hk1, hk2, rfl, hs, nq, rfl⟩ := hrel
    by_cases hx : k < xs.length
    · by_cases hy : k < ys.length
      · obtain ⟨b, off, rfl, hbl, hc⟩ := ha3 (by omega)
        obtain ⟨b', off', rfl, hbl', hc'⟩ := hb3 (by omega)
        have c1 := hc k hx
        have c2 := hc' k hy
        by_cases he : xs.getD k 0 = ys.getD k 0
        · have HS : Hid (∀ j, j < k + 1 → xs.getD j 0 = ys.getD j 0) := fun j hj => by
            by_cases e : j = k
            · subst e; exact he
            · exact hs j (by omega)
          rw [← he] at c2
          clear hs hc hc' ha3 hb3 he
          generalize xs.getD k 0 = z at *
          go_wp2
          go_quiet (fail)
          go_wp2
          go_roundw
          case rel => exact ⟨k + 1, by omega, by omega, by go_num, HS.out, _, rfl⟩
          case measure => simp [intOf]; omega
        · have HL := Lib.hid (lessP_differ k xs ys hx hy hs he)
          have hne : (xs.getD k 0 != ys.getD k 0) = true := by simpa using he
          clear hs hc hc' ha3 hb3 he
          generalize xs.getD k 0 = z at *
          generalize ys.getD k 0 = z' at *
          go_wp2
          go_quiet (fail)
          go_wp2
          go_quiet (fail)
          go_wp2
          go_ret
          exact ⟨by rw [HL.out]; rfl, _, (congrArg (World.drewN · _) (World.drewN_drewN _ _ _)).trans (World.drewN_drewN _ _ _)⟩
      · have HL := Lib.hid (lessP_end k xs ys hk1 hk2 (.inr (by omega)) hs)
        clear hs ha3 hb3
        go_wp2
        go_ret
        exact ⟨by rw [HL.out]; rfl, _, rfl⟩
    · have HL := Lib.hid (lessP_end k xs ys hk1 hk2 (.inl (by omega)) hs)
      clear hs ha3 hb3
      go_wp2
      go_ret
      exact ⟨by rw [HL.out]; rfl, _, rfl⟩

/-- May a type be? -/
def typeP (t : D.Type) : Bool := decide (1 ≤ t.Bits) && decide (t.Bits ≤ 32) && (!t.Signed || decide (t.Bits = 16) || decide (t.Bits = 32))
theorem typeP_right {t : D.Type} (h : typeP t = true) : 1 ≤ t.Bits ∧ t.Bits ≤ 32 := by
  simp only [typeP, Bool.and_eq_true, decide_eq_true_eq] at h; exact h.1
def tyV (t : D.Type) : Value := .agg #[.int .i64 t.Bits, .bool t.Signed]
theorem ret_bool {a b : Bool} (h : a = b) : Ending.returned (.bool a) = .returned (.bool b) := by rw [h]
set_option maxHeartbeats 400000 in
theorem gtype_calls (t : D.Type) (w : World) :
    Calls Try.prog 45 #[tyV t] w fun e w' => e = .returned (.bool (typeP t)) ∧ Below w.heap.size w w' := by
  obtain ⟨b, s⟩ := t
  unfold tyV
  go_enter Try.func45, Try.ntmps45
  go_wp2
  all_goals
    go_ret
    refine ⟨ret_bool ?_, below_one _ _⟩
    first
      | (simp [typeP, *]; done)
      | (rw [Bool.eq_iff_iff]; simp [typeP, *]; done)
      | (rw [Bool.eq_iff_iff]; simp [typeP, *]; omega)
set_option maxHeartbeats 400000 in
theorem rtype_calls (t : D.Type) (w : World) :
    Calls Try.prog 30 #[tyV t] w fun e w' => e = .returned (.bool (typeP t)) ∧ Below w.heap.size w w' := by
  obtain ⟨b, s⟩ := t
  unfold tyV
  go_enter Try.func30, Try.ntmps30
  go_wp2
  all_goals
    go_ret
    refine ⟨ret_bool ?_, below_one _ _⟩
    first
      | (simp [typeP, *]; done)
      | (rw [Bool.eq_iff_iff]; simp [typeP, *]; done)
      | (rw [Bool.eq_iff_iff]; simp [typeP, *]; omega)
end Go.Proofs.Ytnodhjlpoaahbaa
