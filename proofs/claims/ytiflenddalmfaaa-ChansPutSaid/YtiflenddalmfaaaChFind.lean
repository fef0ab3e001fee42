/-
  The walks of layer 13's matches and Find.
-/
import Derived.Test.YtiflenddalmfaaaChMsg
namespace Go.Proofs.Ytiflenddalmfaaa
open Go.RowKit

/-- Is a place one at which a message must agree, and does not? -/
def missAt (m want mt : List Int) (i : Nat) : Bool := mt.getD i 0 == 1 && m.getD i 0 != want.getD i 0
/-- Does a message match? -/
def matchP (m want mt : List Int) : Bool := decide (mt.length ≤ m.length) && decide (mt.length ≤ want.length) && (List.range mt.length).all fun i => !missAt m want mt i
theorem matchP_yes {m want mt : List Int} (h1 : mt.length ≤ m.length) (h2 : mt.length ≤ want.length) (h : ∀ i, i < mt.length → missAt m want mt i = false) : matchP m want mt = true := by
  simp only [matchP, h1, h2, decide_true, Bool.true_and, List.all_eq_true, List.mem_range]
  intro i hi; rw [h i hi]; rfl
theorem matchP_no {m want mt : List Int} {i : Nat} (hi : i < mt.length) (h : missAt m want mt i = true) : matchP m want mt = false := by
  cases hm : matchP m want mt with
  | false => rfl
  | true =>
    simp only [matchP, Bool.and_eq_true, List.all_eq_true, List.mem_range] at hm
    have := hm.2 i hi
    rw [h] at this; cases this

set_option maxHeartbeats 1000000 in
theorem matches_calls {w : World} {mv wv tv : Value} {m want mt : List Int} (hm : Is pM w [mv] m) (hw : Is pM w [wv] want) (ht : Is pM w [tv] mt) :
    Calls Try.prog 24 #[mv, wv, tv] w fun e w' => e = .returned (.bool (matchP m want mt)) ∧ ∃ n, w' = w.drewN n := by
  obtain ⟨mo, mc, rfl, hm1, hm2, _, hm3⟩ := is_ints hm
  obtain ⟨wo, wc, rfl, hw1, hw2, _, hw3⟩ := is_ints hw
  obtain ⟨to, tc, rfl, ht1, ht2, _, ht3⟩ := is_ints ht
  clear hm hw ht
  unfold maxLen at hm2 hw2 ht2
  by_cases h1 : mt.length ≤ m.length
  · have d1 : decide ((m.length : Int) < (mt.length : Int)) = false := by simp; omega
    by_cases h2 : mt.length ≤ want.length
    · have d2 : decide ((want.length : Int) < (mt.length : Int)) = false := by simp; omega
      go_enter Try.func24, Try.ntmps24
      go_wp2
      go_loopw [23] (fun i wr => ∃ k : Nat, k ≤ mt.length ∧ i = .int .i64 k ∧ (∀ j, j < k → missAt m want mt j = false) ∧ ∃ n, wr = w.drewN n) (fun i _ => mt.length - (intOf i).toNat)
      case atStart => exact ⟨0, Nat.zero_le _, rfl, fun j h => by omega, 0, rfl⟩
      case round =>
        obtain ⟨k, hk, rfl, hs, nq, rfl⟩ := hrel
        by_cases hlt : k < mt.length
        · obtain ⟨b1, o1, rfl, _, c1⟩ := hm3 (by omega)
          obtain ⟨b2, o2, rfl, _, c2⟩ := hw3 (by omega)
          obtain ⟨b3, o3, rfl, _, c3⟩ := ht3 (by omega)
          have e1 := c1 k (by omega)
          have e2 := c2 k (by omega)
          have e3 := c3 k hlt
          have x1 : (k : Int) < (m.length : Int) := by omega
          have x2 : (k : Int) < (want.length : Int) := by omega
          have x3 : (k : Int) < (mt.length : Int) := by omega
          by_cases hq : mt.getD k 0 = 1
          · by_cases he : m.getD k 0 = want.getD k 0
            · have HS : Hid (∀ j, j < k + 1 → missAt m want mt j = false) := fun j hj => by
                by_cases e : j = k
                · subst e; unfold missAt; rw [he]; simp
                · exact hs j (by omega)
              rw [hq] at e3
              rw [← he] at e2
              clear hs c1 c2 c3 hm3 hw3 ht3 hq he
              generalize m.getD k 0 = z at *
              go_wp2_with fail
              go_quiet (fail)
              go_wp2
              go_roundw
              case rel => exact ⟨k + 1, by omega, by go_num, HS.out, _, rfl⟩
              case measure => simp [intOf]; omega
            · have HN := Lib.hid (matchP_no (m := m) (want := want) (mt := mt) hlt (by unfold missAt; rw [hq]; simpa using he))
              have hne : (m.getD k 0 != want.getD k 0) = true := by simpa using he
              rw [hq] at e3
              clear hs c1 c2 c3 hm3 hw3 ht3 hq he
              generalize m.getD k 0 = z at *
              generalize want.getD k 0 = z' at *
              go_wp2_with fail
              go_quiet (fail)
              go_wp2
              go_ret
              exact ⟨by rw [HN.out]; rfl, _, World.drewN_drewN _ _ _⟩
          · have HS : Hid (∀ j, j < k + 1 → missAt m want mt j = false) := fun j hj => by
              by_cases e : j = k
              · subst e; unfold missAt; rw [show (mt.getD j 0 == 1) = false by simpa using hq]; rfl
              · exact hs j (by omega)
            have hq' : (mt.getD k 0 == 1) = false := by simpa using hq
            clear hs c1 c2 c3 hm3 hw3 ht3 hq
            generalize m.getD k 0 = z at *
            generalize want.getD k 0 = z' at *
            generalize mt.getD k 0 = z'' at *
            go_wp2_with fail
            go_quiet (fail)
            go_wp2
            go_roundw
            case rel => exact ⟨k + 1, by omega, by go_num, HS.out, _, rfl⟩
            case measure => simp [intOf]; omega
        · obtain rfl : k = mt.length := by omega
          have HN := Lib.hid (matchP_yes h1 h2 hs)
          clear hs hm3 hw3 ht3
          go_wp2
          go_ret
          exact ⟨by rw [HN.out]; rfl, _, rfl⟩
    · have d2 : decide ((want.length : Int) < (mt.length : Int)) = true := by simp; omega
      have HN : Hid (matchP m want mt = false) := by unfold Hid matchP; simp [h2]
      have h2' : want.length < mt.length := by omega
      clear hm3 hw3 ht3 h2
      go_enter Try.func24, Try.ntmps24
      go_wp2
      go_ret
      exact ⟨by rw [HN.out]; rfl, 0, rfl⟩
  · have d1 : decide ((m.length : Int) < (mt.length : Int)) = true := by simp; omega
    have HN : Hid (matchP m want mt = false) := by unfold Hid matchP; simp [h1]
    have h1' : m.length < mt.length := by omega
    clear hm3 hw3 ht3 h1
    go_enter Try.func24, Try.ntmps24
    go_wp2
    go_ret
    exact ⟨by rw [HN.out]; rfl, 0, rfl⟩

/-- The place of the message that is received. -/
def findP (want mt : List Int) (whichever : Bool) : Nat → List (List Int) → Int
  | _, [] => -1
  | k, y :: r => if matchP y want mt then k else if whichever then findP want mt whichever (k + 1) r else -1
theorem findP_at (want mt : List Int) (k j : Nat) (q : List (List Int)) (y : List Int) (h : q[k]? = some y) : findP want mt true j (q.drop k) = if matchP y want mt then (j : Int) else findP want mt true (j + 1) (q.drop (k + 1)) := by
  obtain ⟨hk, rfl⟩ := List.getElem?_eq_some_iff.1 h
  rw [List.drop_eq_getElem_cons hk, findP]
  simp
set_option maxHeartbeats 1000000 in
theorem find_calls {w : World} {qv wv tv : Value} {q : List (List Int)} {want mt : List Int} (sh : Int) (whichever : Bool) (hq : Is pQ w [qv] q) (hw : Is pM w [wv] want) (ht : Is pM w [tv] mt) :
    Calls Try.prog 12 #[.agg #[.int .i64 sh, qv], wv, tv, .bool whichever] w fun e w' => e = .returned (.int .i64 (findP want mt whichever 0 q)) ∧ Below w.heap.size w w' := by
  obtain ⟨qo, qc, rfl, h1, h2, h3⟩ := is_slice1 hq
  obtain ⟨wo, wc, rfl, _⟩ := is_ints hw
  obtain ⟨to, tc, rfl, _⟩ := is_ints ht
  unfold maxLen at h2
  go_enter Try.func12, Try.ntmps12
  go_wp2
  go_loopw [14] (fun i wr => ∃ k : Nat, k ≤ q.length ∧ i = .int .i64 k ∧ findP want mt whichever 0 q = findP want mt whichever k (q.drop k) ∧ (k = 0 ∨ whichever = true) ∧ Below w.heap.size w wr) (fun i _ => q.length - (intOf i).toNat)
  case atStart => exact ⟨0, Nat.zero_le _, rfl, rfl, .inl rfl, below_one _ _⟩
  case round =>
    obtain ⟨k, hk, rfl, hs, hk0, hb⟩ := hrel
    by_cases hlt : k < q.length
    · obtain ⟨b, off, rfl, hbl, hc⟩ := h3 (by omega)
      have HQ : q[k]? = some q[k] := by simp [hlt]
      obtain ⟨u, hu, hm⟩ := hc k q[k] HQ
      rw [← hb.cell (p := ⟨b, off + k, none⟩) hbl] at hu
      have HC := matches_calls (hm.below stays_M hb) (hw.below stays_M hb) (ht.below stays_M hb)
      have e0 : findP want mt whichever k (q.drop k) = if matchP q[k] want mt then (k : Int) else if whichever then findP want mt whichever (k + 1) (q.drop (k + 1)) else -1 := by
        rw [List.drop_eq_getElem_cons hlt, findP]
      rw [e0] at hs
      clear hc h3 hq e0 HQ
      generalize q[k] = m at *
      cases hmt : matchP m want mt with
      | true =>
        rw [hmt] at HC hs
        have HS := Lib.hid hs
        clear hs hmt
        go_wp2_with (go_at_call 24; refine HC.mono ?_; rintro e w1 ⟨rfl, n1, rfl⟩)
        go_ret
        exact ⟨by rw [HS.out]; rfl, below_drewN hb _⟩
      | false =>
        rw [hmt] at HC hs
        have HS := Lib.hid hs
        clear hs hmt
        cases whichever with
        | true =>
          have HS2 : findP want mt true 0 q = findP want mt true (k + 1) (q.drop (k + 1)) := by have := HS.out; simpa using this
          have HS2 := Lib.hid HS2
          clear HS
          go_wp2_with (go_at_call 24; refine HC.mono ?_; rintro e w1 ⟨rfl, n1, rfl⟩)
          go_roundw
          case rel => exact ⟨k + 1, by omega, by go_num, HS2.out, .inr trivial, below_drewN hb _⟩
          case measure => simp [intOf]; omega
        | false =>
          have HS2 : findP want mt false 0 q = -1 := by have := HS.out; simpa using this
          have HS2 := Lib.hid HS2
          clear HS
          go_wp2_with (go_at_call 24; refine HC.mono ?_; rintro e w1 ⟨rfl, n1, rfl⟩)
          go_ret
          exact ⟨by rw [HS2.out]; rfl, below_drewN hb _⟩
    · obtain rfl : k = q.length := by omega
      rw [List.drop_length, findP] at hs
      have HS := Lib.hid hs
      clear h3 hs
      go_wp2
      go_ret
      exact ⟨by rw [HS.out]; rfl, hb⟩
end Go.Proofs.Ytiflenddalmfaaa
