/-
  Layer 13's Put as the document has it, a state's copy: on trees.
-/
import Derived.Test.YtiflenddalmfaaaCpR
import Derived.Test.YtiflenddalmfaaaChPutW
import Derived.IntWalk
namespace Go.Proofs.Ytiflenddalmfaaa
open Go.RowKit

theorem wrap_id {n : Int} (h1 : -9223372036854775808 ≤ n) (h2 : n ≤ 9223372036854775807) : IntKind.i64.wrap n = n := IntWalk.i64_in n ⟨h1, h2⟩
theorem getD_mem {α : Type} {l : List α} {i : Nat} {d : α} (h : i < l.length) : l.getD i d ∈ l := by simp [List.getD, h]
/-! ### Rows that are appended -/
theorem push_rows {α : Type} (enc : α → List VV) (d : α) (q : List α) (x : α) (T : Nat → List VV) (hT : T 0 = enc x) (i : Nat) (hi : i < (q ++ [x]).length) :
    (bif i.blt q.length then enc (q.getD i d) else T (i - q.length)) = enc ((q ++ [x]).getD i d) := by
  by_cases hiq : i < q.length
  · have hb : Nat.blt i q.length = true := Nat.ble_eq_true_of_le hiq
    rw [hb, cond_true]
    simp only [List.getD_eq_getElem?_getD, List.getElem?_append_left hiq]
  · have hiq' : i = q.length := by simp at hi; omega
    subst hiq'
    have hb : Nat.blt q.length q.length = false := by
      cases hq : Nat.blt q.length q.length with
      | true => have := Nat.le_of_ble_eq_true hq; omega
      | false => rfl
    rw [hb, cond_false, Nat.sub_self, hT]
    simp
theorem le_rows {α : Type} {fz : Bool} {sz : Nat} (enc : α → List VV) (d : α) (q : List α) (x : α) (T : Nat → List VV) (hT : T 0 = enc x) :
    VV.le (.sl fz (q.length + 1) sz fun i => bif i.blt q.length then enc (q.getD i d) else T (i - q.length)) (.sl fz (q ++ [x]).length sz fun i => enc ((q ++ [x]).getD i d)) := by
  have hn : q.length + 1 = (q ++ [x]).length := by simp
  rw [hn]
  exact VV.le_sl (.inl rfl) fun i hi => leL_eq (push_rows enc d q x T hT i hi)
theorem cond_lt {α : Type} {i n : Nat} {a b : α} (h : i < n) : (bif Nat.blt i n then a else b) = a := by
  have hb : Nat.blt i n = true := Nat.ble_eq_true_of_le h
  rw [hb, cond_true]
theorem cond_ge {α : Type} {i n : Nat} {a b : α} (h : n ≤ i) : (bif Nat.blt i n then a else b) = b := by
  have hb : Nat.blt i n = false := by
    cases hq : Nat.blt i n with
    | true => have := Nat.le_of_ble_eq_true hq; omega
    | false => rfl
  rw [hb, cond_false]
/-- One row more, however it is said. -/
theorem le_pushF {α : Type} {g sz : Nat} {F : Nat → List VV} (enc : α → List VV) (d : α) (q : List α) (x : α) (h1 : ∀ i, i < q.length → F i = enc (q.getD i d)) (h2 : F q.length = enc x) :
    Ob.le (.arr true g (q.length + 1) sz F) (.arr true g (q ++ [x]).length sz fun i => enc ((q ++ [x]).getD i d)) := by
  have hn : q.length + 1 = (q ++ [x]).length := by simp
  rw [hn]
  refine Ob.le_arr fun i hi => leL_eq ?_
  by_cases hiq : i < q.length
  · rw [h1 i hiq]
    simp only [List.getD_eq_getElem?_getD, List.getElem?_append_left hiq]
  · have hiq' : i = q.length := by simp at hi; omega
    subst hiq'
    rw [h2]; simp
/-- Two rows more. -/
theorem le_push2F {α : Type} {g sz : Nat} {F : Nat → List VV} (enc : α → List VV) (d : α) (q : List α) (x y : α) (h1 : ∀ i, i < q.length → F i = enc (q.getD i d)) (h2 : F q.length = enc x) (h3 : F (q.length + 1) = enc y) :
    Ob.le (.arr true g (q.length + 1 + 1) sz F) (.arr true g (q ++ [x] ++ [y]).length sz fun i => enc ((q ++ [x] ++ [y]).getD i d)) := by
  have hn : q.length + 1 = (q ++ [x]).length := by simp
  rw [hn]
  refine le_pushF enc d (q ++ [x]) y (fun i hi => ?_) (by rw [← hn]; exact h3)
  by_cases hiq : i < q.length
  · rw [h1 i hiq]
    simp only [List.getD_eq_getElem?_getD, List.getElem?_append_left hiq]
  · have hiq' : i = q.length := by simp at hi; omega
    subst hiq'
    rw [h2]; simp
/-! ### The contracts that were walked -/
theorem rtype_spec (t : D.Type) : VSpec Try.prog 21 [] [.agg [intV t.Bits, boolV t.Signed]] [] (boolV (typeP t)) := by
  refine VSpec.hand ⟨_, Try.func21, rfl, by kernel_rfl⟩ fun w E vs hA _ _ _ hs => ?_
  obtain ⟨u1, us1, rfl, v1, hs⟩ := hs.cons_inv
  obtain rfl := hs.nil_inv
  obtain ⟨a, b, rfl, ha, hb⟩ := V.agg2_inv v1
  rw [ha.sc_inv, hb.sc_inv]
  refine (rtype_calls t w).mono ?_
  rintro e w' ⟨rfl, h⟩
  exact ⟨_, rfl, .sc, h⟩
theorem rfit_spec (t : D.Type) (v : Int) : VSpec Try.prog 22 [] [.agg [intV t.Bits, boolV t.Signed], intV v] [] (intV (fitP t.Bits t.Signed v)) := by
  refine VSpec.hand ⟨_, Try.func22, rfl, by kernel_rfl⟩ fun w E vs hA _ _ _ hs => ?_
  obtain ⟨u1, us1, rfl, v1, hs⟩ := hs.cons_inv
  obtain ⟨u2, us2, rfl, v2, hs⟩ := hs.cons_inv
  obtain rfl := hs.nil_inv
  obtain ⟨a, b, rfl, ha, hb⟩ := V.agg2_inv v1
  rw [ha.sc_inv, hb.sc_inv, v2.sc_inv]
  refine (rfit t.Bits v t.Signed w).mono ?_
  rintro e w' ⟨rfl, h⟩
  exact ⟨_, rfl, .sc, h⟩
theorem rless_spec {x y : List Int} (h1 : WfM x) (h2 : WfM y) : VSpec Try.prog 11 [] [encM true x, encM true y] [] (boolV (lessP x y)) := by
  refine VSpec.hand ⟨_, Try.func11, rfl, by kernel_rfl⟩ fun w E vs hA _ _ _ hs => ?_
  obtain ⟨u1, us1, rfl, v1, hs⟩ := hs.cons_inv
  obtain ⟨u2, us2, rfl, v2, hs⟩ := hs.cons_inv
  obtain rfl := hs.nil_inv
  refine (rless_calls (is_of_M v1 h1) (is_of_M v2 h2)).mono ?_
  rintro e w' ⟨rfl, n, rfl⟩
  exact ⟨_, rfl, .sc, below_drewN (Below.refl _ _) n⟩
/-! ### A state's copy -/
theorem copy_spec {sh : Int} {q : List (List Int)} (hs : Small q) : VSpec Try.prog 14 [] [.agg [.nl, .sl false 1 2 fun _ => [intV sh, encQ q], .nl, intV 0, intV 0, intV 0]] [] (encSt true sh q) := by
  have hs1 := hs.1
  refine vspec_raw tb_ok mixed Try.func14 (by kernel_rfl) rfl (copy_raw sh q) ⟨by omega, ?_⟩
  refine loop_raw tb_ok mixed (fun g st => (g = 1 ∧ st = stC1 sh q 0 0) ∨ (g = 0 ∧ st = stC1 sh q 1 1)) (by kernel_rfl) (by kernel_rfl) ⟨1, Up.cv (Cv.ownBox 2 1 2 (rowsC sh q) rfl rfl) (Up.of (.inl ⟨rfl, rfl⟩))⟩ ?_
  rintro g st (⟨rfl, rfl⟩ | ⟨rfl, rfl⟩)
  · refine Asks.raw (copy1_raw sh q 0 _) ⟨fun _ => ⟨⟨by omega, by omega⟩, ?_⟩, fun h => by simp at h⟩
    refine loop_raw tb_ok mixed (fun g st => ∃ k : Nat, k ≤ q.length ∧ g = q.length - k ∧ st = stC2 sh q (q.take k) k) (by kernel_rfl) (by kernel_rfl) ⟨_, Up.cv (Cv.ownBox 5 1 1 (rowsQ []) rfl rfl) (Up.of ⟨0, Nat.zero_le _, rfl, rfl⟩)⟩ ?_
    rintro g st ⟨k, hk, rfl, rfl⟩
    have htl : (q.take k).length = k := by simp; omega
    refine Asks.raw (copy2_raw sh q (q.take k) k _ _) ⟨⟨by omega, by omega⟩, fun hlt => ?_, fun hge => ⟨by omega, ?_⟩⟩
    · have hlt' : k < q.length := by
        have := of_decide_eq_true hlt
        omega
      have hto : (k : Int).toNat = k := by omega
      rw [hto, wrap_id (by omega) (by omega), show ((k : Int) + 1) = ((k + 1 : Nat) : Int) by omega]
      have hm := hs.2 (q.getD k []) (getD_mem hlt')
      have htk : q.take (k + 1) = q.take k ++ [q.getD k []] := by
        rw [List.take_add_one, List.getElem?_eq_getElem hlt']; simp [List.getD, hlt']
      refine ⟨⟨by omega, by omega⟩, ⟨by omega, by omega⟩, hm, fun i _ => rfl, by rw [htl]; omega, q.length - (k + 1), by omega, Up.mk (l' := [(1, .bp 0 0), (2, .bp 1 0), (3, .bp 2 0), (4, intV 0), (5, .bp 5 0), (6, intV ((k + 1 : Nat) : Int))])
        (hs' := [boxS sh q, boxZ, .box [.ow 3 0 0, .ow 4 0 0, .nl, intV 0, intV 0, intV 0], .arr true 0 0 1 noRows, .arr true 0 0 2 (rowsC sh q), .box [intV sh, .ow 6 0 (q.take (k + 1)).length], .arr true 0 (q.take (k + 1)).length 1 (rowsQ (q.take (k + 1)))]) (leT_refl _) ?_ ⟨k + 1, by omega, rfl, rfl⟩⟩
      rw [htk]
      exact ⟨Ob.le_refl _, Ob.le_refl _, Ob.le_refl _, Ob.le_refl _, Ob.le_refl _, Ob.le_box ⟨VV.le_refl _, VV.le_eq (by simp), trivial⟩, le_pushF (fun m => [encM true m]) [] (q.take k) (q.getD k []) (fun i hi => cond_lt hi) ((cond_ge (Nat.le_refl _)).trans (by simp only [Nat.sub_self]; rfl)), trivial⟩
    · have hge' : q.length ≤ k := by
        have := of_decide_eq_false hge
        omega
      rw [List.take_of_length_le hge']
      refine ⟨0, by omega, Up.mk (l' := [(1, .bp 0 0), (2, .bp 1 0), (3, .bp 2 0), (4, intV 1)]) (hs' := [boxS sh q, boxZ, .box [.ow 3 0 0, .ow 4 0 1, .nl, intV 0, intV 0, intV 0], .arr true 0 0 1 noRows, .arr true 0 1 2 (rowsC sh q)]) (leT_refl _) ?_ (.inr ⟨rfl, rfl⟩)⟩
      refine ⟨Ob.le_refl _, Ob.le_refl _, Ob.le_refl _, Ob.le_refl _, Ob.le_arr fun i hi => leL_eq ?_, trivial⟩
      obtain rfl : i = 0 := by omega
      rfl
  · refine Asks.raw (copy1b_raw sh q _) ⟨fun h => by simp at h, fun _ => ?_⟩
    refine loop_raw tb_ok mixed (fun _ st => st = stC3 sh q) (by kernel_rfl) (by kernel_rfl) ⟨0, Up.of rfl⟩ ?_
    rintro g st rfl
    refine Asks.raw (copy3_raw sh q _) ⟨fun h => by simp at h, fun _ => ⟨trivial, ?_⟩⟩
    exact VV.le_agg ⟨VV.le_refl _, VV.le_refl _, VV.le_nil, VV.le_refl _, VV.le_refl _, VV.le_refl _, trivial⟩
theorem copied_spec {sh : Int} {q : List (List Int)} (hs : Small q) : VSpec Try.prog 5 [] [encChan sh q] [] (encChan sh q) := by
  refine vspec_raw tb_ok mixed Try.func5 (by kernel_rfl) rfl (copied_raw sh q) ⟨(sh, q), (copy_spec hs).le trivial ⟨VV.le_agg ⟨VV.le_refl _, VV.le_sl (.inl rfl) fun i hi => leL_eq ?_, VV.le_refl _, VV.le_refl _, VV.le_refl _, VV.le_refl _, trivial⟩, trivial⟩ trivial (VV.le_refl _), ⟨by omega, by omega⟩, trivial, VV.le_refl _⟩
  obtain rfl : i = 0 := by omega
  rfl
end Go.Proofs.Ytiflenddalmfaaa
