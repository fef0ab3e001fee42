/-
  slices.Clone of numbers, said of trees.
-/
import Derived.Test.YthmhbmikcdfkcaaDoorGpD
import Derived.Test.YthmhbmikcdfkcaaDoorTouch
import Derived.BigRegion
import Derived.Deep.RegionLaw
import Derived.Deep.AppendLies
import Derived.Lib.SliceRun
import Derived.Lib.Hide
namespace Go.Proofs.YthmhbmikcdfkcaaDoor
open Go.RowKit

theorem info_parts' {P : Program} {t : TypeId} {z : Value} {s b : Nat} (h : (P.info? t).map (fun i => (i.zero, i.size, i.bytes)) = some (some z, s, b)) : ∃ i, P.info? t = some i ∧ i.zero = some z ∧ i.size = s ∧ i.bytes = b := by
  cases hi : P.info? t with
  | none => rw [hi] at h; cases h
  | some i => rw [hi] at h; simp only [Option.map_some, Option.some.injEq, Prod.mk.injEq] at h; exact ⟨i, rfl, h⟩
theorem info_i64 : (Tryd.prog.info? 2).map (fun i => (i.zero, i.size, i.bytes)) = some (some (.int .i64 0), 1, 8) := by kernel_rfl
theorem own_one {w : World} {n0 : Nat} {e : TypeId} {v : Value} {n : Nat} {xs : List Value} (h : w.ownsRow n0 e 1 v n xs) :
    ∃ ao cap, v = .slice ao n cap ∧ n ≤ cap ∧ cap ≤ maxLen ∧ (0 < n → ∃ g, ao = some ⟨g, 0, none⟩ ∧ n0 ≤ g ∧ g < w.heap.size ∧ ∀ j, j < n → w.cell? ⟨g, j, none⟩ = xs[j]?) := by
  rcases h.2 with ⟨rfl, rfl⟩ | ⟨g, cap, cur, rfl, hb, hg, h1, h2, _⟩
  · exact ⟨none, 0, rfl, Nat.le_refl _, Nat.zero_le _, fun h => by omega⟩
  · exact ⟨_, cap, rfl, h1, h2, fun _ => ⟨g, rfl, hb, blk_lt hg, fun j hj => h.cellAt j (by omega)⟩⟩
theorem v_of_row {w : World} {E : Prot} {m : Option Phi} {n0 : Nat} {v : Value} {xs : List Int} (h : w.ownsRow n0 2 1 v xs.length (xs.map (Value.int .i64))) (hA : ∀ k, E.fz k → k < n0) : V w E m (encL_Int true xs) v := by
  obtain ⟨ao, cap, rfl, h1, h2, h3⟩ := own_one h
  refine V.sl_mk h1 h2 fun hp => ?_
  obtain ⟨g, rfl, hg, hlt, hc⟩ := h3 hp
  refine ⟨g, 0, rfl, hlt, fun hk => by have := hA g hk; omega, fun i _ => rfl, fun i _ => .int .i64 (xs.getD i 0), fun i j y hi hy => ?_, fun i j y hi hy => ?_⟩
  · match j, hy with
    | 0, _ =>
      have := hc i hi
      simp only [Nat.zero_add, Nat.mul_one, Nat.add_zero]
      rw [this]; simp [List.getD, hi]
    | j + 1, hy => simp at hy
  · match j, hy with
    | 0, hy => simp only [List.getElem?_cons_zero, Option.some.injEq] at hy; subst hy; exact .sc
    | j + 1, hy => simp at hy
set_option maxHeartbeats 1000000 in
theorem clone_calls {w : World} {ao : Option Addr} {cap : Nat} {xs : List Int} (h1 : xs.length ≤ cap) (h2 : cap ≤ maxLen) (hr : xs.length * 8 ≤ 140737488355328) (h3 : 0 < xs.length → ∃ a, ao = some a ∧ ∀ i, i < xs.length → w.cell? (a.add i) = some (.int .i64 (xs.getD i 0))) :
    Calls Tryd.prog 44 #[.slice ao xs.length cap] w fun e w' => ∃ v', e = .returned v' ∧ w'.ownsRow w.heap.size 2 1 v' xs.length (xs.map (Value.int .i64)) ∧ Below w.heap.size w w' := by
  have q22 : ∀ (w : World) (a : Option Addr) (n c n' c' : Nat), (binOp .eql 22 (.slice a n c) (.slice none n' c')).run Tryd.prog w = .ok (.bool a.isNone) w := fun w a n c n' c' => Lib.run_eql_slice_nil w _ _ a n c n' c' Tryd.underlying22
  obtain ⟨ki, khi, khz0, khz1, khz2⟩ := info_parts' info_i64
  cases ao with
  | none =>
    have h0 : xs = [] := by
      apply List.eq_nil_of_length_eq_zero
      apply Classical.byContradiction
      intro hp
      obtain ⟨_, e, _⟩ := h3 (by omega)
      cases e
    subst h0
    clear h3
    go_enter Tryd.func44, Tryd.ntmps44
    go_wp2
    go_ret
    exact ⟨_, rfl, World.ownsRow_nil _ _ _ _, Below.refl _ _⟩
  | some a =>
    have hn : ∀ (j : Nat) (u : Value), (xs.map (Value.int .i64))[j]? = some u → w.cell? (a.add j) = some u := by
      intro j u hj
      have hjl : j < xs.length := by have := (List.getElem?_eq_some_iff.1 hj).1; simpa using this
      obtain ⟨a', e, hc⟩ := h3 (by omega)
      simp only [Option.some.injEq] at e
      subst e
      rw [hc j hjl, ← hj]; simp [List.getD, hjl]
    have HN := Lib.hid hn
    clear h3 hn
    have hlen := h2
    unfold maxLen at hlen
    go_enter Tryd.func44, Tryd.ntmps44
    go_wp2_with (at_builtin; refine wpList_append_own _ rfl _ _ 22 rfl w.heap.size 2 ki (.int .i64 0) 1 8 Tryd.underlying22 khi khz0 khz1 khz2 rfl (by decide) _ _ _ rfl (World.ownsRow_made w #[] 0 (Nat.le_refl _) (Nat.zero_le _) (by simp)) a xs.length cap (xs.map (Value.int .i64)) rfl ?qc1 ?qc2 ?qc3 ?qc4 ?qc5 ?qc6 ?_)
    case qc1 => simp
    case qc2 => intro j u hj; have := HN.out j u hj; exact Lib.cell?_alloc_some _ this
    case qc3 => intro u hu; simp at hu; obtain ⟨x, _, rfl⟩ := hu; rfl
    case qc4 => unfold maxLen; omega
    case qc5 => omega
    case qc6 => simp
    intro v' w1 hown hgrow _
    go_wp2
    go_ret
    exact ⟨v', rfl, by simpa using hown, ((Below.refl _ w).alloc (Nat.le_refl _) _).grown hgrow (by simp) (by intro k hk; simp [Value.ownBlock] at hk; omega)⟩
theorem clone_spec {xs : List Int} (hr : xs.length * 8 ≤ 140737488355328) : VSpec Tryd.prog 44 [] [encL_Int true xs] [] (encL_Int true xs) := by
  refine VSpec.hand ⟨_, Tryd.func44, rfl, by kernel_rfl⟩ fun w E vs hA hL _ _ hs => ?_
  obtain ⟨u1, us1, rfl, v1, hs⟩ := hs.cons_inv
  obtain rfl := hs.nil_inv
  obtain ⟨ao, cap, rfl, h1, h2, h3⟩ := V.sl_inv v1
  refine (clone_calls h1 h2 hr fun hp => ?_).mono ?_
  · obtain ⟨b, off, rfl, _, _, _, u, hc, hv⟩ := h3 hp
    refine ⟨_, rfl, fun i hi => ?_⟩
    have c1 := hc i 0 _ hi rfl
    have c2 := (hv i 0 _ hi rfl).sc_inv
    rw [Addr.add_lit]
    rw [c2] at c1
    simpa using c1
  · rintro e w' ⟨v', rfl, ho, hb⟩
    exact ⟨v', rfl, v_of_row ho hA, hb⟩
end Go.Proofs.YthmhbmikcdfkcaaDoor
