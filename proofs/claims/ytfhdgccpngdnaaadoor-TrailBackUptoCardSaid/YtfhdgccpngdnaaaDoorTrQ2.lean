/-
  A search's end, as the program reads it.
-/
import Derived.Test.YtfhdgccpngdnaaaDoorTrQ
namespace Go.Proofs.YtfhdgccpngdnaaaDoor
open Go.RowKit

theorem read_spec {s : ByteArray} (hs : s.size ≤ 67108864) : VSpec Tryd.prog 8 [] [strV s] [] (.tup [.agg (encFd (parseT s).1), intV (parseT s).2.1, intV (parseT s).2.2]) := by
  refine vspec_raw tb_ok mixed Tryd.func8 (by kernel_rfl) rfl (pa_raw (parseT s).1 (parseT s).2.1 (parseT s).2.2 s) ?_
  have hx : ∀ i : Nat, VSpec Tryd.prog 15 [] [strV (s.extract i s.size), .sc (.int .u8 10)] [] (intV (Lib.indexByte (bs (s.extract i s.size)) 10)) := fun i => index_spec _ 10
  have hsz : ∀ i k : Nat, i + k < s.size → (s.extract i (i + k)).size ≤ 67108864 := fun i k h => by rw [ByteArray.size_extract]; omega
  refine scope_raw tb_ok mixed 0 (fun g st => ∃ (f : D.Found) (i : Nat) (due : Bool), At s f i false due ∧ g = s.size - i ∧ st = stPa s f i false due) (by kernel_rfl) (by kernel_rfl) (by kernel_rfl) (by kernel_rfl) ?_ ?_
  · refine Asks.raw (pa1_raw _ _ _ s _) ⟨fun h => ?_, fun _ => ⟨⟨by omega, by omega, by omega⟩, Lib.indexByte (bs (s.extract 0 s.size)) 10, hx 0, ?_⟩⟩
    · simp at h
    have hA := At.start s
    rcases line_at s 0 (Nat.zero_le _) with ⟨hy, hp⟩ | ⟨k, hy, hik, hu, hl⟩
    · rw [hy]
      refine ⟨fun _ => ⟨trivial, ?_⟩, fun h => by simp at h⟩
      exact le_zero 0 _ (hA.last hp (by simp))
    · rw [hy]
      have hk : ¬ (k : Int) < 0 := by omega
      have hw : IntKind.i64.wrap ((0 : Int) + (k : Int)) = ((0 + k : Nat) : Int) := by rw [wrap_id (by omega) (by omega)]; omega
      have hw2 : IntKind.i64.wrap ((0 : Int) + IntKind.i64.wrap ((k : Int) + 1)) = ((0 + k + 1 : Nat) : Int) := by rw [wrap_id (n := (k : Int) + 1) (by omega) (by omega), wrap_id (by omega) (by omega)]; omega
      rw [hw, hw2, show ((0 + k : Nat) : Int).toNat = 0 + k by omega, show Int.toNat (0 : Int) = 0 from rfl]
      obtain ⟨hno, hyes⟩ := hA.line hik hu hl
      rw [step_first] at hno hyes
      refine ⟨fun h => by simp at h; omega, fun _ => ⟨⟨by omega, by omega, by omega⟩, fun _ => ⟨numsR foundB 6 (s.extract 0 (0 + k)), nums_spec (many := 6) (hsz 0 k hik) (by decide), ?_⟩, fun h => by simp at h⟩⟩
      have hkt := kind_test (numsR foundB 6 (s.extract 0 (0 + k)))
      rw [show Int.toNat (0 : Int) = 0 from rfl] at hkt
      rw [hkt]
      rcases numsR_cases foundB 6 words_no.1 (s.extract 0 (0 + k)) with ⟨h1, h2⟩ | ⟨l, h1, h2, h3⟩
      · rw [h2]
        rw [h1] at hno
        exact ⟨fun h => by simp at h, fun h => by simp at h, fun _ => ⟨trivial, le_zero 0 _ (hno rfl)⟩, fun h => by simp at h⟩
      · rw [h3]
        rw [h1] at hno hyes
        refine ⟨fun _ => ⟨by omega, by simp only; omega⟩, fun _ => ⟨by omega, by simp only; omega⟩, fun h => ⟨trivial, le_zero 0 _ (hno ?_)⟩, fun h => ⟨⟨by omega, by simp only; omega⟩, ⟨by omega, by simp only; omega⟩, ⟨by omega, by simp only; omega⟩, ⟨by omega, by simp only; omega⟩, ⟨by omega, by simp only; omega⟩, ⟨by omega, by simp only; omega⟩, s.size - (0 + k + 1), ?_⟩⟩
        · simp only [Bool.true_and, Bool.not_eq_true'] at h
          simp only
          rw [if_neg (of_decide_eq_false h)]
        · simp only [Bool.true_and, Bool.not_eq_false'] at h
          have h' := of_decide_eq_true h
          simp only [if_pos h'] at hyes
          exact Up.cv (Cv.ownBox 1 4 7 (rowsMv []) rfl rfl) (Up.of ⟨⟨l.getD 0 0, l.getD 1 0, l.getD 2 0, l.getD 3 0, [], -1, l.getD 4 0, l.getD 5 0⟩, 0 + k + 1, false, hyes _ _ rfl (Nat.zero_le _), rfl, rfl⟩)
  · rintro g st ⟨f, i, due, hA, rfl, rfl⟩
    have hi := hA.le
    have hfl := hA.len
    have hdone : (bif bif ((i : Int) == (s.size : Int)) then !false else false then !due else false) = decide (i = s.size ∧ due = false) := by
      by_cases h : i = s.size
      · subst h; cases due <;> simp
      · have : ((i : Int) == (s.size : Int)) = false := by rw [beq_eq_false_iff_ne]; omega
        rw [this]; simp [h]
    refine Asks.raw (pa2_raw _ _ _ s f i false due _) ?_
    rw [hdone, show ((i : Int)).toNat = i by omega, show ((s.size : Int)).toNat = s.size by omega]
    refine ⟨fun h => ⟨trivial, ?_⟩, fun hnd => ⟨⟨by omega, by omega, by omega⟩, Lib.indexByte (bs (s.extract i s.size)) 10, hx i, ?_⟩⟩
    · obtain ⟨h1, rfl⟩ := of_decide_eq_true h
      exact le_found f _ (hA.done h1)
    rcases line_at s i hi with ⟨hy, hp⟩ | ⟨k, hy, hik, hu, hl⟩
    · rw [hy]
      refine ⟨fun _ => ⟨trivial, ?_⟩, fun h => by simp at h⟩
      exact le_zero i _ (hA.last hp fun h => of_decide_eq_false hnd ⟨h.1, h.2.2⟩)
    · rw [hy]
      have hw : IntKind.i64.wrap ((i : Int) + (k : Int)) = ((i + k : Nat) : Int) := by rw [wrap_id (by omega) (by omega)]; omega
      have hw2 : IntKind.i64.wrap ((i : Int) + IntKind.i64.wrap ((k : Int) + 1)) = ((i + k + 1 : Nat) : Int) := by rw [wrap_id (n := (k : Int) + 1) (by omega) (by omega), wrap_id (by omega) (by omega)]; omega
      rw [hw, hw2, show ((i + k : Nat) : Int).toNat = i + k by omega]
      obtain ⟨hno, hyes⟩ := hA.line hik hu hl
      rw [step_later] at hno hyes
      refine ⟨fun h => by simp at h; omega, fun _ => ⟨⟨by omega, by omega, by omega⟩, fun h => by simp at h, fun _ => ?_⟩⟩
      have hct := cyc_test (s.extract i (i + k)) f.Cycle
      refine ⟨fun h => ?_, fun h => ⟨numsR moveB 7 (s.extract i (i + k)), nums_spec (many := 7) (hsz i k hik) (by decide), ?_⟩⟩
      · have h' := of_decide_eq_true (hct.symm.trans h)
        rw [if_pos h'] at hyes
        exact ⟨s.size - (i + k + 1), by omega, Up.of ⟨_, i + k + 1, true, hyes _ _ rfl (Nat.le_succ _), rfl, rfl⟩⟩
      · have h' := of_decide_eq_false (hct.symm.trans h)
        rw [if_neg h'] at hno hyes
        rcases numsR_cases moveB 7 words_no.2.2.1 (s.extract i (i + k)) with ⟨h1, h2⟩ | ⟨l, h1, h2, h3⟩
        · rw [h2]
          rw [h1] at hno
          exact ⟨fun _ => ⟨trivial, le_zero i _ (hno rfl)⟩, fun h => by simp at h⟩
        · rw [h3]
          rw [h1] at hyes
          refine ⟨fun h => by simp at h, fun _ => ⟨⟨by omega, by simp only; omega⟩, ⟨by omega, by simp only; omega⟩, ⟨by omega, by simp only; omega⟩, ⟨by omega, by simp only; omega⟩, ⟨by omega, by simp only; omega⟩, ⟨by omega, by simp only; omega⟩, ⟨by omega, by simp only; omega⟩, by omega, s.size - (i + k + 1), by omega, ?_⟩⟩
          exact Up.mk (l' := [(0, strV s), (2, .bp 0 0), (5, .bp 1 0), (6, intV ((i + k + 1 : Nat) : Int)), (7, boolV false), (8, boolV false)])
            (hs' := [.box (encFdN zeroFd), boxPa ⟨f.Kind, f.What, f.Err, f.At, f.Trail ++ [mvOf l], f.Cycle, f.States, f.Steps⟩, .arr true 0 (f.Trail ++ [mvOf l]).length 7 (rowsMv (f.Trail ++ [mvOf l]))]) (leT_refl _)
            ⟨Ob.le_refl _, Ob.le_box ⟨VV.le_refl _, VV.le_refl _, VV.le_refl _, VV.le_refl _, VV.le_eq (by simp), VV.le_refl _, VV.le_refl _, VV.le_refl _, trivial⟩, le_mv f l 0, trivial⟩
            ⟨_, i + k + 1, false, hyes _ _ rfl (by simp), rfl, rfl⟩
end Go.Proofs.YtfhdgccpngdnaaaDoor
