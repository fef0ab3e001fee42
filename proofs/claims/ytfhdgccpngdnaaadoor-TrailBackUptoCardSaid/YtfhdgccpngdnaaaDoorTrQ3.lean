/-
  A search's end, as the document reads it.
-/
import Derived.Test.YtfhdgccpngdnaaaDoorTrQ2
namespace Go.Proofs.YtfhdgccpngdnaaaDoor
open Go.RowKit

theorem kind_test23 (b : Bool) (q : List Int × Bool) : (bif bif bif b then q.2 else false then decide (q.1.getD (Int.toNat 0) 0 ≥ (1 : Int)) else false then decide (q.1.getD (Int.toNat 0) 0 ≤ (4 : Int)) else false) = (b && (q.2 && decide (1 ≤ q.1.getD 0 0 ∧ q.1.getD 0 0 ≤ 4))) := by
  show (bif bif bif b then q.2 else false then decide (q.1.getD 0 0 ≥ (1 : Int)) else false then decide (q.1.getD 0 0 ≤ (4 : Int)) else false) = _
  cases b with
  | false => rfl
  | true =>
  cases q.2 with
  | false => rfl
  | true =>
    generalize q.1.getD 0 0 = n
    by_cases h1 : n ≥ 1
    · have h1' : 1 ≤ n := by omega
      by_cases h2 : n ≤ 4
      · simp [h1, h2]
      · simp [h1, h2]
    · have h1' : ¬ 1 ≤ n := by omega
      simp [h1]
theorem cyc_test23 (b : Bool) (t : ByteArray) (c : Int) : (bif bif b then t.toList == cycB.toList else false then decide (c < 0) else false) = (b && decide (bs t = bs cycB ∧ c < 0)) := by
  cases b with
  | false => rfl
  | true => exact cyc_test t c
theorem read23_spec {s : ByteArray} (hs : s.size ≤ 67108864) : VSpec Tryd.prog 9 [] [strV s] [] (.tup [.agg (encFd (parseT s).1), intV (parseT s).2.1, intV (parseT s).2.2]) := by
  refine vspec_raw tb_ok mixed Tryd.func9 (by kernel_rfl) rfl (pa23_raw (parseT s).1 (parseT s).2.1 (parseT s).2.2 s) ?_
  have hsz : ∀ i k : Nat, i + k < s.size → (s.extract i (i + k)).size ≤ 67108864 := fun i k h => by rw [ByteArray.size_extract]; omega
  refine loop_raw tb_ok mixed (fun g st => ∃ (f : D.Found) (ln fr i : Nat) (due : Bool) (l : List By), At s f fr (decide (ln = 0)) due ∧ CutS 10 (bs s) l fr i ∧ i ≤ s.size ∧ ln ≤ fr ∧ g = s.size - i ∧ st = stPa23 s f ln due fr i) (by kernel_rfl) (by kernel_rfl)
    ⟨_, Up.cv (Cv.ownBox 1 4 7 (rowsMv []) rfl rfl) (Up.of ⟨startFd, 0, 0, 0, false, [], At.start s, CutS.start _ _, Nat.zero_le _, Nat.le_refl _, rfl, rfl⟩)⟩ ?_
  rintro g st ⟨f, ln, fr, i, due, l, hA, hcut, hi, hln, rfl, rfl⟩
  have hfl := hA.len
  have hfi := hcut.1
  refine Asks.raw (pa231_raw _ _ _ s f ln due fr i _) ?_
  have hw : IntKind.i64.wrap ((i : Int) + 1) = ((i + 1 : Nat) : Int) := by rw [wrap_id (by omega) (by omega)]; omega
  have hw2 : IntKind.i64.wrap ((ln : Int) + 1) = ((ln + 1 : Nat) : Int) := by rw [wrap_id (by omega) (by omega)]; omega
  rw [hw, hw2, show ((i : Int)).toNat = i by omega, show ((fr : Int)).toNat = fr by omega, byte_at]
  have hnl : ((((bs s).getD i 0).toNat : Int) != (10 : Int)) = !decide ((bs s).getD i 0 = 10) := by
    generalize (bs s).getD i 0 = c
    by_cases hc : c = 10
    · subst hc; rfl
    · have h1 : c.toNat ≠ 10 := fun h => hc (UInt8.toNat_inj.1 h)
      have h2 : ((c.toNat : Int) != 10) = true := by rw [bne_iff_ne]; omega
      rw [h2]; simp [hc]
  have hl0 : ((ln : Int) == (0 : Int)) = decide (ln = 0) := by
    by_cases h : ln = 0
    · subst h; rfl
    · have : ((ln : Int) == 0) = false := by rw [beq_eq_false_iff_ne]; omega
      rw [this]; simp [h]
  have hl1 : decide ((ln : Int) > (0 : Int)) = !decide (ln = 0) := by
    by_cases h : ln = 0
    · subst h; rfl
    · have : decide ((ln : Int) > 0) = true := decide_eq_true (by omega)
      rw [this]; simp [h]
  rw [hnl, hl0, hl1]
  refine ⟨fun hlt => ?_, fun hge => ?_⟩
  · have hlt' : i < s.size := by
      have := of_decide_eq_true hlt
      omega
    refine ⟨⟨by omega, by omega⟩, fun hne => ?_, fun heq => ⟨⟨by omega, by omega, by omega⟩, ?_⟩⟩
    · have hne' : ¬ (bs s).getD i 0 = 10 := of_decide_eq_false (by rw [Bool.not_eq_true'] at hne; exact hne)
      exact ⟨s.size - (i + 1), by omega, Up.of ⟨f, ln, fr, i + 1, due, l, hA, hcut.miss (by rw [← size_bs]; exact hlt') hne', by omega, hln, rfl, rfl⟩⟩
    have heq' : (bs s).getD i 0 = 10 := of_decide_eq_true (by rw [Bool.not_eq_false'] at heq; exact heq)
    obtain ⟨hpc, hcut'⟩ := hcut.hit (by rw [← size_bs]; exact hlt') heq'
    obtain ⟨k, rfl⟩ : ∃ k, i = fr + k := ⟨i - fr, by omega⟩
    have hex : bs (s.extract fr (fr + k)) = ((bs s).drop fr).take (fr + k - fr) := extract_bs _ _ _
    have hu : ∃ u r, pieces 10 ((bs s).drop (fr + k + 1)) = u :: r ∧ pieces 10 ((bs s).drop fr) = bs (s.extract fr (fr + k)) :: u :: r := by
      cases hp : pieces 10 ((bs s).drop (fr + k + 1)) with
      | nil => exact absurd hp (pieces_ne _ _)
      | cons u r =>
        refine ⟨u, r, rfl, ?_⟩
        rw [← hp, hex]; exact hpc
    have hl : (bs (s.extract fr (fr + k))).length = k := by
      rw [hex, List.length_take, List.length_drop, ← size_bs]; omega
    obtain ⟨hno, hyes⟩ := hA.line hlt' hu hl
    refine ⟨numsR foundB 6 (s.extract fr (fr + k)), nums23_spec (many := 6) (hsz fr k hlt') (by decide), numsR moveB 7 (s.extract fr (fr + k)), nums23_spec (many := 7) (hsz fr k hlt') (by decide), ?_⟩
    have hkt := kind_test23 (decide (ln = 0)) (numsR foundB 6 (s.extract fr (fr + k)))
    have hct := cyc_test23 (!decide (ln = 0)) (s.extract fr (fr + k)) f.Cycle
    have hlen6 : (numsR foundB 6 (s.extract fr (fr + k))).2 = true → (numsR foundB 6 (s.extract fr (fr + k))).1.length = 6 := fun h => by
      rcases numsR_cases foundB 6 words_no.1 (s.extract fr (fr + k)) with ⟨h1, h2⟩ | ⟨l, h1, h2, h3⟩
      · rw [h2] at h; cases h
      · rw [h3]; exact h2
    have hlen7 : (numsR moveB 7 (s.extract fr (fr + k))).2 = true → (numsR moveB 7 (s.extract fr (fr + k))).1.length = 7 := fun h => by
      rcases numsR_cases moveB 7 words_no.2.2.1 (s.extract fr (fr + k)) with ⟨h1, h2⟩ | ⟨l, h1, h2, h3⟩
      · rw [h2] at h; cases h
      · rw [h3]; exact h2
    have h6 : ∀ j : Nat, j < 6 → (numsR foundB 6 (s.extract fr (fr + k))).2 = true → (0 : Int) ≤ (j : Int) ∧ (j : Int) < ((numsR foundB 6 (s.extract fr (fr + k))).1.length : Int) := fun j hj h => by
      rw [hlen6 h]; exact ⟨by omega, by omega⟩
    have h7 : ∀ j : Nat, j < 7 → (numsR moveB 7 (s.extract fr (fr + k))).2 = true → (0 : Int) ≤ (j : Int) ∧ (j : Int) < ((numsR moveB 7 (s.extract fr (fr + k))).1.length : Int) := fun j hj h => by
      rw [hlen7 h]; exact ⟨by omega, by omega⟩
    have hnums6 := numsR_cases foundB 6 words_no.1 (s.extract fr (fr + k))
    have hnums7 := numsR_cases moveB 7 words_no.2.2.1 (s.extract fr (fr + k))
    generalize numsR foundB 6 (s.extract fr (fr + k)) = q at hkt hlen6 h6 hnums6 ⊢
    generalize numsR moveB 7 (s.extract fr (fr + k)) = q' at hlen7 h7 hnums7 ⊢
    have hnn : ¬ decide (ln + 1 = 0) = true := by simp
    have hpush : ∀ f' due', stepP (bs (s.extract fr (fr + k))) f (decide (ln = 0)) due = some (f', due') → f'.Trail.length ≤ f.Trail.length + 1 → At s f' (fr + k + 1) (decide (ln + 1 = 0)) due' := fun f' due' h1 h2 => by
      have : decide (ln + 1 = 0) = false := by simp
      rw [this]; exact hyes f' due' h1 h2
    refine ⟨fun h => h6 0 (by omega) ?_, fun h => h6 0 (by omega) ?_, fun h => ?_, fun h => ⟨fun hc => ?_, fun hc => ⟨fun hm => ?_, fun hm => ⟨trivial, le_zero fr _ (hno ?_)⟩⟩⟩⟩
    · revert h
      cases q.2 with
      | true => exact fun _ => rfl
      | false => cases decide (ln = 0) <;> exact fun h => by simp at h
    · revert h
      cases q.2 with
      | true => exact fun _ => rfl
      | false => cases decide (ln = 0) <;> exact fun h => by simp at h
    · have h := hkt.symm.trans h
      simp only [Bool.and_eq_true, decide_eq_true_eq] at h
      obtain ⟨rfl, hq, hk⟩ := h
      refine ⟨h6 0 (by omega) hq, h6 1 (by omega) hq, h6 2 (by omega) hq, h6 3 (by omega) hq, h6 4 (by omega) hq, h6 5 (by omega) hq, s.size - (fr + k + 1), by omega, Up.of ⟨⟨q.1.getD 0 0, q.1.getD 1 0, q.1.getD 2 0, q.1.getD 3 0, f.Trail, f.Cycle, q.1.getD 4 0, q.1.getD 5 0⟩, 1, fr + k + 1, fr + k + 1, due, _, hpush _ _ ?_ (Nat.le_succ _), hcut', by omega, by omega, rfl, rfl⟩⟩
      show stepP _ f true due = _
      rw [step_first]
      rcases hnums6 with ⟨h1, h2⟩ | ⟨l, h1, h2, h3⟩
      · rw [h2] at hq; cases hq
      · rw [h1]
        rw [h3] at hk ⊢
        simp only
        rw [if_pos hk]
    · have hc := hct.symm.trans hc
      simp only [Bool.and_eq_true, Bool.not_eq_true', decide_eq_true_eq, decide_eq_false_iff_not] at hc
      obtain ⟨hl', hc'⟩ := hc
      refine ⟨s.size - (fr + k + 1), by omega, Up.of ⟨⟨f.Kind, f.What, f.Err, f.At, f.Trail, f.Trail.length, f.States, f.Steps⟩, ln + 1, fr + k + 1, fr + k + 1, true, _, hpush _ _ ?_ (Nat.le_succ _), hcut', by omega, by omega, rfl, rfl⟩⟩
      have : decide (ln = 0) = false := by simp [hl']
      rw [this, step_later, if_pos hc']
    · have hc := hct.symm.trans hc
      have hl' : ln ≠ 0 ∧ q'.2 = true := by
        revert hm
        cases hd : decide (ln = 0) with
        | true => exact fun hm => by simp at hm
        | false => exact fun hm => ⟨of_decide_eq_false hd, by simpa using hm⟩
      have hd : decide (ln = 0) = false := by simp [hl'.1]
      rw [hd] at hc
      have hc' : ¬ (bs (s.extract fr (fr + k)) = bs cycB ∧ f.Cycle < 0) := by simpa using hc
      refine ⟨h7 0 (by omega) hl'.2, h7 1 (by omega) hl'.2, h7 2 (by omega) hl'.2, h7 3 (by omega) hl'.2, h7 4 (by omega) hl'.2, h7 5 (by omega) hl'.2, h7 6 (by omega) hl'.2, by omega, s.size - (fr + k + 1), by omega, ?_⟩
      exact Up.mk (l' := [(0, strV s), (2, .bp 0 0), (5, .bp 1 0), (6, intV ((ln + 1 : Nat) : Int)), (7, boolV false), (8, intV ((fr + k + 1 : Nat) : Int)), (9, intV ((fr + k + 1 : Nat) : Int))])
        (hs' := [.box (encFdN zeroFd), boxPa ⟨f.Kind, f.What, f.Err, f.At, f.Trail ++ [mvOf q'.1], f.Cycle, f.States, f.Steps⟩, .arr true 0 (f.Trail ++ [mvOf q'.1]).length 7 (rowsMv (f.Trail ++ [mvOf q'.1]))]) (leT_refl _)
        ⟨Ob.le_refl _, Ob.le_box ⟨VV.le_refl _, VV.le_refl _, VV.le_refl _, VV.le_refl _, VV.le_eq (by simp), VV.le_refl _, VV.le_refl _, VV.le_refl _, trivial⟩, le_mv f q'.1 0, trivial⟩
        ⟨⟨f.Kind, f.What, f.Err, f.At, f.Trail ++ [mvOf q'.1], f.Cycle, f.States, f.Steps⟩, ln + 1, fr + k + 1, fr + k + 1, false, _, hpush _ _ (by
          rw [hd, step_later, if_neg hc']
          rcases hnums7 with ⟨h1, h2⟩ | ⟨l, h1, h2, h3⟩
          · rw [h2] at hl'; cases hl'.2
          · rw [h1, h3]) (by simp), hcut', by omega, by omega, rfl, rfl⟩
    · have h := hkt.symm.trans h
      have hc := hct.symm.trans hc
      cases hd : decide (ln = 0) with
      | true =>
        rw [hd] at h
        rw [step_first]
        rcases hnums6 with ⟨h1, h2⟩ | ⟨l, h1, h2, h3⟩
        · rw [h1]
        · rw [h1]
          rw [h3] at h
          simp only [Bool.true_and] at h
          simp only
          rw [if_neg (of_decide_eq_false h)]
      | false =>
        rw [hd] at hc hm
        have hc' : ¬ (bs (s.extract fr (fr + k)) = bs cycB ∧ f.Cycle < 0) := by simpa using hc
        rw [step_later, if_neg hc']
        rcases hnums7 with ⟨h1, h2⟩ | ⟨l, h1, h2, h3⟩
        · rw [h1]
        · rw [h3] at hm; simp at hm
  · have hge' : s.size ≤ i := by
      have := of_decide_eq_false hge
      omega
    obtain rfl : i = s.size := by omega
    have hp : pieces 10 ((bs s).drop fr) = [(bs s).drop fr] := by
      have h := hcut
      rw [size_bs] at h
      exact h.last.1
    have hend : (bif bif decide ((fr : Int) < (s.size : Int)) then true else decide (ln = 0) then true else due) = !decide (fr = s.size ∧ decide (ln = 0) = false ∧ due = false) := by
      by_cases h1 : fr = s.size
      · subst h1
        cases decide (ln = 0) <;> cases due <;> simp
      · have : (fr : Int) < (s.size : Int) := by omega
        simp [h1, this]
    rw [hend]
    refine ⟨fun h => ⟨trivial, ?_⟩, fun h => ⟨trivial, ?_⟩⟩
    · exact le_zero fr _ (hA.last hp (of_decide_eq_false (by rw [Bool.not_eq_true'] at h; exact h)))
    · obtain ⟨h1, h2, rfl⟩ := of_decide_eq_true (by rw [Bool.not_eq_false'] at h; exact h)
      rw [h2] at hA
      exact le_found f _ (hA.done h1)
end Go.Proofs.YtfhdgccpngdnaaaDoor
