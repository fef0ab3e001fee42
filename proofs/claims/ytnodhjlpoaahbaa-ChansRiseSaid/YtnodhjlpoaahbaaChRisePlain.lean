/-
  What is put sorted rises: in plain Lean.
-/
import Derived.Test.YtnodhjlpoaahbaaChPut
namespace Go.Proofs.Ytnodhjlpoaahbaa

theorem lessP_asymm : ∀ x y : List Int, lessP x y = true → lessP y x = false
  | [], [], h => by simp [lessP] at h
  | [], _ :: _, _ => rfl
  | _ :: _, [], h => by simp [lessP] at h
  | a :: us, b :: bs, h => by
    unfold lessP at h ⊢
    by_cases e : a = b
    · subst e; simp at h ⊢; exact lessP_asymm us bs h
    · rw [if_neg e] at h; rw [if_neg (fun h => e h.symm)]; simp at h ⊢; omega
theorem lessP_trans : ∀ x y z : List Int, lessP x y = true → lessP y z = true → lessP x z = true
  | [], y, [], h1, h2 => by cases y <;> simp [lessP] at h1 h2
  | [], _, _ :: _, _, _ => rfl
  | _ :: _, [], _, h1, _ => by simp [lessP] at h1
  | _ :: _, _ :: _, [], _, h2 => by simp [lessP] at h2
  | a :: us, b :: bs, c :: cs, h1, h2 => by
    unfold lessP at h1 h2 ⊢
    by_cases e1 : a = b
    · subst e1
      rw [if_pos rfl] at h1
      by_cases e2 : a = c
      · subst e2; rw [if_pos rfl] at h2 ⊢; exact lessP_trans us bs cs h1 h2
      · rw [if_neg e2] at h2 ⊢; exact h2
    · rw [if_neg e1] at h1
      by_cases e2 : b = c
      · subst e2; rw [if_neg e1]; exact h1
      · rw [if_neg e2] at h2
        simp at h1 h2
        rw [if_neg (by omega)]; simp; omega
theorem lessP_tri : ∀ x y : List Int, lessP x y = false → lessP y x = false → x = y
  | [], [], _, _ => rfl
  | [], _ :: _, h, _ => by simp [lessP] at h
  | _ :: _, [], _, h => by simp [lessP] at h
  | a :: us, b :: bs, h1, h2 => by
    unfold lessP at h1 h2
    by_cases e : a = b
    · subst e
      rw [if_pos rfl] at h1 h2
      rw [lessP_tri us bs h1 h2]
    · rw [if_neg e] at h1; rw [if_neg (fun h => e h.symm)] at h2
      simp at h1 h2; omega

/-- A queue that rises. -/
def Rises (q : List (List Int)) : Prop := q.Pairwise fun x y => lessP y x = false
theorem put_first : ∀ (x : List Int) (q : List (List Int)), putAt q (firstP x q) x = (match q with | [] => [x] | y :: r => if lessP x y then x :: y :: r else y :: putAt r (firstP x r) x)
  | x, [] => rfl
  | x, y :: r => by
    rw [firstP]
    by_cases h : lessP x y = true
    · simp [h, putAt]
    · simp [h, putAt]
theorem mem_putAt {α : Type} {l : List α} {i : Nat} {x y : α} (h : y ∈ putAt l i x) : y = x ∨ y ∈ l := by
  unfold putAt at h
  rcases List.mem_append.1 h with h | h
  · exact .inr (List.mem_of_mem_take h)
  · rcases List.mem_cons.1 h with h | h
    · exact .inl h
    · exact .inr (List.mem_of_mem_drop h)
theorem rises_put (x : List Int) : ∀ q : List (List Int), Rises q → Rises (putAt q (firstP x q) x)
  | [], _ => by simp [Rises, putAt]
  | y :: r, h => by
    rw [put_first]
    have h0 := List.pairwise_cons.1 h
    by_cases hl : lessP x y = true
    · simp only [hl, if_true]
      refine List.pairwise_cons.2 ⟨fun z hz => ?_, h⟩
      rcases List.mem_cons.1 hz with rfl | hz
      · exact lessP_asymm _ _ hl
      · cases hzx : lessP z x with
        | false => rfl
        | true => have := lessP_trans z x y hzx hl; rw [h0.1 z hz] at this; cases this
    · simp only [hl, Bool.false_eq_true, if_false]
      refine List.pairwise_cons.2 ⟨fun z hz => ?_, rises_put x r h0.2⟩
      rcases mem_putAt hz with rfl | hz
      · simpa using hl
      · exact h0.1 z hz
/-- The least one is put in at the head, us far as one can see. -/
theorem put_least (x : List Int) : ∀ q : List (List Int), (∀ y ∈ q, lessP y x = false) → putAt q (firstP x q) x = x :: q
  | [], _ => rfl
  | y :: r, h => by
    rw [put_first]
    by_cases hl : lessP x y = true
    · simp only [hl, if_true]
    · simp only [hl, Bool.false_eq_true, if_false]
      have e : x = y := lessP_tri x y (by simpa using hl) (h y (by simp))
      rw [put_least x r fun z hz => h z (by simp [hz]), e]

theorem fitP_fitP (b : Int) (s : Bool) (v : Int) : fitP b s (fitP b s v) = fitP b s v := by
  unfold fitP
  by_cases h : 1 ≤ b ∧ b ≤ 32
  · rw [if_pos h, if_pos h]
    have hp := pow_bd b h.1 h.2
    cases s
    · simp
    · simp only [if_true]
      have e : (v + 2 ^ b.toNat / 2) % 2 ^ b.toNat - 2 ^ b.toNat / 2 + 2 ^ b.toNat / 2 = (v + 2 ^ b.toNat / 2) % 2 ^ b.toNat := by omega
      rw [e, Int.emod_emod]
  · rw [if_neg h, if_neg h]
theorem fitM_fitM : ∀ (fs : List D.Type) (m : List Int), fitM fs (fitM fs m) = fitM fs m
  | [], m => by simp [fitM]
  | _ :: _, [] => by simp [fitM]
  | t :: fs, a :: m => by
    have := fitM_fitM fs m
    simp only [fitM, List.zipWith_cons_cons] at this ⊢
    rw [this, fitP_fitP]

/-- One message, put sorted if it can be. -/
def riseS (room : Int) (fs : List D.Type) (q : List (List Int)) (m : List Int) : List (List Int) := if putE room fs q m = 0 then putX fs q m true else q
/-- What holds of a queue into which messages are put sorted. -/
structure RiseI (room : Int) (fs : List D.Type) (q : List (List Int)) : Prop where
  rises : Rises q
  fit : ∀ y ∈ q, y.length = fs.length ∧ fitM fs y = y
  types : q ≠ [] → fs.all typeP = true
  room : q ≠ [] → (q.length : Int) ≤ room
theorem RiseI.nil (room : Int) (fs : List D.Type) : RiseI room fs [] := ⟨by simp [Rises], by simp, by simp, by simp⟩
theorem RiseI.step {room : Int} {fs : List D.Type} {q : List (List Int)} (h : RiseI room fs q) (m : List Int) : RiseI room fs (riseS room fs q m) := by
  unfold riseS
  by_cases he : putE room fs q m = 0
  · rw [if_pos he]
    have hm : m.length = fs.length := by
      apply Classical.byContradiction; intro hn; unfold putE at he; rw [if_pos hn] at he; cases he
    have ht : fs.all typeP = true := by
      apply Classical.byContradiction; intro hn
      unfold putE at he; rw [if_neg (by simp [hm]), if_pos (by simpa using hn)] at he; cases he
    have hr : (q.length : Int) < room := by
      apply Classical.byContradiction; intro hn
      unfold putE at he; rw [if_neg (by simp [hm]), if_neg (by simp [ht]), if_pos (by omega)] at he; cases he
    have hx : putX fs q m true = putAt q (firstP (fitM fs m) q) (fitM fs m) := rfl
    rw [hx]
    refine ⟨rises_put _ _ h.rises, fun y hy => ?_, fun _ => ht, fun _ => ?_⟩
    · rcases mem_putAt hy with rfl | hy
      · exact ⟨by rw [fitM_len hm]; exact hm, fitM_fitM _ _⟩
      · exact h.fit y hy
    · rw [putAt_len (firstP_le _ _)]; omega
  · rw [if_neg he]; exact h
theorem riseS_len (room : Int) (fs : List D.Type) (q : List (List Int)) (m : List Int) (k : Nat) (h : q.length ≤ k) : (riseS room fs q m).length ≤ k + 1 := by
  unfold riseS
  split
  · unfold putX
    rw [putAt_len]
    · omega
    · simp only [if_true]; exact firstP_le _ _
  · omega
/-- Put in again from the end on: each comes to the head. -/
theorem RiseI.again {room : Int} {fs : List D.Type} {q : List (List Int)} (h : RiseI room fs q) (i : Nat) (hi : i < q.length) :
    putE room fs (q.drop (i + 1)) (q.getD i []) = 0 ∧ putX fs (q.drop (i + 1)) (q.getD i []) true = q.drop i := by
  have hy : q.getD i [] = q[i] := by simp [List.getD, hi]
  have hne : q ≠ [] := by rintro rfl; simp at hi
  have hf := h.fit q[i] (by simp)
  have hr := h.room hne
  rw [hy]
  constructor
  · unfold putE
    rw [if_neg (by simp [hf.1]), if_neg (by simp [h.types hne]), if_neg]
    simp; omega
  · unfold putX
    simp only [if_true]
    rw [hf.2, put_least, ← List.drop_eq_getElem_cons hi]
    intro y hy'
    have := h.rises
    rw [Rises, ← List.take_append_drop i q, List.drop_eq_getElem_cons hi] at this
    exact (List.pairwise_cons.1 (List.pairwise_append.1 this).2.1).1 y hy'
/-- One behind another. -/
theorem RiseI.next {room : Int} {fs : List D.Type} {q : List (List Int)} (h : RiseI room fs q) (i : Nat) (hi : i + 1 < q.length) : lessP (q.getD (i + 1) []) (q.getD i []) = false := by
  have := List.pairwise_iff_getElem.1 h.rises i (i + 1) (by omega) hi (by omega)
  simpa [List.getD, hi, show i < q.length by omega] using this
end Go.Proofs.Ytnodhjlpoaahbaa
