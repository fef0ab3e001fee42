/-
  What is done with a channel's messages, in plain Lean.
-/
import Derived.Test.YtiflenddalmfaaaValPlain
namespace Go.Proofs.Ytiflenddalmfaaa

/-- Does a message stand ahead of another one? -/
def lessP : List Int → List Int → Bool
  | a :: as, b :: bs => if a = b then lessP as bs else decide (a < b)
  | [], _ :: _ => true
  | _, [] => false
theorem lessP_same : ∀ (n : Nat) (xs ys : List Int), n ≤ xs.length → n ≤ ys.length → (∀ j, j < n → xs.getD j 0 = ys.getD j 0) → lessP xs ys = lessP (xs.drop n) (ys.drop n)
  | 0, _, _, _, _, _ => rfl
  | n + 1, a :: as, b :: bs, h1, h2, h => by
    have h0 := h 0 (by omega)
    simp only [List.getD_cons_zero] at h0
    subst h0
    rw [lessP, if_pos rfl, List.drop_succ_cons, List.drop_succ_cons]
    exact lessP_same n as bs (by simpa using h1) (by simpa using h2) fun j hj => by simpa using h (j + 1) (by omega)
  | n + 1, [], _, h1, _, _ => by simp at h1
  | n + 1, _ :: _, [], _, h2, _ => by simp at h2
theorem drop_at {α : Type} [Inhabited α] (xs : List α) (n : Nat) (d : α) (h : n < xs.length) : xs.drop n = xs.getD n d :: xs.drop (n + 1) := by
  rw [List.drop_eq_getElem_cons h]; simp [List.getD, h]
/-- At the first place at which they differ. -/
theorem lessP_differ (n : Nat) (xs ys : List Int) (h1 : n < xs.length) (h2 : n < ys.length) (h : ∀ j, j < n → xs.getD j 0 = ys.getD j 0) (hne : xs.getD n 0 ≠ ys.getD n 0) : lessP xs ys = decide (xs.getD n 0 < ys.getD n 0) := by
  rw [lessP_same n xs ys (by omega) (by omega) h, drop_at xs n 0 h1, drop_at ys n 0 h2, lessP, if_neg hne]
/-- At the end of one. -/
theorem lessP_end (n : Nat) (xs ys : List Int) (h1 : n ≤ xs.length) (h2 : n ≤ ys.length) (h3 : n = xs.length ∨ n = ys.length) (h : ∀ j, j < n → xs.getD j 0 = ys.getD j 0) : lessP xs ys = decide (xs.length < ys.length) := by
  rw [lessP_same n xs ys h1 h2 h]
  by_cases hx : n = xs.length
  · rw [hx, List.drop_length]
    by_cases hy : xs.length < ys.length
    · rw [drop_at ys _ 0 hy, lessP]; simp [hy]
    · rw [List.drop_eq_nil_of_le (by omega), lessP]; simp [hy]
  · have hy : n = ys.length := by omega
    subst hy
    rw [List.drop_length, drop_at xs _ 0 (by omega), lessP]; simp; omega

/-- Where a message stands in a sorted queue: ahead of the first one that it stands ahead of. -/
def firstP (x : List Int) : List (List Int) → Nat
  | [] => 0
  | y :: q => if lessP x y then 0 else firstP x q + 1
theorem firstP_le (x : List Int) : ∀ q, firstP x q ≤ q.length
  | [] => Nat.le_refl _
  | y :: q => by
    unfold firstP
    have := firstP_le x q
    split <;> simp; omega
theorem firstP_hit (x : List Int) : ∀ (q : List (List Int)) (k : Nat) (y : List Int), q[k]? = some y → (∀ j y', j < k → q[j]? = some y' → lessP x y' = false) → lessP x y = true → firstP x q = k
  | [], k, y, h, _, _ => by simp at h
  | z :: q, 0, y, h, _, h2 => by
    simp at h; subst h
    simp [firstP, h2]
  | z :: q, k + 1, y, h, h1, h2 => by
    have h0 := h1 0 z (by omega) rfl
    rw [firstP, h0]
    simp only [Bool.false_eq_true, if_false]
    rw [firstP_hit x q k y (by simpa using h) (fun j y' hj hy => h1 (j + 1) y' (by omega) (by simpa using hy)) h2]
theorem firstP_miss (x : List Int) : ∀ (q : List (List Int)), (∀ (j : Nat) (y' : List Int), q[j]? = some y' → lessP x y' = false) → firstP x q = q.length
  | [], _ => rfl
  | z :: q, h => by
    rw [firstP, h 0 z rfl]
    simp only [Bool.false_eq_true, if_false]
    rw [firstP_miss x q fun j y' hy => h (j + 1) y' (by simpa using hy)]; rfl
/-- As slices.IndexFunc tells it. -/
def idxP (x : List Int) (q : List (List Int)) : Int := if firstP x q < q.length then firstP x q else -1
end Go.Proofs.Ytiflenddalmfaaa
