/-
  Texts, joined: VjThaw, VjThawF.
-/
import Derived.Test.YthmhbmikcdfkcaaDoorGpD
/-
  Who answers with numbers alone may be handed what is only lent for the call.
-/
namespace Go.Proofs.YthmhbmikcdfkcaaDoor
open Go.RowKit
/-- What is lent or frozen, seen by one who guards nothing. -/
def thawT (y x : VV) : Prop := ∀ (w : World) (E : Prot) (v : Value), V w E none y v → ∀ B, V w ⟨fun _ => False, B⟩ none x v
def thawL : List VV → List VV → Prop
  | [], [] => True
  | y :: ys, x :: xs => thawT y x ∧ thawL ys xs
  | _, _ => False
theorem thawL_len : ∀ {ys xs : List VV}, thawL ys xs → ys.length = xs.length
  | [], [], _ => rfl
  | y :: ys, x :: xs, h => by simp [thawL_len h.2]
  | [], _ :: _, h => h.elim
  | _ :: _, [], h => h.elim
theorem thawL_at : ∀ {ys xs : List VV}, thawL ys xs → ∀ (j : Nat) x, xs[j]? = some x → ∃ y, ys[j]? = some y ∧ thawT y x
  | y :: ys, x :: xs, h, 0, z, hz => by simp only [List.getElem?_cons_zero, Option.some.injEq] at hz; subst hz; exact ⟨y, rfl, h.1⟩
  | y :: ys, x :: xs, h, j + 1, z, hz => by simpa using thawL_at h.2 j z (by simpa using hz)
  | [], _ :: _, h, _, _, _ => h.elim
  | _, [], _, _, _, hz => by simp at hz
theorem thaw_sc {u : Value} : thawT (.sc u) (.sc u) := fun w E v h B => by
  obtain rfl := h.sc_inv
  exact .sc
theorem thaw_nil {b fz : Bool} {s s' : Nat} {f f' : Nat → List VV} : thawT (.sl b 0 s f) (.sl fz 0 s' f') := fun w E v h B => by
  obtain ⟨a, cap, rfl, h1, h2, _⟩ := V.sl_inv h
  exact V.sl_mk (Nat.zero_le _) h2 fun h => by omega
theorem thaw_sl {b : Bool} {n s : Nat} {f f' : Nat → List VV} (hr : ∀ i, i < n → thawL (f i) (f' i)) : thawT (.sl b n s f) (.sl true n s f') := fun w E v h B => by
  obtain ⟨a, cap, rfl, h1, h2, h3⟩ := V.sl_inv h
  refine V.sl_mk h1 h2 fun hp => ?_
  obtain ⟨g, off, rfl, hb, _, hl, u, hc, hv⟩ := h3 hp
  refine ⟨g, off, rfl, hb, fun h => h, fun i hi => by rw [← thawL_len (hr i hi)]; exact hl i hi, u, fun i j x hi hx => ?_, fun i j x hi hx => ?_⟩
  · obtain ⟨y, hy, _⟩ := thawL_at (hr i hi) j x hx
    exact hc i j y hi hy
  · obtain ⟨y, hy, hle⟩ := thawL_at (hr i hi) j x hx
    exact hle _ _ _ (hv i j y hi hy) _
theorem thaw_agg {ys xs : List VV} (hr : thawL ys xs) : thawT (.agg ys) (.agg xs) := fun w E v h B => by
  obtain ⟨vs, rfl, h1, h2⟩ := h.agg_inv
  refine .agg (h1.trans (thawL_len hr)) fun j x hx => ?_
  obtain ⟨y, hy, hle⟩ := thawL_at hr j x hx
  exact hle _ _ _ (h2 j y hy) _
/-- Numbers alone. -/
def PlainV (r : VV) : Prop := ∀ (w : World) (E E' : Prot) (m m' : Option Phi) (v : Value), V w E m r v → V w E' m' r v
theorem plain_sc {u : Value} : PlainV (.sc u) := fun w E E' m m' v h => by
  obtain rfl := h.sc_inv
  exact .sc
theorem plain_tup {xs : List VV} (h : ∀ x ∈ xs, PlainV x) : PlainV (.tup xs) := fun w E E' m m' v hv => by
  cases hv with
  | tup h1 h2 => exact .tup h1 fun j x hx => h x (List.mem_of_getElem? hx) _ _ _ _ _ _ (h2 j x hx)
theorem VSpec.thaw {P : Program} {f : FuncId} {xs ys : List VV} {r : VV} (h : VSpec P f [] xs [] r) (hr : PlainV r) (hle : thawL ys xs) : VSpec P f [] ys [] r := by
  refine VSpec.hand h.callable fun w E vs hA hL hB hb hs => ?_
  refine (h.start hL hB ⟨hs.1.trans (thawL_len hle), fun j x hx => ?_⟩).mono ?_
  · obtain ⟨y, hy, hl⟩ := thawL_at hle j x hx
    exact hl _ _ _ (hs.2 j y hy) _
  · rintro e w' ⟨v, rfl, hB', hv⟩
    exact ⟨v, rfl, hr _ _ _ _ _ _ hv, hB'⟩
end Go.Proofs.YthmhbmikcdfkcaaDoor
/-
  What is lent and what is frozen, compared by reckoning.
-/
namespace Go.Proofs.YthmhbmikcdfkcaaDoor
open Go.RowKit
def litEq : Value → Value → Bool
  | .int k a, .int l b => decide (k = l) && decide (a = b)
  | .bool a, .bool b => a == b
  | .string a, .string b => decide (a = b)
  | _, _ => false
theorem litEq_ok {u v : Value} (h : litEq u v = true) : u = v := by
  unfold litEq at h
  split at h
  · simp only [Bool.and_eq_true, decide_eq_true_eq] at h; rw [h.1, h.2]
  · simp only [beq_iff_eq] at h; rw [h]
  · simp only [decide_eq_true_eq] at h; rw [h]
  · cases h
def thawFL (r : VV → VV → Bool) : List VV → List VV → Bool
  | [], [] => true
  | y :: ys, x :: xs => r y x && thawFL r ys xs
  | _, _ => false
def thawF : Nat → VV → VV → Bool
  | 0, _, _ => false
  | _ + 1, .sc u, .sc v => litEq u v
  | _ + 1, .nl, .sl _ n _ _ => Nat.beq n 0
  | k + 1, .sl _ n s f, .sl z n' s' f' => Nat.beq n n' && (Nat.beq n 0 || (z && Nat.beq s s' && allI n fun i => thawFL (thawF k) (f i) (f' i)))
  | k + 1, .agg ys, .agg xs => thawFL (thawF k) ys xs
  | _ + 1, _, _ => false
theorem thawFL_ok {r : VV → VV → Bool} (hr : ∀ y x, r y x = true → thawT y x) : ∀ {ys xs : List VV}, thawFL r ys xs = true → thawL ys xs
  | [], [], _ => trivial
  | y :: ys, x :: xs, h => by
    simp only [thawFL, Bool.and_eq_true] at h
    exact ⟨hr _ _ h.1, thawFL_ok hr h.2⟩
  | [], _ :: _, h => by cases h
  | _ :: _, [], h => by cases h
theorem thaw_nl {z : Bool} {s : Nat} {f : Nat → List VV} : thawT .nl (.sl z 0 s f) := fun w E v h B => by
  cases h with
  | nl => exact .nil (Nat.zero_le _)
theorem thawF_ok : ∀ (k : Nat) (y x : VV), thawF k y x = true → thawT y x
  | 0, _, _, h => by cases h
  | k + 1, y, x, h => by
    unfold thawF at h
    split at h
    · cases h
    · obtain rfl := litEq_ok h; exact thaw_sc
    · obtain rfl := Nat.eq_of_beq_eq_true h; exact thaw_nl
    · rename_i e _ _ _ _ _ _ _ _ _
      simp only [Bool.and_eq_true, Bool.or_eq_true] at h
      obtain ⟨h1, h2⟩ := h
      obtain rfl := Nat.eq_of_beq_eq_true h1
      rcases h2 with h2 | ⟨⟨h2, h3⟩, h4⟩
      · obtain rfl := Nat.eq_of_beq_eq_true h2; exact thaw_nil
      · obtain rfl := Nat.eq_of_beq_eq_true h3
        subst h2
        exact thaw_sl fun i hi => thawFL_ok (fun y x h => thawF_ok _ y x h) (allI_iff.1 h4 i hi)
    · exact thaw_agg (thawFL_ok (fun y x h => thawF_ok _ y x h) h)
    · cases h
theorem VSpec.thawn {P : Program} {f : FuncId} {xs ys : List VV} {r : VV} (h : VSpec P f [] xs [] r) (k : Nat) (hr : PlainV r) (hle : thawFL (thawF k) ys xs = true) : VSpec P f [] ys [] r :=
  h.thaw hr (thawFL_ok (thawF_ok k) hle)
end Go.Proofs.YthmhbmikcdfkcaaDoor
