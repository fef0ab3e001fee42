/-
  Each operation, run: it yields what the tree's operation says.
-/
import Derived.Test.YtnodhjlpoaahbaaVjOp
namespace Go.Proofs.Ytnodhjlpoaahbaa
open Go.RowKit
section
variable {P : Program} {T : TypeId → TE} {w : World} {E : Prot} {m : Option Phi}

theorem V.sc_inv {u v : Value} (h : V w E m (.sc u) v) : v = u := by cases h; rfl
theorem V.bp_inv {φ : Phi} {id off : Nat} {v : Value} (h : V w E (some φ) (.bp id off) v) : ∃ b, φ id = some (.box b) ∧ v = .pointer (some ⟨b, off, none⟩) := by
  cases h with | bp h => exact ⟨_, h, rfl⟩
theorem V.nl_inv {v : Value} (h : V w E m .nl v) : v = .slice none 0 0 := by cases h; rfl
theorem V.ow_inv {φ : Phi} {id gen n : Nat} {v : Value} (h : V w E (some φ) (.ow id gen n) v) : ∃ c len hd hd0, φ id = some (.arr c len hd) ∧ gen ≤ c ∧ hdV hd0 n v ∧ (gen = c → hd0 = hd ∧ n ≤ len) := by
  cases h with | ow h h1 h2 h3 => exact ⟨_, _, _, _, h, h1, h2, h3⟩
theorem V.ow_hd {id gen n : Nat} {v : Value} (h : V w E m (.ow id gen n) v) : ∃ hd0, hdV hd0 n v := by
  cases h with | ow h h1 h2 h3 => exact ⟨_, h2⟩
theorem V.ep_inv {φ : Phi} {id gen sz i o : Nat} {v : Value} (h : V w E (some φ) (.ep id gen sz i o) v) : ∃ c len hd b, φ id = some (.arr c len hd) ∧ gen ≤ c ∧ v = .pointer (some ⟨b, i * sz + o, none⟩) ∧ (gen = c → i < len ∧ ∃ cap, hd = some (b, cap)) := by
  cases h with | ep h h1 h2 => exact ⟨_, _, _, _, h, h1, rfl, h2⟩
theorem V.sl_inv {fz : Bool} {n sz : Nat} {f : Nat → List VV} {v : Value} (h : V w E m (.sl fz n sz f) v) : ∃ a cap, v = .slice a n cap ∧ n ≤ cap ∧ cap ≤ maxLen ∧
    (0 < n → ∃ b off, a = some ⟨b, off, none⟩ ∧ b < w.heap.size ∧ ¬ E.bad fz b ∧ (∀ i, i < n → (f i).length = sz) ∧ ∃ u : Nat → Nat → Value,
      (∀ i j x, i < n → (f i)[j]? = some x → w.cell? ⟨b, off + i * sz + j, none⟩ = some (u i j)) ∧ (∀ i j x, i < n → (f i)[j]? = some x → V w (E.at fz) none x (u i j))) := by
  cases h with
  | nil h => exact ⟨_, _, rfl, Nat.zero_le _, h, fun h => by omega⟩
  | sl u h1 h2 h3 h4 h5 h6 h7 => exact ⟨_, _, rfl, h1, h2, fun _ => ⟨_, _, rfl, h3, h4, h5, u, h6, h7⟩⟩
theorem V.sl_mk {fz : Bool} {n sz : Nat} {f : Nat → List VV} {a : Option Addr} {cap : Nat} (h1 : n ≤ cap) (h2 : cap ≤ maxLen)
    (h : 0 < n → ∃ b off, a = some ⟨b, off, none⟩ ∧ b < w.heap.size ∧ ¬ E.bad fz b ∧ (∀ i, i < n → (f i).length = sz) ∧ ∃ u : Nat → Nat → Value,
      (∀ i j x, i < n → (f i)[j]? = some x → w.cell? ⟨b, off + i * sz + j, none⟩ = some (u i j)) ∧ (∀ i j x, i < n → (f i)[j]? = some x → V w (E.at fz) none x (u i j))) : V w E m (.sl fz n sz f) (.slice a n cap) := by
  rcases Nat.eq_zero_or_pos n with rfl | hp
  · exact .nil h2
  · obtain ⟨b, off, rfl, h3, h4, h5, u, h6, h7⟩ := h hp
    exact .sl u h1 h2 h3 h4 h5 h6 h7

theorem not_bad {C : Prop} (h : ∀ p ∈ Res.bad.chk, p) : C := (h False (by simp [Res.bad])).elim

theorem s_shift {op : BinOp} {k k' : IntKind} {x y : Int} (h : ∀ p ∈ (vshift op k x y).chk, p) (ht : isShift op = true) :
    ∃ v, (Op.shift op k x k' y).run P w = .ok v w ∧ V w E m (vshift op k x y).val v := by
  cases op <;> simp only [isShift] at ht <;> try (cases ht)
  all_goals
    have h0 : 0 ≤ y := h _ (by simp [vshift])
    refine ⟨_, ?_, .sc⟩
    unfold Op.shift
    rw [if_neg (by omega)]
    rfl
theorem s_bits {op : BinOp} {k : IntKind} {x y n : Int} (h : vbits op k x y = some n) : (Op.intBits op k x y).run P w = .ok (.int k n) w := by
  cases op <;> simp only [vbits, Option.some.injEq, reduceCtorEq] at h <;> (subst h; rfl)
theorem s_int {op : BinOp} {t : TypeId} {k : IntKind} {x y : Int} (h : ∀ p ∈ (vint op k x y).chk, p) (ht : isShift op = false) :
    ∃ v, (Go.binOp op t (.int k x) (.int k y)).run P w = .ok v w ∧ V w E m (vint op k x y).val v := by
  cases op <;> simp only [isShift, Bool.true_eq_false] at ht
  case quo => have h0 : y ≠ 0 := h _ (by simp [vint]); exact ⟨_, by simp only [Go.binOp, Op.intDiv, ne_eq, not_true, if_false, if_neg h0]; rfl, .sc⟩
  case rem => have h0 : y ≠ 0 := h _ (by simp [vint]); exact ⟨_, by simp only [Go.binOp, Op.intDiv, ne_eq, not_true, if_false, if_neg h0]; rfl, .sc⟩
  all_goals first
    | exact ⟨_, by simp only [Go.binOp, Op.intArith, Op.intCmp, Op.intBits, ne_eq, not_true, if_false]; rfl, .sc⟩
    | exact not_bad h
theorem s_str {op : BinOp} {t : TypeId} {x y : ByteArray} (h : ∀ p ∈ (vstr op x y).chk, p) :
    ∃ v, (Go.binOp op t (.string x) (.string y)).run P w = .ok v w ∧ V w E m (vstr op x y).val v := by
  cases op
  case add =>
    have h0 : ((x.size + y.size : Nat) : Int) ≤ 9223372036854775807 := h _ (by unfold vstr; exact List.mem_cons_self ..)
    refine ⟨.string (x ++ y), ?_, .sc⟩
    have hm : ¬ ((x.size + y.size : Nat) : Int) > IntKind.i64.max := by
      have : IntKind.i64.max = 9223372036854775807 := rfl
      rw [this]; exact Int.not_lt.2 h0
    simp only [Go.binOp, Op.stringOp, if_neg hm]
    rfl
  all_goals first
    | exact ⟨_, by simp only [Go.binOp, Op.stringOp]; rfl, .sc⟩
    | exact not_bad h

theorem eqGuard_plain {op : BinOp} {t : TypeId} {x y : Operand} {a b : Value} (ha : a ≠ .nilIface) (hb : ∀ c, a ≠ .agg c) : (eqGuard op t x y a b).run P w = .ok () w := by
  cases op <;> first
    | rfl
    | (cases a <;> first | exact absurd rfl ha | exact absurd rfl (hb _) | rfl)

theorem eq_bool {t : TypeId} {a b : Bool} (ht : P.underlying t = some .bool) : (Op.equal t (.bool a) (.bool b)).run P w = .ok (a == b) w := by
  show (Op.equalIn (9999 + 1) t (.bool a) (.bool b)).run P w = _
  rw [Op.equalIn, Sem.run_bind, run_underlying ht, Result.andThen_ok]
  rfl
theorem s_bin (hT : TOk P T) {op : BinOp} {t : TypeId} {ox oy : Operand} {x y : VV} {vx vy : Value} (hx : V w E m x vx) (hy : V w E m y vy) (h : ∀ p ∈ (vbin T op t x y).chk, p) :
    ∃ v, (eqGuard op t ox oy vx vy >>= fun _ => Go.binOp op t vx vy).run P w = .ok v w ∧ V w E m (vbin T op t x y).val v := by
  unfold vbin at h ⊢
  split at h
  · rename_i k a k' b
    rw [hx.sc_inv, hy.sc_inv]
    rw [Sem.run_bind, eqGuard_plain (by simp) (by simp), Result.andThen_ok]
    cases hs : isShift op with
    | true =>
      rw [hs] at h
      simp only [cond_true] at h ⊢
      have := s_shift (P := P) (w := w) (E := E) (m := m) (k' := k') h hs
      cases op <;> simp only [isShift] at hs <;> first | (cases hs; done) | exact this
    | false =>
      rw [hs] at h
      simp only [cond_false] at h ⊢
      by_cases hk : k = k'
      · subst hk
        simp only [if_true] at h ⊢
        exact s_int h hs
      · rw [if_neg hk] at h
        exact not_bad h
  · rename_i a b
    rw [hx.sc_inv, hy.sc_inv]
    rw [Sem.run_bind, eqGuard_plain (by simp) (by simp), Result.andThen_ok]
    exact s_str h
  · rename_i a b
    rw [hx.sc_inv, hy.sc_inv]
    rw [Sem.run_bind, eqGuard_plain (by simp) (by simp), Result.andThen_ok]
    cases hk : (T t).k.isBool with
    | false => rw [hk] at h; exact not_bad h
    | true =>
      rw [hk] at h
      simp only [cond_true] at h ⊢
      have hb : (T t).k = .bool := by cases hq : (T t).k <;> rw [hq] at hk <;> first | rfl | cases hk
      have he := eq_bool (w := w) (a := a) (b := b) (hT.bool hb)
      cases op <;> first
        | (refine ⟨.bool (a == b), ?_, .sc⟩; simp only [Go.binOp, Sem.run_bind, he, Result.andThen_ok]; rfl)
        | (refine ⟨.bool (!(a == b)), ?_, .sc⟩; simp only [Go.binOp, Sem.run_bind, he, Result.andThen_ok]; rfl)
        | exact not_bad h
  · exact not_bad h
theorem s_un {op : UnOp} {x : VV} {vx : Value} (hx : V w E m x vx) (h : ∀ p ∈ (vun op x).chk, p) : ∃ v, (Op.unary op vx).run P w = .ok v w ∧ V w E m (vun op x).val v := by
  unfold vun at h ⊢
  split at h
  · rw [hx.sc_inv]; exact ⟨_, rfl, .sc⟩
  · rw [hx.sc_inv]; exact ⟨_, rfl, .sc⟩
  · exact not_bad h

theorem kind_row {d : TypeDesc} : (kindOf d).row = true ↔ d.isRow = true := by cases d <;> simp [kindOf, TK.row, TypeDesc.isRow]
/-- Cells, read as a value. -/
theorem s_take (hT : TOk P T) {t : TypeId} {cs : List VV} {b o : Nat} {u : Nat → Value} (hc : ∀ (j : Nat) x, cs[j]? = some x → w.cell? ⟨b, o + j, none⟩ = some (u j)) (hv : ∀ (j : Nat) x, cs[j]? = some x → V w E m x (u j))
    (h : ∀ p ∈ (vtake T t cs).chk, p) : ∃ v, (Instr.loadAt t (.pointer (some ⟨b, o, none⟩))).run P w = .ok v w ∧ V w E m (vtake T t cs).val v := by
  unfold vtake at h ⊢
  cases hk : (T t).k.known with
  | false => rw [hk] at h; exact not_bad h
  | true =>
    rw [hk] at h
    simp only [cond_true] at h ⊢
    have hne : (T t).k ≠ .other := by intro e; rw [e] at hk; cases hk
    obtain ⟨d, hd, hkd⟩ := hT.und hne
    obtain ⟨i, z, hi, hs, _⟩ := hT.size hne
    cases hr : (T t).k.row with
    | true =>
      rw [hr] at h
      simp only [cond_true] at h ⊢
      cases hl : Nat.ble (T t).sz cs.length with
      | false => rw [hl] at h; exact not_bad h
      | true =>
        simp only [cond_true]
        have hl' : (T t).sz ≤ cs.length := Nat.le_of_ble_eq_true hl
        refine ⟨.agg ((List.range (T t).sz).map u).toArray, run_loadAt_mid w b o t _ d ?_ hd (kind_row.1 (by rw [hkd]; exact hr)) (by simp [hi, hs]), .agg (by simp; omega) ?_⟩
        · intro j v hj
          rw [List.getElem?_map] at hj
          obtain ⟨k, hk', rfl⟩ := Option.map_eq_some_iff.1 hj
          obtain ⟨hj', rfl⟩ := List.getElem?_eq_some_iff.1 hk'
          simp at hj' ⊢
          exact hc j _ (List.getElem?_eq_getElem (by omega))
        · intro j x hx
          rw [List.getElem?_take] at hx
          split at hx
          · rename_i hj
            have := hv j x hx
            simpa [Array.getD, hj] using this
          · cases hx
    | false =>
      rw [hr] at h
      simp only [cond_false] at h ⊢
      cases cs with
      | nil => exact not_bad h
      | cons x cs =>
        refine ⟨u 0, ?_, hv 0 x rfl⟩
        have hrow : d.isRow = false := by
          rw [← Bool.not_eq_true, ← kind_row, hkd, hr]; simp
        have hagg : (isAgg t).run P w = .ok false w := by
          unfold isAgg
          rw [Sem.run_bind, run_underlying hd w]
          cases d <;> simp_all [TypeDesc.isRow]
        have h0 := hc 0 x rfl
        simp only [Nat.add_zero] at h0
        simp only [Instr.loadAt, Instr.sureAddr, Sem.run_bind, Sem.run_pure, Result.andThen_ok, loadVar, hagg]
        simp only [Bool.false_eq_true, if_false, run_load, h0]
end
end Go.Proofs.Ytnodhjlpoaahbaa
