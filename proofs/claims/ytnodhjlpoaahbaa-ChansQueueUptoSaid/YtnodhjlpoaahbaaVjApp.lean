/-
  What is the run's own, written: what is appended to an array.
-/
import Derived.Test.YtnodhjlpoaahbaaVjPut2
namespace Go.Proofs.Ytnodhjlpoaahbaa
open Go.RowKit
section
variable {P : Program} {T : TypeId → TE} {w w' : World} {E : Prot} {φ : Phi} {H H' : Nat → Ob} {st : St} {a : Act}

theorem run_app_room {t tx ty e : TypeId} {i : TypeInfo} (ht : P.underlying t = some (.slice e)) (hi : P.info? e = some i) {b n cap : Nat} {c : Array Value} {te : TypeId} (hc : w.heap[b]? = some (.cells c te (0, 0))) {x : Value} {m : Nat} {news : List Value} (hs : Src P i.size tx x m news w)
    (hroom : n + m ≤ cap) (hfit : n * i.size + news.length ≤ c.size) :
    (Builtin.append_ #[t, tx] ty #[.slice (some ⟨b, 0, none⟩) n cap, x]).run P w = .ok (.slice (some ⟨b, 0, none⟩) (n + m) cap) (w.setRow b (over c.toList (n * i.size) news).toArray) := by
  have hst := run_storeCells_at P b (n * i.size) te news 0 c w hc (by simpa using hfit) hs.one
  simp only [Nat.add_zero] at hst
  unfold over
  rcases hs.kind with ⟨e', hk⟩ | hk <;> simp [Builtin.append_, run_underlying ht, run_underlying hk, sizeOf, typeInfo, hi, hs.len, hroom, hs.cells, Addr.add_lit, hst]
theorem run_app_nil {t tx ty e : TypeId} {i : TypeInfo} (ht : P.underlying t = some (.slice e)) (hi : P.info? e = some i) {x : Value} {news : List Value} (hs : Src P i.size tx x 0 news w) :
    (Builtin.append_ #[t, tx] ty #[.slice none 0 0, x]).run P w = .ok (.slice none 0 0) w := by
  rcases hs.kind with ⟨e', hk⟩ | hk <;> simp [Builtin.append_, run_underlying ht, run_underlying hk, sizeOf, typeInfo, hi, hs.len, hs.cells]

theorem app_core (hT : TOk P T) {t ty e : TypeId} (hk : (T t).k = .sl e) (hkn : (T e).k.known = true) (hby : 0 < (T e).bytes) (hzl : (T e).zero.length = (T e).sz) (hH : HRel E H φ w) (hz : ∀ k, E.fz k → k < w.heap.size)
    {id c len : Nat} {hd : Option (Nat × Nat)} (hid : φ id = some (.arr c len hd)) {n : Nat} {f g F : Nat → List VV} (hrow : RowV w E φ true n (T e).sz f hd) {v x : Value} (hv : hdV hd n v) {m : Nat} {news : List Value} (hs : Src P (T e).sz t x m news w)
    (hg : ∀ i, i < m → (g i).length = (T e).sz) (hgv : ∀ (i j : Nat) (y : VV), i < m → (g i)[j]? = some y → V w (E.up φ).hold none y (news.getD (i * (T e).sz + j) undef)) (hb : (n + m) * (T e).bytes ≤ 140737488355328)
    (hF : ∀ i, F i = bif Nat.blt i n then f i else g (i - n)) :
    ∃ v' w' hd', (Builtin.append_ #[t, t] ty #[v, x]).run P w = .ok v' w' ∧ hdV hd' (n + m) v' ∧ Ext w φ w' (updP φ id (.arr (c + 1) (n + m) hd')) ∧
      ∀ H', H' id = .arr true (c + 1) (n + m) (T e).sz F → (∀ k, k ≠ id → φ k ≠ none → H' k = H k) → HRel E H' (updP φ id (.arr (c + 1) (n + m) hd')) w' := by
  have ht := hT.sl hk
  obtain ⟨ie, z, hie, hsz, hbe, hzz, hzc⟩ := hT.size' (known_ne hkn)
  generalize (T e).sz = sz at *
  generalize (T e).bytes = by' at *
  have hF1 : ∀ i, i < n → F i = f i := fun i hi => by
    rw [hF]
    have : Nat.blt i n = true := Nat.ble_eq_true_of_le hi
    rw [this]; rfl
  have hF2 : ∀ i, n ≤ i → F i = g (i - n) := fun i hi => by
    rw [hF]
    have : Nat.blt i n = false := by
      cases hq : Nat.blt i n with
      | true => have := Nat.le_of_ble_eq_true hq; omega
      | false => rfl
    rw [this]; rfl
  have hnl := hs.newsLen
  have hup : ∀ hd', PlUp (.arr c len hd) (.arr (c + 1) (n + m) hd') := fun hd' => ⟨c + 1, n + m, hd', rfl, by omega, fun h => by omega⟩
  have hmax : n + m ≤ maxLen := by
    have : (n + m) * 1 ≤ (n + m) * by' := Nat.mul_le_mul_left _ hby
    unfold maxLen; omega
  -- the rows, over what the cells are
  have hrows : ∀ (c' : Array Value) (w' : World) (φ' : Phi), Ext w φ w' φ' → (∀ (i j : Nat) (y : VV), i < n → (f i)[j]? = some y → V w (E.up φ).hold none y (c'.getD (i * sz + j) undef)) → (∀ k, k < m * sz → c'.getD (n * sz + k) undef = news.getD k undef) → (∀ i, i < n → (f i).length = sz) →
      (∀ i, i < n + m → (F i).length = sz) ∧ ∀ i j x, i < n + m → (F i)[j]? = some x → CellV w' E φ' true x (c'.getD (i * sz + j) undef) := by
    intro c' w' φ' hext h1 h2 h3
    have hlen : ∀ i, i < n + m → (F i).length = sz := by
      intro i hi
      rcases Nat.lt_or_ge i n with hlt | hge
      · rw [hF1 i hlt]; exact h3 i hlt
      · rw [hF2 i hge]; exact hg _ (by omega)
    refine ⟨hlen, fun i j x hi hx => ?_⟩
    have hj : j < sz := by rw [← hlen i hi]; exact (List.getElem?_eq_some_iff.1 hx).1
    rcases Nat.lt_or_ge i n with hlt | hge
    · rw [hF1 i hlt] at hx
      exact V.extH (h1 i j x hlt hx) hext
    · rw [hF2 i hge] at hx
      have e1 : i * sz + j = n * sz + ((i - n) * sz + j) := by
        have : i * sz = n * sz + (i - n) * sz := by rw [← Nat.add_mul]; congr 1; omega
        omega
      have hlt2 : (i - n) * sz + j < m * sz := by
        have : (i - n + 1) * sz ≤ m * sz := Nat.mul_le_mul_right _ (by omega)
        rw [Nat.add_mul] at this; omega
      rw [e1, h2 _ hlt2]
      exact V.extH (hgv (i - n) j x (by omega) hx) hext
  have hnone : ∀ k, k < m * sz → (news.getD k undef).oneCell' = true := by
    intro k hk
    have : k < news.length := by omega
    have e1 : news.getD k undef = news[k] := by simp [List.getD, this]
    rw [e1]; exact hs.one _ (List.getElem_mem _)
  -- a new block
  have grow : ∀ (base : Option Addr) (cap : Nat) (olds : List Value), v = .slice base n cap → cap < n + m → olds.length = n * sz → (Builtin.firstCells ie.size n (.slice base n cap)).run P w.drew = .ok olds.toArray w.drew →
      (∀ (i j : Nat) (y : VV), i < n → (f i)[j]? = some y → V w (E.up φ).hold none y (olds.getD (i * sz + j) undef)) → (∀ i, i < n → (f i).length = sz) → (∀ k, k < n * sz → (olds.getD k undef).oneCell' = true) → (∀ k, PlB (.arr c len hd) k → k < w.heap.size) →
      ∃ v' w' hd', (Builtin.append_ #[t, t] ty #[v, x]).run P w = .ok v' w' ∧ hdV hd' (n + m) v' ∧ Ext w φ w' (updP φ id (.arr (c + 1) (n + m) hd')) ∧
      ∀ H', H' id = .arr true (c + 1) (n + m) sz F → (∀ k, k ≠ id → φ k ≠ none → H' k = H k) → HRel E H' (updP φ id (.arr (c + 1) (n + m) hd')) w' := by
    intro base cap olds hve hcap hol hold h1 h3 h4 hpb
    have hr := run_append_grow_src (P := P) w t t ty e ie z ht hie hzz base n cap olds hold x m news (by rw [← hsz]; exact hs) hcap (by unfold maxLen at hmax; omega) (growslice_fits hcap (by rw [← hbe]; exact hb))
    generalize hcp : grownCap w (n + m) cap e = cap' at hr
    have hge : n + m ≤ cap' := by rw [← hcp]; exact grownCap_ge w (n + m) cap e
    have hle : cap' ≤ maxLen := by rw [← hcp]; exact grownCap_le_maxLen w (n + m) cap e hmax
    generalize hcells : (olds ++ news).toArray ++ Builtin.zeroCells z.cells (cap' - (n + m)) = c' at hr
    have hzs : z.cells.size = sz := by rw [hzc] at hzl; simpa using hzl
    have hcs : c'.size = cap' * sz := by
      rw [← hcells]
      simp only [Array.size_append, List.size_toArray, List.length_append, size_zeroCells, hzs, hol, hnl, ← Nat.add_mul]
      congr 1; omega
    have hlow : ∀ k, k < (n + m) * sz → c'.getD k undef = (olds ++ news).getD k undef := by
      intro k hk
      have hkl : k < (olds ++ news).length := by rw [List.length_append, hol, hnl, ← Nat.add_mul]; exact hk
      rw [← hcells]
      simp only [Array.getD_eq_getD_getElem?]
      rw [Array.getElem?_append_left (by simpa using hkl)]
      simp
    have hoff : ∀ i, i < n → ∀ j, j < sz → i * sz + j < n * sz := by
      intro i hi j hj
      have : (i + 1) * sz ≤ n * sz := Nat.mul_le_mul_right _ hi
      rw [Nat.add_mul] at this; omega
    have hadd : (n + m) * sz = n * sz + m * sz := Nat.add_mul _ _ _
    have ho1 : ∀ k, k < n * sz → c'.getD k undef = olds.getD k undef := by
      intro k hk
      rw [hlow k (by omega)]
      simp only [List.getD]
      rw [List.getElem?_append_left (by omega)]
    have ho2 : ∀ k, k < m * sz → c'.getD (n * sz + k) undef = news.getD k undef := by
      intro k hk
      rw [hlow _ (by omega)]
      simp only [List.getD]
      rw [List.getElem?_append_right (by omega), hol]
      congr 2; omega
    obtain ⟨hext, hmk⟩ := hH.upd (w' := w.drew.alloc (.cells c' e)) hz hid (hup (some (w.heap.size, cap'))) rfl rfl rfl (by show _ ≤ (w.drew.alloc _).heap.size; simp) (fun k hk _ => Below.heap_alloc w.drew _ k hk) (fun k hk => .inr (by obtain ⟨_, e'⟩ := hk; simp only [Option.some.injEq, Prod.mk.injEq] at e'; omega))
    refine ⟨_, _, some (w.heap.size, cap'), by rw [hve]; exact hr, ⟨rfl, hge⟩, hext, fun H' h5 h6 => hmk _ ?_ H' h5 h6⟩
    obtain ⟨g1, g2⟩ := hrows c' _ _ hext (fun i j y hi hy => by
      have hj : j < sz := by rw [← h3 i hi]; exact (List.getElem?_eq_some_iff.1 hy).1
      rw [ho1 _ (hoff i hi j hj)]; exact h1 i j y hi hy) ho2 h3
    refine ⟨rfl, rfl, c', e, heap_alloc_new w.drew _, hcs, hge, hle, g1, g2, fun k hk => ?_⟩
    rcases Nat.lt_or_ge k (n * sz) with hlt | hge'
    · rw [ho1 k hlt]; exact h4 k hlt
    · obtain ⟨q, rfl⟩ : ∃ q, k = n * sz + q := ⟨k - n * sz, by omega⟩
      rw [ho2 q (by omega)]; exact hnone q (by omega)
  cases hd with
  | none =>
    obtain ⟨rfl, rfl⟩ := hv
    rcases Nat.eq_zero_or_pos m with rfl | hm
    · have hr := run_app_nil (w := w) (ty := ty) ht hie (by rw [← hsz]; exact hs)
      obtain ⟨hext, hmk⟩ := hH.upd (w' := w) hz hid (hup none) rfl rfl rfl (Nat.le_refl _) (fun k _ _ => rfl) (fun k hk => by obtain ⟨_, e'⟩ := hk; cases e')
      exact ⟨_, _, none, hr, ⟨rfl, rfl⟩, hext, fun H' h5 h6 => hmk (.arr true (c + 1) (0 + 0) sz F) ⟨rfl, rfl, rfl⟩ H' h5 h6⟩
    · exact grow none 0 [] rfl (by omega) (by simp) (by simpa using run_firstCells_none (P := P) w.drew ie.size 0 0 0) (fun i j y hi => by omega) (fun i hi => by omega) (fun k hk => by omega) (fun k hk => by obtain ⟨_, e'⟩ := hk; cases e')
  | some gc =>
    obtain ⟨b, cap⟩ := gc
    obtain ⟨rfl, hncap⟩ := hv
    obtain ⟨cc, te, r1, r2, r3, r4, r5, r6, r7⟩ := hrow
    have hb' : b < w.heap.size := (Array.getElem?_eq_some_iff.1 r1).1
    by_cases hroom : n + m ≤ cap
    · have hmul : (n + m) * sz ≤ cap * sz := Nat.mul_le_mul_right _ hroom
      rw [Nat.add_mul] at hmul
      have hfit : n * sz + news.length ≤ cc.toList.length := by rw [show cc.toList.length = cc.size from Array.length_toList, r2]; omega
      have hr := run_app_room (w := w) (ty := ty) ht hie r1 (by rw [← hsz]; exact hs) hroom (by rw [← hsz, r2]; omega)
      rw [← hsz] at hr
      obtain ⟨f1, f2, f3, f4, f5, f6⟩ := setRow_facts r1 (over cc.toList (n * sz) news).toArray
      obtain ⟨hext, hmk⟩ := hH.upd hz hid (hup (some (b, cap))) f4 f5 f6 (Nat.le_of_eq f3.symm) (fun k _ hk => f2 k fun e => hk ⟨cap, by rw [e]⟩) (fun k hk => .inl (by obtain ⟨_, e'⟩ := hk; exact ⟨_, e'⟩))
      refine ⟨_, _, some (b, cap), hr, ⟨rfl, hroom⟩, hext, fun H' h5 h6 => hmk _ ?_ H' h5 h6⟩
      have hoff : ∀ i, i < n → ∀ j, j < sz → i * sz + j < n * sz := by
        intro i hi j hj
        have : (i + 1) * sz ≤ n * sz := Nat.mul_le_mul_right _ hi
        rw [Nat.add_mul] at this; omega
      have ho2 : ∀ k, k < m * sz → (over cc.toList (n * sz) news).toArray.getD (n * sz + k) undef = news.getD k undef := fun k hk => by rw [toArray_getD, over_in hfit (by omega)]
      obtain ⟨g1, g2⟩ := hrows (over cc.toList (n * sz) news).toArray _ _ hext (fun i j y hi hy => by
        have hj : j < sz := by rw [← r5 i hi]; exact (List.getElem?_eq_some_iff.1 hy).1
        rw [toArray_getD, over_out hfit (.inl (hoff i hi j hj)), getD_toList]; exact r6 i j y hi hy) ho2 r5
      refine ⟨rfl, rfl, _, te, f1, by rw [List.size_toArray, over_len hfit, show cc.toList.length = cc.size from Array.length_toList, r2], hroom, r4, g1, g2, fun k hk => ?_⟩
      rw [Nat.add_mul] at hk
      rcases Nat.lt_or_ge k (n * sz) with hlt | hge'
      · rw [toArray_getD, over_out hfit (.inl hlt), getD_toList]; exact r7 k hlt
      · obtain ⟨q, rfl⟩ : ∃ q, k = n * sz + q := ⟨k - n * sz, by omega⟩
        rw [ho2 q (by omega)]; exact hnone q (by omega)
    · have hmul : n * sz ≤ cap * sz := Nat.mul_le_mul_right _ hncap
      have htl : (cc.toList.take (n * sz)).length = n * sz := by rw [List.length_take, show cc.toList.length = cc.size from Array.length_toList, r2]; omega
      have htg : ∀ k, k < n * sz → (cc.toList.take (n * sz)).getD k undef = cc.getD k undef := by
        intro k hk
        rw [← getD_toList]
        simp only [List.getD]
        rw [List.getElem?_take_of_lt hk]
      refine grow (some ⟨b, 0, none⟩) cap (cc.toList.take (n * sz)) rfl (by omega) htl ?_ (fun i j y hi hy => ?_) r5 (fun k hk => ?_) (fun k hk => by obtain ⟨_, e'⟩ := hk; simp only [Option.some.injEq, Prod.mk.injEq] at e'; omega)
      · refine run_firstCells_some (P := P) w.drew ie.size n ⟨b, 0, none⟩ n cap _ (by rw [← hsz]; exact htl) fun j u hj => ?_
        have hjl : j < n * sz := by rw [← htl]; exact (List.getElem?_eq_some_iff.1 hj).1
        have e1 := htg j hjl
        simp only [List.getD, hj, Option.getD_some] at e1
        rw [Addr.add_lit, Nat.zero_add, e1]
        exact cell_at (w := w) r1 (by rw [r2]; omega)
      · have hj : j < sz := by rw [← r5 i hi]; exact (List.getElem?_eq_some_iff.1 hy).1
        have : (i + 1) * sz ≤ n * sz := Nat.mul_le_mul_right _ hi
        rw [Nat.add_mul] at this
        rw [htg _ (by omega)]; exact r6 i j y hi hy
      · rw [htg k hk]; exact r7 k hk
end
end Go.Proofs.Ytnodhjlpoaahbaa
