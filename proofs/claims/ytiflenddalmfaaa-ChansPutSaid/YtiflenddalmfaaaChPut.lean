/-
  The walks of layer 13's Put and of the library's functions that it calls.
-/
import Derived.Test.YtiflenddalmfaaaChInsert2
import Derived.Deep.RegionHeld3
namespace Go.Proofs.Ytiflenddalmfaaa
open Go.RowKit

set_option maxHeartbeats 1000000 in
theorem put1_calls {w : World} {yv xv : Value} {x y : List Int} {X : Nat} (hy : Is pM w [yv] y) (hX : w.cell? ⟨X, 0, none⟩ = some xv) (hx : Is pM w [xv] x) :
    Calls Try.prog 19 #[yv, .pointer (some ⟨X, 0, none⟩)] w fun e w' => e = .returned (.bool (lessP x y)) ∧ ∃ n, w' = w.drewN n := by
  have HC := less_calls hx hy
  obtain ⟨ao, ca, rfl, _⟩ := is_ints hx
  obtain ⟨bo, cb, rfl, _⟩ := is_ints hy
  go_enter Try.func19, Try.ntmps19
  go_wp2_with fail
  refine HC.mono ?_; rintro e w1 ⟨rfl, nq, rfl⟩
  go_wp2
  go_ret
  exact ⟨rfl, _, rfl⟩

set_option maxHeartbeats 1000000 in
theorem index_calls {w : World} {qv xv : Value} {x : List Int} {q : List (List Int)} {X : Nat} (hq : Is pQ w [qv] q) (hX : w.cell? ⟨X, 0, none⟩ = some xv) (hx : Is pM w [xv] x) :
    Calls Try.prog 18 #[qv, .func (.func 19) #[] #[.pointer (some ⟨X, 0, none⟩)]] w fun e w' => e = .returned (.int .i64 (idxP x q)) ∧ ∃ n, w' = w.drewN n := by
  obtain ⟨ao, cap, rfl, h1, h2, h3⟩ := is_slice1 hq
  clear hq
  unfold maxLen at h2
  go_enter Try.func18, Try.ntmps18
  go_wp2
  go_loopw [8] (fun i wr => ∃ k : Nat, k ≤ q.length ∧ i = .int .i64 k ∧ (∀ j y, j < k → q[j]? = some y → lessP x y = false) ∧ ∃ n, wr = w.drewN n) (fun i _ => q.length - (intOf i).toNat)
  case atStart => exact ⟨0, Nat.zero_le _, rfl, fun j y h => by omega, 0, rfl⟩
  case round =>
    obtain ⟨k, hk, rfl, hs, nq, rfl⟩ := hrel
    by_cases hlt : k < q.length
    · obtain ⟨b, off, rfl, hbl, hc⟩ := h3 (by omega)
      obtain ⟨u, hu, hm⟩ := hc k q[k] (by simp [hlt])
      have HQ : q[k]? = some q[k] := by simp [hlt]
      have HC := put1_calls (hm.drewN stays_M nq) (X := X) hX (hx.drewN stays_M nq)
      cases hl : lessP x q[k] with
      | true =>
        have HI : Hid (idxP x q = k) := by unfold Hid idxP; rw [firstP_hit x q k _ HQ hs hl, if_pos hlt]
        rw [hl] at HC
        clear hs hc h3 hl HQ
        generalize q[k] = m at *
        go_wp2_with (go_at_call 19; refine HC.mono ?_; rintro e w1 ⟨rfl, n1, rfl⟩)
        go_ret
        exact ⟨by rw [HI.out]; rfl, _, rfl⟩
      | false =>
        have HS : Hid (∀ j y, j < k + 1 → q[j]? = some y → lessP x y = false) := by
          intro j y hj hy
          by_cases e : j = k
          · subst e; rw [HQ] at hy; cases hy; exact hl
          · exact hs j y (by omega) hy
        rw [hl] at HC
        clear hs hc h3 hl HQ
        generalize q[k] = m at *
        go_wp2_with (go_at_call 19; refine HC.mono ?_; rintro e w1 ⟨rfl, n1, rfl⟩)
        go_roundw
        case rel => exact ⟨k + 1, by omega, by go_num, HS.out, _, rfl⟩
        case measure => simp [intOf]; omega
    · obtain rfl : k = q.length := by omega
      have HI : Hid (idxP x q = -1) := by unfold Hid idxP; rw [firstP_miss x q fun j y hy => hs j y (List.getElem?_eq_some_iff.1 hy).1 hy, if_neg (by omega)]
      clear hs h3
      go_wp2
      go_ret
      exact ⟨by rw [HI.out]; rfl, _, rfl⟩

/-- A message, fitted into a shape's types. -/
def fitM (fs : List D.Type) (m : List Int) : List Int := List.zipWith (fun t v => fitP t.Bits t.Signed v) fs m
/-- The error of putting. -/
def putE (room : Int) (fs : List D.Type) (q : List (List Int)) (m : List Int) : Int :=
  if m.length ≠ fs.length then 42 else if fs.all typeP = false then 42 else if room ≤ q.length then 45 else 0
/-- What is put, and where. -/
def putX (fs : List D.Type) (q : List (List Int)) (m : List Int) (sorted : Bool) : List (List Int) := putAt q (if sorted then firstP (fitM fs m) q else q.length) (fitM fs m)
theorem zero_ints (n : Nat) : (madeCells #[Value.int .i64 0] n).toList = List.replicate n (Value.int .i64 0) := toList_madeCells_one (.int .i64 0) n
/-- The channel that is handed out. -/
def putSh (room : Int) (fs : List D.Type) (q : List (List Int)) (m : List Int) (sh : Int) : Int := if putE room fs q m = 0 then sh else 0
def putQ (room : Int) (fs : List D.Type) (q : List (List Int)) (m : List Int) (sorted : Bool) : List (List Int) := if putE room fs q m = 0 then putX fs q m sorted else []
theorem putSh_bad {room sh : Int} {fs : List D.Type} {q : List (List Int)} {m : List Int} {e : Int} (h : putE room fs q m = e) (he : e ≠ 0) : putSh room fs q m sh = 0 := by unfold putSh; rw [h, if_neg he]
theorem putQ_bad {room : Int} {fs : List D.Type} {q : List (List Int)} {m : List Int} {sorted : Bool} {e : Int} (h : putE room fs q m = e) (he : e ≠ 0) : putQ room fs q m sorted = [] := by unfold putQ; rw [h, if_neg he]
/-- While it is fitted. -/
def fitTo (fs : List D.Type) (m : List Int) (k : Nat) : List Int := (fitM fs m).take k ++ List.replicate (m.length - k) 0
theorem fitM_len {fs : List D.Type} {m : List Int} (h : m.length = fs.length) : (fitM fs m).length = m.length := by simp [fitM, h]
theorem fitTo_len {fs : List D.Type} {m : List Int} {k : Nat} (h : m.length = fs.length) (hk : k ≤ m.length) : (fitTo fs m k).length = m.length := by
  simp [fitTo, fitM_len h]; omega
theorem fitTo_all {fs : List D.Type} {m : List Int} (h : m.length = fs.length) : fitTo fs m m.length = fitM fs m := by
  simp [fitTo]; rw [← fitM_len h, List.take_length]
theorem fitTo_set {fs : List D.Type} {m : List Int} {k : Nat} (h : m.length = fs.length) (hk : k < m.length) (t : D.Type) (ht : fs[k]? = some t) :
    (fitTo fs m k).set k (fitP t.Bits t.Signed (m.getD k 0)) = fitTo fs m (k + 1) := by
  have hl := fitM_len h
  have he : (fitM fs m)[k]? = some (fitP t.Bits t.Signed (m.getD k 0)) := by
    simp [fitM, List.getElem?_zipWith, ht, List.getD, hk]
  unfold fitTo
  rw [List.set_append_right _ _ (by simp; omega), take_more he, show m.length - k = (m.length - (k + 1)) + 1 by omega, List.replicate_succ]
  simp [show k - min k (fitM fs m).length = 0 by omega]

theorem fit_wf (b v : Int) (s : Bool) : (Lit.int .i64 (fitP b s v)).wf = true := by
  rw [wf_i64]
  unfold fitP
  split
  · rename_i hb
    have hp := pow_bd b hb.1 hb.2
    have e1 := Int.emod_nonneg (v + 2 ^ b.toNat / 2) (show (2 : Int) ^ b.toNat ≠ 0 by omega)
    have e2 := Int.emod_lt_of_pos (v + 2 ^ b.toNat / 2) (show (0 : Int) < 2 ^ b.toNat by omega)
    have e3 := Int.emod_nonneg v (show (2 : Int) ^ b.toNat ≠ 0 by omega)
    have e4 := Int.emod_lt_of_pos v (show (0 : Int) < 2 ^ b.toNat by omega)
    split <;> omega
  · omega

/-- Where Put's own variables lie, while the message is fitted. -/
structure PF (w wr : World) (room sh : Int) (fv qv : Value) (X L : Nat) (ys : List Int) : Prop where
  b0 : wr.heap[w.heap.size]? = some (.cells #[.int .i64 room, fv] 24 (0, 0))
  b1 : wr.heap[w.heap.size + 1]? = some (.cells #[.int .i64 sh, qv] 27 (0, 0))
  b2 : wr.heap[w.heap.size + 2]? = some (.cells #[.int .i64 0, .slice none 0 0] 27 (0, 0))
  b4 : wr.heap[X]? = some (.cells #[.slice (some ⟨w.heap.size + 3, 0, none⟩) L L] 29 (0, 0))
  x : OwnM wr w.heap.size (.slice (some ⟨w.heap.size + 3, 0, none⟩) L L) ys
  len : ys.length = L
  below : Below w.heap.size w wr
section
variable {w wr w2 : World} {room sh : Int} {fv qv : Value} {X L : Nat} {ys : List Int}
theorem PF.lt (h : PF w wr room sh fv qv X L ys) : w.heap.size + 2 < wr.heap.size ∧ X < wr.heap.size := ⟨blk_lt h.b2, blk_lt h.b4⟩
theorem PF.nx (h : PF w wr room sh fv qv X L ys) (k : Nat) (hk : (Value.slice (some ⟨w.heap.size + 3, 0, none⟩) L L).ownBlock = some k) : X ≠ k := by
  rintro rfl; obtain ⟨c, hc⟩ := ownsRow_blk h.x.row hk; exact blk_ne h.b4 hc (by decide) rfl
theorem PF.kept (h : PF w wr room sh fv qv X L ys) (hb : Below wr.heap.size wr w2) : PF w w2 room sh fv qv X L ys :=
  have hl := h.lt
  ⟨(hb.block _ (by omega)).trans h.b0, (hb.block _ (by omega)).trans h.b1, (hb.block _ (by omega)).trans h.b2, (hb.block _ (by omega)).trans h.b4, h.x.same fun k hk => hb.block k (h.x.row.lt k hk).2, h.len, h.below.trans (hb.mono h.below.size)⟩
theorem PF.cell (h : PF w wr room sh fv qv X L ys) {k : Nat} (hk : k < L) : wr.cell? ⟨w.heap.size + 3, k, none⟩ = some (.int .i64 (ys.getD k 0)) := by
  have hrow := h.x.row
  rw [h.len] at hrow
  have := h.len
  rw [hrow.cellAt k (by omega)]; simp [List.getD, show k < ys.length by omega]
theorem PF.free (h : PF w wr room sh fv qv X L ys) (k : Nat) : wr.frozen? ⟨w.heap.size + 3, k, none⟩ = false := by
  have hrow := h.x.row
  rw [h.len] at hrow
  exact hrow.frozenAt k
theorem PF.set (h : PF w wr room sh fv qv X L ys) {k : Nat} {n : Int} (hn : (Lit.int .i64 n).wf = true) (hk : k < L) : PF w (wr.setCell ⟨w.heap.size + 3, k, none⟩ (.int .i64 n)) room sh fv qv X L (ys.set k n) := by
  have hrow := h.x.row
  rw [h.len] at hrow
  have hst := hrow.stored k (.int .i64 n)
  refine ⟨?_, ?_, ?_, ?_, ⟨?_, fun i hi => ?_⟩, by rw [List.length_set]; exact h.len, h.below.setCell (by simp) _⟩
  · rw [Below.heap_setCell _ _ _ _ (by simp)]; exact h.b0
  · rw [Below.heap_setCell _ _ _ _ (by simp)]; exact h.b1
  · rw [Below.heap_setCell _ _ _ _ (by simp)]; exact h.b2
  · rw [Below.heap_setCell _ _ _ _ (h.nx (w.heap.size + 3) rfl)]; exact h.b4
  · rw [List.length_set, h.len, List.map_set]; exact hst.1
  · rw [List.length_set] at hi
    by_cases e : i = k
    · subst e; simp [List.getD, hi]; exact hn
    · have := h.x.wf i hi
      simpa [List.getD, List.getElem?_set_ne (Ne.symm e)] using this
end
theorem OwnQ.base {w : World} {n0 n1 : Nat} {v : Value} {vs : List Value} {q : List (List Int)} (h : OwnQ w n0 v vs q) (hb : n1 ≤ n0) : OwnQ w n1 v vs q :=
  ⟨⟨h.row.1, h.row.2.imp id fun ⟨g, cap, cur, e, h1, h2⟩ => ⟨g, cap, cur, e, Nat.le_trans hb h1, h2⟩⟩, h.len, fun i u m hu hm => (h.each i u m hu hm).base hb⟩
/-- Where the message is put in. -/
theorem put_ins {w wO : World} {room sh : Int} {fv qv ov : Value} {vs : List Value} {X L O : Nat} {x : List Int} {q : List (List Int)} (hp : PF w wO room sh fv qv X L x) (hown : OwnQ wO w.heap.size ov vs q)
    (hO : wO.heap[O]? = some (.cells #[.int .i64 sh, ov] 27 (0, 0))) (i V : Nat) (hV : wO.heap.size = V) (hi : i ≤ q.length) (hbig : (q.length + 1) * 24 ≤ 140737488355328) :
    Calls Try.prog 20 #[ov, .int .i64 i, .slice (some ⟨V, 0, none⟩) 1 1] (wO.alloc (.cells #[.slice (some ⟨w.heap.size + 3, 0, none⟩) L L] 29)) fun e w' =>
      ∃ ao cap vs', e = .returned (.slice ao (q.length + 1) cap) ∧ OwnQ w' w.heap.size (.slice ao (q.length + 1) cap) vs' (putAt q i x) ∧ w'.heap[O]? = some (.cells #[.int .i64 sh, ov] 27 (0, 0)) ∧
        w'.heap[w.heap.size + 2]? = some (.cells #[.int .i64 0, .slice none 0 0] 27 (0, 0)) ∧ Below w.heap.size w w' := by
  subst hV
  have hsz := hp.below.size
  have hlt := hp.lt
  have hOl := blk_lt hO
  refine (insert_calls i (hown.alloc _) (heap_alloc_new wO _) (fun e => by have := (hown.row.lt _ e).2; omega) (hp.x.alloc _) hi hbig (by simp; omega)).mono ?_
  rintro e w' ⟨v', rfl, hq', ht⟩
  obtain ⟨ao, cap, rfl, _⟩ := own_one hq'.row
  rw [putAt_len hi] at hq' ⊢
  have far : ∀ (k : Nat) (c : Array Value) (t : TypeId), wO.heap[k]? = some (.cells c t (0, 0)) → t ≠ 29 → w'.heap[k]? = some (.cells c t (0, 0)) := fun k c t hk hne => by
    have hkl := blk_lt hk
    rw [ht.block k (by simp; omega) (fun e => by obtain ⟨cur, hcur⟩ := ownsRow_blk hown.row e; exact blk_ne hk hcur hne rfl), Below.heap_alloc _ _ _ hkl]; exact hk
  refine ⟨ao, cap, _, rfl, hq', far O _ _ hO (by decide), far _ _ _ hp.b2 (by decide), ?_⟩
  exact (hp.below.alloc hsz _).trans (ht.below (by simp; omega) fun k hk => (hown.row.lt k hk).1)

/-- The types of a shape, as they lie. -/
theorem is_types {w : World} {v : Value} {fs : List D.Type} (h : Is (Pkg.slice 2 16 p_Type) w [v] fs) :
    ∃ ao cap, v = .slice ao fs.length cap ∧ fs.length ≤ cap ∧ cap ≤ maxLen ∧ (0 < fs.length → ∃ b off, ao = some ⟨b, off, none⟩ ∧ b < w.heap.size ∧
      ∀ i t, fs[i]? = some t → w.cell? ⟨b, off + i * 2, none⟩ = some (.int .i64 t.Bits) ∧ w.cell? ⟨b, off + i * 2 + 1, none⟩ = some (.bool t.Signed)) := by
  obtain ⟨ao, cap, e, h1, h2, h3⟩ := is_slice h
  refine ⟨ao, cap, e, h1, h2, fun hp => ?_⟩
  obtain ⟨b, off, e2, hb, hel⟩ := h3 hp
  refine ⟨b, off, e2, hb, fun i t ht => ?_⟩
  obtain ⟨es, _, h5, h6⟩ := hel i t ht
  simp only [p_Type, is_via, is_cons_int, is_cons_bool, is_unit] at h6
  obtain ⟨_, rfl, _, _, rfl, rfl⟩ := h6
  exact ⟨by have := h5 0 (by omega); simpa using this, by have := h5 1 (by omega); simpa using this⟩

end Go.Proofs.Ytiflenddalmfaaa
