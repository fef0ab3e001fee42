/-
  The walks of layer 18's calls that write: New, Mark, Clear.
-/
import Derived.Test.YtnodhjlpoaahbaaStoreAt
import Derived.BigRegion
import Derived.Deep.RegionWith
namespace Go.Proofs.Ytnodhjlpoaahbaa
open Go.RowKit

set_option maxRecDepth 100000 in
set_option maxHeartbeats 400000 in
theorem new_yes (most : Int) (w : World) (h1 : 1 ≤ most) (h2 : most ≤ 20000) :
    Calls Try.prog 10 #[.int .i64 most] w fun e w' => e = .returned (.tuple #[.pointer (some ⟨w.heap.size + 1, 0, none⟩), .int .i64 0]) ∧ Below w.heap.size w w' ∧
      StAt w' w.heap.size (w.heap.size + 1) (.slice none 0 0) (.slice none 0 0) w.heap.size most [] [] (List.replicate 16 0) := by
  have hmk : ∀ w, (Instr.makeSlice 74 (.int .i64 16) (.int .i64 16)).run Try.prog w = .ok (.slice (some ⟨w.heap.size, 0, none⟩) 16 16) (w.alloc (.cells #[.int .i64 0, .int .i64 0, .int .i64 0, .int .i64 0, .int .i64 0, .int .i64 0, .int .i64 0, .int .i64 0, .int .i64 0, .int .i64 0, .int .i64 0, .int .i64 0, .int .i64 0, .int .i64 0, .int .i64 0, .int .i64 0] 3)) := fun _ => by kernel_rfl
  have d1 : decide (most < 1) = false := by simp; omega
  have d2 : decide (20000 < most) = false := by simp; omega
  go_enter Try.func10, Try.ntmps10
  go_wp2
  go_ret2
  refine ⟨rfl, ((Below.refl _ _).alloc (Nat.le_refl _) _).alloc (by simp) _, ?_⟩
  exact {
    blk := by have := heap_alloc_new (w.alloc (.cells #[.int .i64 0, .int .i64 0, .int .i64 0, .int .i64 0, .int .i64 0, .int .i64 0, .int .i64 0, .int .i64 0, .int .i64 0, .int .i64 0, .int .i64 0, .int .i64 0, .int .i64 0, .int .i64 0, .int .i64 0, .int .i64 0] 3)) (.cells #[.int .i64 most, .slice none 0 0, .slice none 0 0, .slice (some ⟨w.heap.size, 0, none⟩) 16 16] 77); simpa using this
    keys := World.ownsRow_nil _ _ _ _
    bits := World.ownsRow_nil _ _ _ _
    slots := by rw [Below.heap_alloc _ _ _ (by simp), heap_alloc_new]; rfl
    lo := ⟨by omega, Nat.le_refl _⟩
    len := rfl
    tab := Tab.empty _ 16 (by decide)
    room := by decide
    nodup := List.nodup_nil
    few := by decide
    size := by decide
    keysz := fun k hk => by cases hk
    under := by simp; omega
    bd := h2 }
set_option maxHeartbeats 400000 in
theorem new_no (most : Int) (w : World) (h : most < 1 ∨ 20000 < most) :
    Calls Try.prog 10 #[.int .i64 most] w fun e w' => e = .returned (.tuple #[.pointer none, .int .i64 42]) ∧ w = w' := by
  rcases h with h | h
  · have d1 : decide (most < 1) = true := by simp; omega
    go_enter Try.func10, Try.ntmps10
    go_wp2
    go_ret2
    exact ⟨rfl, rfl⟩
  · have d1 : decide (most < 1) = false := by simp; omega
    have d2 : decide (20000 < most) = true := by simp; omega
    go_enter Try.func10, Try.ntmps10
    go_wp2
    go_ret2
    exact ⟨rfl, rfl⟩

variable {w : World} {n0 B : Nat} {kv bv : Value} {sb : Nat} {most : Int} {ks : List ByteArray} {bs : List Int} {sl : List Nat}

/-- The blocks that a store owns. -/
def fp (B : Nat) (kv bv : Value) (sb k : Nat) : Prop := k = B ∨ k = sb ∨ kv.ownBlock = some k ∨ bv.ownBlock = some k
theorem StMem.kept {w' : World} (h : StMem w n0 B kv bv sb most ks bs sl) (hs : ∀ k, k < w.heap.size → fp B kv bv sb k → w'.heap[k]? = w.heap[k]?) : StMem w' n0 B kv bv sb most ks bs sl where
  blk := by rw [hs B (blk_lt h.blk) (.inl rfl)]; exact h.blk
  keys := ownsRow_same h.keys fun k hk => hs k (ownsRow_lt h.keys hk) (.inr (.inr (.inl hk)))
  bits := ownsRow_same h.bits fun k hk => hs k (ownsRow_lt h.bits hk) (.inr (.inr (.inr hk)))
  slots := by rw [hs sb (blk_lt h.slots) (.inr (.inl rfl))]; exact h.slots
  lo := h.lo
theorem StMem.of_heap {w' : World} (h : StMem w n0 B kv bv sb most ks bs sl) (e : w'.heap = w.heap) : StMem w' n0 B kv bv sb most ks bs sl := h.kept fun k _ _ => by rw [e]
theorem StMem.alloc (h : StMem w n0 B kv bv sb most ks bs sl) (o : Obj) : StMem (w.alloc o) n0 B kv bv sb most ks bs sl := h.kept fun _ hk _ => Below.heap_alloc _ _ _ hk
theorem StAt.alloc (h : StAt w n0 B kv bv sb most ks bs sl) (o : Obj) : StAt (w.alloc o) n0 B kv bv sb most ks bs sl := ⟨h.toStMem.alloc o, h.toStOk⟩
theorem StAt.kept {w' : World} (h : StAt w n0 B kv bv sb most ks bs sl) (hs : ∀ k, k < w.heap.size → fp B kv bv sb k → w'.heap[k]? = w.heap[k]?) : StAt w' n0 B kv bv sb most ks bs sl := ⟨h.toStMem.kept hs, h.toStOk⟩

set_option maxHeartbeats 400000 in
theorem change_no (n : Int) (f : Value) (hn : n < 0 ∨ ks.length ≤ n) (h : StAt w n0 B kv bv sb most ks bs sl) :
    Calls Try.prog 40 #[.pointer (some ⟨B, 0, none⟩), .int .i64 n, f] w fun e w' => e = .returned (.int .i64 46) ∧ w = w' := by
  have HR : Hid (inB n ks.length = false) := by unfold Hid inB; simp; omega
  clear hn
  go_enter Try.func40, Try.ntmps40
  go_wp2_with (go_at_call 39; (with_reducible refine (has_calls n h).mono ?_); rintro e w1 ⟨rfl, rfl⟩; rw [HR.out])
  go_ret
  exact ⟨rfl, rfl⟩
set_option maxHeartbeats 400000 in
theorem mark_fn (a b : Int) (cb : Nat) (w : World) (hc : w.cell? ⟨cb, 0, none⟩ = some (.int .u64 b)) :
    Calls Try.prog 41 #[.int .u64 a, .pointer (some ⟨cb, 0, none⟩)] w fun e w' => e = .returned (.int .u64 (bits .or .u64 a b)) ∧ w' = w := by
  go_enter Try.func41, Try.ntmps41
  go_wp2
  go_ret
  exact ⟨rfl, rfl⟩
set_option maxRecDepth 100000 in
set_option maxHeartbeats 1000000 in
theorem mark_change (j : Nat) (hj : j < ks.length) (b a : Int) (cb kb kc : Nat) (h : StAt w n0 B kv (.slice (some ⟨kb, 0, none⟩) bs.length kc) sb most ks bs sl) (hcb : w.cell? ⟨cb, 0, none⟩ = some (.int .u64 b))
    (hcell : w.cell? ⟨kb, j, none⟩ = some (.int .u64 a)) (hfr : w.frozen? ⟨kb, j, none⟩ = false) (n : Int) (hn : n = j) :
    Calls Try.prog 40 #[.pointer (some ⟨B, 0, none⟩), .int .i64 n, .func (Fn.func 41) #[] #[.pointer (some ⟨cb, 0, none⟩)]] w fun e w' => e = .returned (.int .i64 0) ∧ w' = (w.setCell ⟨kb, j, none⟩ (.int .u64 (bits .or .u64 a b))).drew := by
  have hf := h.few
  have hl := h.len
  have HR : Hid (inB n ks.length = true) := by unfold Hid inB; simp; omega
  have hn1 : 0 ≤ n := by omega
  have hn2 : n < bs.length := by omega
  have et : n.toNat = j := by omega
  clear hn
  have h2 : w.cell? ⟨B, 2, none⟩ = some (.slice (some ⟨kb, 0, none⟩) bs.length kc) := cell_of_blk h.blk rfl
  go_enter Try.func40, Try.ntmps40
  go_wp2_with (go_at_call 39; (with_reducible refine (has_calls n h).mono ?_); rintro e w1 ⟨rfl, rfl⟩; rw [HR.out])
  go_region_with (go_at_call 41; refine (mark_fn a b cb _ (by simpa using hcb)).mono ?_; rintro e w1 ⟨rfl, rfl⟩)
  all_goals
    go_wp2
    go_ret
    exact ⟨rfl, rfl⟩
set_option maxHeartbeats 400000 in
theorem mark_no (n b : Int) (hn : n < 0 ∨ ks.length ≤ n) (h : StAt w n0 B kv bv sb most ks bs sl) :
    Calls Try.prog 17 #[.pointer (some ⟨B, 0, none⟩), .int .i64 n, .int .u64 b] w fun e w' => e = .returned (.int .i64 46) ∧ w' = w.alloc (.cells #[.int .u64 b] 34) := by
  have h' := h.alloc (.cells #[.int .u64 b] 34)
  go_enter Try.func17, Try.ntmps17
  go_wp2_with fail
  refine (change_no n _ hn h').mono ?_; rintro e w1 ⟨rfl, rfl⟩
  go_wp2
  go_ret
  exact ⟨rfl, rfl⟩
set_option maxHeartbeats 400000 in
theorem mark_yes (j : Nat) (hj : j < ks.length) (b : Int) (h : StAt w n0 B kv bv sb most ks bs sl) :
    Calls Try.prog 17 #[.pointer (some ⟨B, 0, none⟩), .int .i64 j, .int .u64 b] w fun e w' => e = .returned (.int .i64 0) ∧ StAt w' n0 B kv bv sb most ks (bs.set j (bits .or .u64 (bs.getD j 0) b)) sl ∧ Touch w w' (fp B kv bv sb) := by
  have hf := h.few
  have hl := h.len
  obtain ⟨n, hn⟩ : ∃ n : Int, n = j := ⟨_, rfl⟩
  have HN := Lib.hid hn
  rw [← hn]
  clear hn
  obtain ⟨ka, kc, rfl, hkc, hk⟩ := own_cases h.bits
  obtain ⟨kb, rfl, hc⟩ := hk (by omega)
  have h' := h.alloc (.cells #[.int .u64 b] 34)
  have hlt : kb < w.heap.size := ownsRow_lt h.bits rfl
  have hcell := hc j (by omega)
  have ec : (bs.map (Value.int .u64))[j]? = some (.int .u64 (bs.getD j 0)) := by simp [List.getD, show j < bs.length by omega]
  rw [ec] at hcell
  have hfr := h.bits.frozenAt j
  have hs := h.bits.stored j (.int .u64 (bits .or .u64 (bs.getD j 0) b))
  have hmap : (bs.map (Value.int .u64)).set j (.int .u64 (bits .or .u64 (bs.getD j 0) b)) = (bs.set j (bits .or .u64 (bs.getD j 0) b)).map (Value.int .u64) := by rw [List.map_set]
  rw [hmap] at hs
  have hne1 : B ≠ kb := by obtain ⟨cur, hcur⟩ := ownsRow_blk h.bits rfl; exact blk_ne h.blk hcur (by decide)
  have hne2 : sb ≠ kb := by obtain ⟨cur, hcur⟩ := ownsRow_blk h.bits rfl; exact blk_ne h.slots hcur (by decide)
  have hne3 : kv.ownBlock ≠ some kb := by
    intro e; obtain ⟨cur, hcur⟩ := ownsRow_blk h.bits rfl; obtain ⟨cur', hcur'⟩ := ownsRow_blk h.keys e
    exact blk_ne hcur hcur' (by decide) rfl
  clear hc hk ec hmap
  have HS : Hid (StAt (w.setCell ⟨kb, j, none⟩ (.int .u64 (bits .or .u64 (bs.getD j 0) b))) n0 B kv (.slice (some ⟨kb, 0, none⟩) bs.length kc) sb most ks (bs.set j (bits .or .u64 (bs.getD j 0) b)) sl) := {
    blk := by rw [Below.heap_setCell _ _ _ _ hne1]; exact h.blk
    keys := ownsRow_same h.keys fun k hk => Below.heap_setCell _ _ _ _ (by rintro rfl; exact hne3 hk)
    bits := by simpa using hs.1
    slots := by rw [Below.heap_setCell _ _ _ _ hne2]; exact h.slots
    lo := h.lo
    len := by simpa using h.len
    tab := h.tab
    room := h.room
    nodup := h.nodup
    few := h.few
    size := h.size
    keysz := h.keysz
    under := h.under
    bd := h.bd }
  clear hs hl
  generalize bs.getD j 0 = a at *
  go_enter Try.func17, Try.ntmps17
  go_wp2_with fail
  refine (mark_change j hj b a w.heap.size kb kc h' (by simp [World.cell?_alloc_new]) (by rw [World.cell?_alloc_past _ _ _ hlt]; exact hcell) (by rw [World.frozen?_alloc_past _ _ _ hlt]; exact hfr) n HN.out).mono ?_
  rintro e w1 ⟨rfl, rfl⟩
  go_wp2
  go_ret
  refine ⟨rfl, (HS.out.alloc _).drewN 1, ?_⟩
  exact (((Touch.refl w _).setCell (.inl (.inr (.inr (.inr rfl)))) _).alloc _).drew

set_option maxHeartbeats 400000 in
theorem clear_fn (a b : Int) (cb : Nat) (w : World) (hc : w.cell? ⟨cb, 0, none⟩ = some (.int .u64 b)) :
    Calls Try.prog 42 #[.int .u64 a, .pointer (some ⟨cb, 0, none⟩)] w fun e w' => e = .returned (.int .u64 (bits .andNot .u64 a b)) ∧ w' = w := by
  go_enter Try.func42, Try.ntmps42
  go_wp2
  go_ret
  exact ⟨rfl, rfl⟩
set_option maxRecDepth 100000 in
set_option maxHeartbeats 1000000 in
theorem clear_change (j : Nat) (hj : j < ks.length) (b a : Int) (cb kb kc : Nat) (h : StAt w n0 B kv (.slice (some ⟨kb, 0, none⟩) bs.length kc) sb most ks bs sl) (hcb : w.cell? ⟨cb, 0, none⟩ = some (.int .u64 b))
    (hcell : w.cell? ⟨kb, j, none⟩ = some (.int .u64 a)) (hfr : w.frozen? ⟨kb, j, none⟩ = false) (n : Int) (hn : n = j) :
    Calls Try.prog 40 #[.pointer (some ⟨B, 0, none⟩), .int .i64 n, .func (Fn.func 42) #[] #[.pointer (some ⟨cb, 0, none⟩)]] w fun e w' => e = .returned (.int .i64 0) ∧ w' = (w.setCell ⟨kb, j, none⟩ (.int .u64 (bits .andNot .u64 a b))).drew := by
  have hf := h.few
  have hl := h.len
  have HR : Hid (inB n ks.length = true) := by unfold Hid inB; simp; omega
  have hn1 : 0 ≤ n := by omega
  have hn2 : n < bs.length := by omega
  have et : n.toNat = j := by omega
  clear hn
  have h2 : w.cell? ⟨B, 2, none⟩ = some (.slice (some ⟨kb, 0, none⟩) bs.length kc) := cell_of_blk h.blk rfl
  go_enter Try.func40, Try.ntmps40
  go_wp2_with (go_at_call 39; (with_reducible refine (has_calls n h).mono ?_); rintro e w1 ⟨rfl, rfl⟩; rw [HR.out])
  go_region_with (go_at_call 42; refine (clear_fn a b cb _ (by simpa using hcb)).mono ?_; rintro e w1 ⟨rfl, rfl⟩)
  all_goals
    go_wp2
    go_ret
    exact ⟨rfl, rfl⟩
set_option maxHeartbeats 400000 in
theorem clear_no (n b : Int) (hn : n < 0 ∨ ks.length ≤ n) (h : StAt w n0 B kv bv sb most ks bs sl) :
    Calls Try.prog 18 #[.pointer (some ⟨B, 0, none⟩), .int .i64 n, .int .u64 b] w fun e w' => e = .returned (.int .i64 46) ∧ w' = w.alloc (.cells #[.int .u64 b] 34) := by
  have h' := h.alloc (.cells #[.int .u64 b] 34)
  go_enter Try.func18, Try.ntmps18
  go_wp2_with fail
  refine (change_no n _ hn h').mono ?_; rintro e w1 ⟨rfl, rfl⟩
  go_wp2
  go_ret
  exact ⟨rfl, rfl⟩
set_option maxHeartbeats 400000 in
theorem clear_yes (j : Nat) (hj : j < ks.length) (b : Int) (h : StAt w n0 B kv bv sb most ks bs sl) :
    Calls Try.prog 18 #[.pointer (some ⟨B, 0, none⟩), .int .i64 j, .int .u64 b] w fun e w' => e = .returned (.int .i64 0) ∧ StAt w' n0 B kv bv sb most ks (bs.set j (bits .andNot .u64 (bs.getD j 0) b)) sl ∧ Touch w w' (fp B kv bv sb) := by
  have hf := h.few
  have hl := h.len
  obtain ⟨n, hn⟩ : ∃ n : Int, n = j := ⟨_, rfl⟩
  have HN := Lib.hid hn
  rw [← hn]
  clear hn
  obtain ⟨ka, kc, rfl, hkc, hk⟩ := own_cases h.bits
  obtain ⟨kb, rfl, hc⟩ := hk (by omega)
  have h' := h.alloc (.cells #[.int .u64 b] 34)
  have hlt : kb < w.heap.size := ownsRow_lt h.bits rfl
  have hcell := hc j (by omega)
  have ec : (bs.map (Value.int .u64))[j]? = some (.int .u64 (bs.getD j 0)) := by simp [List.getD, show j < bs.length by omega]
  rw [ec] at hcell
  have hfr := h.bits.frozenAt j
  have hs := h.bits.stored j (.int .u64 (bits .andNot .u64 (bs.getD j 0) b))
  have hmap : (bs.map (Value.int .u64)).set j (.int .u64 (bits .andNot .u64 (bs.getD j 0) b)) = (bs.set j (bits .andNot .u64 (bs.getD j 0) b)).map (Value.int .u64) := by rw [List.map_set]
  rw [hmap] at hs
  have hne1 : B ≠ kb := by obtain ⟨cur, hcur⟩ := ownsRow_blk h.bits rfl; exact blk_ne h.blk hcur (by decide)
  have hne2 : sb ≠ kb := by obtain ⟨cur, hcur⟩ := ownsRow_blk h.bits rfl; exact blk_ne h.slots hcur (by decide)
  have hne3 : kv.ownBlock ≠ some kb := by
    intro e; obtain ⟨cur, hcur⟩ := ownsRow_blk h.bits rfl; obtain ⟨cur', hcur'⟩ := ownsRow_blk h.keys e
    exact blk_ne hcur hcur' (by decide) rfl
  clear hc hk ec hmap
  have HS : Hid (StAt (w.setCell ⟨kb, j, none⟩ (.int .u64 (bits .andNot .u64 (bs.getD j 0) b))) n0 B kv (.slice (some ⟨kb, 0, none⟩) bs.length kc) sb most ks (bs.set j (bits .andNot .u64 (bs.getD j 0) b)) sl) := {
    blk := by rw [Below.heap_setCell _ _ _ _ hne1]; exact h.blk
    keys := ownsRow_same h.keys fun k hk => Below.heap_setCell _ _ _ _ (by rintro rfl; exact hne3 hk)
    bits := by simpa using hs.1
    slots := by rw [Below.heap_setCell _ _ _ _ hne2]; exact h.slots
    lo := h.lo
    len := by simpa using h.len
    tab := h.tab
    room := h.room
    nodup := h.nodup
    few := h.few
    size := h.size
    keysz := h.keysz
    under := h.under
    bd := h.bd }
  clear hs hl
  generalize bs.getD j 0 = a at *
  go_enter Try.func18, Try.ntmps18
  go_wp2_with fail
  refine (clear_change j hj b a w.heap.size kb kc h' (by simp [World.cell?_alloc_new]) (by rw [World.cell?_alloc_past _ _ _ hlt]; exact hcell) (by rw [World.frozen?_alloc_past _ _ _ hlt]; exact hfr) n HN.out).mono ?_
  rintro e w1 ⟨rfl, rfl⟩
  go_wp2
  go_ret
  refine ⟨rfl, (HS.out.alloc _).drewN 1, ?_⟩
  exact (((Touch.refl w _).setCell (.inl (.inr (.inr (.inr rfl)))) _).alloc _).drew
end Go.Proofs.Ytnodhjlpoaahbaa
