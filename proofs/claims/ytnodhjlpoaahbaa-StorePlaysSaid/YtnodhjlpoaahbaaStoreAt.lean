/-
  What lies in memory where a store lies, and the walks of the calls that only read it: slot, Find, has, Key, Bits, Len.
-/
import Derived.Test.YtnodhjlpoaahbaaStoreSlot
import Derived.Test.YtnodhjlpoaahbaaTouch
namespace Go.Proofs.Ytnodhjlpoaahbaa
open Go.RowKit

theorem cell_of_blk {w : World} {b i : Nat} {cs : Array Value} {t : TypeId} {v : Value} (h : w.heap[b]? = some (.cells cs t (0, 0))) (hi : cs[i]? = some v) : w.cell? ⟨b, i, none⟩ = some v := by
  simp [World.cell?, h, hi]
theorem free_of_blk {w : World} {b i : Nat} {cs : Array Value} {t : TypeId} (h : w.heap[b]? = some (.cells cs t (0, 0))) : w.frozen? ⟨b, i, none⟩ = false := by
  simp [World.frozen?, h]

theorem nodup_inj {α : Type} {l : List α} (h : l.Nodup) {i j : Nat} (hi : i < l.length) (hj : j < l.length) (e : l[i] = l[j]) : i = j := by
  have hp := List.pairwise_iff_getElem.1 h
  rcases Nat.lt_trichotomy i j with hl | he | hl
  · exact absurd e (hp i j hi hj hl)
  · exact he
  · exact absurd e.symm (hp j i hj hi hl)

theorem own_cases {w : World} {base : Nat} {e : TypeId} {v : Value} {n : Nat} {xs : List Value} (h : w.ownsRow base e 1 v n xs) :
    ∃ ka kc, v = .slice ka n kc ∧ n ≤ kc ∧ (0 < n → ∃ kb, ka = some ⟨kb, 0, none⟩ ∧ ∀ j < n, w.cell? ⟨kb, j, none⟩ = xs[j]?) := by
  rcases h.2 with ⟨rfl, rfl⟩ | ⟨g, cap, cur, rfl, _, hg, hn, hm, hs, htake⟩
  · exact ⟨none, 0, rfl, Nat.le_refl _, fun h => absurd h (by omega)⟩
  · refine ⟨_, cap, rfl, hn, fun _ => ⟨g, rfl, fun j hj => ?_⟩⟩
    exact h.cellAt j (by omega)

/-- The store's struct at B, its texts, its bits, its slots, as they lie in memory. -/
structure StMem (w : World) (n0 B : Nat) (kv bv : Value) (sb : Nat) (most : Int) (ks : List ByteArray) (bs : List Int) (sl : List Nat) : Prop where
  blk : w.heap[B]? = some (.cells #[.int .i64 most, kv, bv, .slice (some ⟨sb, 0, none⟩) sl.length sl.length] 77 (0, 0))
  keys : w.ownsRow n0 9 1 kv ks.length (ks.map Value.string)
  bits : w.ownsRow n0 34 1 bv bs.length (bs.map (Value.int .u64))
  slots : w.heap[sb]? = some (.cells (sl.map fun (n : Nat) => Value.int .i64 (n : Int)).toArray 3 (0, 0))
  lo : n0 ≤ B ∧ n0 ≤ sb
/-- What is right of them. -/
structure StOk (most : Int) (ks : List ByteArray) (bs : List Int) (sl : List Nat) : Prop where
  len : bs.length = ks.length
  tab : Tab ks ks.length sl
  room : 2 * ks.length ≤ sl.length
  nodup : ks.Nodup
  few : ks.length ≤ 20000
  size : sl.length ≤ 4 * ks.length + 16
  keysz : ∀ k ∈ ks, k.size ≤ maxLen
  under : (ks.length : Int) ≤ most
  bd : most ≤ 20000
structure StAt (w : World) (n0 B : Nat) (kv bv : Value) (sb : Nat) (most : Int) (ks : List ByteArray) (bs : List Int) (sl : List Nat) : Prop extends
  StMem w n0 B kv bv sb most ks bs sl, StOk most ks bs sl

variable {w : World} {n0 B : Nat} {kv bv : Value} {sb : Nat} {most : Int} {ks : List ByteArray} {bs : List Int} {sl : List Nat}

theorem StMem.drewN (h : StMem w n0 B kv bv sb most ks bs sl) (n : Nat) : StMem (w.drewN n) n0 B kv bv sb most ks bs sl := ⟨h.blk, h.keys, h.bits, h.slots, h.lo⟩
theorem StAt.drewN (h : StAt w n0 B kv bv sb most ks bs sl) (n : Nat) : StAt (w.drewN n) n0 B kv bv sb most ks bs sl := ⟨h.toStMem.drewN n, h.toStOk⟩

theorem slot_cell (h : w.heap[sb]? = some (.cells (sl.map fun (n : Nat) => Value.int .i64 (n : Int)).toArray 3 (0, 0))) : ∀ j < sl.length, w.cell? ⟨sb, j, none⟩ = some (.int .i64 ((sl.getD j 0 : Nat) : Int)) := by
  intro j hj
  refine cell_of_blk h ?_
  simp [List.getD, hj]

theorem StMem.keysAt (h : StMem w n0 B kv bv sb most ks bs sl) : KeysAt w kv ks := by
  obtain ⟨ka, kc, rfl, _, hk⟩ := own_cases h.keys
  refine ⟨ka, kc, rfl, fun hp => ?_⟩
  obtain ⟨kb, rfl, hc⟩ := hk hp
  refine ⟨kb, rfl, fun j hj => ?_⟩
  rw [hc j hj]
  simp [List.getD, hj]

theorem slot_mem (key : ByteArray) (hkey : key.size ≤ maxLen) (h : StMem w n0 B kv bv sb most ks bs sl) {m : Nat} (ht : Tab ks m sl) (hm : m ≤ ks.length) (hlt : m < sl.length) (hL : sl.length ≤ 1099511627776) :
    Calls Try.prog 37 #[.pointer (some ⟨B, 0, none⟩), .string key] w fun e w' => e = .returned (.int .i64 (slotP ks sl key : Nat)) ∧ ∃ n, w' = w.drewN n := by
  refine (slot_any B sb kv ks sl m key w hkey (cell_of_blk h.blk rfl) (cell_of_blk h.blk rfl) h.keysAt (slot_cell h.slots) ht hm hlt hL).mono fun e w' ⟨⟨i, he, hi⟩, hw⟩ => ?_
  exact ⟨he.trans (ret_nat (by rw [hi.one (ht.slotP hlt key)])), hw⟩
theorem slot_calls (key : ByteArray) (hkey : key.size ≤ maxLen) (h : StAt w n0 B kv bv sb most ks bs sl) :
    Calls Try.prog 37 #[.pointer (some ⟨B, 0, none⟩), .string key] w fun e w' => e = .returned (.int .i64 (slotP ks sl key : Nat)) ∧ ∃ n, w' = w.drewN n := by
  have hp := h.tab.pos
  have hf := h.few
  have hz := h.size
  have hr := h.room
  exact slot_mem key hkey h.toStMem h.tab (Nat.le_refl _) (by omega) (by omega)

/-- What lies at a text's place. -/
theorem StAt.at (h : StAt w n0 B kv bv sb most ks bs sl) (key : ByteArray) : slotP ks sl key < sl.length ∧ sl.getD (slotP ks sl key) 0 ≤ ks.length ∧
    ((sl.getD (slotP ks sl key) 0 = 0 ∧ key ∉ ks) ∨ (∃ j, sl.getD (slotP ks sl key) 0 = j + 1 ∧ j < ks.length ∧ ks.getD j default = key)) := by
  have hp := h.tab.pos
  have hr := h.room
  have hs := h.tab.slotP (by omega) key
  refine ⟨hs.lt hp, h.tab.le _, ?_⟩
  by_cases h0 : sl.getD (slotP ks sl key) 0 = 0
  · refine .inl ⟨h0, fun hm => ?_⟩
    obtain ⟨j, hj, he⟩ := List.getElem_of_mem hm
    exact hs.none h.tab h0 j hj (by simp [List.getD, hj, he])
  · obtain ⟨j, hj, h1, h2⟩ := hs.some h.tab h0
    exact .inr ⟨j, h1, hj, h2⟩

theorem ret_ib {k : IntKind} {a b : Int} {x y : Bool} (h : a = b) (h' : x = y) : Ending.returned (.tuple #[.int k a, .bool x]) = .returned (.tuple #[.int k b, .bool y]) := by rw [h, h']

set_option maxHeartbeats 400000 in
theorem find_no (key : ByteArray) (hkey : key.size ≤ maxLen) (h : StAt w n0 B kv bv sb most ks bs sl) (hn : key ∉ ks) :
    Calls Try.prog 16 #[.pointer (some ⟨B, 0, none⟩), .string key] w fun e w' => e = .returned (.tuple #[.int .i64 0, .bool false]) ∧ ∃ n, w' = w.drewN n := by
  obtain ⟨hi, hle, h0 | ⟨j, h1, hj, h2⟩⟩ := h.at key
  · have hcell := slot_cell h.slots _ hi
    rw [h0.1] at hcell
    have h3 : w.cell? ⟨B, 3, none⟩ = some (.slice (some ⟨sb, 0, none⟩) sl.length sl.length) := cell_of_blk h.blk rfl
    have HC := fun n => slot_calls key hkey (h.drewN n)
    clear h0 hle hn
    generalize slotP ks sl key = i at *
    have hi' : (i : Int) < (sl.length : Int) := by omega
    have hz := h.size
    have hf := h.few
    go_enter Try.func16, Try.ntmps16
    go_wp2
    go_quiet ((go_at_call 37; exact Calls.quiet_of (HC _)))
    go_wp2
    go_ret2
    exact ⟨rfl, _, rfl⟩
  · refine absurd ?_ hn
    rw [← h2]; simp [List.getD, hj]
set_option maxHeartbeats 400000 in
theorem find_yes (key : ByteArray) (hkey : key.size ≤ maxLen) (h : StAt w n0 B kv bv sb most ks bs sl) (j : Nat) (hj : j < ks.length) (hk : ks.getD j default = key) :
    Calls Try.prog 16 #[.pointer (some ⟨B, 0, none⟩), .string key] w fun e w' => e = .returned (.tuple #[.int .i64 j, .bool true]) ∧ ∃ n, w' = w.drewN n := by
  have hm : key ∈ ks := by rw [← hk]; simp [List.getD, hj]
  obtain ⟨hi, hle, h0 | ⟨j', h1, hj', h2⟩⟩ := h.at key
  · exact absurd hm h0.2
  · obtain rfl : j' = j := by
      have hd := h.nodup
      apply Classical.byContradiction
      intro hne
      have e1 : ks[j'] = ks[j] := by simpa [List.getD, hj, hj', ← hk] using h2
      exact hne (nodup_inj hd hj' hj e1)
    have hcell := slot_cell h.slots _ hi
    rw [h1] at hcell
    have h3 : w.cell? ⟨B, 3, none⟩ = some (.slice (some ⟨sb, 0, none⟩) sl.length sl.length) := cell_of_blk h.blk rfl
    have HC := fun n => slot_calls key hkey (h.drewN n)
    have hz := h.size
    have hf := h.few
    clear h1 hle hk hm h2
    generalize slotP ks sl key = i at *
    have hi' : (i : Int) < (sl.length : Int) := by omega
    have hne : (((j' + 1 : Nat) : Int) == 0) = false := by simp; omega
    go_enter Try.func16, Try.ntmps16
    go_wp2
    go_quiet ((go_at_call 37; exact Calls.quiet_of (HC _)))
    go_wp2
    go_ret2
    exact ⟨ret_ib (by omega) rfl, _, rfl⟩

/-- Is there such a number? -/
def inB (n : Int) (l : Nat) : Bool := decide (0 ≤ n ∧ n < l)
set_option maxHeartbeats 400000 in
theorem has_calls (n : Int) (h : StAt w n0 B kv bv sb most ks bs sl) :
    Calls Try.prog 39 #[.pointer (some ⟨B, 0, none⟩), .int .i64 n] w fun e w' => e = .returned (.bool (inB n ks.length)) ∧ w = w' := by
  have hf := h.few
  obtain ⟨ka, kc, rfl, _, _⟩ := own_cases h.keys
  have h1 : w.cell? ⟨B, 1, none⟩ = some (.slice ka ks.length kc) := cell_of_blk h.blk rfl
  by_cases h0 : 0 ≤ n
  · by_cases hl : n < ks.length
    · have HR : Hid (inB n ks.length = true) := by unfold Hid inB; simp; omega
      go_enter Try.func39, Try.ntmps39
      go_wp2
      go_ret
      exact ⟨by rw [HR.out]; rfl, rfl⟩
    · have HR : Hid (inB n ks.length = false) := by unfold Hid inB; simp; omega
      have hd : decide (n < (ks.length : Int)) = false := by simp; omega
      go_enter Try.func39, Try.ntmps39
      go_wp2
      go_ret
      exact ⟨by rw [HR.out]; rfl, rfl⟩
  · have HR : Hid (inB n ks.length = false) := by unfold Hid inB; simp; omega
    have hd : decide (0 ≤ n) = false := by simp; omega
    go_enter Try.func39, Try.ntmps39
    go_wp2
    go_ret
    exact ⟨by rw [HR.out]; rfl, rfl⟩

theorem ret_si {k : IntKind} {a b : Int} {x y : ByteArray} (h : x = y) (h' : a = b) : Ending.returned (.tuple #[.string x, .int k a]) = .returned (.tuple #[.string y, .int k b]) := by rw [h, h']
set_option maxHeartbeats 400000 in
theorem key_yes (j : Nat) (hj : j < ks.length) (h : StAt w n0 B kv bv sb most ks bs sl) :
    Calls Try.prog 15 #[.pointer (some ⟨B, 0, none⟩), .int .i64 j] w fun e w' => e = .returned (.tuple #[.string (ks.getD j default), .int .i64 0]) ∧ w = w' := by
  have hf := h.few
  obtain ⟨n, hn⟩ : ∃ n : Int, n = j := ⟨_, rfl⟩
  have HR : Hid (inB n ks.length = true) := by unfold Hid inB; simp; omega
  have HN := Lib.hid hn
  rw [← hn]
  have hn1 : 0 ≤ n := by omega
  have hn2 : n < ks.length := by omega
  have et : n.toNat = j := by omega
  clear hn
  have hh := h
  obtain ⟨ka, kc, rfl, hkc, hk⟩ := own_cases h.keys
  obtain ⟨kb, rfl, hc⟩ := hk (by omega)
  have h1 : w.cell? ⟨B, 1, none⟩ = some (.slice (some ⟨kb, 0, none⟩) ks.length kc) := cell_of_blk h.blk rfl
  have hcell := hc j hj
  have ec : (ks.map Value.string)[j]? = some (.string (ks.getD j default)) := by simp [List.getD, hj]
  rw [ec] at hcell
  clear hc hk ec
  generalize ks.getD j default = s at *
  go_enter Try.func15, Try.ntmps15
  go_wp2_with (go_at_call 39; (with_reducible refine (has_calls n h).mono ?_); rintro e w1 ⟨rfl, rfl⟩; rw [HR.out])
  go_ret2
  exact ⟨rfl, rfl⟩
set_option maxHeartbeats 400000 in
theorem key_no (n : Int) (hn : n < 0 ∨ ks.length ≤ n) (h : StAt w n0 B kv bv sb most ks bs sl) :
    Calls Try.prog 15 #[.pointer (some ⟨B, 0, none⟩), .int .i64 n] w fun e w' => e = .returned (.tuple #[.string ByteArray.empty, .int .i64 46]) ∧ w = w' := by
  have HR : Hid (inB n ks.length = false) := by unfold Hid inB; simp; omega
  clear hn
  go_enter Try.func15, Try.ntmps15
  go_wp2_with (go_at_call 39; (with_reducible refine (has_calls n h).mono ?_); rintro e w1 ⟨rfl, rfl⟩; rw [HR.out])
  go_ret2
  exact ⟨rfl, rfl⟩

set_option maxHeartbeats 400000 in
theorem bits_yes (j : Nat) (hj : j < ks.length) (h : StAt w n0 B kv bv sb most ks bs sl) :
    Calls Try.prog 19 #[.pointer (some ⟨B, 0, none⟩), .int .i64 j] w fun e w' => e = .returned (.int .u64 (bs.getD j 0)) ∧ w = w' := by
  have hf := h.few
  have hl := h.len
  obtain ⟨n, hn⟩ : ∃ n : Int, n = j := ⟨_, rfl⟩
  have HR : Hid (inB n ks.length = true) := by unfold Hid inB; simp; omega
  have HN := Lib.hid hn
  rw [← hn]
  have hn1 : 0 ≤ n := by omega
  have hn2 : n < bs.length := by omega
  have et : n.toNat = j := by omega
  clear hn
  have hh := h
  obtain ⟨ka, kc, rfl, hkc, hk⟩ := own_cases h.bits
  obtain ⟨kb, rfl, hc⟩ := hk (by omega)
  have h1 : w.cell? ⟨B, 2, none⟩ = some (.slice (some ⟨kb, 0, none⟩) bs.length kc) := cell_of_blk h.blk rfl
  have hcell := hc j (by omega)
  have ec : (bs.map (Value.int .u64))[j]? = some (.int .u64 (bs.getD j 0)) := by simp [List.getD, show j < bs.length by omega]
  rw [ec] at hcell
  clear hc hk ec hl
  generalize bs.getD j 0 = s at *
  go_enter Try.func19, Try.ntmps19
  go_wp2_with (go_at_call 39; (with_reducible refine (has_calls n h).mono ?_); rintro e w1 ⟨rfl, rfl⟩; rw [HR.out])
  go_ret
  exact ⟨rfl, rfl⟩
set_option maxHeartbeats 400000 in
theorem bits_no (n : Int) (hn : n < 0 ∨ ks.length ≤ n) (h : StAt w n0 B kv bv sb most ks bs sl) :
    Calls Try.prog 19 #[.pointer (some ⟨B, 0, none⟩), .int .i64 n] w fun e w' => e = .returned (.int .u64 0) ∧ w = w' := by
  have HR : Hid (inB n ks.length = false) := by unfold Hid inB; simp; omega
  clear hn
  go_enter Try.func19, Try.ntmps19
  go_wp2_with (go_at_call 39; (with_reducible refine (has_calls n h).mono ?_); rintro e w1 ⟨rfl, rfl⟩; rw [HR.out])
  go_ret
  exact ⟨rfl, rfl⟩

set_option maxHeartbeats 400000 in
theorem len_calls (h : StAt w n0 B kv bv sb most ks bs sl) :
    Calls Try.prog 13 #[.pointer (some ⟨B, 0, none⟩)] w fun e w' => e = .returned (.int .i64 ks.length) ∧ w = w' := by
  obtain ⟨ka, kc, rfl, hkc, hk⟩ := own_cases h.keys
  have h1 : w.cell? ⟨B, 1, none⟩ = some (.slice ka ks.length kc) := cell_of_blk h.blk rfl
  go_enter Try.func13, Try.ntmps13
  go_wp2
  go_ret
  exact ⟨rfl, rfl⟩
end Go.Proofs.Ytnodhjlpoaahbaa
