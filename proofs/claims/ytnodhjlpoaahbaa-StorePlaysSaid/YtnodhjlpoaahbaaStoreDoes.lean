/-
  Both stores side by side: one act is answered alike.
-/
import Derived.Test.YtnodhjlpoaahbaaStoreRef
namespace Go.Proofs.Ytnodhjlpoaahbaa
open Go.RowKit

/-- The two stores, apart in memory, with the same texts and bits. -/
def Both (w : World) (n0 B R : Nat) (most : Int) (ks : List ByteArray) (bs : List Int) : Prop :=
  ∃ F rv, Sto w n0 B most ks bs F ∧ RfAt w n0 R rv most ks bs ∧ (∀ k, F k → rfp R rv k → False) ∧ n0 ≤ w.heap.size ∧ ∀ k, rfp R rv k → n0 ≤ k

section
variable {w w' : World} {n0 B R : Nat} {rv rv' : Value} {most : Int} {ks ks' : List ByteArray} {bs bs' : List Int} {F F' : Nat → Prop}
theorem RfAt.lt (h : RfAt w n0 R rv most ks bs) {k : Nat} (hk : rfp R rv k) : k < w.heap.size := by
  rcases hk with rfl | hk
  · exact blk_lt h.blk
  · exact ownsRow_lt h.rows hk
theorem RfAt.drewN (h : RfAt w n0 R rv most ks bs) (n : Nat) : RfAt (w.drewN n) n0 R rv most ks bs := h.kept fun _ _ _ => rfl
theorem RfAt.ge (h : RfAt w n0 R rv most ks bs) {k : Nat} (hk : rfp R rv k) : n0 ≤ k := by
  rcases hk with rfl | hk
  · exact h.lo
  · exact (h.rows.lt _ hk).1
theorem both_s (hr : RfAt w n0 R rv most ks bs) (hd : ∀ k, F k → rfp R rv k → False) (ht : Touch w w' F) (hF : ∀ k, F' k → F k ∨ w.heap.size ≤ k) :
    RfAt w' n0 R rv most ks bs ∧ ∀ k, F' k → rfp R rv k → False := by
  refine ⟨hr.kept fun k hk hf => ht.block k hk fun h => hd k h hf, fun k hk hr' => ?_⟩
  rcases hF k hk with h | h
  · exact hd k h hr'
  · have := hr.lt hr'; omega
theorem both_r (hs : Sto w n0 B most ks bs F) (hd : ∀ k, F k → rfp R rv k → False) (ht : Touch w w' (rfp R rv)) (hF : ∀ k, rfp R rv' k → rfp R rv k ∨ w.heap.size ≤ k) :
    Sto w' n0 B most ks bs F ∧ ∀ k, F k → rfp R rv' k → False := by
  refine ⟨hs.kept fun k hk hf => ht.block k hk fun h => hd k hf h, fun k hk hr' => ?_⟩
  rcases hF k hr' with h | h
  · exact hd k hk h
  · have := hs.lt hk; omega

/-- The act's box. -/
def Box (w : World) (b0 : Nat) (kind n bits : Int) (key : ByteArray) : Prop := w.heap[b0]? = some (.cells #[.int .i64 kind, .int .i64 n, .string key, .int .u64 bits] 36 (0, 0))

set_option maxRecDepth 100000 in
set_option maxHeartbeats 1000000 in
theorem does_put (n bits : Int) (key : ByteArray) (hkey : key.size ≤ maxLen) (h : Both w n0 B R most ks bs) :
    Calls Try.prog 12 #[.pointer (some ⟨B, 0, none⟩), .pointer (some ⟨R, 0, none⟩), .agg #[.int .i64 1, .int .i64 n, .string key, .int .u64 bits]] w fun e w' => e = .returned (.bool true) ∧ (∃ ks' bs', Both w' n0 B R most ks' bs') ∧ Below n0 w w' := by
  obtain ⟨F, rv, hs, hr, hd, hn0, _⟩ := h
  have hs0 : Sto (w.alloc (.cells #[.int .i64 1, .int .i64 n, .string key, .int .u64 bits] 36)) n0 B most ks bs F := hs.kept fun k hk _ => Below.heap_alloc _ _ _ hk
  have hr0 : RfAt (w.alloc (.cells #[.int .i64 1, .int .i64 n, .string key, .int .u64 bits] 36)) n0 R rv most ks bs := hr.kept fun k hk _ => Below.heap_alloc _ _ _ hk
  have hbox : (w.alloc (.cells #[.int .i64 1, .int .i64 n, .string key, .int .u64 bits] 36)).heap[w.heap.size]? = _ := heap_alloc_new _ _
  have hbel : Below n0 w (w.alloc (.cells #[.int .i64 1, .int .i64 n, .string key, .int .u64 bits] 36)) := (Below.refl _ _).alloc hn0 _
  have nbF : ¬ F w.heap.size := fun hf => by have := hs.lt hf; omega
  have nbR : ¬ rfp R rv w.heap.size := fun hf => by have := hr.lt hf; omega
  have hlt0 : w.heap.size < (w.alloc (.cells #[.int .i64 1, .int .i64 n, .string key, .int .u64 bits] 36)).heap.size := by simp
  go_enter Try.func12, Try.ntmps12
  go_wp2_with fail
  refine (sto_put key hkey hs0).mono ?_; rintro e w1 ⟨rfl, F1, hs1, ht1, hF1⟩
  obtain ⟨hr1, hd1⟩ := both_s hr0 hd ht1 hF1
  have hbox1 : w1.heap[w.heap.size]? = _ := (ht1.block _ hlt0 nbF).trans hbox
  have c1 : w1.cell? ⟨w.heap.size, 1, none⟩ = some (.int .i64 n) := cell_of_blk hbox1 rfl
  have c2 : w1.cell? ⟨w.heap.size, 2, none⟩ = some (.string key) := cell_of_blk hbox1 rfl
  have c3 : w1.cell? ⟨w.heap.size, 3, none⟩ = some (.int .u64 bits) := cell_of_blk hbox1 rfl
  have hbel1 := hbel.trans (ht1.below (Nat.le_trans hn0 hbel.size) fun k hk => hs.ge hk)
  go_wp2_with fail
  refine (rf_put key hr1).mono ?_; rintro e w2 ⟨rfl, rv2, hr2, ht2, hR2⟩
  obtain ⟨hs2, hd2⟩ := both_r hs1 hd1 ht2 hR2
  have hbel2 := hbel1.trans (ht2.below (Nat.le_trans hn0 hbel1.size) fun k hk => hr1.ge hk)
  go_wp2
  go_ret
  exact ⟨by simp, ⟨_, _, F1, rv2, hs2, hr2, hd2, Nat.le_trans hn0 hbel2.size, fun k hk => hr2.ge hk⟩, hbel2⟩

set_option maxRecDepth 100000 in
set_option maxHeartbeats 1000000 in
theorem does_mark (n bits : Int) (key : ByteArray) (h : Both w n0 B R most ks bs) :
    Calls Try.prog 12 #[.pointer (some ⟨B, 0, none⟩), .pointer (some ⟨R, 0, none⟩), .agg #[.int .i64 3, .int .i64 n, .string key, .int .u64 bits]] w fun e w' => e = .returned (.bool true) ∧ (∃ ks' bs', Both w' n0 B R most ks' bs') ∧ Below n0 w w' := by
  obtain ⟨F, rv, hs, hr, hd, hn0, _⟩ := h
  have hs0 : Sto (w.alloc (.cells #[.int .i64 3, .int .i64 n, .string key, .int .u64 bits] 36)) n0 B most ks bs F := hs.kept fun k hk _ => Below.heap_alloc _ _ _ hk
  have hr0 : RfAt (w.alloc (.cells #[.int .i64 3, .int .i64 n, .string key, .int .u64 bits] 36)) n0 R rv most ks bs := hr.kept fun k hk _ => Below.heap_alloc _ _ _ hk
  have hbox : (w.alloc (.cells #[.int .i64 3, .int .i64 n, .string key, .int .u64 bits] 36)).heap[w.heap.size]? = _ := heap_alloc_new _ _
  have hbel : Below n0 w (w.alloc (.cells #[.int .i64 3, .int .i64 n, .string key, .int .u64 bits] 36)) := (Below.refl _ _).alloc hn0 _
  have nbF : ¬ F w.heap.size := fun hf => by have := hs.lt hf; omega
  have nbR : ¬ rfp R rv w.heap.size := fun hf => by have := hr.lt hf; omega
  have hlt0 : w.heap.size < (w.alloc (.cells #[.int .i64 3, .int .i64 n, .string key, .int .u64 bits] 36)).heap.size := by simp
  go_enter Try.func12, Try.ntmps12
  go_wp2_with fail
  refine (sto_mark n bits hs0).mono ?_; rintro e w1 ⟨rfl, hs1, ht1⟩
  obtain ⟨hr1, hd1⟩ := both_s hr0 hd ht1 (fun k hk => .inl hk)
  have hbox1 : w1.heap[w.heap.size]? = _ := (ht1.block _ hlt0 nbF).trans hbox
  have c1 : w1.cell? ⟨w.heap.size, 1, none⟩ = some (.int .i64 n) := cell_of_blk hbox1 rfl
  have c2 : w1.cell? ⟨w.heap.size, 2, none⟩ = some (.string key) := cell_of_blk hbox1 rfl
  have c3 : w1.cell? ⟨w.heap.size, 3, none⟩ = some (.int .u64 bits) := cell_of_blk hbox1 rfl
  have hbel1 := hbel.trans (ht1.below (Nat.le_trans hn0 hbel.size) fun k hk => hs.ge hk)
  go_wp2_with fail
  refine (rf_mark n bits hr1).mono ?_; rintro e w2 ⟨rfl, hr2, ht2⟩
  obtain ⟨hs2, hd2⟩ := both_r hs1 hd1 ht2 (fun k hk => .inl hk)
  have hbel2 := hbel1.trans (ht2.below (Nat.le_trans hn0 hbel1.size) fun k hk => hr1.ge hk)
  go_wp2
  go_ret
  exact ⟨by simp, ⟨_, _, F, rv, hs2, hr2, hd2, Nat.le_trans hn0 hbel2.size, fun k hk => hr2.ge hk⟩, hbel2⟩

set_option maxRecDepth 100000 in
set_option maxHeartbeats 1000000 in
theorem does_clear (n bits : Int) (key : ByteArray) (h : Both w n0 B R most ks bs) :
    Calls Try.prog 12 #[.pointer (some ⟨B, 0, none⟩), .pointer (some ⟨R, 0, none⟩), .agg #[.int .i64 4, .int .i64 n, .string key, .int .u64 bits]] w fun e w' => e = .returned (.bool true) ∧ (∃ ks' bs', Both w' n0 B R most ks' bs') ∧ Below n0 w w' := by
  obtain ⟨F, rv, hs, hr, hd, hn0, _⟩ := h
  have hs0 : Sto (w.alloc (.cells #[.int .i64 4, .int .i64 n, .string key, .int .u64 bits] 36)) n0 B most ks bs F := hs.kept fun k hk _ => Below.heap_alloc _ _ _ hk
  have hr0 : RfAt (w.alloc (.cells #[.int .i64 4, .int .i64 n, .string key, .int .u64 bits] 36)) n0 R rv most ks bs := hr.kept fun k hk _ => Below.heap_alloc _ _ _ hk
  have hbox : (w.alloc (.cells #[.int .i64 4, .int .i64 n, .string key, .int .u64 bits] 36)).heap[w.heap.size]? = _ := heap_alloc_new _ _
  have hbel : Below n0 w (w.alloc (.cells #[.int .i64 4, .int .i64 n, .string key, .int .u64 bits] 36)) := (Below.refl _ _).alloc hn0 _
  have nbF : ¬ F w.heap.size := fun hf => by have := hs.lt hf; omega
  have nbR : ¬ rfp R rv w.heap.size := fun hf => by have := hr.lt hf; omega
  have hlt0 : w.heap.size < (w.alloc (.cells #[.int .i64 4, .int .i64 n, .string key, .int .u64 bits] 36)).heap.size := by simp
  go_enter Try.func12, Try.ntmps12
  go_wp2_with fail
  refine (sto_clear n bits hs0).mono ?_; rintro e w1 ⟨rfl, hs1, ht1⟩
  obtain ⟨hr1, hd1⟩ := both_s hr0 hd ht1 (fun k hk => .inl hk)
  have hbox1 : w1.heap[w.heap.size]? = _ := (ht1.block _ hlt0 nbF).trans hbox
  have c1 : w1.cell? ⟨w.heap.size, 1, none⟩ = some (.int .i64 n) := cell_of_blk hbox1 rfl
  have c2 : w1.cell? ⟨w.heap.size, 2, none⟩ = some (.string key) := cell_of_blk hbox1 rfl
  have c3 : w1.cell? ⟨w.heap.size, 3, none⟩ = some (.int .u64 bits) := cell_of_blk hbox1 rfl
  have hbel1 := hbel.trans (ht1.below (Nat.le_trans hn0 hbel.size) fun k hk => hs.ge hk)
  go_wp2_with fail
  refine (rf_clear n bits hr1).mono ?_; rintro e w2 ⟨rfl, hr2, ht2⟩
  obtain ⟨hs2, hd2⟩ := both_r hs1 hd1 ht2 (fun k hk => .inl hk)
  have hbel2 := hbel1.trans (ht2.below (Nat.le_trans hn0 hbel1.size) fun k hk => hr1.ge hk)
  go_wp2
  go_ret
  exact ⟨by simp, ⟨_, _, F, rv, hs2, hr2, hd2, Nat.le_trans hn0 hbel2.size, fun k hk => hr2.ge hk⟩, hbel2⟩

set_option maxRecDepth 100000 in
set_option maxHeartbeats 1000000 in
theorem does_find (n bits : Int) (key : ByteArray) (hkey : key.size ≤ maxLen) (h : Both w n0 B R most ks bs) :
    Calls Try.prog 12 #[.pointer (some ⟨B, 0, none⟩), .pointer (some ⟨R, 0, none⟩), .agg #[.int .i64 2, .int .i64 n, .string key, .int .u64 bits]] w fun e w' => e = .returned (.bool true) ∧ (∃ ks' bs', Both w' n0 B R most ks' bs') ∧ Below n0 w w' := by
  obtain ⟨F, rv, hs, hr, hd, hn0, _⟩ := h
  have hs0 : Sto (w.alloc (.cells #[.int .i64 2, .int .i64 n, .string key, .int .u64 bits] 36)) n0 B most ks bs F := hs.kept fun k hk _ => Below.heap_alloc _ _ _ hk
  have hr0 : RfAt (w.alloc (.cells #[.int .i64 2, .int .i64 n, .string key, .int .u64 bits] 36)) n0 R rv most ks bs := hr.kept fun k hk _ => Below.heap_alloc _ _ _ hk
  have hbox : (w.alloc (.cells #[.int .i64 2, .int .i64 n, .string key, .int .u64 bits] 36)).heap[w.heap.size]? = _ := heap_alloc_new _ _
  have hbel : Below n0 w (w.alloc (.cells #[.int .i64 2, .int .i64 n, .string key, .int .u64 bits] 36)) := (Below.refl _ _).alloc hn0 _
  have nbF : ¬ F w.heap.size := fun hf => by have := hs.lt hf; omega
  have nbR : ¬ rfp R rv w.heap.size := fun hf => by have := hr.lt hf; omega
  have hlt0 : w.heap.size < (w.alloc (.cells #[.int .i64 2, .int .i64 n, .string key, .int .u64 bits] 36)).heap.size := by simp
  go_enter Try.func12, Try.ntmps12
  go_wp2_with fail
  refine (sto_find key hkey hs0).mono ?_; rintro e w1 ⟨rfl, nq, rfl⟩
  go_wp2_with fail
  refine (rf_find key (hr0.drewN nq)).mono ?_; rintro e w2 ⟨rfl, rfl⟩
  go_wp2
  go_ret
  exact ⟨by simp, ⟨_, _, F, rv, hs0.drewN nq, hr0.drewN nq, hd, Nat.le_trans hn0 hbel.size, fun k hk => hr.ge hk⟩, below_drewN hbel nq⟩

set_option maxRecDepth 100000 in
set_option maxHeartbeats 1000000 in
theorem does_key (n bits : Int) (key : ByteArray) (h : Both w n0 B R most ks bs) :
    Calls Try.prog 12 #[.pointer (some ⟨B, 0, none⟩), .pointer (some ⟨R, 0, none⟩), .agg #[.int .i64 5, .int .i64 n, .string key, .int .u64 bits]] w fun e w' => e = .returned (.bool true) ∧ (∃ ks' bs', Both w' n0 B R most ks' bs') ∧ Below n0 w w' := by
  obtain ⟨F, rv, hs, hr, hd, hn0, _⟩ := h
  have hs0 : Sto (w.alloc (.cells #[.int .i64 5, .int .i64 n, .string key, .int .u64 bits] 36)) n0 B most ks bs F := hs.kept fun k hk _ => Below.heap_alloc _ _ _ hk
  have hr0 : RfAt (w.alloc (.cells #[.int .i64 5, .int .i64 n, .string key, .int .u64 bits] 36)) n0 R rv most ks bs := hr.kept fun k hk _ => Below.heap_alloc _ _ _ hk
  have hbox : (w.alloc (.cells #[.int .i64 5, .int .i64 n, .string key, .int .u64 bits] 36)).heap[w.heap.size]? = _ := heap_alloc_new _ _
  have hbel : Below n0 w (w.alloc (.cells #[.int .i64 5, .int .i64 n, .string key, .int .u64 bits] 36)) := (Below.refl _ _).alloc hn0 _
  have nbF : ¬ F w.heap.size := fun hf => by have := hs.lt hf; omega
  have nbR : ¬ rfp R rv w.heap.size := fun hf => by have := hr.lt hf; omega
  have hlt0 : w.heap.size < (w.alloc (.cells #[.int .i64 5, .int .i64 n, .string key, .int .u64 bits] 36)).heap.size := by simp
  go_enter Try.func12, Try.ntmps12
  go_wp2_with fail
  refine (sto_key n hs0).mono ?_; rintro e w1 ⟨rfl, rfl⟩
  go_wp2_with fail
  refine (rf_key n hr0).mono ?_; rintro e w2 ⟨rfl, rfl⟩
  go_wp2_with fail
  refine (sto_bits n hs0).mono ?_; rintro e w1 ⟨rfl, rfl⟩
  go_wp2_with fail
  refine (rf_bits n hr0).mono ?_; rintro e w2 ⟨rfl, rfl⟩
  go_wp2
  go_ret
  exact ⟨by simp, ⟨_, _, F, rv, hs0, hr0, hd, Nat.le_trans hn0 hbel.size, fun k hk => hr.ge hk⟩, hbel⟩

set_option maxRecDepth 100000 in
set_option maxHeartbeats 1000000 in
theorem does_none (kind : Int) (n bits : Int) (key : ByteArray) (h : Both w n0 B R most ks bs) (hk : kind < 1 ∨ 5 < kind) :
    Calls Try.prog 12 #[.pointer (some ⟨B, 0, none⟩), .pointer (some ⟨R, 0, none⟩), .agg #[.int .i64 kind, .int .i64 n, .string key, .int .u64 bits]] w fun e w' => e = .returned (.bool true) ∧ (∃ ks' bs', Both w' n0 B R most ks' bs') ∧ Below n0 w w' := by
  obtain ⟨F, rv, hs, hr, hd, hn0, _⟩ := h
  have hs0 : Sto (w.alloc (.cells #[.int .i64 kind, .int .i64 n, .string key, .int .u64 bits] 36)) n0 B most ks bs F := hs.kept fun k hk _ => Below.heap_alloc _ _ _ hk
  have hr0 : RfAt (w.alloc (.cells #[.int .i64 kind, .int .i64 n, .string key, .int .u64 bits] 36)) n0 R rv most ks bs := hr.kept fun k hk _ => Below.heap_alloc _ _ _ hk
  have hbox : (w.alloc (.cells #[.int .i64 kind, .int .i64 n, .string key, .int .u64 bits] 36)).heap[w.heap.size]? = _ := heap_alloc_new _ _
  have hbel : Below n0 w (w.alloc (.cells #[.int .i64 kind, .int .i64 n, .string key, .int .u64 bits] 36)) := (Below.refl _ _).alloc hn0 _
  have nbF : ¬ F w.heap.size := fun hf => by have := hs.lt hf; omega
  have nbR : ¬ rfp R rv w.heap.size := fun hf => by have := hr.lt hf; omega
  have hlt0 : w.heap.size < (w.alloc (.cells #[.int .i64 kind, .int .i64 n, .string key, .int .u64 bits] 36)).heap.size := by simp
  have e1 : (kind == 1) = false := by simp; omega
  have e2 : (kind == 2) = false := by simp; omega
  have e3 : (kind == 3) = false := by simp; omega
  have e4 : (kind == 4) = false := by simp; omega
  have e5 : (kind == 5) = false := by simp; omega
  clear hk
  go_enter Try.func12, Try.ntmps12
  go_wp2
  go_ret
  exact ⟨rfl, ⟨_, _, F, rv, hs0, hr0, hd, Nat.le_trans hn0 hbel.size, fun k hk => hr.ge hk⟩, hbel⟩

theorem does_calls (kind n bits : Int) (key : ByteArray) (hkey : key.size ≤ maxLen) (h : Both w n0 B R most ks bs) :
    Calls Try.prog 12 #[.pointer (some ⟨B, 0, none⟩), .pointer (some ⟨R, 0, none⟩), .agg #[.int .i64 kind, .int .i64 n, .string key, .int .u64 bits]] w fun e w' => e = .returned (.bool true) ∧ (∃ ks' bs', Both w' n0 B R most ks' bs') ∧ Below n0 w w' := by
  by_cases hk : kind < 1 ∨ 5 < kind
  · exact does_none kind n bits key h hk
  · have hx : kind = 1 ∨ kind = 2 ∨ kind = 3 ∨ kind = 4 ∨ kind = 5 := by omega
    rcases hx with rfl | rfl | rfl | rfl | rfl
    · exact does_put n bits key hkey h
    · exact does_find n bits key hkey h
    · exact does_mark n bits key h
    · exact does_clear n bits key h
    · exact does_key n bits key h
end
end Go.Proofs.Ytnodhjlpoaahbaa
