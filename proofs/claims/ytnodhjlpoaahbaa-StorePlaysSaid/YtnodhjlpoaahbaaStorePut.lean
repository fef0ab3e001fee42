/-
  The walk of layer 18's Put: a text that was met; a full store; a new text.
-/
import Derived.Test.YtnodhjlpoaahbaaStoreGrow
import Derived.Test.YtnodhjlpoaahbaaAppend
namespace Go.Proofs.Ytnodhjlpoaahbaa
open Go.RowKit
theorem info_str : (Try.prog.info? 9).map (fun i => (i.zero, i.size, i.bytes)) = some (some (.string ByteArray.empty), 1, 16) := by kernel_rfl
theorem info_u64 : (Try.prog.info? 34).map (fun i => (i.zero, i.size, i.bytes)) = some (some (.int .u64 0), 1, 8) := by kernel_rfl
theorem ret_ibi {k l : IntKind} {a b c d : Int} {x y : Bool} (h : a = b) (h' : x = y) (h'' : c = d) : Ending.returned (.tuple #[.int k a, .bool x, .int l c]) = .returned (.tuple #[.int k b, .bool y, .int l d]) := by rw [h, h', h'']
variable {w : World} {n0 B : Nat} {kv bv : Value} {sb : Nat} {most : Int} {ks : List ByteArray} {bs : List Int} {sl : List Nat}

set_option maxRecDepth 100000 in
set_option maxHeartbeats 400000 in
theorem put_old (key : ByteArray) (hkey : key.size ≤ maxLen) (h : StAt w n0 B kv bv sb most ks bs sl) (j : Nat) (hj : j < ks.length) (hk : ks.getD j default = key) :
    Calls Try.prog 14 #[.pointer (some ⟨B, 0, none⟩), .string key] w fun e w' => e = .returned (.tuple #[.int .i64 j, .bool false, .int .i64 0]) ∧ ∃ n, w' = w.drewN n := by
  have hm : key ∈ ks := by rw [← hk]; simp [List.getD, hj]
  obtain ⟨hi, hle, h0 | ⟨j', h1, hj', h2⟩⟩ := h.at key
  · exact absurd hm h0.2
  · obtain rfl : j' = j := by
      apply Classical.byContradiction
      intro hne
      have e1 : ks[j'] = ks[j] := by simpa [List.getD, hj, hj', ← hk] using h2
      exact hne (nodup_inj h.nodup hj' hj e1)
    have hcell := slot_cell h.slots _ hi
    rw [h1] at hcell
    have h3 : w.cell? ⟨B, 3, none⟩ = some (.slice (some ⟨sb, 0, none⟩) sl.length sl.length) := cell_of_blk h.blk rfl
    have HC := slot_calls key hkey h
    have hz := h.size
    have hf := h.few
    clear h1 hle hk hm h2
    generalize slotP ks sl key = i at *
    have hi' : (i : Int) < (sl.length : Int) := by omega
    have hne : (((j' + 1 : Nat) : Int) != 0) = true := by simp; omega
    go_enter Try.func14, Try.ntmps14
    go_wp2_with fail
    refine HC.mono ?_; rintro e w1 ⟨rfl, nq, rfl⟩
    go_wp2
    go_ret3
    exact ⟨ret_ibi (by omega) rfl rfl, nq, rfl⟩

set_option maxRecDepth 100000 in
set_option maxHeartbeats 400000 in
theorem put_full (key : ByteArray) (hkey : key.size ≤ maxLen) (h : StAt w n0 B kv bv sb most ks bs sl) (hn : key ∉ ks) (hfull : (ks.length : Int) = most) :
    Calls Try.prog 14 #[.pointer (some ⟨B, 0, none⟩), .string key] w fun e w' => e = .returned (.tuple #[.int .i64 0, .bool false, .int .i64 45]) ∧ ∃ n, w' = w.drewN n := by
  obtain ⟨hi, hle, h0 | ⟨j, h1, hj, h2⟩⟩ := h.at key
  · have hcell := slot_cell h.slots _ hi
    rw [h0.1] at hcell
    obtain ⟨ka, kc, rfl, _, _⟩ := own_cases h.keys
    have c0 : w.cell? ⟨B, 0, none⟩ = some (.int .i64 most) := cell_of_blk h.blk rfl
    have c1 : w.cell? ⟨B, 1, none⟩ = some (.slice ka ks.length kc) := cell_of_blk h.blk rfl
    have h3 : w.cell? ⟨B, 3, none⟩ = some (.slice (some ⟨sb, 0, none⟩) sl.length sl.length) := cell_of_blk h.blk rfl
    have HC := slot_calls key hkey h
    have hz := h.size
    have hf := h.few
    have he : ((ks.length : Int) == most) = true := by simpa using hfull
    clear h0 hle hn hfull
    generalize slotP ks sl key = i at *
    have hi' : (i : Int) < (sl.length : Int) := by omega
    go_enter Try.func14, Try.ntmps14
    go_wp2_with fail
    refine HC.mono ?_; rintro e w1 ⟨rfl, nq, rfl⟩
    go_wp2
    go_quiet (fail)
    go_wp2
    go_ret3
    exact ⟨rfl, _, World.drewN_drewN _ _ _⟩
  · refine absurd ?_ hn
    rw [← h2]; simp [List.getD, hj]

theorem blk_set {w : World} {b i : Nat} {cs : Array Value} {t : TypeId} (h : w.heap[b]? = some (.cells cs t (0, 0))) (u : Value) : (w.setCell ⟨b, i, none⟩ u).heap[b]? = some (.cells (cs.setIfInBounds i u) t (0, 0)) :=
  heap_setCell_same w b i cs t u h
/-- The texts' slice is stored. -/
theorem StMem.newKeys {w2 : World} {kv' : Value} {ks' : List ByteArray} (hblk : w2.heap[B]? = some (.cells #[.int .i64 most, kv, bv, .slice (some ⟨sb, 0, none⟩) sl.length sl.length] 77 (0, 0)))
    (hk : w2.ownsRow n0 9 1 kv' ks'.length (ks'.map Value.string)) (hb : w2.ownsRow n0 34 1 bv bs.length (bs.map (Value.int .u64)))
    (hs : w2.heap[sb]? = some (.cells (sl.map fun (n : Nat) => Value.int .i64 (n : Int)).toArray 3 (0, 0))) (lo : n0 ≤ B ∧ n0 ≤ sb) :
    StMem (w2.setCell ⟨B, 1, none⟩ kv') n0 B kv' bv sb most ks' bs sl where
  blk := by rw [blk_set hblk]; simp
  keys := ownsRow_same hk fun k hk' => Below.heap_setCell _ _ _ _ (by rintro rfl; obtain ⟨cur, hcur⟩ := ownsRow_blk hk hk'; exact blk_ne hcur hblk (by decide) rfl)
  bits := ownsRow_same hb fun k hk' => Below.heap_setCell _ _ _ _ (by rintro rfl; obtain ⟨cur, hcur⟩ := ownsRow_blk hb hk'; exact blk_ne hcur hblk (by decide) rfl)
  slots := by rw [Below.heap_setCell _ _ _ _ (blk_ne hs hblk (by decide))]; exact hs
  lo := lo
/-- The bits' slice is stored. -/
theorem StMem.newBits {w2 : World} {bv' : Value} {bs' : List Int} (hblk : w2.heap[B]? = some (.cells #[.int .i64 most, kv, bv, .slice (some ⟨sb, 0, none⟩) sl.length sl.length] 77 (0, 0)))
    (hk : w2.ownsRow n0 9 1 kv ks.length (ks.map Value.string)) (hb : w2.ownsRow n0 34 1 bv' bs'.length (bs'.map (Value.int .u64)))
    (hs : w2.heap[sb]? = some (.cells (sl.map fun (n : Nat) => Value.int .i64 (n : Int)).toArray 3 (0, 0))) (lo : n0 ≤ B ∧ n0 ≤ sb) :
    StMem (w2.setCell ⟨B, 2, none⟩ bv') n0 B kv bv' sb most ks bs' sl where
  blk := by rw [blk_set hblk]; simp
  keys := ownsRow_same hk fun k hk' => Below.heap_setCell _ _ _ _ (by rintro rfl; obtain ⟨cur, hcur⟩ := ownsRow_blk hk hk'; exact blk_ne hcur hblk (by decide) rfl)
  bits := ownsRow_same hb fun k hk' => Below.heap_setCell _ _ _ _ (by rintro rfl; obtain ⟨cur, hcur⟩ := ownsRow_blk hb hk'; exact blk_ne hcur hblk (by decide) rfl)
  slots := by rw [Below.heap_setCell _ _ _ _ (blk_ne hs hblk (by decide))]; exact hs
  lo := lo
theorem own_some {w : World} {base : Nat} {e : TypeId} {v : Value} {n : Nat} {xs : List Value} (h : w.ownsRow base e 1 v (n + 1) xs) : ∃ g cap, v = .slice (some ⟨g, 0, none⟩) (n + 1) cap := by
  rcases h.2 with ⟨_, h0⟩ | ⟨g, cap, cur, rfl, _⟩
  · omega
  · exact ⟨g, cap, rfl⟩

set_option maxRecDepth 100000 in
set_option maxHeartbeats 1000000 in
theorem put_new (key : ByteArray) (hkey : key.size ≤ maxLen) (h : StAt w n0 B kv bv sb most ks bs sl) (hn : key ∉ ks) (hfull : (ks.length : Int) < most) :
    Calls Try.prog 14 #[.pointer (some ⟨B, 0, none⟩), .string key] w fun e w' => e = .returned (.tuple #[.int .i64 ks.length, .bool true, .int .i64 0]) ∧
      ∃ kv' bv' sb' sl', StAt w' n0 B kv' bv' sb' most (ks ++ [key]) (bs ++ [0]) sl' ∧ Touch w w' (fp B kv bv sb) ∧ ∀ k, fp B kv' bv' sb' k → fp B kv bv sb k ∨ w.heap.size ≤ k := by
  obtain ⟨hi, hle, h0 | ⟨j, h1, hj, h2⟩⟩ := h.at key
  · have hcell := slot_cell h.slots _ hi
    rw [h0.1] at hcell
    obtain ⟨ki, khi, khz0, khz1, khz2⟩ := info_parts info_str
    obtain ⟨bi, bhi, bhz0, bhz1, bhz2⟩ := info_parts info_u64
    obtain ⟨ka, kc, rfl, _, _⟩ := own_cases h.keys
    obtain ⟨ba, bc, rfl, _, _⟩ := own_cases h.bits
    have c0 : w.cell? ⟨B, 0, none⟩ = some (.int .i64 most) := cell_of_blk h.blk rfl
    have c1 : w.cell? ⟨B, 1, none⟩ = some (.slice ka ks.length kc) := cell_of_blk h.blk rfl
    have c3 : w.cell? ⟨B, 3, none⟩ = some (.slice (some ⟨sb, 0, none⟩) sl.length sl.length) := cell_of_blk h.blk rfl
    have hB := blk_lt h.blk
    have hlo := h.lo
    have HC := slot_calls key hkey h
    have hsat := h.tab.slotP (by have := h.room; have := h.tab.pos; omega) key
    have hz := h.size
    have hf := h.few
    have hl1 : bs.length ≤ ks.length := Nat.le_of_eq h.len
    have hl2 : ks.length ≤ bs.length := Nat.le_of_eq h.len.symm
    have he : ((ks.length : Int) == most) = false := by simp; omega
    generalize slotP ks sl key = i at *
    have hi' : (i : Int) < (sl.length : Int) := by omega
    go_enter Try.func14, Try.ntmps14
    go_wp2_with fail
    refine HC.mono ?_; rintro e w1 ⟨rfl, nq, rfl⟩
    go_wp2
    go_quiet (fail)
    go_wp2_with (at_builtin; refine wpList_append3 _ rfl (.tmp 39) (.tmp 41) 39 rfl n0 9 ki (.string ByteArray.empty) 1 16 Try.underlying39 khi khz0 khz1 khz2 rfl (by decide) (.slice ka ks.length kc) ks.length (ks.map Value.string) rfl ?k0 ⟨w.heap.size, 0, none⟩ 1 1 [.string key] rfl rfl ?k1 ?k2 ?k3 ?k4 ?k5 ?kK)
    case k0 => exact (h.keys.alloc _)
    case k1 => exact cell_one_new _ _ _
    case k2 => intro u hu; simp at hu; subst hu; rfl
    case k3 => unfold maxLen; omega
    case k4 => omega
    case k5 => simp; omega
    case kK =>
      intro kv' w2 hown2 hgrow2 hkb
      obtain ⟨kg, kc', rfl⟩ := own_some hown2
      -- the world behind the first append
      have keep2 : ∀ k, k < w.heap.size → some k ≠ (Value.slice ka ks.length kc).ownBlock → w2.heap[k]? = w.heap[k]? := fun k hk hne =>
        (hgrow2.block k (by simp; omega) hne).trans (Below.heap_alloc _ _ _ hk)
      have hsz2 : w.heap.size < w2.heap.size := by have := hgrow2.size; simp at this; omega
      have t2 : Touch w w2 (fp B (.slice ka ks.length kc) (.slice ba bs.length bc) sb) := ((Touch.refl w _).alloc _).grown (w' := w.alloc (.cells #[.string key] 9)) ⟨hgrow2.os, hgrow2.tape, hgrow2.output, hgrow2.size, hgrow2.block⟩ fun k hk => .inl (.inr (.inr (.inl hk)))
      have nB : some B ≠ (Value.slice ka ks.length kc).ownBlock := fun e => by obtain ⟨cur, hcur⟩ := ownsRow_blk h.keys e.symm; exact blk_ne hcur h.blk (by decide) rfl
      have nS : some sb ≠ (Value.slice ka ks.length kc).ownBlock := fun e => by obtain ⟨cur, hcur⟩ := ownsRow_blk h.keys e.symm; exact blk_ne hcur h.slots (by decide) rfl
      have nb : ∀ k, (Value.slice ba bs.length bc).ownBlock = some k → some k ≠ (Value.slice ka ks.length kc).ownBlock := fun k hk e => by
        obtain ⟨cur, hcur⟩ := ownsRow_blk h.keys e.symm; obtain ⟨cur', hcur'⟩ := ownsRow_blk h.bits hk; exact blk_ne hcur hcur' (by decide) rfl
      have blk2 : w2.heap[B]? = _ := (keep2 B hB nB).trans h.blk
      have slots2 : w2.heap[sb]? = _ := (keep2 sb (blk_lt h.slots) nS).trans h.slots
      have bits2 : w2.ownsRow n0 34 1 (.slice ba bs.length bc) bs.length (bs.map (Value.int .u64)) := ownsRow_same h.bits fun k hk => keep2 k (ownsRow_lt h.bits hk) (nb k hk)
      have keys2 : w2.ownsRow n0 9 1 (.slice (some ⟨kg, 0, none⟩) (ks.length + 1) kc') (ks ++ [key]).length ((ks ++ [key]).map Value.string) := by simpa using hown2
      have m2 := StMem.newKeys blk2 keys2 bits2 slots2 h.lo
      have d2 : w2.cell? ⟨B, 2, none⟩ = some (.slice ba bs.length bc) := cell_of_blk blk2 rfl
      have e1 : w2.frozen? ⟨B, 1, none⟩ = false := free_of_blk blk2
      have e0 : w2.cell? ⟨B, 1, none⟩ = some (.slice ka ks.length kc) := cell_of_blk blk2 rfl
      go_wp2_with (at_builtin; refine wpList_append3 _ rfl (.tmp 49) (.tmp 50) 75 rfl n0 34 bi (.int .u64 0) 1 8 Try.underlying75 bhi bhz0 bhz1 bhz2 rfl (by decide) (.slice ba bs.length bc) bs.length (bs.map (Value.int .u64)) rfl ?b0 ⟨w2.heap.size, 0, none⟩ 1 1 [.int .u64 0] rfl rfl ?b1 ?b2 ?b3 ?b4 ?b5 ?bK)
      case b0 => exact m2.bits.alloc _
      case b1 => have hnew := cell_one_new (w2.setCell ⟨B, 1, none⟩ (.slice (some ⟨kg, 0, none⟩) (ks.length + 1) kc')) (.int .u64 0) 34; simpa using hnew
      case b2 => intro u hu; simp at hu; subst hu; rfl
      case b3 => unfold maxLen; omega
      case b4 => omega
      case b5 => simp; omega
      case bK =>
        intro bv' w3 hown3 hgrow3 hbb
        obtain ⟨bg, bc', rfl⟩ := own_some hown3
        have keep3 : ∀ k, k < w2.heap.size → some k ≠ (Value.slice ba bs.length bc).ownBlock → w3.heap[k]? = (w2.setCell ⟨B, 1, none⟩ (.slice (some ⟨kg, 0, none⟩) (ks.length + 1) kc')).heap[k]? := fun k hk hne =>
          (hgrow3.block k (by simp; omega) hne).trans (Below.heap_alloc _ _ _ (by simpa using hk))
        have hsz3 : w2.heap.size < w3.heap.size := by have := hgrow3.size; simp at this; omega
        have t3 : Touch w w3 (fp B (.slice ka ks.length kc) (.slice ba bs.length bc) sb) := ((t2.setCell (p := ⟨B, 1, none⟩) (.inl (.inl rfl)) (.slice (some ⟨kg, 0, none⟩) (ks.length + 1) kc')).alloc (.cells #[.int .u64 0] 34)).grown ⟨hgrow3.os, hgrow3.tape, hgrow3.output, hgrow3.size, hgrow3.block⟩ fun k hk => .inl (.inr (.inr (.inr hk)))
        have nB3 : some B ≠ (Value.slice ba bs.length bc).ownBlock := fun e => by obtain ⟨cur, hcur⟩ := ownsRow_blk h.bits e.symm; exact blk_ne hcur h.blk (by decide) rfl
        have nS3 : some sb ≠ (Value.slice ba bs.length bc).ownBlock := fun e => by obtain ⟨cur, hcur⟩ := ownsRow_blk h.bits e.symm; exact blk_ne hcur h.slots (by decide) rfl
        have nk3 : ∀ k, (Value.slice (some ⟨kg, 0, none⟩) (ks.length + 1) kc').ownBlock = some k → some k ≠ (Value.slice ba bs.length bc).ownBlock := fun k hk e => by
          obtain ⟨cur, hcur⟩ := ownsRow_blk m2.bits e.symm; obtain ⟨cur', hcur'⟩ := ownsRow_blk m2.keys hk; exact blk_ne hcur hcur' (by decide) rfl
        have blk3 : w3.heap[B]? = _ := (keep3 B (by omega) nB3).trans m2.blk
        have slots3 : w3.heap[sb]? = _ := (keep3 sb (by have := blk_lt h.slots; omega) nS3).trans m2.slots
        have keys3 : w3.ownsRow n0 9 1 (.slice (some ⟨kg, 0, none⟩) (ks.length + 1) kc') (ks ++ [key]).length ((ks ++ [key]).map Value.string) :=
          ownsRow_same m2.keys fun k hk => keep3 k (by have := ownsRow_lt m2.keys hk; simpa using this) (nk3 k hk)
        have bits3 : w3.ownsRow n0 34 1 (.slice (some ⟨bg, 0, none⟩) (bs.length + 1) bc') (bs ++ [0]).length ((bs ++ [0]).map (Value.int .u64)) := by simpa using hown3
        have m3 := (StMem.newBits blk3 keys3 bits3 slots3 h.lo).setSlot i (ks.length + 1)
        have x0 : w3.cell? ⟨B, 2, none⟩ = some (.slice ba bs.length bc) := cell_of_blk blk3 rfl
        have x1 : w3.frozen? ⟨B, 2, none⟩ = false := free_of_blk blk3
        have x2 : w3.cell? ⟨B, 1, none⟩ = some (.slice (some ⟨kg, 0, none⟩) (ks.length + 1) kc') := cell_of_blk blk3 rfl
        have x3 : w3.cell? ⟨B, 3, none⟩ = some (.slice (some ⟨sb, 0, none⟩) sl.length sl.length) := cell_of_blk blk3 rfl
        have x4 : w3.frozen? ⟨sb, i, none⟩ = false := free_of_blk slots3
        have x5 := slot_cell slots3 i hi
        have nsb : sb ≠ B := blk_ne h.slots h.blk (by decide)
        have nsb' : B ≠ sb := fun e => nsb e.symm
        have hkb' : (Value.slice ka ks.length kc).ownBlock = some kg ∨ w.heap.size ≤ kg := by
          rcases hkb with e | e
          · exact .inl e.symm
          · right; simp [Value.ownBlock] at e; omega
        have hbb' : (Value.slice ba bs.length bc).ownBlock = some bg ∨ w.heap.size ≤ bg := by
          rcases hbb with e | e
          · exact .inl e.symm
          · right; simp [Value.ownBlock] at e; omega
        have HK := Lib.hid hkb'
        have HB := Lib.hid hbb'
        clear hkb hbb hkb' hbb'
        have HM : Hid (StMem ((w3.setCell ⟨B, 2, none⟩ (.slice (some ⟨bg, 0, none⟩) (bs.length + 1) bc')).setCell ⟨sb, i, none⟩ (.int .i64 ((ks.length : Int) + 1))) n0 B (.slice (some ⟨kg, 0, none⟩) (ks.length + 1) kc') (.slice (some ⟨bg, 0, none⟩) (bs.length + 1) bc') sb most (ks ++ [key]) (bs ++ [0]) (sl.set i (ks.length + 1))) := m3
        have HT := Lib.hid t3
        clear m3 t3 m2 t2 keep2 keep3 hgrow2 hgrow3 hown2 hown3 nB nS nb nB3 nS3 nk3
        rw [h0.1] at x5
        have hnd := h.nodup
        have hks := h.keysz
        have hroom := h.room
        have hbd := h.bd
        have hun := h.under
        have htab : Tab (ks ++ [key]) (ks.length + 1) (sl.set i (ks.length + 1)) := by
          have ht1 := h.tab.more (Nat.le_refl _) [key]
          have hs1 : SlotAt (ks ++ [key]) sl ((ks ++ [key]).getD ks.length default) i := by
            rw [show (ks ++ [key]).getD ks.length default = key by simp [List.getD]]
            exact hsat.more h.tab (Nat.le_refl _) h0.1 [key]
          exact ht1.put hs1 h0.1
        have HTab := Lib.hid htab
        have hnd' : (ks ++ [key]).Nodup := by
          rw [List.nodup_append]
          exact ⟨hnd, by simp, by intro a ha b hb; simp at hb; subst hb; rintro rfl; exact h0.2 ha⟩
        have hks' : ∀ k ∈ ks ++ [key], k.size ≤ maxLen := by
          intro k hk; rw [List.mem_append] at hk
          rcases hk with hk | hk
          · exact hks k hk
          · simp at hk; subst hk; exact hkey
        have Hnd := Lib.hid hnd'
        have Hks := Lib.hid hks'
        clear htab hnd hks hnd' hks'
        by_cases hg : (sl.length : Int) < 2 * ((ks.length : Int) + 1)
        · go_wp2
          go_region
          go_wp2
          go_quiet (fail)
          go_wp2_with fail
          refine (grow_calls (HM.out.drewN _) (by simp; omega) (by simp; omega) (by simp; omega) Hnd.out Hks.out).mono ?_
          rintro e w5 ⟨rfl, sl', hm5, hlen5, htab5, ht5⟩
          have y1 : w5.cell? ⟨B, 1, none⟩ = some (.slice (some ⟨kg, 0, none⟩) (ks.length + 1) kc') := cell_of_blk hm5.blk rfl
          rw [List.length_set] at hlen5
          have L5 := Lib.hid hlen5
          clear hlen5
          go_wp2
          go_ret3
          have hl5 := L5.out
          refine ⟨ret_ibi (by omega) rfl rfl, _, _, _, sl', ⟨hm5, ?_⟩, ((((HT.out.setCell (p := ⟨B, 2, none⟩) (.inl (.inl rfl)) _).setCell (p := ⟨sb, i, none⟩) (.inl (.inr (.inl rfl))) _).drewN _).trans ht5 ?_), ?_⟩
          · exact {
              len := by simp; omega
              tab := by simpa using htab5
              room := by simp; omega
              nodup := Hnd.out
              few := by simp; omega
              size := by simp; omega
              keysz := Hks.out
              under := by simp; omega
              bd := hbd }
          · rintro k (rfl | rfl | hk | hk)
            · exact .inl (.inl rfl)
            · exact .inl (.inr (.inl rfl))
            · simp [Value.ownBlock] at hk; subst hk; exact HK.out.imp (fun e => .inr (.inr (.inl e))) id
            · simp [Value.ownBlock] at hk; subst hk; exact HB.out.imp (fun e => .inr (.inr (.inr e))) id
          · rintro k (rfl | rfl | hk | hk)
            · exact .inl (.inl rfl)
            · right; simp; omega
            · simp [Value.ownBlock] at hk; subst hk; exact HK.out.imp (fun e => .inr (.inr (.inl e))) id
            · simp [Value.ownBlock] at hk; subst hk; exact HB.out.imp (fun e => .inr (.inr (.inr e))) id
        · go_wp2
          go_region
          go_wp2
          go_quiet (fail)
          go_wp2
          go_ret3
          refine ⟨ret_ibi (by omega) rfl rfl, _, _, _, _, ⟨HM.out.drewN _, ?_⟩, ((HT.out.setCell (p := ⟨B, 2, none⟩) (.inl (.inl rfl)) _).setCell (p := ⟨sb, i, none⟩) (.inl (.inr (.inl rfl))) _).drewN _, ?_⟩
          · exact {
              len := by simp; omega
              tab := by simpa using HTab.out
              room := by simp; omega
              nodup := Hnd.out
              few := by simp; omega
              size := by simp; omega
              keysz := Hks.out
              under := by simp; omega
              bd := hbd }
          · rintro k (rfl | rfl | hk | hk)
            · exact .inl (.inl rfl)
            · exact .inl (.inr (.inl rfl))
            · simp [Value.ownBlock] at hk; subst hk; exact HK.out.imp (fun e => .inr (.inr (.inl e))) id
            · simp [Value.ownBlock] at hk; subst hk; exact HB.out.imp (fun e => .inr (.inr (.inr e))) id
  · refine absurd ?_ hn
    rw [← h2]; simp [List.getD, hj]
end Go.Proofs.Ytnodhjlpoaahbaa
