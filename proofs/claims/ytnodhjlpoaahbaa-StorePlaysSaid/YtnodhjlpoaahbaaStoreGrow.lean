/-
  The walk of layer 18's grow: a table twice as long, with the same texts.
-/
import Derived.Test.YtnodhjlpoaahbaaStoreMut
namespace Go.Proofs.Ytnodhjlpoaahbaa
open Go.RowKit
theorem info_int : (Try.prog.info? 3).map (fun i => (i.zero, i.size, i.bytes)) = some (some (.int .i64 0), 1, 8) := by kernel_rfl
variable {w : World} {n0 B : Nat} {kv bv : Value} {sb : Nat} {most : Int} {ks : List ByteArray} {bs : List Int} {sl : List Nat}

/-- A number is put into a slot. -/
theorem StMem.setSlot (h : StMem w n0 B kv bv sb most ks bs sl) (i x : Nat) : StMem (w.setCell ⟨sb, i, none⟩ (.int .i64 (x : Int))) n0 B kv bv sb most ks bs (sl.set i x) := by
  have hne1 : B ≠ sb := blk_ne h.blk h.slots (by decide)
  have hs := heap_setCell_same w sb i _ _ (.int .i64 (x : Int)) h.slots
  refine ⟨?_, ?_, ?_, ?_, h.lo⟩
  · rw [Below.heap_setCell _ _ _ _ hne1, List.length_set]; exact h.blk
  · refine ownsRow_same h.keys fun k hk => Below.heap_setCell _ _ _ _ ?_
    rintro rfl; obtain ⟨cur, hcur⟩ := ownsRow_blk h.keys hk; exact blk_ne hcur h.slots (by decide) rfl
  · refine ownsRow_same h.bits fun k hk => Below.heap_setCell _ _ _ _ ?_
    rintro rfl; obtain ⟨cur, hcur⟩ := ownsRow_blk h.bits hk; exact blk_ne hcur h.slots (by decide) rfl
  · rw [hs]
    congr 1
    simp [List.map_set]

theorem own_full {w : World} {base g n : Nat} {e : TypeId} {xs : List Value} (h : w.ownsRow base e 1 (.slice (some ⟨g, 0, none⟩) n n) n xs) : w.heap[g]? = some (.cells xs.toArray e (0, 0)) := by
  rcases h.2 with ⟨h', _⟩ | ⟨g', cap', cur, h', _, hg, _, _, hs, htake⟩
  · simp at h'
  · simp only [Value.slice.injEq, Option.some.injEq, Addr.mk.injEq, and_true, true_and] at h'
    obtain ⟨rfl, rfl⟩ := h'
    rw [hg, ← htake]
    congr 2
    rw [List.take_of_length_le (by simp; omega)]
theorem zero_slots (n : Nat) : (madeCells #[Value.int .i64 0] n).toList = (List.replicate n 0).map fun (n : Nat) => Value.int .i64 (n : Int) :=
  (toList_madeCells_one (.int .i64 0) n).trans (by simp)

def GrowRel (w : World) (n0 B : Nat) (kv bv : Value) (sb : Nat) (most : Int) (ks : List ByteArray) (bs : List Int) (sl : List Nat) (sb' m : Nat) (wr : World) : Prop :=
  ∃ sl', StMem wr n0 B kv bv sb' most ks bs sl' ∧ sl'.length = 2 * sl.length ∧ Tab ks m sl' ∧ Touch w wr (fp B kv bv sb)

set_option maxRecDepth 100000 in
set_option maxHeartbeats 1000000 in
theorem grow_calls (h : StMem w n0 B kv bv sb most ks bs sl) (hL : sl.length ≤ 100000) (hp : 0 < sl.length) (hlt : ks.length < 2 * sl.length) (hnd : ks.Nodup) (hks : ∀ k ∈ ks, k.size ≤ maxLen) :
    Calls Try.prog 38 #[.pointer (some ⟨B, 0, none⟩)] w fun e w' => e = .returned (.tuple #[]) ∧ GrowRel w n0 B kv bv sb most ks bs sl w.heap.size ks.length w' := by
  obtain ⟨i0, hi, hz0, hz1, hz2⟩ := info_parts info_int
  have hB := blk_lt h.blk
  have hn0 := h.lo.1
  obtain ⟨ka, kc, rfl, hkc, hk⟩ := own_cases h.keys
  have c1 : w.cell? ⟨B, 1, none⟩ = some (.slice ka ks.length kc) := cell_of_blk h.blk rfl
  have c3 : w.cell? ⟨B, 3, none⟩ = some (.slice (some ⟨sb, 0, none⟩) sl.length sl.length) := cell_of_blk h.blk rfl
  go_enter Try.func38, Try.ntmps38
  go_wp2_with (at_make; refine wpList_make_full _ rfl (.tmp 10) (.tmp 10) 74 rfl n0 3 i0 (.int .i64 0) 1 Try.underlying74 hi hz0 hz1 .i64 .i64 _ _ (2 * sl.length) rfl rfl ?hL ?hC ?b2 ?b3 ?b4 ?hK)
  case hL => omega
  case hC => omega
  case b2 => rw [hz2]; omega
  case b3 => unfold maxLen; omega
  case b4 => omega
  case hK =>
    intro w1 hown hgrow
    have hw1 := hgrow.size
    have hsame : ∀ k, k < w.heap.size → w1.heap[k]? = w.heap[k]? := fun k hk => hgrow.block k hk (by simp)
    have hm1 := h.kept (w' := w1) fun k hk _ => hsame k hk
    have c1' : w1.cell? ⟨B, 1, none⟩ = some (.slice ka ks.length kc) := cell_of_blk hm1.blk rfl
    have c3' : w1.cell? ⟨B, 3, none⟩ = some (.slice (some ⟨sb, 0, none⟩) sl.length sl.length) := cell_of_blk hm1.blk rfl
    have f3' : w1.frozen? ⟨B, 3, none⟩ = false := free_of_blk hm1.blk
    have hz := own_full hown
    rw [zero_slots] at hz
    have hne : B ≠ w.heap.size := by omega
    have HM : Hid (StMem (w1.setCell ⟨B, 3, none⟩ (.slice (some ⟨w.heap.size, 0, none⟩) (2 * sl.length) (2 * sl.length))) n0 B (.slice ka ks.length kc) bv w.heap.size most ks bs (List.replicate (2 * sl.length) 0)) := {
      blk := by
        have := heap_setCell_same w1 B 3 _ _ (.slice (some ⟨w.heap.size, 0, none⟩) (2 * sl.length) (2 * sl.length)) hm1.blk
        rw [this]; simp
      keys := ownsRow_same hm1.keys fun k hk => Below.heap_setCell _ _ _ _ (by
        rintro rfl; obtain ⟨cur, hcur⟩ := ownsRow_blk hm1.keys hk; exact blk_ne hcur hm1.blk (by decide) rfl)
      bits := ownsRow_same hm1.bits fun k hk => Below.heap_setCell _ _ _ _ (by
        rintro rfl; obtain ⟨cur, hcur⟩ := ownsRow_blk hm1.bits hk; exact blk_ne hcur hm1.blk (by decide) rfl)
      slots := by rw [Below.heap_setCell _ _ _ _ (by simpa using fun e : w.heap.size = B => hne e.symm)]; exact hz
      lo := ⟨h.lo.1, by omega⟩ }
    have HT : Hid (Touch w (w1.setCell ⟨B, 3, none⟩ (.slice (some ⟨w.heap.size, 0, none⟩) (2 * sl.length) (2 * sl.length))) (fp B (.slice ka ks.length kc) bv sb)) :=
      ((Touch.refl w _).grown hgrow (by simp)).setCell (.inl (.inl rfl)) _
    clear hz hown hsame
    go_wp2
    go_loopw [19] (fun i wr => ∃ m : Nat, m ≤ ks.length ∧ i = .int .i64 m ∧ GrowRel w n0 B (.slice ka ks.length kc) bv sb most ks bs sl w.heap.size m wr) (fun i _ => ks.length - (intOf i).toNat)
    case atStart => exact ⟨0, Nat.zero_le _, rfl, _, HM.out, by simp, Tab.empty _ _ (by omega), HT.out⟩
    case round =>
      obtain ⟨m, hm, rfl, sl', hmr, hlen, htab, htouch⟩ := hrel
      by_cases hml : m < ks.length
      · obtain ⟨kb, rfl, _⟩ := hk (by omega)
        obtain ⟨ka', kc', e', hk'⟩ := hmr.keysAt
        simp only [Value.slice.injEq, true_and] at e'
        obtain ⟨rfl, rfl⟩ := e'
        obtain ⟨kb', e', hc⟩ := hk' (by omega)
        simp only [Option.some.injEq, Addr.mk.injEq, and_true] at e'
        subst e'
        have hcell := hc m hml
        have r1 : wr.cell? ⟨B, 1, none⟩ = some (.slice (some ⟨kb, 0, none⟩) ks.length kc) := cell_of_blk hmr.blk rfl
        have r3 : wr.cell? ⟨B, 3, none⟩ = some (.slice (some ⟨w.heap.size, 0, none⟩) sl'.length sl'.length) := cell_of_blk hmr.blk rfl
        have hkey : ks.getD m default ∈ ks := by simp [List.getD, hml]
        have hksz := hks _ hkey
        have hat := htab.slotP (by omega) (ks.getD m default)
        have hilt := hat.lt (by omega)
        have h0 : sl'.getD (slotP ks sl' (ks.getD m default)) 0 = 0 := by
          apply Classical.byContradiction
          intro hne0
          obtain ⟨j, hj, _, he⟩ := hat.some htab hne0
          have : j = m := nodup_inj hnd (by omega) hml (by simpa [List.getD, hml, show j < ks.length by omega] using he)
          omega
        have HT := Lib.hid (htab.put hat h0)
        have HC := fun n => slot_mem (ks.getD m default) hksz (hmr.drewN n) htab hm (by omega) (by omega)
        have HSM : Hid (StMem (wr.setCell ⟨w.heap.size, slotP ks sl' (ks.getD m default), none⟩ (.int .i64 ((m : Int) + 1))) n0 B (.slice (some ⟨kb, 0, none⟩) ks.length kc) bv w.heap.size most ks bs (sl'.set (slotP ks sl' (ks.getD m default)) (m + 1))) := hmr.setSlot (slotP ks sl' (ks.getD m default)) (m + 1)
        have hsl : ∀ j, wr.frozen? ⟨w.heap.size, j, none⟩ = false := fun j => free_of_blk hmr.slots
        have hcells := slot_cell hmr.slots _ hilt
        have eL : Hid (sl'.length = 2 * sl.length) := hlen
        have hlen' : sl'.length ≤ 200000 := by omega
        clear hlen hc hk' hkey hat h0
        generalize slotP ks sl' (ks.getD m default) = i at *
        have hi' : (i : Int) < (sl'.length : Int) := by omega
        generalize ks.getD m default = key at *
        go_wp2
        go_region_with (go_at_call 37; refine (HC 1).mono ?_; rintro e w2 ⟨rfl, nq, rfl⟩)
        all_goals
          go_wp2
          go_roundw
          case rel => exact ⟨m + 1, by omega, by go_num, _, HSM.out.of_heap rfl, by rw [List.length_set]; exact eL.out, HT.out, (htouch.setCell (.inr (Nat.le_refl _)) _).of_world rfl rfl rfl rfl⟩
          case measure => simp [intOf]; omega
      · have hmk : m = ks.length := by omega
        subst hmk
        go_wp2
        go_end0
        exact ⟨rfl, sl', hmr, hlen, htab, htouch⟩
end Go.Proofs.Ytnodhjlpoaahbaa
