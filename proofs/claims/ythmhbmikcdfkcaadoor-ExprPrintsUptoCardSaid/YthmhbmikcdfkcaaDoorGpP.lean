/-
  Texts, joined: Fm1, Fm2.
-/
import Derived.Test.YthmhbmikcdfkcaaDoorGpL
import Derived.BigGuard
import Derived.Laws.Bits64b
import Derived.Lib.LaidTab
/-
  strconv.FormatUint at base 10.
-/
namespace Go.Proofs.YthmhbmikcdfkcaaDoor
open Go.RowKit Go.Lib Go.Sort
theorem dec_base : ∀ (g u : Nat), u < 10 ^ (g + 1) → baseG 10 (g + 1) u = Lib.decDigits u
  | g, u, h => by
    rw [Lib.decDigits]
    unfold baseG
    by_cases h10 : u < 10
    · rw [if_pos h10, dif_pos h10]; unfold digB; rw [if_pos h10]
    · rw [if_neg h10, dif_neg h10]
      match g, h with
      | 0, h => omega
      | g + 1, h =>
        rw [dec_base g (u / 10) (by rw [Nat.pow_succ] at h; omega)]
        unfold digB
        rw [if_pos (by omega)]
set_option maxHeartbeats 6400000 in
set_option maxRecDepth 100000 in
theorem fmt10_in (u : Nat) (w : World) (hu : u < 4294967296) (htab : Lib.TabIs Tryd.prog w "internal/strconv.uint64pow10" .u64 Lib.pow10Tab) :
    Calls Tryd.prog 31 #[.int .u64 u, .int .i64 10] w fun e w' => e = .returned (.string ⟨(Lib.decDigits u).toArray⟩) ∧ Below w.heap.size w w' := by
  by_cases hs : u < 100
  · go_enter Tryd.func31, Tryd.ntmps31
    go_wp2_with (go_at_call 47; refine (Tryd.internal_strconv_small u hs _).mono ?_; rintro e w' ⟨rfl, rfl⟩)
    go_ret
    exact ⟨rfl, Below.refl _ _⟩
  · have hu1 : 1 ≤ u := by omega
    have hu64 : u < 18446744073709551616 := by omega
    have hnd20 : Lib.nDigits u ≤ 20 := by have := Lib.numDigits_eq u hu1 hu64; split at this <;> omega
    have hal : Tryd.prog.arrayLen 110 = 24 := by kernel_rfl
    have hsl : ∀ W, (Instr.sliceAt 110 (.pointer (some ⟨w.heap.size, 0, none⟩)) none (some (.int .i64 (Lib.nDigits u : Int))) none).run Tryd.prog W = .ok (.slice (some ⟨w.heap.size, 0, none⟩) (Lib.nDigits u) 24) W := fun W => by
      rw [run_sliceAt_array_h W 110 ⟨w.heap.size, 0, none⟩ (by kernel_rfl) .i64 (Lib.nDigits u : Int) (by omega) (by rw [hal]; omega)]
      go_simp
    have hH0 := Lib.holds_zero0 w 110 (Lib.nDigits u) (by omega)
    have hfmt := Tryd.internal_strconv_formatBase10 w.heap.size 0 24 u (Array.replicate (Lib.nDigits u) 0) (w.alloc (.cells Lib.zeros24 110)) hH0 (by rw [Array.size_replicate]; exact Lib.lt_pow_nDigits u) hu64 (by rw [Array.size_replicate]; omega)
    rw [Array.size_replicate] at hfmt
    have HH0 := Lib.hid hH0
    clear hH0 hal
    go_enter Tryd.func31, Tryd.ntmps31
    go_wp2_with (go_at_call 48; refine (Tryd.internal_strconv_numDigits u hu1 hu64 _ (Lib.tabIs_alloc htab _)).mono ?_; rintro e w' ⟨rfl, rfl⟩)
    go_at_call 49
    refine hfmt.mono ?_
    rintro e w' ⟨rfl, k, v', dk, rfl, hF⟩
    have hcv : (convert 70 9 (.slice (some ⟨w.heap.size, 0, none⟩) (Lib.nDigits u) 24)).run Tryd.prog ((putRow (fun (b : UInt8) => Value.int .u8 (b.toNat : Int)) (w.alloc (.cells Lib.zeros24 110)) w.heap.size 0 dk).drewN k) = .ok (.string ⟨(Lib.decDigits u).toArray⟩) ((putRow (fun (b : UInt8) => Value.int .u8 (b.toNat : Int)) (w.alloc (.cells Lib.zeros24 110)) w.heap.size 0 dk).drewN k) := by
      have h := run_convert_bytes_back (P := Tryd.prog) ((putRow (fun (b : UInt8) => Value.int .u8 (b.toNat : Int)) (w.alloc (.cells Lib.zeros24 110)) w.heap.size 0 dk).drewN k) 70 9 5 ⟨w.heap.size, 0, none⟩ 24 (Lib.decDigits u) Tryd.underlying70 Tryd.underlying5 Tryd.underlying9 (fun j hj => by
        rw [Lib.row_is_numeral hF j hj, Lib.add_plain, World.cell?_drewN]
        exact cell?_putRow (fun (b : UInt8) => Value.int .u8 (b.toNat : Int)) _ w.heap.size 0 _ dk HH0.out (by rw [hF.size, Array.size_replicate]) j (by rw [hF.size]; rw [Lib.decDigits_length] at hj; exact hj))
      rw [Lib.decDigits_length] at h
      exact h
    go_wp2
    go_ret
    obtain ⟨os, eo⟩ := Lib.fin_at w (.cells Lib.zeros24 110) dk k 0
    refine ⟨rfl, ?_⟩
    rw [eo]
    exact Lib.below_grow _ w (Nat.le_refl _) k os
theorem fmt_10 : FmtU 10 := fun u W hu hL => by
  have h := fmt10_in u W hu hL.tab
  go_enter Tryd.func17, Tryd.ntmps17
  go_wp2_with fail
  refine h.mono ?_
  rintro e w' ⟨rfl, hb⟩
  go_wp2
  go_ret
  have e : mk (baseB 10 u) = ⟨(Lib.decDigits u).toArray⟩ := by unfold baseB mk; rw [dec_base 63 u (by omega)]
  rw [e]
  exact ⟨rfl, hb⟩
end Go.Proofs.YthmhbmikcdfkcaaDoor
/-
  strconv.FormatUint at bases that are powers of two (written by mkfm2.py).
-/
namespace Go.Proofs.YthmhbmikcdfkcaaDoor
open Go.RowKit
theorem LibAt.lt {w : World} (h : LibAt w) : ∀ k, k ∈ libB → k < w.heap.size := fun k hk => by
  have lt : ∀ {g i : Nat} {v : Value}, w.cell? ⟨g, i, none⟩ = some v → g < w.heap.size := fun {g i v} h => by
    rcases Nat.lt_or_ge g w.heap.size with h' | h'
    · exact h'
    · simp [World.cell?, Array.getElem?_eq_none h'] at h
  simp only [libB, List.mem_cons, List.mem_nil_iff, or_false] at hk
  rcases hk with rfl | rfl
  · exact lt (h.tab.cell libTab 0 (by decide))
  · exact lt (h.db.cell libDb 0 (by decide))
theorem LibAt.alloc {w : World} (h : LibAt w) (o : Obj) : LibAt (w.alloc o) := h.congr fun k hk => Below.heap_alloc _ _ _ (h.lt k hk)
theorem pow2_calls (x : Int) (w : World) (key : bits BinOp.and IntKind.i64 x (wrap64 (x - 1)) = 0) :
    Calls Tryd.prog 62 #[.int .i64 x] w fun e w' => e = .returned (.bool true) ∧ w' = w := by
  go_enter Tryd.func62, Tryd.ntmps62
  go_wp2
  go_ret
  exact ⟨rfl, rfl⟩
set_option maxHeartbeats 1000000 in
theorem tz64_calls (x k idx : Nat) (w : World) (hx0 : ((x : Int) == 0) = false)
    (key : IntKind.u64.wrap (bits BinOp.and IntKind.u64 (x : Int) (IntKind.u64.wrap (-(x : Int))) * 285870213051353865) / 288230376151711744 = (idx : Int))
    (hi : idx < 64) (hk : k < 64) (hcell : w.cell? ⟨2, idx, none⟩ = some (.int .u8 k)) :
    Calls Tryd.prog 73 #[.int .u64 x] w fun e w' => e = .returned (.int .i64 k) ∧ w' = w := by
  go_enter Tryd.func73, Tryd.ntmps73
  go_wp2_with (simp only [key])
  go_ret
  exact ⟨rfl, rfl⟩
theorem tz_calls (x k : Nat) (w : World) (h : Calls Tryd.prog 73 #[.int .u64 x] w fun e w' => e = .returned (.int .i64 k) ∧ w' = w) :
    Calls Tryd.prog 63 #[.int .u64 x] w fun e w' => e = .returned (.int .i64 k) ∧ w' = w := by
  go_enter Tryd.func63, Tryd.ntmps63
  go_wp2_with fail
  refine h.mono ?_
  rintro e w' ⟨rfl, rfl⟩
  go_wp2
  go_ret
  exact ⟨rfl, rfl⟩
theorem cells_cons {cur : Array Value} {ik : Nat} {L : By} {d : UInt8} (hcs : cur.size = 65) (hik : ik + L.length = 65) (hcur : ∀ j, j < L.length → cur[ik + j]? = some (.int .u8 ((L.getD j 0).toNat : Int))) (h1 : 1 ≤ ik) :
    ∀ j, j < (d :: L).length → (cur.setIfInBounds (ik - 1) (.int .u8 (d.toNat : Int)))[ik - 1 + j]? = some (.int .u8 (((d :: L).getD j 0).toNat : Int)) := fun j hj => by
  match j with
  | 0 => rw [Nat.add_zero, Array.getElem?_setIfInBounds_self_of_lt (by omega)]; rfl
  | j + 1 =>
    rw [Array.getElem?_setIfInBounds_ne (by omega), show ik - 1 + (j + 1) = ik + j by omega, hcur j (by simpa using hj)]
    rfl
theorem digit_at (n : Nat) (h : n < 16) (h' : n < (⟨#[48, 49, 50, 51, 52, 53, 54, 55, 56, 57, 97, 98, 99, 100, 101, 102, 103, 104, 105, 106, 107, 108, 109, 110, 111, 112, 113, 114, 115, 116, 117, 118, 119, 120, 121, 122]⟩ : ByteArray).size) : (⟨#[48, 49, 50, 51, 52, 53, 54, 55, 56, 57, 97, 98, 99, 100, 101, 102, 103, 104, 105, 106, 107, 108, 109, 110, 111, 112, 113, 114, 115, 116, 117, 118, 119, 120, 121, 122]⟩ : ByteArray)[n] = digB n := by
  match n, h with
  | 0, _ => rfl
  | 1, _ => rfl
  | 2, _ => rfl
  | 3, _ => rfl
  | 4, _ => rfl
  | 5, _ => rfl
  | 6, _ => rfl
  | 7, _ => rfl
  | 8, _ => rfl
  | 9, _ => rfl
  | 10, _ => rfl
  | 11, _ => rfl
  | 12, _ => rfl
  | 13, _ => rfl
  | 14, _ => rfl
  | 15, _ => rfl
  | n + 16, h => exact absurd h (by omega)

theorem pow2_16 (w : World) : Calls Tryd.prog 62 #[.int .i64 16] w fun e w' => e = .returned (.bool true) ∧ w' = w := pow2_calls 16 w (by kernel_rfl)
theorem tz_16 (w : World) (hL : LibAt w) : Calls Tryd.prog 63 #[.int .u64 16] w fun e w' => e = .returned (.int .i64 4) ∧ w' = w :=
  tz_calls 16 4 w (tz64_calls 16 4 15 w rfl (by kernel_rfl) (by decide) (by decide) (hL.db.cell libDb 15 (by decide)))
theorem and_16 (n : Nat) (h : n < 1099511627776) : bits BinOp.and IntKind.u64 (n : Int) 15 = ((n % 16 : Nat) : Int) := by
  have := bits_and_u64_nat n 15 (by omega) (by omega)
  rw [show ((15 : Nat) : Int) = 15 from rfl] at this
  rw [this, show (15 : Nat) = 2 ^ 4 - 1 from rfl, Nat.and_two_pow_sub_one_eq_mod]
set_option maxHeartbeats 4000000 in
set_option maxRecDepth 100000 in
theorem bits_16 (u : Nat) (w : World) (hu : u < 4294967296) (hL : LibAt w) :
    Calls Tryd.prog 50 #[.slice none 0 0, .int .u64 u, .int .i64 16, .bool false, .bool false] w fun e w' => e = .returned (.tuple #[.slice none 0 0, .string (mk (baseB 16 u))]) ∧ Below w.heap.size w w' := by
  go_enter Tryd.func50, Tryd.ntmps50
  go_wp2_with (first | (go_at_call 62; refine (pow2_16 _).mono ?_; rintro e w1 ⟨rfl, rfl⟩) | (go_at_call 63; refine (tz_16 _ (hL.alloc _)).mono ?_; rintro e w1 ⟨rfl, rfl⟩))
  have hZ : (w.alloc (.cells Tryd.zeroCells128 128)).heap[w.heap.size]? = some (.cells Tryd.zeroCells128 128 (0, 0)) := heap_alloc_new _ _
  have hB0 : Below w.heap.size w (w.alloc (.cells Tryd.zeroCells128 128)) := (Below.refl _ w).alloc (Nat.le_refl _) _
  generalize w.alloc (.cells Tryd.zeroCells128 128) = wa at *
  go_loopw [1, 13] (fun uv iv wr => ∃ (n ik : Nat) (L : By) (cur : Array Value), uv = .int .u64 n ∧ iv = .int .i64 ik ∧ ik + L.length = 65 ∧ n < 16 ^ (8 - L.length) ∧ L.length ≤ 8 ∧ baseB 16 u = baseG 16 (64 - L.length) n ++ L ∧ wr.heap[w.heap.size]? = some (.cells cur 128 (0, 0)) ∧ cur.size = 65 ∧ (∀ j, j < L.length → cur[ik + j]? = some (.int .u8 ((L.getD j 0).toNat : Int))) ∧ Below w.heap.size w wr) (fun uv _ _ => (intOf uv).toNat)
  case atStart => exact ⟨u, 65, [], _, rfl, rfl, rfl, by show u < 16 ^ 8; omega, Nat.zero_le _, by rw [List.append_nil]; rfl, hZ, by kernel_rfl, fun j hj => by simp at hj, hB0⟩
  case round =>
    obtain ⟨n, ik, L, cur, rfl, rfl, hik, hn, hL', hEq, hblk, hcs, hcur, hbel⟩ := hrel
    have hp1 : 16 ^ (8 - L.length) ≤ 16 ^ 8 := Nat.pow_le_pow_right (by decide) (Nat.sub_le _ _)
    have hp2 : 16 ^ 8 ≤ 8589934592 := by decide
    have hn32 : n < 1099511627776 := Nat.lt_of_lt_of_le hn (Nat.le_trans hp1 (Nat.le_trans hp2 (by decide)))
    clear hp1 hp2
    have hand := and_16 n hn32
    have hlt : ik - 1 < cur.size := by omega
    have hc : wr.cell? ⟨w.heap.size, ik - 1, none⟩ = some (cur.getD (ik - 1) undef) := cell_of_blk hblk (by simp [Array.getD, hlt])
    clear hlt
    have hf : wr.frozen? ⟨w.heap.size, ik - 1, none⟩ = false := free_of_blk hblk
    by_cases hge : 16 ≤ n
    · have hgi : (16 : Int) ≤ (n : Int) := by omega
      have hik2 : ((ik - 1 : Nat) : Int) < 65 := by omega
      have hmod : n % 16 < 16 := Nat.mod_lt _ (by omega)
      go_wp2
      rw [digit_at (n % 16) (by omega)]
      have hl8 : L.length < 8 := by
        rcases Nat.lt_or_ge L.length 8 with h | h
        · exact h
        · rw [show 8 - L.length = 0 by omega] at hn; simp at hn; omega
      refine ⟨⟨n / 16, ik - 1, digB (n % 16) :: L, _, congrArg _ (by omega), congrArg _ (by omega), by simp; omega, ?_, by simp; omega, ?_, blk_set hblk _, by simp [hcs], ?_, hbel.setCell (Nat.le_refl _) _⟩, by simp [intOf]; omega⟩
      · rw [show 8 - L.length = 8 - (L.length + 1) + 1 by omega, Nat.pow_succ] at hn
        rw [List.length_cons]
        exact Nat.div_lt_of_lt_mul (by omega)
      · rw [hEq, List.length_cons, show 64 - L.length = 64 - (L.length + 1) + 1 by omega]
        show (if n < 16 then _ else _) ++ L = _
        rw [if_neg (by omega), List.append_assoc]
        rfl
      · exact cells_cons hcs hik hcur (by omega)
    · have hgi : (n : Int) < 16 := by omega
      have hik2 : ((ik - 1 : Nat) : Int) < 65 := by omega
      have hal : Tryd.prog.arrayLen 128 = 65 := by kernel_rfl
      have hsl : ∀ W, (Instr.sliceAt 128 (.pointer (some ⟨w.heap.size, 0, none⟩)) (some (.int .i64 ((ik : Int) - 1))) none none).run Tryd.prog W = .ok (.slice (some ⟨w.heap.size, ik - 1, none⟩) (L.length + 1) (L.length + 1)) W := fun W => by
        rw [run_sliceAt_array_l W 128 ⟨w.heap.size, 0, none⟩ (by kernel_rfl) .i64 _ (by omega) (by rw [hal]; omega)]
        go_simp
        refine ⟨?_, ?_⟩ <;> omega
      have hcells := cells_cons (d := digB n) hcs hik hcur (by omega)
      have hblk' : (wr.setCell ⟨w.heap.size, ik - 1, none⟩ (.int .u8 ((digB n).toNat : Int))).heap[w.heap.size]? = _ := blk_set hblk _
      have hcv : (convert 70 9 (.slice (some ⟨w.heap.size, ik - 1, none⟩) (L.length + 1) (L.length + 1))).run Tryd.prog (wr.setCell ⟨w.heap.size, ik - 1, none⟩ (.int .u8 ((digB n).toNat : Int))) = .ok (.string ⟨(digB n :: L).toArray⟩) (wr.setCell ⟨w.heap.size, ik - 1, none⟩ (.int .u8 ((digB n).toNat : Int))) :=
        run_convert_bytes_back (P := Tryd.prog) _ 70 9 5 ⟨w.heap.size, ik - 1, none⟩ (L.length + 1) (digB n :: L) Tryd.underlying70 Tryd.underlying5 Tryd.underlying9 fun j hj => by
          rw [Addr.add_lit, cell_of_blk hblk' (hcells j hj), show (digB n :: L).getD j 0 = (digB n :: L)[j] from by unfold List.getD; rw [List.getElem?_eq_getElem hj]; rfl]
      have hdig := digit_at n (by omega)
      have e : baseG 16 (64 - L.length) n = [digB n] := by
        rw [show 64 - L.length = 63 - L.length + 1 by omega]
        show (if n < 16 then _ else _) = _
        rw [if_pos (by omega)]
      rw [e] at hEq
      go_wp2
      go_ret2
      exact ⟨rfl, hbel.setCell (Nat.le_refl _) _⟩
theorem fmt_in_16 (u : Nat) (w : World) (hu : u < 4294967296) (hL : LibAt w) :
    Calls Tryd.prog 31 #[.int .u64 u, .int .i64 16] w fun e w' => e = .returned (.string (mk (baseB 16 u))) ∧ Below w.heap.size w w' := by
  have h := bits_16 u w hu hL
  go_enter Tryd.func31, Tryd.ntmps31
  go_wp2_with fail
  refine h.mono ?_
  rintro e w' ⟨rfl, hb⟩
  go_wp2
  go_ret
  exact ⟨rfl, hb⟩
theorem fmt_16 : FmtU 16 := fun u W hu hL => by
  have h := fmt_in_16 u W hu hL
  go_enter Tryd.func17, Tryd.ntmps17
  go_wp2_with fail
  refine h.mono ?_
  rintro e w' ⟨rfl, hb⟩
  go_wp2
  go_ret
  exact ⟨rfl, hb⟩

theorem pow2_8 (w : World) : Calls Tryd.prog 62 #[.int .i64 8] w fun e w' => e = .returned (.bool true) ∧ w' = w := pow2_calls 8 w (by kernel_rfl)
theorem tz_8 (w : World) (hL : LibAt w) : Calls Tryd.prog 63 #[.int .u64 8] w fun e w' => e = .returned (.int .i64 3) ∧ w' = w :=
  tz_calls 8 3 w (tz64_calls 8 3 7 w rfl (by kernel_rfl) (by decide) (by decide) (hL.db.cell libDb 7 (by decide)))
theorem and_8 (n : Nat) (h : n < 1099511627776) : bits BinOp.and IntKind.u64 (n : Int) 7 = ((n % 8 : Nat) : Int) := by
  have := bits_and_u64_nat n 7 (by omega) (by omega)
  rw [show ((7 : Nat) : Int) = 7 from rfl] at this
  rw [this, show (7 : Nat) = 2 ^ 3 - 1 from rfl, Nat.and_two_pow_sub_one_eq_mod]
set_option maxHeartbeats 4000000 in
set_option maxRecDepth 100000 in
theorem bits_8 (u : Nat) (w : World) (hu : u < 4294967296) (hL : LibAt w) :
    Calls Tryd.prog 50 #[.slice none 0 0, .int .u64 u, .int .i64 8, .bool false, .bool false] w fun e w' => e = .returned (.tuple #[.slice none 0 0, .string (mk (baseB 8 u))]) ∧ Below w.heap.size w w' := by
  go_enter Tryd.func50, Tryd.ntmps50
  go_wp2_with (first | (go_at_call 62; refine (pow2_8 _).mono ?_; rintro e w1 ⟨rfl, rfl⟩) | (go_at_call 63; refine (tz_8 _ (hL.alloc _)).mono ?_; rintro e w1 ⟨rfl, rfl⟩))
  have hZ : (w.alloc (.cells Tryd.zeroCells128 128)).heap[w.heap.size]? = some (.cells Tryd.zeroCells128 128 (0, 0)) := heap_alloc_new _ _
  have hB0 : Below w.heap.size w (w.alloc (.cells Tryd.zeroCells128 128)) := (Below.refl _ w).alloc (Nat.le_refl _) _
  generalize w.alloc (.cells Tryd.zeroCells128 128) = wa at *
  go_loopw [1, 13] (fun uv iv wr => ∃ (n ik : Nat) (L : By) (cur : Array Value), uv = .int .u64 n ∧ iv = .int .i64 ik ∧ ik + L.length = 65 ∧ n < 8 ^ (11 - L.length) ∧ L.length ≤ 11 ∧ baseB 8 u = baseG 8 (64 - L.length) n ++ L ∧ wr.heap[w.heap.size]? = some (.cells cur 128 (0, 0)) ∧ cur.size = 65 ∧ (∀ j, j < L.length → cur[ik + j]? = some (.int .u8 ((L.getD j 0).toNat : Int))) ∧ Below w.heap.size w wr) (fun uv _ _ => (intOf uv).toNat)
  case atStart => exact ⟨u, 65, [], _, rfl, rfl, rfl, by show u < 8 ^ 11; omega, Nat.zero_le _, by rw [List.append_nil]; rfl, hZ, by kernel_rfl, fun j hj => by simp at hj, hB0⟩
  case round =>
    obtain ⟨n, ik, L, cur, rfl, rfl, hik, hn, hL', hEq, hblk, hcs, hcur, hbel⟩ := hrel
    have hp1 : 8 ^ (11 - L.length) ≤ 8 ^ 11 := Nat.pow_le_pow_right (by decide) (Nat.sub_le _ _)
    have hp2 : 8 ^ 11 ≤ 8589934592 := by decide
    have hn32 : n < 1099511627776 := Nat.lt_of_lt_of_le hn (Nat.le_trans hp1 (Nat.le_trans hp2 (by decide)))
    clear hp1 hp2
    have hand := and_8 n hn32
    have hlt : ik - 1 < cur.size := by omega
    have hc : wr.cell? ⟨w.heap.size, ik - 1, none⟩ = some (cur.getD (ik - 1) undef) := cell_of_blk hblk (by simp [Array.getD, hlt])
    clear hlt
    have hf : wr.frozen? ⟨w.heap.size, ik - 1, none⟩ = false := free_of_blk hblk
    by_cases hge : 8 ≤ n
    · have hgi : (8 : Int) ≤ (n : Int) := by omega
      have hik2 : ((ik - 1 : Nat) : Int) < 65 := by omega
      have hmod : n % 8 < 8 := Nat.mod_lt _ (by omega)
      go_wp2
      rw [digit_at (n % 8) (by omega)]
      have hl8 : L.length < 11 := by
        rcases Nat.lt_or_ge L.length 11 with h | h
        · exact h
        · rw [show 11 - L.length = 0 by omega] at hn; simp at hn; omega
      refine ⟨⟨n / 8, ik - 1, digB (n % 8) :: L, _, congrArg _ (by omega), congrArg _ (by omega), by simp; omega, ?_, by simp; omega, ?_, blk_set hblk _, by simp [hcs], ?_, hbel.setCell (Nat.le_refl _) _⟩, by simp [intOf]; omega⟩
      · rw [show 11 - L.length = 11 - (L.length + 1) + 1 by omega, Nat.pow_succ] at hn
        rw [List.length_cons]
        exact Nat.div_lt_of_lt_mul (by omega)
      · rw [hEq, List.length_cons, show 64 - L.length = 64 - (L.length + 1) + 1 by omega]
        show (if n < 8 then _ else _) ++ L = _
        rw [if_neg (by omega), List.append_assoc]
        rfl
      · exact cells_cons hcs hik hcur (by omega)
    · have hgi : (n : Int) < 8 := by omega
      have hik2 : ((ik - 1 : Nat) : Int) < 65 := by omega
      have hal : Tryd.prog.arrayLen 128 = 65 := by kernel_rfl
      have hsl : ∀ W, (Instr.sliceAt 128 (.pointer (some ⟨w.heap.size, 0, none⟩)) (some (.int .i64 ((ik : Int) - 1))) none none).run Tryd.prog W = .ok (.slice (some ⟨w.heap.size, ik - 1, none⟩) (L.length + 1) (L.length + 1)) W := fun W => by
        rw [run_sliceAt_array_l W 128 ⟨w.heap.size, 0, none⟩ (by kernel_rfl) .i64 _ (by omega) (by rw [hal]; omega)]
        go_simp
        refine ⟨?_, ?_⟩ <;> omega
      have hcells := cells_cons (d := digB n) hcs hik hcur (by omega)
      have hblk' : (wr.setCell ⟨w.heap.size, ik - 1, none⟩ (.int .u8 ((digB n).toNat : Int))).heap[w.heap.size]? = _ := blk_set hblk _
      have hcv : (convert 70 9 (.slice (some ⟨w.heap.size, ik - 1, none⟩) (L.length + 1) (L.length + 1))).run Tryd.prog (wr.setCell ⟨w.heap.size, ik - 1, none⟩ (.int .u8 ((digB n).toNat : Int))) = .ok (.string ⟨(digB n :: L).toArray⟩) (wr.setCell ⟨w.heap.size, ik - 1, none⟩ (.int .u8 ((digB n).toNat : Int))) :=
        run_convert_bytes_back (P := Tryd.prog) _ 70 9 5 ⟨w.heap.size, ik - 1, none⟩ (L.length + 1) (digB n :: L) Tryd.underlying70 Tryd.underlying5 Tryd.underlying9 fun j hj => by
          rw [Addr.add_lit, cell_of_blk hblk' (hcells j hj), show (digB n :: L).getD j 0 = (digB n :: L)[j] from by unfold List.getD; rw [List.getElem?_eq_getElem hj]; rfl]
      have hdig := digit_at n (by omega)
      have e : baseG 8 (64 - L.length) n = [digB n] := by
        rw [show 64 - L.length = 63 - L.length + 1 by omega]
        show (if n < 8 then _ else _) = _
        rw [if_pos (by omega)]
      rw [e] at hEq
      go_wp2
      go_ret2
      exact ⟨rfl, hbel.setCell (Nat.le_refl _) _⟩
theorem fmt_in_8 (u : Nat) (w : World) (hu : u < 4294967296) (hL : LibAt w) :
    Calls Tryd.prog 31 #[.int .u64 u, .int .i64 8] w fun e w' => e = .returned (.string (mk (baseB 8 u))) ∧ Below w.heap.size w w' := by
  have h := bits_8 u w hu hL
  go_enter Tryd.func31, Tryd.ntmps31
  go_wp2_with fail
  refine h.mono ?_
  rintro e w' ⟨rfl, hb⟩
  go_wp2
  go_ret
  exact ⟨rfl, hb⟩
theorem fmt_8 : FmtU 8 := fun u W hu hL => by
  have h := fmt_in_8 u W hu hL
  go_enter Tryd.func17, Tryd.ntmps17
  go_wp2_with fail
  refine h.mono ?_
  rintro e w' ⟨rfl, hb⟩
  go_wp2
  go_ret
  exact ⟨rfl, hb⟩
end Go.Proofs.YthmhbmikcdfkcaaDoor
