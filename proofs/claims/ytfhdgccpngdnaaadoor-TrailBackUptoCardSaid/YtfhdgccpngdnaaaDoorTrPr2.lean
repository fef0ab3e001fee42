/-
  A search's end, printed by the program: the walk.
-/
import Derived.Test.YtfhdgccpngdnaaaDoorTrPr
import Derived.Lib.SliceRun
namespace Go.Proofs.YtfhdgccpngdnaaaDoor
open Go.RowKit
/-- What the walk keeps. -/
structure PrI (w : World) (f : D.Found) (tr : Value) (T : ByteArray) (W : World) : Prop where
  fb : W.heap[w.heap.size]? = some (.cells #[.int .i64 f.Kind, .int .i64 f.What, .int .i64 f.Err, .int .i64 f.At, tr, .int .i64 f.Cycle, .int .i64 f.States, .int .i64 f.Steps] 25 (0, 0))
  bd : BldI (w.heap.size + 1) (w.heap.size + 1) T W
  bw : Below w.heap.size w W
  sz : w.heap.size + 2 ≤ W.heap.size
theorem PrI.same {w : World} {f : D.Found} {tr : Value} {T : ByteArray} {W W' : World} (h : PrI w f tr T W) (hb : Below W.heap.size W W') : PrI w f tr T W' :=
  ⟨(hb.block _ (by have := h.sz; omega)).trans h.fb, h.bd.below hb, h.bw.trans (hb.mono h.bw.size), Nat.le_trans h.sz hb.size⟩
theorem LibAt.below {w w' : World} (h : LibAt w) (hB : ∀ k, k ∈ libB → k < w.heap.size) (hb : Below w.heap.size w w') : LibAt w' ∧ ∀ k, k ∈ libB → k < w'.heap.size :=
  ⟨h.congr fun k hk => hb.block k (hB k hk), fun k hk => Nat.lt_of_lt_of_le (hB k hk) hb.size⟩
theorem cell_of_blk {w : World} {b i : Nat} {cs : Array Value} {t : TypeId} {v : Value} (h : w.heap[b]? = some (.cells cs t (0, 0))) (hi : cs[i]? = some v) : w.cell? ⟨b, i, none⟩ = some v := by
  simp [World.cell?, h, hi]
theorem below_one (w : World) (o : Obj) : Below w.heap.size w (w.alloc o) := (Below.refl _ _).alloc (Nat.le_refl _) _
theorem PrI.start (w : World) (f : D.Found) (tr : Value) : ∃ W, W = ((w.alloc (.cells #[.int .i64 f.Kind, .int .i64 f.What, .int .i64 f.Err, .int .i64 f.At, tr, .int .i64 f.Cycle, .int .i64 f.States, .int .i64 f.Steps] 25)).alloc (.cells #[.pointer none, .slice none 0 0] bldT)) ∧
    W.heap[w.heap.size]? = some (.cells #[.int .i64 f.Kind, .int .i64 f.What, .int .i64 f.Err, .int .i64 f.At, tr, .int .i64 f.Cycle, .int .i64 f.States, .int .i64 f.Steps] 25 (0, 0)) ∧
    BldI (w.heap.size + 1) (w.heap.size + 1) ⟨#[]⟩ W ∧ Below w.heap.size w W ∧ W.heap.size = w.heap.size + 2 := by
  refine ⟨_, rfl, ?_, ?_, ?_, by simp⟩
  · rw [Below.heap_alloc _ _ _ (by simp)]; exact heap_alloc_new _ _
  · have := BldI.start (w.alloc (.cells #[.int .i64 f.Kind, .int .i64 f.What, .int .i64 f.Err, .int .i64 f.At, tr, .int .i64 f.Cycle, .int .i64 f.States, .int .i64 f.Steps] 25))
    simpa using this
  · exact ((Below.refl _ w).alloc (Nat.le_refl _) _).alloc (by simp) _
theorem heap_new2 (w : World) (o o' : Obj) : ((w.alloc o).alloc o').heap[w.heap.size + 1]? = some o' := by
  have h : (w.alloc o).heap.size = w.heap.size + 1 := by simp
  rw [← h]
  exact heap_alloc_new _ _
theorem below_write {w W W' : World} {n : Nat} (h : Below n w W) (hb : Below (n + 1) W W') : Below n w W' := h.trans (hb.mono (Nat.le_succ _))
set_option maxRecDepth 100000 in
set_option maxHeartbeats 1000000 in
theorem print_calls {f : D.Found} (h : FdS f) {w : World} (hL : LibAt w) (hB : ∀ k, k ∈ libB → k < w.heap.size) {ao : Option Addr} {cap : Nat}
    (htr : 0 < f.Trail.length → ∃ b off, ao = some ⟨b, off, none⟩ ∧ b < w.heap.size ∧ ∀ i, i < f.Trail.length → ∀ j x, ((mvL (f.Trail.getD i default)).map (Value.int .i64))[j]? = some x → w.cell? ⟨b, off + i * 7 + j, none⟩ = some x) :
    Calls Tryd.prog 6 #[.agg #[.int .i64 f.Kind, .int .i64 f.What, .int .i64 f.Err, .int .i64 f.At, .slice ao f.Trail.length cap, .int .i64 f.Cycle, .int .i64 f.States, .int .i64 f.Steps]] w fun e w' =>
      e = .returned (.tuple #[.string (printP f).1, .int .i64 (printP f).2]) ∧ Below w.heap.size w w' := by
  have hlen := h.len
  go_enter Tryd.func6, Tryd.ntmps6
  by_cases hok : FdOk f
  · have hpr : printP f = (prT f f.Trail.length, 0) := by unfold printP; rw [if_pos hok, prT_all]
    rw [hpr]
    obtain ⟨k1, k2, k3, k4⟩ := hok
    obtain ⟨W, hW, i1, i2, i3, i4⟩ := PrI.start w f (.slice ao f.Trail.length cap)
    obtain ⟨hL1, hB1⟩ := hL.below hB i3
    go_wp2_with fail
    all_goals first | (exfalso; omega) | skip
    rw [← hW]
    have a1 := below_one W (.cells #[.int .i64 f.Kind, .int .i64 f.What, .int .i64 f.Err, .int .i64 f.At, .int .i64 f.States, .int .i64 f.Steps] 3)
    obtain ⟨hL2, hB2⟩ := hL1.below hB1 a1
    have i1' := (a1.block _ (by omega)).trans i1
    have i2' := i2.below a1
    refine (line_calls (l := fdL f) (word := foundB) hL2 hB2 (found_ok h.fit) (b := w.heap.size + 1 + 1) (by rw [show w.heap.size + 1 + 1 = W.heap.size from i4.symm]; exact heap_alloc_new _ _) rfl).mono ?_
    rintro e w1 ⟨rfl, hb1⟩
    have j1 := (hb1.block _ (by simp; omega)).trans i1'
    have j2 := i2'.below hb1
    have j3 := i3.trans ((a1.trans (hb1.mono a1.size)).mono i3.size)
    have j4 : w.heap.size + 2 ≤ w1.heap.size := by have := hb1.size; simp at this; omega
    have hsz0 := prT_size h.fit 0 (Nat.zero_le _)
    rw [prT_zero] at hsz0
    clear hW i1 i2 i3 i1' i2' hL1 hB1 a1 hL2 hB2 hb1 i4 W
    go_wp2_with fail
    refine (write_calls j2 (by show 0 + _ ≤ _; omega) (by omega)).mono ?_
    rintro e w2 ⟨rfl, l1, l2, l3⟩
    have hI : PrI w f (.slice ao f.Trail.length cap) (prT f 0) w2 := ⟨(l2.block _ (by omega)).trans j1, by rw [prT_zero]; exact l1, below_write j3 l2, Nat.le_trans j4 l2.size⟩
    have c4 := cell_of_blk (i := 4) hI.fb rfl
    clear j1 j2 j3 j4 l1 l2 l3 hsz0 w1
    go_wp2_with fail
    go_loopw [46] (fun i wr => ∃ k : Nat, k ≤ f.Trail.length ∧ i = .int .i64 k ∧ PrI w f (.slice ao f.Trail.length cap) (prT f k) wr) (fun i _ => f.Trail.length - (intOf i).toNat)
    case atStart => exact ⟨0, Nat.zero_le _, rfl, hI⟩
    case round =>
      clear hI c4
      obtain ⟨k, hk, rfl, hI⟩ := hrel
      have hszk := prT_size h.fit k hk
      by_cases hlt : k < f.Trail.length
      · obtain ⟨b, off, rfl, hbl, hc⟩ := htr (by omega)
        have hm := h.fit.tr (f.Trail.getD k default) (getD_mem hlt)
        have hsuc := prT_succ hlt
        have hv : ∀ j x, ((mvL (f.Trail.getD k default)).map (Value.int .i64))[j]? = some x → wr.cell? ⟨b, off + k * 7 + j, none⟩ = some x := fun j x hx => (hI.bw.cell (p := ⟨b, off + k * 7 + j, none⟩) hbl).trans (hc k hlt j x hx)
        clear hc htr
        generalize f.Trail.getD k default = mv at hm hsuc hv
        have v0 : wr.cell? ⟨b, off + k * 7, none⟩ = some (.int .i64 mv.Pid) := hv 0 _ rfl
        have v1 : wr.cell? ⟨b, off + k * 7 + 1, none⟩ = some (.int .i64 mv.Esc) := hv 1 _ rfl
        have v2 : wr.cell? ⟨b, off + k * 7 + 2, none⟩ = some (.int .i64 mv.Way) := hv 2 _ rfl
        have v3 : wr.cell? ⟨b, off + k * 7 + 3, none⟩ = some (.int .i64 mv.With) := hv 3 _ rfl
        have v4 : wr.cell? ⟨b, off + k * 7 + 4, none⟩ = some (.int .i64 mv.WithEsc) := hv 4 _ rfl
        have v5 : wr.cell? ⟨b, off + k * 7 + 5, none⟩ = some (.int .i64 mv.WithWay) := hv 5 _ rfl
        have v6 : wr.cell? ⟨b, off + k * 7 + 6, none⟩ = some (.int .i64 mv.Claim) := hv 6 _ rfl
        clear hv
        have c5 := cell_of_blk (i := 5) hI.fb rfl
        have hs2 := hI.sz
        have c6 := Lib.cell?_alloc_some (.cells #[.int .i64 mv.Pid, .int .i64 mv.Esc, .int .i64 mv.Way, .int .i64 mv.With, .int .i64 mv.WithEsc, .int .i64 mv.WithWay, .int .i64 mv.Claim] 47) c5
        have A1 := below_one wr (.cells #[.int .i64 mv.Pid, .int .i64 mv.Esc, .int .i64 mv.Way, .int .i64 mv.With, .int .i64 mv.WithEsc, .int .i64 mv.WithWay, .int .i64 mv.Claim] 47)
        by_cases hcy : (k : Int) = f.Cycle
        · have HC := Lib.hid hcy
          have HB := Lib.hid (show ((k : Int) == f.Cycle) = true from beq_iff_eq.2 hcy)
          clear hcy
          go_wp2_with fail
          all_goals first | (exact Bool.noConfusion (show true = false from HB.out.symm.trans (by assumption))) | skip
          clear v0 v1 v2 v3 v4 v5 v6 c5 c6
          have hI1 := hI.same A1
          have hV1 : (wr.alloc (.cells #[.int .i64 mv.Pid, .int .i64 mv.Esc, .int .i64 mv.Way, .int .i64 mv.With, .int .i64 mv.WithEsc, .int .i64 mv.WithWay, .int .i64 mv.Claim] 47)).heap[wr.heap.size]? = some (.cells #[.int .i64 mv.Pid, .int .i64 mv.Esc, .int .i64 mv.Way, .int .i64 mv.With, .int .i64 mv.WithEsc, .int .i64 mv.WithWay, .int .i64 mv.Claim] 47 (0, 0)) := heap_alloc_new _ _
          generalize hW : wr.alloc (.cells #[.int .i64 mv.Pid, .int .i64 mv.Esc, .int .i64 mv.Way, .int .i64 mv.With, .int .i64 mv.WithEsc, .int .i64 mv.WithWay, .int .i64 mv.Claim] 47) = W1 at hI1 hV1 ⊢
          have hW1 : wr.heap.size < W1.heap.size := by rw [← hW]; simp
          refine (write_calls (s := cycNl) hI1.bd (by show _ + 6 ≤ _; omega) (by have := hI1.sz; omega)).mono ?_
          rintro e w4 ⟨rfl, l1, l2, l3⟩
          have hV4 := l3 _ _ hV1 (by simp; omega) (by intro c fz hc; simp only [Obj.cells.injEq] at hc; exact absurd hc.2.1 (by decide))
          have hF4 := (l2.block _ (by omega)).trans hI1.fb
          have hB4 := below_write hI1.bw l2
          have hS4 := Nat.le_trans hI1.sz l2.size
          have hT4 : wr.heap.size < w4.heap.size := Nat.lt_of_lt_of_le hW1 l2.size
          have v0 := cell_of_blk (i := 0) hV4 rfl
          have v1 := cell_of_blk (i := 1) hV4 rfl
          have v2 := cell_of_blk (i := 2) hV4 rfl
          have v3 := cell_of_blk (i := 3) hV4 rfl
          have v4 := cell_of_blk (i := 4) hV4 rfl
          have v5 := cell_of_blk (i := 5) hV4 rfl
          have v6 := cell_of_blk (i := 6) hV4 rfl
          clear hI1 hV1 hV4 l2 l3 hW A1 hW1
          go_wp2_with fail
          clear v0 v1 v2 v3 v4 v5 v6
          have hI2 := (PrI.mk (T := prT f k ++ cycNl) hF4 l1 hB4 hS4).same (below_one w4 (.cells #[.int .i64 mv.Pid, .int .i64 mv.Esc, .int .i64 mv.Way, .int .i64 mv.With, .int .i64 mv.WithEsc, .int .i64 mv.WithWay, .int .i64 mv.Claim] 3))
          obtain ⟨hL2, hB2⟩ := hL.below hB hI2.bw
          refine (line_calls (l := mvL mv) (word := moveB) hL2 hB2 (move_ok hm) (b := w4.heap.size) (heap_alloc_new _ _) rfl).mono ?_
          rintro e w5 ⟨rfl, hb5⟩
          have hI5 := hI2.same hb5
          clear hI2 hL2 hB2 hb5
          have hls := lineB_size (word := moveB) hm
          have hmb : moveB.size = 4 := rfl
          have h7 : (mvL mv).length = 7 := rfl
          go_wp2_with fail
          refine (write_calls hI5.bd (by rw [ByteArray.size_append]; have : cycNl.size = 6 := rfl; omega) (by have := hI5.sz; omega)).mono ?_
          rintro e w6 ⟨rfl, m1, m2, m3⟩
          have hI6 : PrI w f (.slice (some ⟨b, off, none⟩) f.Trail.length cap) (prT f (k + 1)) w6 := ⟨(m2.block _ (by omega)).trans hI5.fb, by rw [hsuc, if_pos HC.out]; exact m1, below_write hI5.bw m2, Nat.le_trans hI5.sz m2.size⟩
          go_wp2
          go_roundw
          case rel => exact ⟨k + 1, by omega, by go_num, hI6⟩
          case measure => simp [intOf]; omega
        · go_wp2_with fail
          all_goals first | (exfalso; omega) | skip
          clear v0 v1 v2 v3 v4 v5 v6 c5 c6
          have hI2 := (hI.same A1).same (below_one (wr.alloc (.cells #[.int .i64 mv.Pid, .int .i64 mv.Esc, .int .i64 mv.Way, .int .i64 mv.With, .int .i64 mv.WithEsc, .int .i64 mv.WithWay, .int .i64 mv.Claim] 47)) (.cells #[.int .i64 mv.Pid, .int .i64 mv.Esc, .int .i64 mv.Way, .int .i64 mv.With, .int .i64 mv.WithEsc, .int .i64 mv.WithWay, .int .i64 mv.Claim] 3))
          obtain ⟨hL2, hB2⟩ := hL.below hB hI2.bw
          refine (line_calls (l := mvL mv) (word := moveB) hL2 hB2 (move_ok hm) (b := wr.heap.size + 1) (heap_new2 _ _ _) rfl).mono ?_
          rintro e w5 ⟨rfl, hb5⟩
          have hI5 := hI2.same hb5
          clear hI2 hL2 hB2 hb5
          have hls := lineB_size (word := moveB) hm
          have hmb : moveB.size = 4 := rfl
          have h7 : (mvL mv).length = 7 := rfl
          go_wp2_with fail
          refine (write_calls hI5.bd (by omega) (by have := hI5.sz; omega)).mono ?_
          rintro e w6 ⟨rfl, m1, m2, m3⟩
          have hI6 : PrI w f (.slice (some ⟨b, off, none⟩) f.Trail.length cap) (prT f (k + 1)) w6 := ⟨(m2.block _ (by omega)).trans hI5.fb, by rw [hsuc, if_neg hcy]; exact m1, below_write hI5.bw m2, Nat.le_trans hI5.sz m2.size⟩
          go_wp2
          go_roundw
          case rel => exact ⟨k + 1, by omega, by go_num, hI6⟩
          case measure => simp [intOf]; omega
      · obtain rfl : k = f.Trail.length := by omega
        go_wp2_with fail
        refine (string_calls hI.bd (by have := hI.sz; omega)).mono ?_
        rintro e w3 ⟨rfl, l1⟩
        go_wp2
        go_ret2
        exact ⟨rfl, below_write hI.bw l1⟩
  · have hp : printP f = (⟨#[]⟩, 42) := if_neg hok
    rw [hp]
    go_wp2_with fail
    all_goals first | (exfalso; exact hok ⟨by omega, by omega, by omega, by omega⟩) | skip
    all_goals (go_ret2; exact ⟨rfl, below_one _ _⟩)
theorem print_spec {f : D.Found} (h : FdS f) : VSpec Tryd.prog 6 [] [.agg (encFd f)] [] (.tup [strV (printP f).1, intV (printP f).2]) := by
  refine VSpec.hand ⟨_, Tryd.func6, rfl, by kernel_rfl⟩ fun w E vs hA hL hB hbr hs => ?_
  obtain ⟨u1, us1, rfl, v1, hs⟩ := hs.cons_inv
  obtain rfl := hs.nil_inv
  obtain ⟨tr, rfl, v2⟩ := fd_inv v1
  obtain ⟨ao, cap, rfl, _, _, h3⟩ := tr_inv v2
  refine (print_calls h hL hB h3).mono ?_
  rintro e w' ⟨rfl, hb⟩
  exact ⟨_, rfl, v_tup2 .sc .sc, hb⟩
end Go.Proofs.YtfhdgccpngdnaaaDoor
