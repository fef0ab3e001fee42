/-
  A channel that is written over: what lies below stays.
-/
import Derived.Test.YtiflenddalmfaaaCpP
namespace Go.Proofs.Ytiflenddalmfaaa
open Go.RowKit

/-- A message's head, its numbers in memory from n0 on. -/
def HdQ (w : World) (n0 : Nat) (hv : Value) : Prop := ∃ (a : Option Addr) (len cap : Nat), hv = .slice a len cap ∧ (0 < len → ∃ (b : Nat) (c : Array Value), a = some ⟨b, 0, none⟩ ∧ n0 ≤ b ∧ w.heap[b]? = some (.cells c 2 (0, 0)) ∧ len ≤ c.size ∧ len ≤ maxLen)
theorem HdQ.nil (w : World) (n0 : Nat) : HdQ w n0 (.slice none 0 0) := ⟨_, _, _, rfl, fun h => by omega⟩
theorem HdQ.next {w w' : World} {n0 : Nat} {hv : Value} (h : HdQ w n0 hv) (hk : ∀ (b : Nat) (c : Array Value), w.heap[b]? = some (.cells c 2 (0, 0)) → ∃ c' : Array Value, w'.heap[b]? = some (.cells c' 2 (0, 0)) ∧ c'.size = c.size) : HdQ w' n0 hv := by
  obtain ⟨a, len, cap, rfl, h1⟩ := h
  refine ⟨a, len, cap, rfl, fun hp => ?_⟩
  obtain ⟨b, c, e, h2, h3, h4, h5⟩ := h1 hp
  obtain ⟨c', h6, h7⟩ := hk b c h3
  exact ⟨b, c', e, h2, h6, by omega, h5⟩
theorem HdQ.pos {w : World} {n0 : Nat} {a : Option Addr} {len cap : Nat} (h : HdQ w n0 (.slice a len cap)) (hp : 0 < len) : ∃ (b : Nat) (c : Array Value), a = some ⟨b, 0, none⟩ ∧ n0 ≤ b ∧ w.heap[b]? = some (.cells c 2 (0, 0)) ∧ len ≤ c.size ∧ len ≤ maxLen := by
  obtain ⟨a', len', cap', e, h1⟩ := h
  simp only [Value.slice.injEq] at e
  obtain ⟨rfl, rfl, rfl⟩ := e
  exact h1 hp
/-- What the walk keeps. -/
structure SpI (w : World) (n0 B g n : Nat) (sh : Int) (v : Value) (cur : Array Value) (wr : World) : Prop where
  bx : wr.heap[B]? = some (.cells #[.int .i64 sh, v] 27 (0, 0))
  row : wr.heap[g]? = some (.cells cur 29 (0, 0))
  sz : n ≤ cur.size
  hd : ∀ i, i < n → ∃ hv, cur[i]? = some hv ∧ HdQ wr n0 hv
  lo : n0 ≤ g
  bw : Below n0 w wr
theorem SpI.num {w wr : World} {n0 B g n b j : Nat} {sh : Int} {v : Value} {cur c : Array Value} (h : SpI w n0 B g n sh v cur wr) (hb : wr.heap[b]? = some (.cells c 2 (0, 0))) (hn : n0 ≤ b) (u : Value) : SpI w n0 B g n sh v cur (wr.setCell ⟨b, j, none⟩ u) where
  bx := by rw [Below.heap_setCell _ _ _ _ (fun e => blk_ne hb h.bx (by decide) e.symm)]; exact h.bx
  row := by rw [Below.heap_setCell _ _ _ _ (fun e => blk_ne hb h.row (by decide) e.symm)]; exact h.row
  sz := h.sz
  hd := fun i hi => by
    obtain ⟨hv, h1, h2⟩ := h.hd i hi
    refine ⟨hv, h1, h2.next fun b' c' hb' => ?_⟩
    by_cases he : b' = b
    · subst he
      rw [hb] at hb'
      simp only [Option.some.injEq, Obj.cells.injEq] at hb'
      obtain ⟨rfl, _⟩ := hb'
      exact ⟨_, blk_set hb u, by simp⟩
    · exact ⟨c', by rw [Below.heap_setCell _ _ _ _ he]; exact hb', rfl⟩
  lo := h.lo
  bw := h.bw.setCell hn _
theorem SpI.head {w wr : World} {n0 B g n i : Nat} {sh : Int} {v : Value} {cur : Array Value} (h : SpI w n0 B g n sh v cur wr) : SpI w n0 B g n sh v (cur.setIfInBounds i (.slice none 0 0)) (wr.setCell ⟨g, i, none⟩ (.slice none 0 0)) where
  bx := by rw [Below.heap_setCell _ _ _ _ (fun e => blk_ne h.row h.bx (by decide) e.symm)]; exact h.bx
  row := blk_set h.row _
  sz := by simp; exact h.sz
  hd := fun j hj => by
    obtain ⟨hv, h1, h2⟩ := h.hd j hj
    have keep : ∀ x, HdQ wr n0 x → HdQ (wr.setCell ⟨g, i, none⟩ (.slice none 0 0)) n0 x := fun x hx => hx.next fun b' c' hb' =>
      ⟨c', by rw [Below.heap_setCell _ _ _ _ (fun e => blk_ne h.row hb' (by decide) e.symm)]; exact hb', rfl⟩
    by_cases he : i = j
    · subst he
      refine ⟨.slice none 0 0, ?_, HdQ.nil _ _⟩
      have := h.sz
      simp [show i < cur.size by omega]
    · exact ⟨hv, by rw [Array.getElem?_setIfInBounds_ne he]; exact h1, keep hv h2⟩
  lo := h.lo
  bw := h.bw.setCell h.lo _
set_option maxRecDepth 100000 in
set_option maxHeartbeats 1000000 in
theorem spoil_calls {w : World} {n0 : Nat} {sh : Int} {v : Value} {vs : List Value} {q : List (List Int)} (h : OwnQ w n0 v vs q) (hn0 : n0 ≤ w.heap.size) :
    Calls Try.prog 9 #[.agg #[.int .i64 sh, v]] w fun e w' => e = .returned (.tuple #[]) ∧ Below n0 w w' := by
  have hq := h.len
  rcases h.row.2 with ⟨rfl, hz⟩ | ⟨g, cap, cur, rfl, hg, hb, hc, hm, hs, ht⟩
  · go_enter Try.func9, Try.ntmps9
    go_wp2
    go_loopw [2] (fun i wr => i = .int .i64 0 ∧ wr = w.alloc (.cells #[.int .i64 sh, .slice none 0 0] 27)) (fun _ _ => 0)
    case atStart => exact ⟨rfl, rfl⟩
    case round =>
      obtain ⟨rfl, rfl⟩ := hrel
      go_wp2
      go_end0
      exact ⟨rfl, (Below.refl _ _).alloc hn0 _⟩
  · have hI : SpI w n0 w.heap.size g q.length sh (.slice (some ⟨g, 0, none⟩) q.length cap) cur (w.alloc (.cells #[.int .i64 sh, .slice (some ⟨g, 0, none⟩) q.length cap] 27)) := by
      refine ⟨heap_alloc_new _ _, (Below.heap_alloc _ _ _ (Array.getElem?_eq_some_iff.1 hb).1).trans hb, by omega, fun i hi => ?_, hg, (Below.refl _ _).alloc hn0 _⟩
      have hvs : vs[i]? = some (vs.getD i undef) := by simp [List.getD, hq, hi]
      have hqs : q[i]? = some (q.getD i []) := by simp [List.getD, hi]
      have hcur : cur[i]? = some (vs.getD i undef) := by
        have : (cur.toList.take (q.length * 1))[i]? = some (vs.getD i undef) := by rw [ht]; exact hvs
        rw [List.getElem?_take] at this
        split at this
        · simpa using this
        · cases this
      refine ⟨_, hcur, ?_⟩
      have hO := (h.each i _ _ hvs hqs).row
      rcases hO.2 with ⟨e, hz⟩ | ⟨b, cap', c, e, h1, h2, h3, h4, h5, h6⟩
      · exact ⟨_, _, _, e, fun h => by omega⟩
      · exact ⟨_, _, _, e, fun hp => ⟨b, c, rfl, h1, (Below.heap_alloc _ _ _ (Array.getElem?_eq_some_iff.1 h2).1).trans h2, by omega, by omega⟩⟩
    have hB : w.heap.size ≠ g := fun e => by have := (Array.getElem?_eq_some_iff.1 hb).1; omega
    clear h hb ht hs
    unfold maxLen at hm
    generalize q.length = n at hI hc
    go_enter Try.func9, Try.ntmps9
    go_wp2
    go_loopw [2] (fun i wr => ∃ k : Nat, k ≤ n ∧ i = .int .i64 k ∧ ∃ cur, SpI w n0 w.heap.size g n sh (.slice (some ⟨g, 0, none⟩) n cap) cur wr) (fun i _ => n - (intOf i).toNat)
    case atStart => exact ⟨0, Nat.zero_le _, rfl, cur, hI⟩
    case round =>
      obtain ⟨k, hk, rfl, cur, hI⟩ := hrel
      have c1 := cell_of_blk (i := 1) hI.bx rfl
      by_cases hlt : k < n
      · obtain ⟨hv, hc, hh⟩ := hI.hd k hlt
        have c2 : wr.cell? ⟨g, k, none⟩ = some hv := cell_of_blk hI.row hc
        obtain ⟨a, len, lcap, rfl, hh⟩ := hh
        go_wp2
        go_loopw [3] (fun x wr => ∃ j : Nat, j ≤ len ∧ x = .int .i64 j ∧ SpI w n0 w.heap.size g n sh (.slice (some ⟨g, 0, none⟩) n cap) cur wr) (fun x _ => len - (intOf x).toNat)
        case atStart => exact ⟨0, Nat.zero_le _, rfl, hI⟩
        case round =>
          clear hI c1 c2
          obtain ⟨j, hj, rfl, hI⟩ := hrel
          have c1 := cell_of_blk (i := 1) hI.bx rfl
          have c2 := cell_of_blk (i := k) hI.row hc
          by_cases hjl : j < len
          · obtain ⟨b, c, rfl, hb0, hbc, hlc, hlm⟩ := (show HdQ _ n0 (.slice a len lcap) from by
              obtain ⟨hv, e1, e2⟩ := hI.hd k hlt
              rw [hc] at e1
              simp only [Option.some.injEq] at e1
              rw [e1]; exact e2).pos (by omega)
            unfold maxLen at hlm
            have c3 := cell_of_blk (i := j) hbc (Array.getElem?_eq_getElem (by omega))
            have f3 := free_of_blk (i := j) hbc
            have HN := Lib.hid (hI.num (j := j) hbc hb0 (.int .i64 (-9)))
            clear hI hbc
            go_wp2
            go_roundw
            case rel => exact ⟨j + 1, by omega, by go_num, HN.out⟩
            case measure => simp [intOf]; omega
          · obtain rfl : j = len := by omega
            have f2 := free_of_blk (i := k) hI.row
            have HH := Lib.hid (hI.head (i := k))
            clear hI hh
            go_wp2
            go_roundw
            case rel => exact ⟨k + 1, by omega, by go_num, _, HH.out⟩
            case measure => simp [intOf]; omega
      · obtain rfl : k = n := by omega
        go_wp2
        go_end0
        exact ⟨rfl, hI.bw⟩
end Go.Proofs.Ytiflenddalmfaaa
