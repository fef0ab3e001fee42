/-
  What a call that writes into blocks of its own leaves as it was: all blocks but those.
-/
import Derived.WalkKit
import Derived.OneCell
import Derived.Deep.QuietTactic
namespace Go.Proofs.YthmhbmikcdfkcaaDoor
open Go.RowKit

/-- All that was there is as it was, but for the blocks of F. -/
structure Touch (w w' : World) (F : Nat → Prop) : Prop where
  os : w'.os = w.os
  tape : w'.tape = w.tape
  output : w'.output = w.output
  size : w.heap.size ≤ w'.heap.size
  block : ∀ k, k < w.heap.size → ¬ F k → w'.heap[k]? = w.heap[k]?

theorem Touch.refl (w : World) (F : Nat → Prop) : Touch w w F := ⟨rfl, rfl, rfl, Nat.le_refl _, fun _ _ _ => rfl⟩
theorem Touch.drewN {w w' : World} {F : Nat → Prop} (h : Touch w w' F) (n : Nat) : Touch w (w'.drewN n) F := ⟨h.os, h.tape, h.output, h.size, h.block⟩
theorem Touch.drew {w w' : World} {F : Nat → Prop} (h : Touch w w' F) : Touch w w'.drew F := ⟨h.os, h.tape, h.output, h.size, h.block⟩
theorem Touch.alloc {w w' : World} {F : Nat → Prop} (h : Touch w w' F) (o : Obj) : Touch w (w'.alloc o) F :=
  ⟨h.os, h.tape, h.output, Nat.le_trans h.size (by simp), fun k hk hn => (Below.heap_alloc w' o k (Nat.lt_of_lt_of_le hk h.size)).trans (h.block k hk hn)⟩
theorem Touch.setCell {w w' : World} {F : Nat → Prop} (h : Touch w w' F) {p : Addr} (hp : F p.block ∨ w.heap.size ≤ p.block) (u : Value) : Touch w (w'.setCell p u) F :=
  ⟨h.os, h.tape, h.output, by simpa [World.setCell] using h.size, fun k hk hn =>
    (Below.heap_setCell w' p u k (by rintro rfl; rcases hp with hp | hp; exact hn hp; omega)).trans (h.block k hk hn)⟩
theorem Touch.grown {w w' w'' : World} {F : Nat → Prop} {row : Option Nat} (h : Touch w w' F) (hg : w'.grownBy w'' row) (hr : ∀ k, row = some k → F k ∨ w.heap.size ≤ k) : Touch w w'' F :=
  ⟨hg.os.trans h.os, hg.tape.trans h.tape, hg.output.trans h.output, Nat.le_trans h.size hg.size, fun k hk hn =>
    (hg.block k (Nat.lt_of_lt_of_le hk h.size) (fun e => by rcases hr k e.symm with h1 | h1; exact hn h1; omega)).trans (h.block k hk hn)⟩
theorem Touch.trans {a b c : World} {F G : Nat → Prop} (h : Touch a b F) (k : Touch b c G) (hG : ∀ i, G i → F i ∨ a.heap.size ≤ i) : Touch a c F :=
  ⟨k.os.trans h.os, k.tape.trans h.tape, k.output.trans h.output, Nat.le_trans h.size k.size, fun i hi hn =>
    (k.block i (Nat.lt_of_lt_of_le hi h.size) (fun hg => by rcases hG i hg with h1 | h1; exact hn h1; omega)).trans (h.block i hi hn)⟩
theorem Touch.below {w w' : World} {F : Nat → Prop} {B : Nat} (h : Touch w w' F) (hB : B ≤ w.heap.size) (hF : ∀ k, F k → B ≤ k) : Below B w w' :=
  ⟨h.os, h.tape, h.output, h.size, fun k hk => h.block k (Nat.lt_of_lt_of_le hk hB) (fun hf => by have := hF k hf; omega)⟩
theorem Touch.of_below {w w' : World} {F : Nat → Prop} (h : Below w.heap.size w w') : Touch w w' F :=
  ⟨h.os, h.tape, h.output, h.size, fun k hk _ => h.block k hk⟩
theorem Touch.mono {w w' : World} {F G : Nat → Prop} (h : Touch w w' F) (hFG : ∀ k, F k → G k ∨ w.heap.size ≤ k) : Touch w w' G :=
  ⟨h.os, h.tape, h.output, h.size, fun k hk hn => h.block k hk (fun hf => by rcases hFG k hf with h1 | h1; exact hn h1; omega)⟩

theorem Touch.of_world {w w' w'' : World} {F : Nat → Prop} (h : Touch w w' F) (e1 : w''.heap = w'.heap) (e2 : w''.os = w'.os) (e3 : w''.tape = w'.tape) (e4 : w''.output = w'.output) : Touch w w'' F :=
  ⟨e2.trans h.os, e3.trans h.tape, e4.trans h.output, by rw [e1]; exact h.size, fun k hk hn => by rw [e1]; exact h.block k hk hn⟩

/-- A row that is owned, in a world in which its block is as it was. -/
theorem ownsRow_same {w w' : World} {base : Nat} {e : TypeId} {size : Nat} {v : Value} {n : Nat} {xs : List Value} (h : w.ownsRow base e size v n xs)
    (hs : ∀ k, v.ownBlock = some k → w'.heap[k]? = w.heap[k]?) : w'.ownsRow base e size v n xs := by
  refine ⟨h.1, ?_⟩
  rcases h.2 with hn | ⟨g, cap, cur, rfl, hb, hg, rest⟩
  · exact .inl hn
  · exact .inr ⟨g, cap, cur, rfl, hb, by rw [hs g rfl]; exact hg, rest⟩
theorem ownsRow_lt {w : World} {base : Nat} {e : TypeId} {size : Nat} {v : Value} {n : Nat} {xs : List Value} (h : w.ownsRow base e size v n xs) {k : Nat} (hk : v.ownBlock = some k) : k < w.heap.size := (h.lt k hk).2
/-- The type of the block that it owns. -/
theorem ownsRow_blk {w : World} {base : Nat} {e : TypeId} {size : Nat} {v : Value} {n : Nat} {xs : List Value} (h : w.ownsRow base e size v n xs) {k : Nat} (hk : v.ownBlock = some k) : ∃ cur, w.heap[k]? = some (.cells cur e (0, 0)) := by
  rcases h.2 with ⟨rfl, _⟩ | ⟨g, cap, cur, rfl, hb, hg, rest⟩
  · simp [Value.ownBlock] at hk
  · simp [Value.ownBlock] at hk; subst hk; exact ⟨cur, hg⟩
theorem blk_lt {w : World} {b : Nat} {o : Obj} (h : w.heap[b]? = some o) : b < w.heap.size := lt_of_block h
/-- Two blocks of different element types are not one. -/
theorem blk_ne {w : World} {a b : Nat} {c d : Array Value} {s t : TypeId} {f g : Nat × Nat} (ha : w.heap[a]? = some (.cells c s f)) (hb : w.heap[b]? = some (.cells d t g)) (hst : s ≠ t) : a ≠ b := by
  rintro rfl; rw [ha] at hb; simp at hb; exact hst hb.2.1
theorem cell_of_blk {w : World} {b i : Nat} {cs : Array Value} {t : TypeId} {v : Value} (h : w.heap[b]? = some (.cells cs t (0, 0))) (hi : cs[i]? = some v) : w.cell? ⟨b, i, none⟩ = some v := by
  simp [World.cell?, h, hi]
theorem free_of_blk {w : World} {b i : Nat} {cs : Array Value} {t : TypeId} (h : w.heap[b]? = some (.cells cs t (0, 0))) : w.frozen? ⟨b, i, none⟩ = false := by
  simp [World.frozen?, h]
theorem blk_set {w : World} {b i : Nat} {cs : Array Value} {t : TypeId} (h : w.heap[b]? = some (.cells cs t (0, 0))) (u : Value) : (w.setCell ⟨b, i, none⟩ u).heap[b]? = some (.cells (cs.setIfInBounds i u) t (0, 0)) :=
  heap_setCell_same w b i cs t u h
end Go.Proofs.YthmhbmikcdfkcaaDoor
