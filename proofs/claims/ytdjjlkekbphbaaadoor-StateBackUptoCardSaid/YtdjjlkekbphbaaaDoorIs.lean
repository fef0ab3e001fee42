/-
  What the cells of a value say in a world (Is), and how that is taken apart: the cells of a struct field by field, the elements of a slice.
-/
import Derived.Test.YtdjjlkekbphbaaaDoorPkg
import Derived.WalkKit
import Derived.BigQuiet
import Derived.Deep.QuietTactic
namespace Go.Proofs.YtdjjlkekbphbaaaDoor
open Go.RowKit

/-- What a bundle says of cells in a world. -/
def Is {α : Type} (p : Pkg α) (w : World) (cs : List Value) (x : α) : Prop := p.rd (fun k => k < w.heap.size) w cs x
section
variable {α β : Type} {p : Pkg α} {q : Pkg β} {w w' : World} {cs : List Value}
theorem Is.below {x : α} (hp : Pkg.Stays p) (h : Is p w cs x) (hb : Below w.heap.size w w') : Is p w' cs x :=
  hp _ _ w w' _ x (fun k hk => hb.block k hk) (fun _ hk => Nat.lt_of_lt_of_le hk hb.size) h
/-- Where the blocks that were there are as they were. -/
theorem Is.same {x : α} (hp : Pkg.Stays p) (h : Is p w cs x) (hs : w.heap.size ≤ w'.heap.size) (hb : ∀ k, k < w.heap.size → w'.heap[k]? = w.heap[k]?) : Is p w' cs x :=
  hp _ _ w w' _ x (fun k hk => hb k hk) (fun _ hk => Nat.lt_of_lt_of_le hk hs) h
theorem Is.drewN {x : α} (h : Is p w cs x) (hp : Pkg.Stays p) (n : Nat) : Is p (w.drewN n) cs x := h.same hp (Nat.le_refl _) fun _ _ => rfl
theorem Is.alloc {x : α} (h : Is p w cs x) (hp : Pkg.Stays p) (o : Obj) : Is p (w.alloc o) cs x := h.same hp (by simp) fun k hk => Below.heap_alloc w o k hk

theorem wf_i64 {n : Int} : (Lit.int .i64 n).wf = true ↔ -9223372036854775808 ≤ n ∧ n ≤ 9223372036854775807 := by
  simp only [Lit.wf, Bool.and_eq_true, decide_eq_true_eq]; exact Iff.rfl
theorem is_via {f : β → α} {x : β} : Is (Pkg.via f p) w cs x ↔ Is p w cs (f x) := Iff.rfl
theorem is_int {k : IntKind} {n : Int} : Is (Pkg.int k) w cs n ↔ cs = [.int k n] ∧ (Lit.int k n).wf = true := Iff.rfl
theorem is_bool {b : Bool} : Is Pkg.bool w cs b ↔ cs = [.bool b] := Iff.rfl
theorem is_str {s : ByteArray} : Is Pkg.str w cs s ↔ cs = [.string s] ∧ s.size ≤ maxLen := Iff.rfl
theorem is_unit {u : Unit} : Is Pkg.unit w cs u ↔ cs = [] := Iff.rfl
theorem is_cons {n : Nat} {x : α × β} : Is (Pkg.cons n p q) w cs x ↔ ∃ a b, cs = a ++ b ∧ a.length = n ∧ Is p w a x.1 ∧ Is q w b x.2 := Iff.rfl
theorem is_cons_int {k : IntKind} {x : Int × β} : Is (Pkg.cons 1 (Pkg.int k) q) w cs x ↔ ∃ b, cs = .int k x.1 :: b ∧ (Lit.int k x.1).wf = true ∧ Is q w b x.2 :=
  ⟨fun ⟨a, b, e, _, ⟨h1, h2⟩, h3⟩ => ⟨b, by rw [e, h1]; rfl, h2, h3⟩, fun ⟨b, e, h2, h3⟩ => ⟨[.int k x.1], b, e, rfl, ⟨rfl, h2⟩, h3⟩⟩
theorem is_cons_bool {x : Bool × β} : Is (Pkg.cons 1 Pkg.bool q) w cs x ↔ ∃ b, cs = .bool x.1 :: b ∧ Is q w b x.2 :=
  ⟨fun ⟨a, b, e, _, h1, h3⟩ => ⟨b, by rw [e, show a = [.bool x.1] from h1]; rfl, h3⟩, fun ⟨b, e, h3⟩ => ⟨[.bool x.1], b, e, rfl, rfl, h3⟩⟩
theorem is_cons_str {x : ByteArray × β} : Is (Pkg.cons 1 Pkg.str q) w cs x ↔ ∃ b, cs = .string x.1 :: b ∧ x.1.size ≤ maxLen ∧ Is q w b x.2 :=
  ⟨fun ⟨a, b, e, _, ⟨h1, h2⟩, h3⟩ => ⟨b, by rw [e, h1]; rfl, h2, h3⟩, fun ⟨b, e, h2, h3⟩ => ⟨[.string x.1], b, e, rfl, ⟨rfl, h2⟩, h3⟩⟩
theorem is_cons_slice {size bytes : Nat} {x : List α × β} : Is (Pkg.cons 1 (Pkg.slice size bytes p) q) w cs x ↔ ∃ v b, cs = v :: b ∧ Is (Pkg.slice size bytes p) w [v] x.1 ∧ Is q w b x.2 := by
  constructor
  · rintro ⟨a, b, e, hl, h1, h3⟩
    match a, hl with
    | [v], _ => exact ⟨v, b, e, h1, h3⟩
  · rintro ⟨v, b, e, h1, h3⟩
    exact ⟨[v], b, e, rfl, h1, h3⟩
/-- A slice: its header; the cells of each element. -/
theorem is_slice {size bytes : Nat} {v : Value} {xs : List α} (h : Is (Pkg.slice size bytes p) w [v] xs) :
    ∃ ao cap, v = .slice ao xs.length cap ∧ xs.length ≤ cap ∧ cap ≤ maxLen ∧ (0 < xs.length → ∃ b off, ao = some ⟨b, off, none⟩ ∧ b < w.heap.size ∧
      ∀ i x, xs[i]? = some x → ∃ es, es.length = size ∧ (∀ k, k < size → w.cell? ⟨b, off + i * size + k, none⟩ = es[k]?) ∧ Is p w es x) := by
  obtain ⟨ao, cap, e, h1, h2, h3⟩ := h
  simp only [List.cons.injEq, and_true] at e
  exact ⟨ao, cap, e, h1, h2, h3⟩
/-- A slice of elements of one cell. -/
theorem is_slice1 {bytes : Nat} {v : Value} {xs : List α} (h : Is (Pkg.slice 1 bytes p) w [v] xs) :
    ∃ ao cap, v = .slice ao xs.length cap ∧ xs.length ≤ cap ∧ cap ≤ maxLen ∧ (0 < xs.length → ∃ b off, ao = some ⟨b, off, none⟩ ∧ b < w.heap.size ∧
      ∀ i x, xs[i]? = some x → ∃ u, w.cell? ⟨b, off + i, none⟩ = some u ∧ Is p w [u] x) := by
  obtain ⟨ao, cap, e, h1, h2, h3⟩ := is_slice h
  refine ⟨ao, cap, e, h1, h2, fun hp => ?_⟩
  obtain ⟨b, off, e2, hb, hel⟩ := h3 hp
  refine ⟨b, off, e2, hb, fun i x hx => ?_⟩
  obtain ⟨es, h4, h5, h6⟩ := hel i x hx
  match es, h4 with
  | [u], _ => exact ⟨u, by have := h5 0 (by omega); simpa using this, h6⟩
theorem is_slice_mk {size bytes : Nat} {b off cap : Nat} {xs : List α} (hc : xs.length ≤ cap) (hm : cap ≤ maxLen) (hb : b < w.heap.size)
    (h : ∀ i x, xs[i]? = some x → ∃ es, es.length = size ∧ (∀ k, k < size → w.cell? ⟨b, off + i * size + k, none⟩ = es[k]?) ∧ Is p w es x) : Is (Pkg.slice size bytes p) w [.slice (some ⟨b, off, none⟩) xs.length cap] xs :=
  ⟨_, cap, rfl, hc, hm, fun _ => ⟨b, off, rfl, hb, h⟩⟩
theorem is_slice1_mk {bytes : Nat} {b off cap : Nat} {xs : List α} (hc : xs.length ≤ cap) (hm : cap ≤ maxLen) (hb : b < w.heap.size)
    (h : ∀ i x, xs[i]? = some x → ∃ u, w.cell? ⟨b, off + i, none⟩ = some u ∧ Is p w [u] x) : Is (Pkg.slice 1 bytes p) w [.slice (some ⟨b, off, none⟩) xs.length cap] xs :=
  is_slice_mk hc hm hb fun i x hx => by
    obtain ⟨u, h1, h2⟩ := h i x hx
    refine ⟨[u], rfl, fun k hk => ?_, h2⟩
    obtain rfl : k = 0 := by omega
    simpa using h1
theorem is_slice_none {size bytes : Nat} {ao : Option Addr} {cap : Nat} (hm : cap ≤ maxLen) : Is (Pkg.slice size bytes p) w [.slice ao 0 cap] [] :=
  ⟨ao, cap, rfl, Nat.zero_le _, hm, fun h => by simp at h⟩
/-- A slice of ints. -/
theorem is_ints {bytes : Nat} {k : IntKind} {v : Value} {xs : List Int} (h : Is (Pkg.slice 1 bytes (Pkg.int k)) w [v] xs) :
    ∃ ao cap, v = .slice ao xs.length cap ∧ xs.length ≤ cap ∧ cap ≤ maxLen ∧ (∀ i, i < xs.length → (Lit.int k (xs.getD i 0)).wf = true) ∧ (0 < xs.length → ∃ b off, ao = some ⟨b, off, none⟩ ∧ b < w.heap.size ∧
      ∀ i, i < xs.length → w.cell? ⟨b, off + i, none⟩ = some (.int k (xs.getD i 0))) := by
  obtain ⟨ao, cap, e, h1, h2, h3⟩ := is_slice1 h
  refine ⟨ao, cap, e, h1, h2, fun i hi => ?_, fun hp => ?_⟩
  · obtain ⟨b, off, e2, hb, hel⟩ := h3 (by omega)
    obtain ⟨u, _, hu⟩ := hel i (xs.getD i 0) (by simp [List.getD, hi])
    exact (is_int.1 hu).2
  · obtain ⟨b, off, e2, hb, hel⟩ := h3 hp
    refine ⟨b, off, e2, hb, fun i hi => ?_⟩
    obtain ⟨u, h4, hu⟩ := hel i (xs.getD i 0) (by simp [List.getD, hi])
    have := (is_int.1 hu).1
    simp only [List.cons.injEq, and_true] at this
    rw [h4, this]
end
end Go.Proofs.YtdjjlkekbphbaaaDoor
