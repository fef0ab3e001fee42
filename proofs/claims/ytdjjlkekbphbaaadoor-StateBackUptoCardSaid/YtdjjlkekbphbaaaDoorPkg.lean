/-
  Readings in bundles: what the cells say, how much it is, and that it is within the form's reach. How a law's argument is opened into one.
-/
import Derived.Test.YtdjjlkekbphbaaaDoorRead
namespace Go.Proofs.YtdjjlkekbphbaaaDoor
open Go.RowKit

/-- A reading, its bulk, and what the form's reach says of it. -/
structure Pkg (α : Type) where
  rd : Rd α
  mu : α → Nat
  rho : α → Prop
namespace Pkg
def int (k : IntKind) : Pkg Int := ⟨Rd.int k, fun _ => 1, fun _ => True⟩
def bool : Pkg Bool := ⟨Rd.bool, fun _ => 1, fun _ => True⟩
def str : Pkg ByteArray := ⟨Rd.str, fun s => s.size + 1, fun s => s.size ≤ reachBytes⟩
def slice {α : Type} (size bytes : Nat) (p : Pkg α) : Pkg (List α) := ⟨Rd.slice size p.rd, Rd.sum p.mu, fun l => l.length * bytes ≤ reachBytes ∧ ∀ y ∈ l, p.rho y⟩
def unit : Pkg Unit := ⟨Rd.unit, fun _ => 0, fun _ => True⟩
def cons {α β : Type} (n : Nat) (p : Pkg α) (q : Pkg β) : Pkg (α × β) := ⟨Rd.cons n p.rd q.rd, fun y => p.mu y.1 + q.mu y.2, fun y => p.rho y.1 ∧ q.rho y.2⟩
/-- As a structure, by its parts. -/
def via {α β : Type} (f : β → α) (p : Pkg α) : Pkg β := ⟨fun ok w cs y => p.rd ok w cs (f y), fun y => p.mu (f y) + 1, fun y => p.rho (f y)⟩

def Stays {α : Type} (p : Pkg α) : Prop := Rd.Stays p.rd
theorem stays_int (k : IntKind) : Stays (int k) := Rd.int_stays k
theorem stays_bool : Stays bool := Rd.bool_stays
theorem stays_str : Stays str := Rd.str_stays
theorem stays_slice {α : Type} {size bytes : Nat} {p : Pkg α} (h : Stays p) : Stays (slice size bytes p) := Rd.slice_stays h
theorem stays_unit : Stays unit := Rd.unit_stays
theorem stays_cons {α β : Type} {n : Nat} {p : Pkg α} {q : Pkg β} (h : Stays p) (k : Stays q) : Stays (cons n p q) := Rd.cons_stays h k
theorem stays_via {α β : Type} {f : β → α} {p : Pkg α} (h : Stays p) : Stays (via f p) := fun ok ok' w w' cs x hs ho hx => h ok ok' w w' cs (f x) hs ho hx

/-- How a datum of type t is opened. -/
def Opens {α : Type} {H : Type} (enc : TypeId × Value → H) (P : Program) (w : World) (t : TypeId) (p : Pkg α) : Prop :=
  ∀ (fuel : Nat) (cs : List Value) (x : DataW H × List MemPlace), DataW.trod enc P w 0 (fun _ => true) true fuel t cs = some x →
    ∃ y, p.rd (fun k => k < w.heap.size) w cs y ∧ p.mu y ≤ Rows.uptoBulk x.1 ∧ ((∀ n ∈ x.1.weights P t, n ≤ reachBytes) → p.rho y)

variable {H : Type} {enc : TypeId × Value → H} {P : Program} {w : World} {t e : TypeId}
theorem opens_int {k : IntKind} (ht : P.underlying t = some (.int k)) : Opens enc P w t (int k) := by
  intro fuel cs x h
  obtain ⟨n, rfl, rfl, hw⟩ := DataW.trod_int ht h
  exact ⟨n, ⟨rfl, hw⟩, by simp [Rows.uptoBulk, int], fun _ => trivial⟩
theorem opens_bool (ht : P.underlying t = some .bool) : Opens enc P w t bool := by
  intro fuel cs x h
  obtain ⟨b, rfl, rfl⟩ := DataW.trod_bool ht h
  exact ⟨b, rfl, by simp [Rows.uptoBulk, bool], fun _ => trivial⟩
theorem opens_str (ht : P.underlying t = some .string) : Opens enc P w t str := by
  intro fuel cs x h
  obtain ⟨s, rfl, rfl, hs⟩ := DataW.trod_string ht h
  refine ⟨s, ⟨rfl, hs⟩, ?_, fun hw => ?_⟩
  · simp only [Rows.uptoBulk, str]
    rw [Array.length_toList]; exact Nat.le_refl _
  · have := hw s.data.toList.length (by simp [DataW.weights])
    rw [Array.length_toList] at this; exact this

theorem weights_mem : ∀ {l : List (DataW H)} {d : DataW H}, d ∈ l → ∀ n ∈ d.weights P e, n ∈ DataW.weightsAll P e l
  | x :: l, d, h, n, hn => by
    simp only [DataW.weightsAll, List.mem_append]
    rcases List.mem_cons.1 h with rfl | h
    · exact .inl hn
    · exact .inr (weights_mem h n hn)
  | [], _, h, _, _ => by cases h

theorem opens_slice {α : Type} {p : Pkg α} {size bytes : Nat} (ht : P.underlying t = some (.slice e)) (hc : P.cellsOf e = size) (hb : P.bytesOf e = bytes) (hp : 0 < size) (hR : Opens enc P w e p) :
    Opens enc P w t (slice size bytes p) := by
  intro fuel cs x h
  rcases DataW.trod_slice ht h with ⟨rfl, rfl⟩ | ⟨a, len, cap, elems, rest, n, rfl, rfl, rfl, _, hl, hm, hlen, hel, hsp, hns⟩
  · exact ⟨[], ⟨none, 0, rfl, Nat.le_refl _, by simp, fun h => by simp at h⟩, by simp [slice, Rd.sum, Rows.uptoBulk], fun _ => ⟨by simp, fun y hy => by cases hy⟩⟩
  · have each : ∀ i y, elems[i]? = some y → ∃ z, (∃ es, es.length = size ∧ (∀ k, k < size → w.cell? ((a.add ((0 + i) * size)).add k) = es[k]?) ∧ p.rd (fun k => k < w.heap.size) w es z) ∧ p.mu z ≤ Rows.uptoBulk y.1 ∧ ((∀ n ∈ y.1.weights P e, n ≤ reachBytes) → p.rho z) := by
      intro i y hy
      have hi : i < len := by rw [← hlen]; exact (List.getElem?_eq_some_iff.1 hy).1
      have h1 := hel i hi
      rw [hy] at h1
      obtain ⟨es, h2, h3⟩ := Option.bind_eq_some_iff.1 h1
      obtain ⟨h4, h5⟩ := Rd.cells_of h2
      obtain ⟨z, h6, h7, h8⟩ := hR _ _ _ h3
      exact ⟨z, ⟨es, by rw [h4, hc], fun k hk => by have := h5 k (by rw [hc]; exact hk); rw [hc] at this; simpa using this, h6⟩, h7, h8⟩
    obtain ⟨ys, hyl, hq⟩ := Rd.list_of (Q := fun i y z => (∃ es, es.length = size ∧ (∀ k, k < size → w.cell? ((a.add (i * size)).add k) = es[k]?) ∧ p.rd (fun k => k < w.heap.size) w es z) ∧ p.mu z ≤ Rows.uptoBulk y.1 ∧ ((∀ n ∈ y.1.weights P e, n ≤ reachBytes) → p.rho z)) elems 0 each
    refine ⟨ys, ⟨some a, cap, by simp [hyl, hlen], by omega, hm, fun hpos => ?_⟩, ?_, fun hw => ?_⟩
    · have hy0 : ys[0]? = some ys[0] := by simp [hpos]
      have he0 : elems[0]? = some elems[0] := by simp [show 0 < elems.length by omega]
      obtain ⟨⟨es, h1, h2, _⟩, _⟩ := hq 0 _ _ he0 hy0
      have hcell := h2 0 hp
      have hes : es[0]? = some es[0] := by simp [h1, hp]
      rw [hes] at hcell
      have hspot : a.spot = none := by simpa [Addr.add] using World.cell?_spot hcell
      have hlt : a.block < w.heap.size := by simpa [Addr.add] using World.block_lt_of_cell? w _ hcell
      obtain ⟨b, off, spot⟩ := a
      simp only at hspot hlt
      subst hspot
      refine ⟨b, off, rfl, hlt, fun i x hx => ?_⟩
      have hi : i < ys.length := (List.getElem?_eq_some_iff.1 hx).1
      obtain ⟨⟨es, h1, h2, h3⟩, _⟩ := hq i _ x (by simp [show i < elems.length by omega] : elems[i]? = some elems[i]) hx
      refine ⟨es, h1, fun k hk => ?_, h3⟩
      have := h2 k hk
      rw [Go.WideShapes.add_plain, Go.WideShapes.add_plain, Nat.zero_add] at this; exact this
    · have := Rd.sum_le (μ := p.mu) hyl fun i x y hx hy => (hq i x y hx hy).2.1
      simp only [Rows.uptoBulk, slice]; omega
    · simp only [DataW.weights, ht, List.mem_cons, List.mem_append] at hw
      constructor
      · have := hw _ (.inl rfl)
        rw [hb] at this
        refine Nat.le_trans (Nat.mul_le_mul_right _ ?_) this
        rw [hyl]; simp
      · intro y hy
        obtain ⟨i, hi, rfl⟩ := List.getElem_of_mem hy
        have hi' : i < elems.length := by omega
        refine (hq i elems[i] ys[i] (by simp [hi']) (by simp [hi])).2.2 fun n hn => hw n (.inr (.inl ?_))
        exact weights_mem (List.mem_map.2 ⟨elems[i], List.getElem_mem hi', rfl⟩) n hn

/-- How the fields of a struct are opened, from a cell on. -/
def OpensF {α : Type} {H : Type} (enc : TypeId × Value → H) (P : Program) (w : World) (N : Nat) (fs : List Field) (o : Nat) (p : Pkg α) : Prop :=
  ∀ (n : Nat) (cs : List Value) (xs : List (DataW H × List MemPlace)), cs.length = N → xs.length = fs.length →
    (∀ (i : Nat) (f : Field), fs[i]? = some f → DataW.trod enc P w 0 (fun _ => true) true n f.type ((cs.drop f.offset).take (P.cellsOf f.type)) = xs[i]?) →
    ∃ y, p.rd (fun k => k < w.heap.size) w (cs.drop o) y ∧ p.mu y ≤ Rows.uptoBulkAll (xs.map (·.1)) ∧ ((∀ n ∈ DataW.weightsEach P (fs.map (·.type)) (xs.map (·.1)), n ≤ reachBytes) → p.rho y)
theorem opensF_nil {N : Nat} : OpensF enc P w N [] N unit := by
  intro n cs xs hl hx _
  exact ⟨(), by show cs.drop N = []; rw [← hl, List.drop_length], Nat.zero_le _, fun _ => trivial⟩
theorem opensF_cons {α β : Type} {N o n : Nat} {f : Field} {fs : List Field} {p : Pkg α} {q : Pkg β} (ho : f.offset = o) (hn : P.cellsOf f.type = n) (hN : o + n ≤ N)
    (hR : Opens enc P w f.type p) (hS : OpensF enc P w N fs (o + n) q) : OpensF enc P w N (f :: fs) o (cons n p q) := by
  intro k cs xs hl hx hf
  match xs, hx with
  | x :: xs, hx =>
    have h0 := hf 0 f rfl
    rw [ho, hn] at h0
    obtain ⟨y, h1, h2, h5⟩ := hR _ _ _ h0
    obtain ⟨z, h3, h4, h6⟩ := hS k cs xs hl (by simpa using hx) fun i g hg => by have := hf (i + 1) g (by simpa using hg); simpa using this
    refine ⟨(y, z), ⟨(cs.drop o).take n, cs.drop (o + n), ?_, ?_, h1, h3⟩, ?_, fun hw => ?_⟩
    · rw [← List.drop_drop, List.take_append_drop]
    · simp; omega
    · simp only [List.map_cons, Rows.uptoBulkAll, cons]; omega
    · simp only [List.map_cons, DataW.weightsEach, List.mem_append] at hw
      exact ⟨h5 fun n hn => hw n (.inl hn), h6 fun n hn => hw n (.inr hn)⟩
theorem opens_struct {α β : Type} {N : Nat} {fs : Array Field} {l : List Field} {p : Pkg α} {f : β → α} {g : α → β} (ht : P.underlying t = some (.struct fs)) (hl : fs.toList = l) (hc : P.cellsOf t = N) (hg : ∀ x, f (g x) = x) (hF : OpensF enc P w N l 0 p) :
    Opens enc P w t (via f p) := by
  subst hl
  intro fuel cs x h
  obtain ⟨xs, n, rfl, rfl, hl, hxs, hf⟩ := DataW.trod_struct ht h
  obtain ⟨y, h1, h2, h3⟩ := hF n cs xs (by rw [hl, hc]) (by simpa using hxs) fun i f hi => hf i f (by simpa using hi)
  refine ⟨g y, ?_, ?_, fun hw => ?_⟩
  · show p.rd _ _ _ (f (g y)); rw [hg]; simpa using h1
  · show p.mu (f (g y)) + 1 ≤ _; rw [hg]; simp only [Rows.uptoBulk]; omega
  · show p.rho (f (g y)); rw [hg]; exact h3 fun n hn => hw n (by simp only [DataW.weights, ht]; exact hn)

/-- Opened, as the proof of a row has it: a value, of one cell or of a struct. -/
theorem open_one {α : Type} {p : Pkg α} {v : Value} {d : DataW H} {ps : List MemPlace} (hR : Opens enc P w t p) (h : DataW.Trod enc P w 0 (fun _ => true) true t v d ps) :
    ∃ y, p.rd (fun k => k < w.heap.size) w v.cells.toList y ∧ p.mu y ≤ Rows.uptoBulk d ∧ ((∀ n ∈ d.weights P t, n ≤ reachBytes) → p.rho y) := by
  obtain ⟨fuel, hf⟩ := h
  exact hR _ _ _ hf
end Pkg
end Go.Proofs.YtdjjlkekbphbaaaDoor
