/-
  Readings: what the cells of a value say, as plain data. 'ok': the blocks that may be looked at. They stay while those blocks stay. How a law's argument is opened into one, with its bulk.
-/
import Derived.Test.YtdjjlkekbphbaaaDoorRows
import Derived.WalkKit
import Derived.ProofKit
import Derived.OpenShut
namespace Go.Proofs.YtdjjlkekbphbaaaDoor
open Go.RowKit

def Rd (α : Type) := (Nat → Prop) → World → List Value → α → Prop
namespace Rd
def int (k : IntKind) : Rd Int := fun _ _ cs n => cs = [.int k n] ∧ (Lit.int k n).wf = true
def bool : Rd Bool := fun _ _ cs b => cs = [.bool b]
def str : Rd ByteArray := fun _ _ cs s => cs = [.string s] ∧ s.size ≤ maxLen
/-- A slice of elements of so many cells. -/
def slice {α : Type} (size : Nat) (R : Rd α) : Rd (List α) := fun ok w cs xs => ∃ ao cap, cs = [.slice ao xs.length cap] ∧ xs.length ≤ cap ∧ cap ≤ maxLen ∧
  (0 < xs.length → ∃ b off, ao = some ⟨b, off, none⟩ ∧ ok b ∧ ∀ i x, xs[i]? = some x → ∃ es, es.length = size ∧ (∀ k, k < size → w.cell? ⟨b, off + i * size + k, none⟩ = es[k]?) ∧ R ok w es x)

/-- It stays while the blocks that may be looked at stay. -/
def Stays {α : Type} (R : Rd α) : Prop := ∀ (ok ok' : Nat → Prop) (w w' : World) (cs : List Value) (x : α), (∀ k, ok k → w'.heap[k]? = w.heap[k]?) → (∀ k, ok k → ok' k) → R ok w cs x → R ok' w' cs x

theorem int_stays (k : IntKind) : Stays (int k) := fun _ _ _ _ _ _ _ _ h => h
theorem bool_stays : Stays bool := fun _ _ _ _ _ _ _ _ h => h
theorem str_stays : Stays str := fun _ _ _ _ _ _ _ _ h => h
theorem slice_stays {α : Type} {size : Nat} {R : Rd α} (hR : Stays R) : Stays (slice size R) := by
  intro ok ok' w w' cs xs hs ho h
  obtain ⟨ao, cap, e, h1, h2, h3⟩ := h
  refine ⟨ao, cap, e, h1, h2, fun hp => ?_⟩
  obtain ⟨b, off, e2, hb, hel⟩ := h3 hp
  refine ⟨b, off, e2, ho b hb, fun i x hx => ?_⟩
  obtain ⟨es, h4, h5, h6⟩ := hel i x hx
  refine ⟨es, h4, fun k hk => ?_, hR ok ok' w w' es x hs ho h6⟩
  rw [World.cell?_of_block (hs b hb)]; exact h5 k hk

/-- How a datum of type t is opened: the reading, of no greater bulk. -/
def Opens {α : Type} {H : Type} (enc : TypeId × Value → H) (P : Program) (w : World) (t : TypeId) (R : Rd α) (μ : α → Nat) : Prop :=
  ∀ (fuel : Nat) (cs : List Value) (x : DataW H × List MemPlace), DataW.trod enc P w 0 (fun _ => true) true fuel t cs = some x → ∃ y, R (fun k => k < w.heap.size) w cs y ∧ μ y ≤ Rows.uptoBulk x.1

variable {H : Type} {enc : TypeId × Value → H} {P : Program} {w : World} {t e : TypeId}
theorem opens_int {k : IntKind} (ht : P.underlying t = some (.int k)) : Opens enc P w t (int k) (fun _ => 1) := by
  intro fuel cs x h
  obtain ⟨n, rfl, rfl, hw⟩ := DataW.trod_int ht h
  exact ⟨n, ⟨rfl, hw⟩, by simp [Rows.uptoBulk]⟩
theorem opens_bool (ht : P.underlying t = some .bool) : Opens enc P w t bool (fun _ => 1) := by
  intro fuel cs x h
  obtain ⟨b, rfl, rfl⟩ := DataW.trod_bool ht h
  exact ⟨b, rfl, by simp [Rows.uptoBulk]⟩
theorem opens_str (ht : P.underlying t = some .string) : Opens enc P w t str (fun s => s.size + 1) := by
  intro fuel cs x h
  obtain ⟨s, rfl, rfl, hs⟩ := DataW.trod_string ht h
  refine ⟨s, ⟨rfl, hs⟩, ?_⟩
  simp only [Rows.uptoBulk]
  rw [Array.length_toList]; exact Nat.le_refl _

theorem cells_of {b0 : Nat} {a : Addr} {n : Nat} {cs : List Value} (h : w.cells? b0 a n = some cs) : cs.length = n ∧ ∀ k, k < n → w.cell? (a.add k) = cs[k]? := by
  unfold World.cells? at h
  split at h
  · have hl := mapM_some_length h
    refine ⟨by simpa using hl, fun k hk => ?_⟩
    have := mapM_some_get h k k (by simp [hk])
    exact this
  · cases h

def sum {α : Type} (μ : α → Nat) : List α → Nat
  | [] => 1
  | x :: r => μ x + sum μ r

theorem list_of {α β : Type} {Q : Nat → α → β → Prop} : ∀ (l : List α) (k : Nat), (∀ i x, l[i]? = some x → ∃ y, Q (k + i) x y) → ∃ ys : List β, ys.length = l.length ∧ ∀ i x y, l[i]? = some x → ys[i]? = some y → Q (k + i) x y := by
  intro l
  induction l with
  | nil => intro k _; exact ⟨[], rfl, fun i x y h => by simp at h⟩
  | cons a l ih =>
    intro k h
    obtain ⟨y, hy⟩ := h 0 a rfl
    obtain ⟨ys, hl, hq⟩ := ih (k + 1) fun i x hx => by
      obtain ⟨z, hz⟩ := h (i + 1) x (by simpa using hx)
      exact ⟨z, by rw [show k + 1 + i = k + (i + 1) by omega]; exact hz⟩
    refine ⟨y :: ys, by simp [hl], fun i x z hx hz => ?_⟩
    cases i with
    | zero => simp at hx hz; subst hx hz; exact hy
    | succ i => have := hq i x z (by simpa using hx) (by simpa using hz); rw [show k + (i + 1) = k + 1 + i by omega]; exact this

theorem sum_le {α : Type} {μ : α → Nat} {el : List (DataW H × List MemPlace)} : ∀ {ys : List α}, ys.length = el.length → (∀ (i : Nat) (x : DataW H × List MemPlace) (y : α), el[i]? = some x → ys[i]? = some y → μ y ≤ Rows.uptoBulk x.1) → sum μ ys ≤ Rows.uptoBulkAll (el.map (·.1)) + 1 := by
  induction el with
  | nil => intro ys hl _; have : ys = [] := List.eq_nil_of_length_eq_zero (by simpa using hl); subst this; simp [sum, Rows.uptoBulkAll]
  | cons x el ih =>
    intro ys hl h
    cases ys with
    | nil => simp at hl
    | cons y ys =>
      have h0 := h 0 x y rfl rfl
      have h1 := ih (ys := ys) (by simpa using hl) fun i a b ha hb => h (i + 1) a b (by simpa using ha) (by simpa using hb)
      simp only [sum, List.map_cons, Rows.uptoBulkAll]; omega

theorem opens_slice {α : Type} {R : Rd α} {μ : α → Nat} {size : Nat} (ht : P.underlying t = some (.slice e)) (hc : P.cellsOf e = size) (hp : 0 < size) (hR : Opens enc P w e R μ) :
    Opens enc P w t (slice size R) (sum μ) := by
  intro fuel cs x h
  rcases DataW.trod_slice ht h with ⟨rfl, rfl⟩ | ⟨a, len, cap, elems, rest, n, rfl, rfl, rfl, hb, hl, hm, hlen, hel, hsp, hns⟩
  · exact ⟨[], ⟨none, 0, rfl, Nat.le_refl _, by simp, fun h => by simp at h⟩, by simp [sum, Rows.uptoBulk]⟩
  · have each : ∀ i y, elems[i]? = some y → ∃ z, (∃ es, es.length = size ∧ (∀ k, k < size → w.cell? ((a.add ((0 + i) * size)).add k) = es[k]?) ∧ R (fun k => k < w.heap.size) w es z) ∧ μ z ≤ Rows.uptoBulk y.1 := by
      intro i y hy
      have hi : i < len := by rw [← hlen]; exact (List.getElem?_eq_some_iff.1 hy).1
      have h1 := hel i hi
      rw [hy] at h1
      obtain ⟨es, h2, h3⟩ := Option.bind_eq_some_iff.1 h1
      obtain ⟨h4, h5⟩ := cells_of h2
      obtain ⟨z, h6, h7⟩ := hR _ _ _ h3
      exact ⟨z, ⟨es, by rw [h4, hc], fun k hk => by have := h5 k (by rw [hc]; exact hk); rw [hc] at this; simpa using this, h6⟩, h7⟩
    obtain ⟨ys, hyl, hq⟩ := list_of (Q := fun i y z => (∃ es, es.length = size ∧ (∀ k, k < size → w.cell? ((a.add (i * size)).add k) = es[k]?) ∧ R (fun k => k < w.heap.size) w es z) ∧ μ z ≤ Rows.uptoBulk y.1) elems 0 each
    refine ⟨ys, ⟨some a, cap, by simp [hyl, hlen], by omega, hm, fun hpos => ?_⟩, ?_⟩
    · have hy0 : ys[0]? = some ys[0] := by simp [hpos]
      have he0 : elems[0]? = some elems[0] := by simp [show 0 < elems.length by omega]
      obtain ⟨⟨es, h1, h2, _⟩, _⟩ := hq 0 _ _ he0 hy0
      have hcell := h2 0 hp
      have hes : es[0]? = some es[0] := by simp [h1, hp]
      rw [hes] at hcell
      have hspot : a.spot = none := by simpa [Addr.add] using World.cell?_spot hcell
      have hlt : a.block < w.heap.size := by simpa [Addr.add] using World.block_lt_of_cell? w _ hcell
      obtain ⟨b, off, spot⟩ := a
      simp only at hspot hlt
      subst hspot
      refine ⟨b, off, rfl, hlt, fun i x hx => ?_⟩
      have hi : i < ys.length := (List.getElem?_eq_some_iff.1 hx).1
      obtain ⟨⟨es, h1, h2, h3⟩, _⟩ := hq i _ x (by simp [show i < elems.length by omega] : elems[i]? = some elems[i]) hx
      refine ⟨es, h1, fun k hk => ?_, h3⟩
      have := h2 k hk
      rw [Go.WideShapes.add_plain, Go.WideShapes.add_plain, Nat.zero_add] at this; exact this
    · have := sum_le (μ := μ) hyl fun i x y hx hy => (hq i x y hx hy).2
      simp only [Rows.uptoBulk]; omega

/-- The cells of a struct: field by field. -/
def cons {α β : Type} (n : Nat) (R : Rd α) (S : Rd β) : Rd (α × β) := fun ok w cs x => ∃ p q, cs = p ++ q ∧ p.length = n ∧ R ok w p x.1 ∧ S ok w q x.2
def unit : Rd Unit := fun _ _ cs _ => cs = []
theorem cons_stays {α β : Type} {n : Nat} {R : Rd α} {S : Rd β} (hR : Stays R) (hS : Stays S) : Stays (cons n R S) := by
  intro ok ok' w w' cs x hs ho h
  obtain ⟨p, q, e, hl, h1, h2⟩ := h
  exact ⟨p, q, e, hl, hR _ _ _ _ _ _ hs ho h1, hS _ _ _ _ _ _ hs ho h2⟩
theorem unit_stays : Stays unit := fun _ _ _ _ _ _ _ _ h => h

/-- How the fields of a struct are opened, from a cell on. -/
def OpensF {α : Type} {H : Type} (enc : TypeId × Value → H) (P : Program) (w : World) (N : Nat) (fs : List Field) (o : Nat) (R : Rd α) (μ : α → Nat) : Prop :=
  ∀ (n : Nat) (cs : List Value) (xs : List (DataW H × List MemPlace)), cs.length = N → xs.length = fs.length →
    (∀ (i : Nat) (f : Field), fs[i]? = some f → DataW.trod enc P w 0 (fun _ => true) true n f.type ((cs.drop f.offset).take (P.cellsOf f.type)) = xs[i]?) →
    ∃ y, R (fun k => k < w.heap.size) w (cs.drop o) y ∧ μ y ≤ Rows.uptoBulkAll (xs.map (·.1))
theorem opensF_nil {N : Nat} : OpensF enc P w N [] N unit (fun _ => 0) := by
  intro n cs xs hl hx _
  exact ⟨(), by show cs.drop N = []; rw [← hl, List.drop_length], Nat.zero_le _⟩
theorem opensF_cons {α β : Type} {N o n : Nat} {f : Field} {fs : List Field} {R : Rd α} {S : Rd β} {μ : α → Nat} {ν : β → Nat} (ho : f.offset = o) (hn : P.cellsOf f.type = n) (hN : o + n ≤ N)
    (hR : Opens enc P w f.type R μ) (hS : OpensF enc P w N fs (o + n) S ν) : OpensF enc P w N (f :: fs) o (cons n R S) (fun y => μ y.1 + ν y.2) := by
  intro k cs xs hl hx hf
  match xs, hx with
  | x :: xs, hx =>
    have h0 := hf 0 f rfl
    rw [ho, hn] at h0
    obtain ⟨y, h1, h2⟩ := hR _ _ _ h0
    obtain ⟨z, h3, h4⟩ := hS k cs xs hl (by simpa using hx) fun i g hg => by have := hf (i + 1) g (by simpa using hg); simpa using this
    refine ⟨(y, z), ⟨(cs.drop o).take n, cs.drop (o + n), ?_, ?_, h1, h3⟩, ?_⟩
    · rw [← List.drop_drop, List.take_append_drop]
    · simp; omega
    · simp only [List.map_cons, Rows.uptoBulkAll]; omega
theorem opens_struct {α : Type} {N : Nat} {fs : Array Field} {R : Rd α} {μ : α → Nat} (ht : P.underlying t = some (.struct fs)) (hc : P.cellsOf t = N) (hF : OpensF enc P w N fs.toList 0 R μ) :
    Opens enc P w t R (fun y => μ y + 1) := by
  intro fuel cs x h
  obtain ⟨xs, n, rfl, rfl, hl, hxs, hf⟩ := DataW.trod_struct ht h
  obtain ⟨y, h1, h2⟩ := hF n cs xs (by rw [hl, hc]) (by simpa using hxs) fun i f hi => hf i f (by simpa using hi)
  exact ⟨y, by simpa using h1, by simp only [Rows.uptoBulk]; omega⟩
theorem opens_as {α β : Type} {R : Rd α} {S : Rd β} {μ : α → Nat} {ν : β → Nat} (g : α → β) (hg : ∀ ok w cs y, R ok w cs y → S ok w cs (g y)) (hm : ∀ y, ν (g y) ≤ μ y) (h : Opens enc P w t R μ) : Opens enc P w t S ν := by
  intro fuel cs x hx
  obtain ⟨y, h1, h2⟩ := h fuel cs x hx
  exact ⟨g y, hg _ _ _ _ h1, Nat.le_trans (hm y) h2⟩

/-- Opened, as the proof of a row has it: a value of one cell. -/
theorem open_one {α : Type} {R : Rd α} {μ : α → Nat} {v : Value} {d : DataW H} {ps : List MemPlace} (hR : Opens enc P w t R μ) (h : DataW.Trod enc P w 0 (fun _ => true) true t v d ps) :
    ∃ y, R (fun k => k < w.heap.size) w v.cells.toList y ∧ μ y ≤ Rows.uptoBulk d := by
  obtain ⟨fuel, hf⟩ := h
  exact hR _ _ _ hf
end Rd
end Go.Proofs.YtdjjlkekbphbaaaDoor
