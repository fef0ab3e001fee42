/-
  Texts, joined: Read, Pkg, Is, DataGood.
-/
import Derived.Test.YthmhbmikcdfkcaaDoorRows
import Derived.WalkKit
import Derived.ProofKit
import Derived.OpenShut
import Derived.BigQuiet
import Derived.Deep.QuietTactic
/-
  Readings: what the cells of a value say, as plain data. 'ok': the blocks that may be looked at. They stay while those blocks stay. How a law's argument is opened into one, with its bulk.
-/
namespace Go.Proofs.YthmhbmikcdfkcaaDoor
open Go.RowKit

def Rd (α : Type) := (Nat → Prop) → World → List Value → α → Prop
namespace Rd
def int (k : IntKind) : Rd Int := fun _ _ cs n => cs = [.int k n] ∧ (Lit.int k n).wf = true
def bool : Rd Bool := fun _ _ cs b => cs = [.bool b]
def str : Rd ByteArray := fun _ _ cs s => cs = [.string s] ∧ s.size ≤ maxLen
/-- A slice of elements of so many cells. -/
def slice {α : Type} (size : Nat) (R : Rd α) : Rd (List α) := fun ok w cs xs => ∃ ao cap, cs = [.slice ao xs.length cap] ∧ xs.length ≤ cap ∧ cap ≤ maxLen ∧
  (0 < xs.length → ∃ b off, ao = some ⟨b, off, none⟩ ∧ ok b ∧ ∀ i x, xs[i]? = some x → ∃ es, es.length = size ∧ (∀ k, k < size → w.cell? ⟨b, off + i * size + k, none⟩ = es[k]?) ∧ R ok w es x)

/-- It stays while the blocks that may be looked at stay. -/
def Stays {α : Type} (R : Rd α) : Prop := ∀ (ok ok' : Nat → Prop) (w w' : World) (cs : List Value) (x : α), (∀ k, ok k → w'.heap[k]? = w.heap[k]?) → (∀ k, ok k → ok' k) → R ok w cs x → R ok' w' cs x

theorem int_stays (k : IntKind) : Stays (int k) := fun _ _ _ _ _ _ _ _ h => h
theorem bool_stays : Stays bool := fun _ _ _ _ _ _ _ _ h => h
theorem str_stays : Stays str := fun _ _ _ _ _ _ _ _ h => h
theorem slice_stays {α : Type} {size : Nat} {R : Rd α} (hR : Stays R) : Stays (slice size R) := by
  intro ok ok' w w' cs xs hs ho h
  obtain ⟨ao, cap, e, h1, h2, h3⟩ := h
  refine ⟨ao, cap, e, h1, h2, fun hp => ?_⟩
  obtain ⟨b, off, e2, hb, hel⟩ := h3 hp
  refine ⟨b, off, e2, ho b hb, fun i x hx => ?_⟩
  obtain ⟨es, h4, h5, h6⟩ := hel i x hx
  refine ⟨es, h4, fun k hk => ?_, hR ok ok' w w' es x hs ho h6⟩
  rw [World.cell?_of_block (hs b hb)]; exact h5 k hk

/-- How a datum of type t is opened: the reading, of no greater bulk. -/
def Opens {α : Type} {H : Type} (enc : TypeId × Value → H) (P : Program) (w : World) (t : TypeId) (R : Rd α) (μ : α → Nat) : Prop :=
  ∀ (fuel : Nat) (cs : List Value) (x : DataW H × List MemPlace), DataW.trod enc P w 0 (fun _ => true) true fuel t cs = some x → ∃ y, R (fun k => k < w.heap.size) w cs y ∧ μ y ≤ Rows.uptoBulk x.1

variable {H : Type} {enc : TypeId × Value → H} {P : Program} {w : World} {t e : TypeId}
theorem opens_int {k : IntKind} (ht : P.underlying t = some (.int k)) : Opens enc P w t (int k) (fun _ => 1) := by
  intro fuel cs x h
  obtain ⟨n, rfl, rfl, hw⟩ := DataW.trod_int ht h
  exact ⟨n, ⟨rfl, hw⟩, by simp [Rows.uptoBulk]⟩
theorem opens_bool (ht : P.underlying t = some .bool) : Opens enc P w t bool (fun _ => 1) := by
  intro fuel cs x h
  obtain ⟨b, rfl, rfl⟩ := DataW.trod_bool ht h
  exact ⟨b, rfl, by simp [Rows.uptoBulk]⟩
theorem opens_str (ht : P.underlying t = some .string) : Opens enc P w t str (fun s => s.size + 1) := by
  intro fuel cs x h
  obtain ⟨s, rfl, rfl, hs⟩ := DataW.trod_string ht h
  refine ⟨s, ⟨rfl, hs⟩, ?_⟩
  simp only [Rows.uptoBulk]
  rw [Array.length_toList]; exact Nat.le_refl _

theorem cells_of {b0 : Nat} {a : Addr} {n : Nat} {cs : List Value} (h : w.cells? b0 a n = some cs) : cs.length = n ∧ ∀ k, k < n → w.cell? (a.add k) = cs[k]? := by
  unfold World.cells? at h
  split at h
  · have hl := mapM_some_length h
    refine ⟨by simpa using hl, fun k hk => ?_⟩
    have := mapM_some_get h k k (by simp [hk])
    exact this
  · cases h

def sum {α : Type} (μ : α → Nat) : List α → Nat
  | [] => 1
  | x :: r => μ x + sum μ r

theorem list_of {α β : Type} {Q : Nat → α → β → Prop} : ∀ (l : List α) (k : Nat), (∀ i x, l[i]? = some x → ∃ y, Q (k + i) x y) → ∃ ys : List β, ys.length = l.length ∧ ∀ i x y, l[i]? = some x → ys[i]? = some y → Q (k + i) x y := by
  intro l
  induction l with
  | nil => intro k _; exact ⟨[], rfl, fun i x y h => by simp at h⟩
  | cons a l ih =>
    intro k h
    obtain ⟨y, hy⟩ := h 0 a rfl
    obtain ⟨ys, hl, hq⟩ := ih (k + 1) fun i x hx => by
      obtain ⟨z, hz⟩ := h (i + 1) x (by simpa using hx)
      exact ⟨z, by rw [show k + 1 + i = k + (i + 1) by omega]; exact hz⟩
    refine ⟨y :: ys, by simp [hl], fun i x z hx hz => ?_⟩
    cases i with
    | zero => simp at hx hz; subst hx hz; exact hy
    | succ i => have := hq i x z (by simpa using hx) (by simpa using hz); rw [show k + (i + 1) = k + 1 + i by omega]; exact this

theorem sum_le {α : Type} {μ : α → Nat} {el : List (DataW H × List MemPlace)} : ∀ {ys : List α}, ys.length = el.length → (∀ (i : Nat) (x : DataW H × List MemPlace) (y : α), el[i]? = some x → ys[i]? = some y → μ y ≤ Rows.uptoBulk x.1) → sum μ ys ≤ Rows.uptoBulkAll (el.map (·.1)) + 1 := by
  induction el with
  | nil => intro ys hl _; have : ys = [] := List.eq_nil_of_length_eq_zero (by simpa using hl); subst this; simp [sum, Rows.uptoBulkAll]
  | cons x el ih =>
    intro ys hl h
    cases ys with
    | nil => simp at hl
    | cons y ys =>
      have h0 := h 0 x y rfl rfl
      have h1 := ih (ys := ys) (by simpa using hl) fun i a b ha hb => h (i + 1) a b (by simpa using ha) (by simpa using hb)
      simp only [sum, List.map_cons, Rows.uptoBulkAll]; omega

theorem opens_slice {α : Type} {R : Rd α} {μ : α → Nat} {size : Nat} (ht : P.underlying t = some (.slice e)) (hc : P.cellsOf e = size) (hp : 0 < size) (hR : Opens enc P w e R μ) :
    Opens enc P w t (slice size R) (sum μ) := by
  intro fuel cs x h
  rcases DataW.trod_slice ht h with ⟨rfl, rfl⟩ | ⟨a, len, cap, elems, rest, n, rfl, rfl, rfl, hb, hl, hm, hlen, hel, hsp, hns⟩
  · exact ⟨[], ⟨none, 0, rfl, Nat.le_refl _, by simp, fun h => by simp at h⟩, by simp [sum, Rows.uptoBulk]⟩
  · have each : ∀ i y, elems[i]? = some y → ∃ z, (∃ es, es.length = size ∧ (∀ k, k < size → w.cell? ((a.add ((0 + i) * size)).add k) = es[k]?) ∧ R (fun k => k < w.heap.size) w es z) ∧ μ z ≤ Rows.uptoBulk y.1 := by
      intro i y hy
      have hi : i < len := by rw [← hlen]; exact (List.getElem?_eq_some_iff.1 hy).1
      have h1 := hel i hi
      rw [hy] at h1
      obtain ⟨es, h2, h3⟩ := Option.bind_eq_some_iff.1 h1
      obtain ⟨h4, h5⟩ := cells_of h2
      obtain ⟨z, h6, h7⟩ := hR _ _ _ h3
      exact ⟨z, ⟨es, by rw [h4, hc], fun k hk => by have := h5 k (by rw [hc]; exact hk); rw [hc] at this; simpa using this, h6⟩, h7⟩
    obtain ⟨ys, hyl, hq⟩ := list_of (Q := fun i y z => (∃ es, es.length = size ∧ (∀ k, k < size → w.cell? ((a.add (i * size)).add k) = es[k]?) ∧ R (fun k => k < w.heap.size) w es z) ∧ μ z ≤ Rows.uptoBulk y.1) elems 0 each
    refine ⟨ys, ⟨some a, cap, by simp [hyl, hlen], by omega, hm, fun hpos => ?_⟩, ?_⟩
    · have hy0 : ys[0]? = some ys[0] := by simp [hpos]
      have he0 : elems[0]? = some elems[0] := by simp [show 0 < elems.length by omega]
      obtain ⟨⟨es, h1, h2, _⟩, _⟩ := hq 0 _ _ he0 hy0
      have hcell := h2 0 hp
      have hes : es[0]? = some es[0] := by simp [h1, hp]
      rw [hes] at hcell
      have hspot : a.spot = none := by simpa [Addr.add] using World.cell?_spot hcell
      have hlt : a.block < w.heap.size := by simpa [Addr.add] using World.block_lt_of_cell? w _ hcell
      obtain ⟨b, off, spot⟩ := a
      simp only at hspot hlt
      subst hspot
      refine ⟨b, off, rfl, hlt, fun i x hx => ?_⟩
      have hi : i < ys.length := (List.getElem?_eq_some_iff.1 hx).1
      obtain ⟨⟨es, h1, h2, h3⟩, _⟩ := hq i _ x (by simp [show i < elems.length by omega] : elems[i]? = some elems[i]) hx
      refine ⟨es, h1, fun k hk => ?_, h3⟩
      have := h2 k hk
      rw [Go.WideShapes.add_plain, Go.WideShapes.add_plain, Nat.zero_add] at this; exact this
    · have := sum_le (μ := μ) hyl fun i x y hx hy => (hq i x y hx hy).2
      simp only [Rows.uptoBulk]; omega

/-- The cells of a struct: field by field. -/
def cons {α β : Type} (n : Nat) (R : Rd α) (S : Rd β) : Rd (α × β) := fun ok w cs x => ∃ p q, cs = p ++ q ∧ p.length = n ∧ R ok w p x.1 ∧ S ok w q x.2
def unit : Rd Unit := fun _ _ cs _ => cs = []
theorem cons_stays {α β : Type} {n : Nat} {R : Rd α} {S : Rd β} (hR : Stays R) (hS : Stays S) : Stays (cons n R S) := by
  intro ok ok' w w' cs x hs ho h
  obtain ⟨p, q, e, hl, h1, h2⟩ := h
  exact ⟨p, q, e, hl, hR _ _ _ _ _ _ hs ho h1, hS _ _ _ _ _ _ hs ho h2⟩
theorem unit_stays : Stays unit := fun _ _ _ _ _ _ _ _ h => h

/-- How the fields of a struct are opened, from a cell on. -/
def OpensF {α : Type} {H : Type} (enc : TypeId × Value → H) (P : Program) (w : World) (N : Nat) (fs : List Field) (o : Nat) (R : Rd α) (μ : α → Nat) : Prop :=
  ∀ (n : Nat) (cs : List Value) (xs : List (DataW H × List MemPlace)), cs.length = N → xs.length = fs.length →
    (∀ (i : Nat) (f : Field), fs[i]? = some f → DataW.trod enc P w 0 (fun _ => true) true n f.type ((cs.drop f.offset).take (P.cellsOf f.type)) = xs[i]?) →
    ∃ y, R (fun k => k < w.heap.size) w (cs.drop o) y ∧ μ y ≤ Rows.uptoBulkAll (xs.map (·.1))
theorem opensF_nil {N : Nat} : OpensF enc P w N [] N unit (fun _ => 0) := by
  intro n cs xs hl hx _
  exact ⟨(), by show cs.drop N = []; rw [← hl, List.drop_length], Nat.zero_le _⟩
theorem opensF_cons {α β : Type} {N o n : Nat} {f : Field} {fs : List Field} {R : Rd α} {S : Rd β} {μ : α → Nat} {ν : β → Nat} (ho : f.offset = o) (hn : P.cellsOf f.type = n) (hN : o + n ≤ N)
    (hR : Opens enc P w f.type R μ) (hS : OpensF enc P w N fs (o + n) S ν) : OpensF enc P w N (f :: fs) o (cons n R S) (fun y => μ y.1 + ν y.2) := by
  intro k cs xs hl hx hf
  match xs, hx with
  | x :: xs, hx =>
    have h0 := hf 0 f rfl
    rw [ho, hn] at h0
    obtain ⟨y, h1, h2⟩ := hR _ _ _ h0
    obtain ⟨z, h3, h4⟩ := hS k cs xs hl (by simpa using hx) fun i g hg => by have := hf (i + 1) g (by simpa using hg); simpa using this
    refine ⟨(y, z), ⟨(cs.drop o).take n, cs.drop (o + n), ?_, ?_, h1, h3⟩, ?_⟩
    · rw [← List.drop_drop, List.take_append_drop]
    · simp; omega
    · simp only [List.map_cons, Rows.uptoBulkAll]; omega
theorem opens_struct {α : Type} {N : Nat} {fs : Array Field} {R : Rd α} {μ : α → Nat} (ht : P.underlying t = some (.struct fs)) (hc : P.cellsOf t = N) (hF : OpensF enc P w N fs.toList 0 R μ) :
    Opens enc P w t R (fun y => μ y + 1) := by
  intro fuel cs x h
  obtain ⟨xs, n, rfl, rfl, hl, hxs, hf⟩ := DataW.trod_struct ht h
  obtain ⟨y, h1, h2⟩ := hF n cs xs (by rw [hl, hc]) (by simpa using hxs) fun i f hi => hf i f (by simpa using hi)
  exact ⟨y, by simpa using h1, by simp only [Rows.uptoBulk]; omega⟩
theorem opens_as {α β : Type} {R : Rd α} {S : Rd β} {μ : α → Nat} {ν : β → Nat} (g : α → β) (hg : ∀ ok w cs y, R ok w cs y → S ok w cs (g y)) (hm : ∀ y, ν (g y) ≤ μ y) (h : Opens enc P w t R μ) : Opens enc P w t S ν := by
  intro fuel cs x hx
  obtain ⟨y, h1, h2⟩ := h fuel cs x hx
  exact ⟨g y, hg _ _ _ _ h1, Nat.le_trans (hm y) h2⟩

/-- Opened, as the proof of a row has it: a value of one cell. -/
theorem open_one {α : Type} {R : Rd α} {μ : α → Nat} {v : Value} {d : DataW H} {ps : List MemPlace} (hR : Opens enc P w t R μ) (h : DataW.Trod enc P w 0 (fun _ => true) true t v d ps) :
    ∃ y, R (fun k => k < w.heap.size) w v.cells.toList y ∧ μ y ≤ Rows.uptoBulk d := by
  obtain ⟨fuel, hf⟩ := h
  exact hR _ _ _ hf
end Rd
end Go.Proofs.YthmhbmikcdfkcaaDoor
/-
  Readings in bundles: what the cells say, how much it is, and that it is within the form's reach. How a law's argument is opened into one.
-/
namespace Go.Proofs.YthmhbmikcdfkcaaDoor
open Go.RowKit

/-- A reading, its bulk, and what the form's reach says of it. -/
structure Pkg (α : Type) where
  rd : Rd α
  mu : α → Nat
  rho : α → Prop
namespace Pkg
def int (k : IntKind) : Pkg Int := ⟨Rd.int k, fun _ => 1, fun _ => True⟩
def bool : Pkg Bool := ⟨Rd.bool, fun _ => 1, fun _ => True⟩
def str : Pkg ByteArray := ⟨Rd.str, fun s => s.size + 1, fun s => s.size ≤ reachBytes⟩
def slice {α : Type} (size bytes : Nat) (p : Pkg α) : Pkg (List α) := ⟨Rd.slice size p.rd, Rd.sum p.mu, fun l => l.length * bytes ≤ reachBytes ∧ ∀ y ∈ l, p.rho y⟩
def unit : Pkg Unit := ⟨Rd.unit, fun _ => 0, fun _ => True⟩
def cons {α β : Type} (n : Nat) (p : Pkg α) (q : Pkg β) : Pkg (α × β) := ⟨Rd.cons n p.rd q.rd, fun y => p.mu y.1 + q.mu y.2, fun y => p.rho y.1 ∧ q.rho y.2⟩
/-- As a structure, by its parts. -/
def via {α β : Type} (f : β → α) (p : Pkg α) : Pkg β := ⟨fun ok w cs y => p.rd ok w cs (f y), fun y => p.mu (f y) + 1, fun y => p.rho (f y)⟩

def Stays {α : Type} (p : Pkg α) : Prop := Rd.Stays p.rd
theorem stays_int (k : IntKind) : Stays (int k) := Rd.int_stays k
theorem stays_bool : Stays bool := Rd.bool_stays
theorem stays_str : Stays str := Rd.str_stays
theorem stays_slice {α : Type} {size bytes : Nat} {p : Pkg α} (h : Stays p) : Stays (slice size bytes p) := Rd.slice_stays h
theorem stays_unit : Stays unit := Rd.unit_stays
theorem stays_cons {α β : Type} {n : Nat} {p : Pkg α} {q : Pkg β} (h : Stays p) (k : Stays q) : Stays (cons n p q) := Rd.cons_stays h k
theorem stays_via {α β : Type} {f : β → α} {p : Pkg α} (h : Stays p) : Stays (via f p) := fun ok ok' w w' cs x hs ho hx => h ok ok' w w' cs (f x) hs ho hx

/-- How a datum of type t is opened. -/
def Opens {α : Type} {H : Type} (enc : TypeId × Value → H) (P : Program) (w : World) (t : TypeId) (p : Pkg α) : Prop :=
  ∀ (fuel : Nat) (cs : List Value) (x : DataW H × List MemPlace), DataW.trod enc P w 0 (fun _ => true) true fuel t cs = some x →
    ∃ y, p.rd (fun k => k < w.heap.size) w cs y ∧ p.mu y ≤ Rows.uptoBulk x.1 ∧ ((∀ n ∈ x.1.weights P t, n ≤ reachBytes) → p.rho y)

variable {H : Type} {enc : TypeId × Value → H} {P : Program} {w : World} {t e : TypeId}
theorem opens_int {k : IntKind} (ht : P.underlying t = some (.int k)) : Opens enc P w t (int k) := by
  intro fuel cs x h
  obtain ⟨n, rfl, rfl, hw⟩ := DataW.trod_int ht h
  exact ⟨n, ⟨rfl, hw⟩, by simp [Rows.uptoBulk, int], fun _ => trivial⟩
theorem opens_bool (ht : P.underlying t = some .bool) : Opens enc P w t bool := by
  intro fuel cs x h
  obtain ⟨b, rfl, rfl⟩ := DataW.trod_bool ht h
  exact ⟨b, rfl, by simp [Rows.uptoBulk, bool], fun _ => trivial⟩
theorem opens_str (ht : P.underlying t = some .string) : Opens enc P w t str := by
  intro fuel cs x h
  obtain ⟨s, rfl, rfl, hs⟩ := DataW.trod_string ht h
  refine ⟨s, ⟨rfl, hs⟩, ?_, fun hw => ?_⟩
  · simp only [Rows.uptoBulk, str]
    rw [Array.length_toList]; exact Nat.le_refl _
  · have := hw s.data.toList.length (by simp [DataW.weights])
    rw [Array.length_toList] at this; exact this

theorem weights_mem : ∀ {l : List (DataW H)} {d : DataW H}, d ∈ l → ∀ n ∈ d.weights P e, n ∈ DataW.weightsAll P e l
  | x :: l, d, h, n, hn => by
    simp only [DataW.weightsAll, List.mem_append]
    rcases List.mem_cons.1 h with rfl | h
    · exact .inl hn
    · exact .inr (weights_mem h n hn)
  | [], _, h, _, _ => by cases h

theorem opens_slice {α : Type} {p : Pkg α} {size bytes : Nat} (ht : P.underlying t = some (.slice e)) (hc : P.cellsOf e = size) (hb : P.bytesOf e = bytes) (hp : 0 < size) (hR : Opens enc P w e p) :
    Opens enc P w t (slice size bytes p) := by
  intro fuel cs x h
  rcases DataW.trod_slice ht h with ⟨rfl, rfl⟩ | ⟨a, len, cap, elems, rest, n, rfl, rfl, rfl, _, hl, hm, hlen, hel, hsp, hns⟩
  · exact ⟨[], ⟨none, 0, rfl, Nat.le_refl _, by simp, fun h => by simp at h⟩, by simp [slice, Rd.sum, Rows.uptoBulk], fun _ => ⟨by simp, fun y hy => by cases hy⟩⟩
  · have each : ∀ i y, elems[i]? = some y → ∃ z, (∃ es, es.length = size ∧ (∀ k, k < size → w.cell? ((a.add ((0 + i) * size)).add k) = es[k]?) ∧ p.rd (fun k => k < w.heap.size) w es z) ∧ p.mu z ≤ Rows.uptoBulk y.1 ∧ ((∀ n ∈ y.1.weights P e, n ≤ reachBytes) → p.rho z) := by
      intro i y hy
      have hi : i < len := by rw [← hlen]; exact (List.getElem?_eq_some_iff.1 hy).1
      have h1 := hel i hi
      rw [hy] at h1
      obtain ⟨es, h2, h3⟩ := Option.bind_eq_some_iff.1 h1
      obtain ⟨h4, h5⟩ := Rd.cells_of h2
      obtain ⟨z, h6, h7, h8⟩ := hR _ _ _ h3
      exact ⟨z, ⟨es, by rw [h4, hc], fun k hk => by have := h5 k (by rw [hc]; exact hk); rw [hc] at this; simpa using this, h6⟩, h7, h8⟩
    obtain ⟨ys, hyl, hq⟩ := Rd.list_of (Q := fun i y z => (∃ es, es.length = size ∧ (∀ k, k < size → w.cell? ((a.add (i * size)).add k) = es[k]?) ∧ p.rd (fun k => k < w.heap.size) w es z) ∧ p.mu z ≤ Rows.uptoBulk y.1 ∧ ((∀ n ∈ y.1.weights P e, n ≤ reachBytes) → p.rho z)) elems 0 each
    refine ⟨ys, ⟨some a, cap, by simp [hyl, hlen], by omega, hm, fun hpos => ?_⟩, ?_, fun hw => ?_⟩
    · have hy0 : ys[0]? = some ys[0] := by simp [hpos]
      have he0 : elems[0]? = some elems[0] := by simp [show 0 < elems.length by omega]
      obtain ⟨⟨es, h1, h2, _⟩, _⟩ := hq 0 _ _ he0 hy0
      have hcell := h2 0 hp
      have hes : es[0]? = some es[0] := by simp [h1, hp]
      rw [hes] at hcell
      have hspot : a.spot = none := by simpa [Addr.add] using World.cell?_spot hcell
      have hlt : a.block < w.heap.size := by simpa [Addr.add] using World.block_lt_of_cell? w _ hcell
      obtain ⟨b, off, spot⟩ := a
      simp only at hspot hlt
      subst hspot
      refine ⟨b, off, rfl, hlt, fun i x hx => ?_⟩
      have hi : i < ys.length := (List.getElem?_eq_some_iff.1 hx).1
      obtain ⟨⟨es, h1, h2, h3⟩, _⟩ := hq i _ x (by simp [show i < elems.length by omega] : elems[i]? = some elems[i]) hx
      refine ⟨es, h1, fun k hk => ?_, h3⟩
      have := h2 k hk
      rw [Go.WideShapes.add_plain, Go.WideShapes.add_plain, Nat.zero_add] at this; exact this
    · have := Rd.sum_le (μ := p.mu) hyl fun i x y hx hy => (hq i x y hx hy).2.1
      simp only [Rows.uptoBulk, slice]; omega
    · simp only [DataW.weights, ht, List.mem_cons, List.mem_append] at hw
      constructor
      · have := hw _ (.inl rfl)
        rw [hb] at this
        refine Nat.le_trans (Nat.mul_le_mul_right _ ?_) this
        rw [hyl]; simp
      · intro y hy
        obtain ⟨i, hi, rfl⟩ := List.getElem_of_mem hy
        have hi' : i < elems.length := by omega
        refine (hq i elems[i] ys[i] (by simp [hi']) (by simp [hi])).2.2 fun n hn => hw n (.inr (.inl ?_))
        exact weights_mem (List.mem_map.2 ⟨elems[i], List.getElem_mem hi', rfl⟩) n hn

/-- How the fields of a struct are opened, from a cell on. -/
def OpensF {α : Type} {H : Type} (enc : TypeId × Value → H) (P : Program) (w : World) (N : Nat) (fs : List Field) (o : Nat) (p : Pkg α) : Prop :=
  ∀ (n : Nat) (cs : List Value) (xs : List (DataW H × List MemPlace)), cs.length = N → xs.length = fs.length →
    (∀ (i : Nat) (f : Field), fs[i]? = some f → DataW.trod enc P w 0 (fun _ => true) true n f.type ((cs.drop f.offset).take (P.cellsOf f.type)) = xs[i]?) →
    ∃ y, p.rd (fun k => k < w.heap.size) w (cs.drop o) y ∧ p.mu y ≤ Rows.uptoBulkAll (xs.map (·.1)) ∧ ((∀ n ∈ DataW.weightsEach P (fs.map (·.type)) (xs.map (·.1)), n ≤ reachBytes) → p.rho y)
theorem opensF_nil {N : Nat} : OpensF enc P w N [] N unit := by
  intro n cs xs hl hx _
  exact ⟨(), by show cs.drop N = []; rw [← hl, List.drop_length], Nat.zero_le _, fun _ => trivial⟩
theorem opensF_cons {α β : Type} {N o n : Nat} {f : Field} {fs : List Field} {p : Pkg α} {q : Pkg β} (ho : f.offset = o) (hn : P.cellsOf f.type = n) (hN : o + n ≤ N)
    (hR : Opens enc P w f.type p) (hS : OpensF enc P w N fs (o + n) q) : OpensF enc P w N (f :: fs) o (cons n p q) := by
  intro k cs xs hl hx hf
  match xs, hx with
  | x :: xs, hx =>
    have h0 := hf 0 f rfl
    rw [ho, hn] at h0
    obtain ⟨y, h1, h2, h5⟩ := hR _ _ _ h0
    obtain ⟨z, h3, h4, h6⟩ := hS k cs xs hl (by simpa using hx) fun i g hg => by have := hf (i + 1) g (by simpa using hg); simpa using this
    refine ⟨(y, z), ⟨(cs.drop o).take n, cs.drop (o + n), ?_, ?_, h1, h3⟩, ?_, fun hw => ?_⟩
    · rw [← List.drop_drop, List.take_append_drop]
    · simp; omega
    · simp only [List.map_cons, Rows.uptoBulkAll, cons]; omega
    · simp only [List.map_cons, DataW.weightsEach, List.mem_append] at hw
      exact ⟨h5 fun n hn => hw n (.inl hn), h6 fun n hn => hw n (.inr hn)⟩
theorem opens_struct {α β : Type} {N : Nat} {fs : Array Field} {l : List Field} {p : Pkg α} {f : β → α} {g : α → β} (ht : P.underlying t = some (.struct fs)) (hl : fs.toList = l) (hc : P.cellsOf t = N) (hg : ∀ x, f (g x) = x) (hF : OpensF enc P w N l 0 p) :
    Opens enc P w t (via f p) := by
  subst hl
  intro fuel cs x h
  obtain ⟨xs, n, rfl, rfl, hl, hxs, hf⟩ := DataW.trod_struct ht h
  obtain ⟨y, h1, h2, h3⟩ := hF n cs xs (by rw [hl, hc]) (by simpa using hxs) fun i f hi => hf i f (by simpa using hi)
  refine ⟨g y, ?_, ?_, fun hw => ?_⟩
  · show p.rd _ _ _ (f (g y)); rw [hg]; simpa using h1
  · show p.mu (f (g y)) + 1 ≤ _; rw [hg]; simp only [Rows.uptoBulk]; omega
  · show p.rho (f (g y)); rw [hg]; exact h3 fun n hn => hw n (by simp only [DataW.weights, ht]; exact hn)

/-- Opened, as the proof of a row has it: a value, of one cell or of a struct. -/
theorem open_one {α : Type} {p : Pkg α} {v : Value} {d : DataW H} {ps : List MemPlace} (hR : Opens enc P w t p) (h : DataW.Trod enc P w 0 (fun _ => true) true t v d ps) :
    ∃ y, p.rd (fun k => k < w.heap.size) w v.cells.toList y ∧ p.mu y ≤ Rows.uptoBulk d ∧ ((∀ n ∈ d.weights P t, n ≤ reachBytes) → p.rho y) := by
  obtain ⟨fuel, hf⟩ := h
  exact hR _ _ _ hf
end Pkg
end Go.Proofs.YthmhbmikcdfkcaaDoor
/-
  What the cells of a value say in a world (Is), and how that is taken apart: the cells of a struct field by field, the elements of a slice.
-/
namespace Go.Proofs.YthmhbmikcdfkcaaDoor
open Go.RowKit

/-- What a bundle says of cells in a world. -/
def Is {α : Type} (p : Pkg α) (w : World) (cs : List Value) (x : α) : Prop := p.rd (fun k => k < w.heap.size) w cs x
section
variable {α β : Type} {p : Pkg α} {q : Pkg β} {w w' : World} {cs : List Value}
theorem Is.below {x : α} (hp : Pkg.Stays p) (h : Is p w cs x) (hb : Below w.heap.size w w') : Is p w' cs x :=
  hp _ _ w w' _ x (fun k hk => hb.block k hk) (fun _ hk => Nat.lt_of_lt_of_le hk hb.size) h
/-- Where the blocks that were there are as they were. -/
theorem Is.same {x : α} (hp : Pkg.Stays p) (h : Is p w cs x) (hs : w.heap.size ≤ w'.heap.size) (hb : ∀ k, k < w.heap.size → w'.heap[k]? = w.heap[k]?) : Is p w' cs x :=
  hp _ _ w w' _ x (fun k hk => hb k hk) (fun _ hk => Nat.lt_of_lt_of_le hk hs) h
theorem Is.drewN {x : α} (h : Is p w cs x) (hp : Pkg.Stays p) (n : Nat) : Is p (w.drewN n) cs x := h.same hp (Nat.le_refl _) fun _ _ => rfl
theorem Is.alloc {x : α} (h : Is p w cs x) (hp : Pkg.Stays p) (o : Obj) : Is p (w.alloc o) cs x := h.same hp (by simp) fun k hk => Below.heap_alloc w o k hk

theorem wf_i64 {n : Int} : (Lit.int .i64 n).wf = true ↔ -9223372036854775808 ≤ n ∧ n ≤ 9223372036854775807 := by
  simp only [Lit.wf, Bool.and_eq_true, decide_eq_true_eq]; exact Iff.rfl
theorem is_via {f : β → α} {x : β} : Is (Pkg.via f p) w cs x ↔ Is p w cs (f x) := Iff.rfl
theorem is_int {k : IntKind} {n : Int} : Is (Pkg.int k) w cs n ↔ cs = [.int k n] ∧ (Lit.int k n).wf = true := Iff.rfl
theorem is_bool {b : Bool} : Is Pkg.bool w cs b ↔ cs = [.bool b] := Iff.rfl
theorem is_str {s : ByteArray} : Is Pkg.str w cs s ↔ cs = [.string s] ∧ s.size ≤ maxLen := Iff.rfl
theorem is_unit {u : Unit} : Is Pkg.unit w cs u ↔ cs = [] := Iff.rfl
theorem is_cons {n : Nat} {x : α × β} : Is (Pkg.cons n p q) w cs x ↔ ∃ a b, cs = a ++ b ∧ a.length = n ∧ Is p w a x.1 ∧ Is q w b x.2 := Iff.rfl
theorem is_cons_int {k : IntKind} {x : Int × β} : Is (Pkg.cons 1 (Pkg.int k) q) w cs x ↔ ∃ b, cs = .int k x.1 :: b ∧ (Lit.int k x.1).wf = true ∧ Is q w b x.2 :=
  ⟨fun ⟨a, b, e, _, ⟨h1, h2⟩, h3⟩ => ⟨b, by rw [e, h1]; rfl, h2, h3⟩, fun ⟨b, e, h2, h3⟩ => ⟨[.int k x.1], b, e, rfl, ⟨rfl, h2⟩, h3⟩⟩
theorem is_cons_bool {x : Bool × β} : Is (Pkg.cons 1 Pkg.bool q) w cs x ↔ ∃ b, cs = .bool x.1 :: b ∧ Is q w b x.2 :=
  ⟨fun ⟨a, b, e, _, h1, h3⟩ => ⟨b, by rw [e, show a = [.bool x.1] from h1]; rfl, h3⟩, fun ⟨b, e, h3⟩ => ⟨[.bool x.1], b, e, rfl, rfl, h3⟩⟩
theorem is_cons_str {x : ByteArray × β} : Is (Pkg.cons 1 Pkg.str q) w cs x ↔ ∃ b, cs = .string x.1 :: b ∧ x.1.size ≤ maxLen ∧ Is q w b x.2 :=
  ⟨fun ⟨a, b, e, _, ⟨h1, h2⟩, h3⟩ => ⟨b, by rw [e, h1]; rfl, h2, h3⟩, fun ⟨b, e, h2, h3⟩ => ⟨[.string x.1], b, e, rfl, ⟨rfl, h2⟩, h3⟩⟩
theorem is_cons_slice {size bytes : Nat} {x : List α × β} : Is (Pkg.cons 1 (Pkg.slice size bytes p) q) w cs x ↔ ∃ v b, cs = v :: b ∧ Is (Pkg.slice size bytes p) w [v] x.1 ∧ Is q w b x.2 := by
  constructor
  · rintro ⟨a, b, e, hl, h1, h3⟩
    match a, hl with
    | [v], _ => exact ⟨v, b, e, h1, h3⟩
  · rintro ⟨v, b, e, h1, h3⟩
    exact ⟨[v], b, e, rfl, h1, h3⟩
/-- A slice: its header; the cells of each element. -/
theorem is_slice {size bytes : Nat} {v : Value} {xs : List α} (h : Is (Pkg.slice size bytes p) w [v] xs) :
    ∃ ao cap, v = .slice ao xs.length cap ∧ xs.length ≤ cap ∧ cap ≤ maxLen ∧ (0 < xs.length → ∃ b off, ao = some ⟨b, off, none⟩ ∧ b < w.heap.size ∧
      ∀ i x, xs[i]? = some x → ∃ es, es.length = size ∧ (∀ k, k < size → w.cell? ⟨b, off + i * size + k, none⟩ = es[k]?) ∧ Is p w es x) := by
  obtain ⟨ao, cap, e, h1, h2, h3⟩ := h
  simp only [List.cons.injEq, and_true] at e
  exact ⟨ao, cap, e, h1, h2, h3⟩
/-- A slice of elements of one cell. -/
theorem is_slice1 {bytes : Nat} {v : Value} {xs : List α} (h : Is (Pkg.slice 1 bytes p) w [v] xs) :
    ∃ ao cap, v = .slice ao xs.length cap ∧ xs.length ≤ cap ∧ cap ≤ maxLen ∧ (0 < xs.length → ∃ b off, ao = some ⟨b, off, none⟩ ∧ b < w.heap.size ∧
      ∀ i x, xs[i]? = some x → ∃ u, w.cell? ⟨b, off + i, none⟩ = some u ∧ Is p w [u] x) := by
  obtain ⟨ao, cap, e, h1, h2, h3⟩ := is_slice h
  refine ⟨ao, cap, e, h1, h2, fun hp => ?_⟩
  obtain ⟨b, off, e2, hb, hel⟩ := h3 hp
  refine ⟨b, off, e2, hb, fun i x hx => ?_⟩
  obtain ⟨es, h4, h5, h6⟩ := hel i x hx
  match es, h4 with
  | [u], _ => exact ⟨u, by have := h5 0 (by omega); simpa using this, h6⟩
theorem is_slice_mk {size bytes : Nat} {b off cap : Nat} {xs : List α} (hc : xs.length ≤ cap) (hm : cap ≤ maxLen) (hb : b < w.heap.size)
    (h : ∀ i x, xs[i]? = some x → ∃ es, es.length = size ∧ (∀ k, k < size → w.cell? ⟨b, off + i * size + k, none⟩ = es[k]?) ∧ Is p w es x) : Is (Pkg.slice size bytes p) w [.slice (some ⟨b, off, none⟩) xs.length cap] xs :=
  ⟨_, cap, rfl, hc, hm, fun _ => ⟨b, off, rfl, hb, h⟩⟩
theorem is_slice1_mk {bytes : Nat} {b off cap : Nat} {xs : List α} (hc : xs.length ≤ cap) (hm : cap ≤ maxLen) (hb : b < w.heap.size)
    (h : ∀ i x, xs[i]? = some x → ∃ u, w.cell? ⟨b, off + i, none⟩ = some u ∧ Is p w [u] x) : Is (Pkg.slice 1 bytes p) w [.slice (some ⟨b, off, none⟩) xs.length cap] xs :=
  is_slice_mk hc hm hb fun i x hx => by
    obtain ⟨u, h1, h2⟩ := h i x hx
    refine ⟨[u], rfl, fun k hk => ?_, h2⟩
    obtain rfl : k = 0 := by omega
    simpa using h1
theorem is_slice_none {size bytes : Nat} {ao : Option Addr} {cap : Nat} (hm : cap ≤ maxLen) : Is (Pkg.slice size bytes p) w [.slice ao 0 cap] [] :=
  ⟨ao, cap, rfl, Nat.zero_le _, hm, fun h => by simp at h⟩
/-- A slice of ints. -/
theorem is_ints {bytes : Nat} {k : IntKind} {v : Value} {xs : List Int} (h : Is (Pkg.slice 1 bytes (Pkg.int k)) w [v] xs) :
    ∃ ao cap, v = .slice ao xs.length cap ∧ xs.length ≤ cap ∧ cap ≤ maxLen ∧ (∀ i, i < xs.length → (Lit.int k (xs.getD i 0)).wf = true) ∧ (0 < xs.length → ∃ b off, ao = some ⟨b, off, none⟩ ∧ b < w.heap.size ∧
      ∀ i, i < xs.length → w.cell? ⟨b, off + i, none⟩ = some (.int k (xs.getD i 0))) := by
  obtain ⟨ao, cap, e, h1, h2, h3⟩ := is_slice1 h
  refine ⟨ao, cap, e, h1, h2, fun i hi => ?_, fun hp => ?_⟩
  · obtain ⟨b, off, e2, hb, hel⟩ := h3 (by omega)
    obtain ⟨u, _, hu⟩ := hel i (xs.getD i 0) (by simp [List.getD, hi])
    exact (is_int.1 hu).2
  · obtain ⟨b, off, e2, hb, hel⟩ := h3 hp
    refine ⟨b, off, e2, hb, fun i hi => ?_⟩
    obtain ⟨u, h4, hu⟩ := hel i (xs.getD i 0) (by simp [List.getD, hi])
    have := (is_int.1 hu).1
    simp only [List.cons.injEq, and_true] at this
    rw [h4, this]
end
end Go.Proofs.YthmhbmikcdfkcaaDoor
/-
  The plain data of the program's types, their bundles and how an argument of each is opened. Written by genpkg.py off the translation's types.
-/
namespace Go.Proofs.YthmhbmikcdfkcaaDoor
open Go.RowKit
/-- api.Type -/
@[ext] structure D.Type where
  Bits : Int
  Signed : Bool
deriving DecidableEq
def p_Type : Pkg D.Type := Pkg.via (fun x : D.Type => (x.Bits, x.Signed, ())) (Pkg.cons 1 (Pkg.int .i64) (Pkg.cons 1 Pkg.bool Pkg.unit))
theorem stays_Type : Pkg.Stays p_Type := Pkg.stays_via (Pkg.stays_cons (Pkg.stays_int .i64) (Pkg.stays_cons Pkg.stays_bool Pkg.stays_unit))
set_option maxRecDepth 100000 in
theorem opens_Type {H : Type} {enc : TypeId × Value → H} {w : World} : Pkg.Opens enc Tryd.prog w 56 p_Type := by
  refine Pkg.opens_struct (N := 2) (g := fun (y : Int × Bool × Unit) => (⟨y.1, y.2.1⟩ : D.Type)) Tryd.underlying56 rfl (by kernel_rfl) (fun _ => rfl) ?_
  refine Pkg.opensF_cons rfl (by kernel_rfl) (by decide) (Pkg.opens_int Tryd.underlying3) ?_
  refine Pkg.opensF_cons rfl (by kernel_rfl) (by decide) (Pkg.opens_bool Tryd.underlying4) ?_
  exact Pkg.opensF_nil
/-- api.Shape -/
@[ext] structure D.Shape where
  Room : Int
  Fields : (List D.Type)
deriving DecidableEq
def p_Shape : Pkg D.Shape := Pkg.via (fun x : D.Shape => (x.Room, x.Fields, ())) (Pkg.cons 1 (Pkg.int .i64) (Pkg.cons 1 (Pkg.slice 2 16 p_Type) Pkg.unit))
theorem stays_Shape : Pkg.Stays p_Shape := Pkg.stays_via (Pkg.stays_cons (Pkg.stays_int .i64) (Pkg.stays_cons (Pkg.stays_slice stays_Type) Pkg.stays_unit))
set_option maxRecDepth 100000 in
theorem opens_Shape {H : Type} {enc : TypeId × Value → H} {w : World} : Pkg.Opens enc Tryd.prog w 119 p_Shape := by
  refine Pkg.opens_struct (N := 2) (g := fun (y : Int × (List D.Type) × Unit) => (⟨y.1, y.2.1⟩ : D.Shape)) Tryd.underlying119 rfl (by kernel_rfl) (fun _ => rfl) ?_
  refine Pkg.opensF_cons rfl (by kernel_rfl) (by decide) (Pkg.opens_int Tryd.underlying3) ?_
  refine Pkg.opensF_cons rfl (by kernel_rfl) (by decide) (Pkg.opens_slice (size := 2) (bytes := 16) Tryd.underlying26 (by kernel_rfl) (by kernel_rfl) (by decide) opens_Type) ?_
  exact Pkg.opensF_nil
/-- api.Stmt -/
@[ext] structure D.Stmt where
  Kind : Int
  A : Int
  B : Int
  N : Int
  Args : (List Int)
  Match : (List Int)
  Text : ByteArray
deriving DecidableEq
def p_Stmt : Pkg D.Stmt := Pkg.via (fun x : D.Stmt => (x.Kind, x.A, x.B, x.N, x.Args, x.Match, x.Text, ())) (Pkg.cons 1 (Pkg.int .i64) (Pkg.cons 1 (Pkg.int .i64) (Pkg.cons 1 (Pkg.int .i64) (Pkg.cons 1 (Pkg.int .i64) (Pkg.cons 1 (Pkg.slice 1 8 (Pkg.int .i64)) (Pkg.cons 1 (Pkg.slice 1 8 (Pkg.int .i64)) (Pkg.cons 1 Pkg.str Pkg.unit)))))))
theorem stays_Stmt : Pkg.Stays p_Stmt := Pkg.stays_via (Pkg.stays_cons (Pkg.stays_int .i64) (Pkg.stays_cons (Pkg.stays_int .i64) (Pkg.stays_cons (Pkg.stays_int .i64) (Pkg.stays_cons (Pkg.stays_int .i64) (Pkg.stays_cons (Pkg.stays_slice (Pkg.stays_int .i64)) (Pkg.stays_cons (Pkg.stays_slice (Pkg.stays_int .i64)) (Pkg.stays_cons Pkg.stays_str Pkg.stays_unit)))))))
set_option maxRecDepth 100000 in
theorem opens_Stmt {H : Type} {enc : TypeId × Value → H} {w : World} : Pkg.Opens enc Tryd.prog w 156 p_Stmt := by
  refine Pkg.opens_struct (N := 7) (g := fun (y : Int × Int × Int × Int × (List Int) × (List Int) × ByteArray × Unit) => (⟨y.1, y.2.1, y.2.2.1, y.2.2.2.1, y.2.2.2.2.1, y.2.2.2.2.2.1, y.2.2.2.2.2.2.1⟩ : D.Stmt)) Tryd.underlying156 rfl (by kernel_rfl) (fun _ => rfl) ?_
  refine Pkg.opensF_cons rfl (by kernel_rfl) (by decide) (Pkg.opens_int Tryd.underlying3) ?_
  refine Pkg.opensF_cons rfl (by kernel_rfl) (by decide) (Pkg.opens_int Tryd.underlying3) ?_
  refine Pkg.opensF_cons rfl (by kernel_rfl) (by decide) (Pkg.opens_int Tryd.underlying3) ?_
  refine Pkg.opensF_cons rfl (by kernel_rfl) (by decide) (Pkg.opens_int Tryd.underlying3) ?_
  refine Pkg.opensF_cons rfl (by kernel_rfl) (by decide) (Pkg.opens_slice (size := 1) (bytes := 8) Tryd.underlying28 (by kernel_rfl) (by kernel_rfl) (by decide) (Pkg.opens_int Tryd.underlying3)) ?_
  refine Pkg.opensF_cons rfl (by kernel_rfl) (by decide) (Pkg.opens_slice (size := 1) (bytes := 8) Tryd.underlying28 (by kernel_rfl) (by kernel_rfl) (by decide) (Pkg.opens_int Tryd.underlying3)) ?_
  refine Pkg.opensF_cons rfl (by kernel_rfl) (by decide) (Pkg.opens_str Tryd.underlying9) ?_
  exact Pkg.opensF_nil
/-- api.Trans -/
@[ext] structure D.Trans where
  S : D.Stmt
  To : Int
  Line : Int
deriving DecidableEq
def p_Trans : Pkg D.Trans := Pkg.via (fun x : D.Trans => (x.S, x.To, x.Line, ())) (Pkg.cons 7 p_Stmt (Pkg.cons 1 (Pkg.int .i64) (Pkg.cons 1 (Pkg.int .i64) Pkg.unit)))
theorem stays_Trans : Pkg.Stays p_Trans := Pkg.stays_via (Pkg.stays_cons stays_Stmt (Pkg.stays_cons (Pkg.stays_int .i64) (Pkg.stays_cons (Pkg.stays_int .i64) Pkg.stays_unit)))
set_option maxRecDepth 100000 in
theorem opens_Trans {H : Type} {enc : TypeId × Value → H} {w : World} : Pkg.Opens enc Tryd.prog w 158 p_Trans := by
  refine Pkg.opens_struct (N := 9) (g := fun (y : D.Stmt × Int × Int × Unit) => (⟨y.1, y.2.1, y.2.2.1⟩ : D.Trans)) Tryd.underlying158 rfl (by kernel_rfl) (fun _ => rfl) ?_
  refine Pkg.opensF_cons rfl (by kernel_rfl) (by decide) opens_Stmt ?_
  refine Pkg.opensF_cons rfl (by kernel_rfl) (by decide) (Pkg.opens_int Tryd.underlying3) ?_
  refine Pkg.opensF_cons rfl (by kernel_rfl) (by decide) (Pkg.opens_int Tryd.underlying3) ?_
  exact Pkg.opensF_nil
/-- api.Loc -/
@[ext] structure D.Loc where
  Out : (List D.Trans)
  Esc : (List (List D.Trans))
  Atomic : Bool
  Dstep : Bool
  End : Bool
  Accept : Bool
  Progress : Bool
deriving DecidableEq
def p_Loc : Pkg D.Loc := Pkg.via (fun x : D.Loc => (x.Out, x.Esc, x.Atomic, x.Dstep, x.End, x.Accept, x.Progress, ())) (Pkg.cons 1 (Pkg.slice 9 112 p_Trans) (Pkg.cons 1 (Pkg.slice 1 24 (Pkg.slice 9 112 p_Trans)) (Pkg.cons 1 Pkg.bool (Pkg.cons 1 Pkg.bool (Pkg.cons 1 Pkg.bool (Pkg.cons 1 Pkg.bool (Pkg.cons 1 Pkg.bool Pkg.unit)))))))
theorem stays_Loc : Pkg.Stays p_Loc := Pkg.stays_via (Pkg.stays_cons (Pkg.stays_slice stays_Trans) (Pkg.stays_cons (Pkg.stays_slice (Pkg.stays_slice stays_Trans)) (Pkg.stays_cons Pkg.stays_bool (Pkg.stays_cons Pkg.stays_bool (Pkg.stays_cons Pkg.stays_bool (Pkg.stays_cons Pkg.stays_bool (Pkg.stays_cons Pkg.stays_bool Pkg.stays_unit)))))))
set_option maxRecDepth 100000 in
theorem opens_Loc {H : Type} {enc : TypeId × Value → H} {w : World} : Pkg.Opens enc Tryd.prog w 60 p_Loc := by
  refine Pkg.opens_struct (N := 7) (g := fun (y : (List D.Trans) × (List (List D.Trans)) × Bool × Bool × Bool × Bool × Bool × Unit) => (⟨y.1, y.2.1, y.2.2.1, y.2.2.2.1, y.2.2.2.2.1, y.2.2.2.2.2.1, y.2.2.2.2.2.2.1⟩ : D.Loc)) Tryd.underlying60 rfl (by kernel_rfl) (fun _ => rfl) ?_
  refine Pkg.opensF_cons rfl (by kernel_rfl) (by decide) (Pkg.opens_slice (size := 9) (bytes := 112) Tryd.underlying57 (by kernel_rfl) (by kernel_rfl) (by decide) opens_Trans) ?_
  refine Pkg.opensF_cons rfl (by kernel_rfl) (by decide) (Pkg.opens_slice (size := 1) (bytes := 24) Tryd.underlying58 (by kernel_rfl) (by kernel_rfl) (by decide) (Pkg.opens_slice (size := 9) (bytes := 112) Tryd.underlying57 (by kernel_rfl) (by kernel_rfl) (by decide) opens_Trans)) ?_
  refine Pkg.opensF_cons rfl (by kernel_rfl) (by decide) (Pkg.opens_bool Tryd.underlying4) ?_
  refine Pkg.opensF_cons rfl (by kernel_rfl) (by decide) (Pkg.opens_bool Tryd.underlying4) ?_
  refine Pkg.opensF_cons rfl (by kernel_rfl) (by decide) (Pkg.opens_bool Tryd.underlying4) ?_
  refine Pkg.opensF_cons rfl (by kernel_rfl) (by decide) (Pkg.opens_bool Tryd.underlying4) ?_
  refine Pkg.opensF_cons rfl (by kernel_rfl) (by decide) (Pkg.opens_bool Tryd.underlying4) ?_
  exact Pkg.opensF_nil
/-- api.Proc -/
@[ext] structure D.Proc where
  Name : ByteArray
  Params : Int
  Frame : (List D.Type)
  Init : (List Int)
  Locs : (List D.Loc)
  Start : Int
  Final : Int
  Active : Int
  Prio : Int
  Provided : Int
deriving DecidableEq
def p_Proc : Pkg D.Proc := Pkg.via (fun x : D.Proc => (x.Name, x.Params, x.Frame, x.Init, x.Locs, x.Start, x.Final, x.Active, x.Prio, x.Provided, ())) (Pkg.cons 1 Pkg.str (Pkg.cons 1 (Pkg.int .i64) (Pkg.cons 1 (Pkg.slice 2 16 p_Type) (Pkg.cons 1 (Pkg.slice 1 8 (Pkg.int .i64)) (Pkg.cons 1 (Pkg.slice 7 56 p_Loc) (Pkg.cons 1 (Pkg.int .i64) (Pkg.cons 1 (Pkg.int .i64) (Pkg.cons 1 (Pkg.int .i64) (Pkg.cons 1 (Pkg.int .i64) (Pkg.cons 1 (Pkg.int .i64) Pkg.unit))))))))))
theorem stays_Proc : Pkg.Stays p_Proc := Pkg.stays_via (Pkg.stays_cons Pkg.stays_str (Pkg.stays_cons (Pkg.stays_int .i64) (Pkg.stays_cons (Pkg.stays_slice stays_Type) (Pkg.stays_cons (Pkg.stays_slice (Pkg.stays_int .i64)) (Pkg.stays_cons (Pkg.stays_slice stays_Loc) (Pkg.stays_cons (Pkg.stays_int .i64) (Pkg.stays_cons (Pkg.stays_int .i64) (Pkg.stays_cons (Pkg.stays_int .i64) (Pkg.stays_cons (Pkg.stays_int .i64) (Pkg.stays_cons (Pkg.stays_int .i64) Pkg.stays_unit))))))))))
set_option maxRecDepth 100000 in
theorem opens_Proc {H : Type} {enc : TypeId × Value → H} {w : World} : Pkg.Opens enc Tryd.prog w 63 p_Proc := by
  refine Pkg.opens_struct (N := 10) (g := fun (y : ByteArray × Int × (List D.Type) × (List Int) × (List D.Loc) × Int × Int × Int × Int × Int × Unit) => (⟨y.1, y.2.1, y.2.2.1, y.2.2.2.1, y.2.2.2.2.1, y.2.2.2.2.2.1, y.2.2.2.2.2.2.1, y.2.2.2.2.2.2.2.1, y.2.2.2.2.2.2.2.2.1, y.2.2.2.2.2.2.2.2.2.1⟩ : D.Proc)) Tryd.underlying63 rfl (by kernel_rfl) (fun _ => rfl) ?_
  refine Pkg.opensF_cons rfl (by kernel_rfl) (by decide) (Pkg.opens_str Tryd.underlying9) ?_
  refine Pkg.opensF_cons rfl (by kernel_rfl) (by decide) (Pkg.opens_int Tryd.underlying3) ?_
  refine Pkg.opensF_cons rfl (by kernel_rfl) (by decide) (Pkg.opens_slice (size := 2) (bytes := 16) Tryd.underlying26 (by kernel_rfl) (by kernel_rfl) (by decide) opens_Type) ?_
  refine Pkg.opensF_cons rfl (by kernel_rfl) (by decide) (Pkg.opens_slice (size := 1) (bytes := 8) Tryd.underlying22 (by kernel_rfl) (by kernel_rfl) (by decide) (Pkg.opens_int Tryd.underlying2)) ?_
  refine Pkg.opensF_cons rfl (by kernel_rfl) (by decide) (Pkg.opens_slice (size := 7) (bytes := 56) Tryd.underlying61 (by kernel_rfl) (by kernel_rfl) (by decide) opens_Loc) ?_
  refine Pkg.opensF_cons rfl (by kernel_rfl) (by decide) (Pkg.opens_int Tryd.underlying3) ?_
  refine Pkg.opensF_cons rfl (by kernel_rfl) (by decide) (Pkg.opens_int Tryd.underlying3) ?_
  refine Pkg.opensF_cons rfl (by kernel_rfl) (by decide) (Pkg.opens_int Tryd.underlying3) ?_
  refine Pkg.opensF_cons rfl (by kernel_rfl) (by decide) (Pkg.opens_int Tryd.underlying3) ?_
  refine Pkg.opensF_cons rfl (by kernel_rfl) (by decide) (Pkg.opens_int Tryd.underlying3) ?_
  exact Pkg.opensF_nil
/-- api.Dim -/
@[ext] structure D.Dim where
  I : Int
  Len : Int
  Stride : Int
deriving DecidableEq
def p_Dim : Pkg D.Dim := Pkg.via (fun x : D.Dim => (x.I, x.Len, x.Stride, ())) (Pkg.cons 1 (Pkg.int .i64) (Pkg.cons 1 (Pkg.int .i64) (Pkg.cons 1 (Pkg.int .i64) Pkg.unit)))
theorem stays_Dim : Pkg.Stays p_Dim := Pkg.stays_via (Pkg.stays_cons (Pkg.stays_int .i64) (Pkg.stays_cons (Pkg.stays_int .i64) (Pkg.stays_cons (Pkg.stays_int .i64) Pkg.stays_unit)))
set_option maxRecDepth 100000 in
theorem opens_Dim {H : Type} {enc : TypeId × Value → H} {w : World} : Pkg.Opens enc Tryd.prog w 66 p_Dim := by
  refine Pkg.opens_struct (N := 3) (g := fun (y : Int × Int × Int × Unit) => (⟨y.1, y.2.1, y.2.2.1⟩ : D.Dim)) Tryd.underlying66 rfl (by kernel_rfl) (fun _ => rfl) ?_
  refine Pkg.opensF_cons rfl (by kernel_rfl) (by decide) (Pkg.opens_int Tryd.underlying3) ?_
  refine Pkg.opensF_cons rfl (by kernel_rfl) (by decide) (Pkg.opens_int Tryd.underlying3) ?_
  refine Pkg.opensF_cons rfl (by kernel_rfl) (by decide) (Pkg.opens_int Tryd.underlying3) ?_
  exact Pkg.opensF_nil
/-- api.Var -/
@[ext] structure D.Var where
  Scope : Int
  Slot : Int
  Who : Int
  Type_ : Int
  Dims : (List D.Dim)
deriving DecidableEq
def p_Var : Pkg D.Var := Pkg.via (fun x : D.Var => (x.Scope, x.Slot, x.Who, x.Type_, x.Dims, ())) (Pkg.cons 1 (Pkg.int .i64) (Pkg.cons 1 (Pkg.int .i64) (Pkg.cons 1 (Pkg.int .i64) (Pkg.cons 1 (Pkg.int .i64) (Pkg.cons 1 (Pkg.slice 3 24 p_Dim) Pkg.unit)))))
theorem stays_Var : Pkg.Stays p_Var := Pkg.stays_via (Pkg.stays_cons (Pkg.stays_int .i64) (Pkg.stays_cons (Pkg.stays_int .i64) (Pkg.stays_cons (Pkg.stays_int .i64) (Pkg.stays_cons (Pkg.stays_int .i64) (Pkg.stays_cons (Pkg.stays_slice stays_Dim) Pkg.stays_unit)))))
set_option maxRecDepth 100000 in
theorem opens_Var {H : Type} {enc : TypeId × Value → H} {w : World} : Pkg.Opens enc Tryd.prog w 45 p_Var := by
  refine Pkg.opens_struct (N := 5) (g := fun (y : Int × Int × Int × Int × (List D.Dim) × Unit) => (⟨y.1, y.2.1, y.2.2.1, y.2.2.2.1, y.2.2.2.2.1⟩ : D.Var)) Tryd.underlying45 rfl (by kernel_rfl) (fun _ => rfl) ?_
  refine Pkg.opensF_cons rfl (by kernel_rfl) (by decide) (Pkg.opens_int Tryd.underlying3) ?_
  refine Pkg.opensF_cons rfl (by kernel_rfl) (by decide) (Pkg.opens_int Tryd.underlying3) ?_
  refine Pkg.opensF_cons rfl (by kernel_rfl) (by decide) (Pkg.opens_int Tryd.underlying3) ?_
  refine Pkg.opensF_cons rfl (by kernel_rfl) (by decide) (Pkg.opens_int Tryd.underlying3) ?_
  refine Pkg.opensF_cons rfl (by kernel_rfl) (by decide) (Pkg.opens_slice (size := 3) (bytes := 24) Tryd.underlying43 (by kernel_rfl) (by kernel_rfl) (by decide) opens_Dim) ?_
  exact Pkg.opensF_nil
/-- api.Expr -/
@[ext] structure D.Expr where
  Op : Int
  N : Int
  A : Int
  B : Int
  C : Int
  V : D.Var
  Args : (List Int)
  Match : (List Int)
deriving DecidableEq
def p_Expr : Pkg D.Expr := Pkg.via (fun x : D.Expr => (x.Op, x.N, x.A, x.B, x.C, x.V, x.Args, x.Match, ())) (Pkg.cons 1 (Pkg.int .i64) (Pkg.cons 1 (Pkg.int .i64) (Pkg.cons 1 (Pkg.int .i64) (Pkg.cons 1 (Pkg.int .i64) (Pkg.cons 1 (Pkg.int .i64) (Pkg.cons 5 p_Var (Pkg.cons 1 (Pkg.slice 1 8 (Pkg.int .i64)) (Pkg.cons 1 (Pkg.slice 1 8 (Pkg.int .i64)) Pkg.unit))))))))
theorem stays_Expr : Pkg.Stays p_Expr := Pkg.stays_via (Pkg.stays_cons (Pkg.stays_int .i64) (Pkg.stays_cons (Pkg.stays_int .i64) (Pkg.stays_cons (Pkg.stays_int .i64) (Pkg.stays_cons (Pkg.stays_int .i64) (Pkg.stays_cons (Pkg.stays_int .i64) (Pkg.stays_cons stays_Var (Pkg.stays_cons (Pkg.stays_slice (Pkg.stays_int .i64)) (Pkg.stays_cons (Pkg.stays_slice (Pkg.stays_int .i64)) Pkg.stays_unit))))))))
set_option maxRecDepth 100000 in
theorem opens_Expr {H : Type} {enc : TypeId × Value → H} {w : World} : Pkg.Opens enc Tryd.prog w 47 p_Expr := by
  refine Pkg.opens_struct (N := 12) (g := fun (y : Int × Int × Int × Int × Int × D.Var × (List Int) × (List Int) × Unit) => (⟨y.1, y.2.1, y.2.2.1, y.2.2.2.1, y.2.2.2.2.1, y.2.2.2.2.2.1, y.2.2.2.2.2.2.1, y.2.2.2.2.2.2.2.1⟩ : D.Expr)) Tryd.underlying47 rfl (by kernel_rfl) (fun _ => rfl) ?_
  refine Pkg.opensF_cons rfl (by kernel_rfl) (by decide) (Pkg.opens_int Tryd.underlying3) ?_
  refine Pkg.opensF_cons rfl (by kernel_rfl) (by decide) (Pkg.opens_int Tryd.underlying2) ?_
  refine Pkg.opensF_cons rfl (by kernel_rfl) (by decide) (Pkg.opens_int Tryd.underlying3) ?_
  refine Pkg.opensF_cons rfl (by kernel_rfl) (by decide) (Pkg.opens_int Tryd.underlying3) ?_
  refine Pkg.opensF_cons rfl (by kernel_rfl) (by decide) (Pkg.opens_int Tryd.underlying3) ?_
  refine Pkg.opensF_cons rfl (by kernel_rfl) (by decide) opens_Var ?_
  refine Pkg.opensF_cons rfl (by kernel_rfl) (by decide) (Pkg.opens_slice (size := 1) (bytes := 8) Tryd.underlying28 (by kernel_rfl) (by kernel_rfl) (by decide) (Pkg.opens_int Tryd.underlying3)) ?_
  refine Pkg.opensF_cons rfl (by kernel_rfl) (by decide) (Pkg.opens_slice (size := 1) (bytes := 8) Tryd.underlying28 (by kernel_rfl) (by kernel_rfl) (by decide) (Pkg.opens_int Tryd.underlying3)) ?_
  exact Pkg.opensF_nil
/-- api.Model -/
@[ext] structure D.Model where
  Globals : (List D.Type)
  Init : (List Int)
  Shapes : (List D.Shape)
  Chans : (List Int)
  Procs : (List D.Proc)
  Claim : Int
  Exprs : (List D.Expr)
deriving DecidableEq
def p_Model : Pkg D.Model := Pkg.via (fun x : D.Model => (x.Globals, x.Init, x.Shapes, x.Chans, x.Procs, x.Claim, x.Exprs, ())) (Pkg.cons 1 (Pkg.slice 2 16 p_Type) (Pkg.cons 1 (Pkg.slice 1 8 (Pkg.int .i64)) (Pkg.cons 1 (Pkg.slice 2 32 p_Shape) (Pkg.cons 1 (Pkg.slice 1 8 (Pkg.int .i64)) (Pkg.cons 1 (Pkg.slice 10 136 p_Proc) (Pkg.cons 1 (Pkg.int .i64) (Pkg.cons 1 (Pkg.slice 12 144 p_Expr) Pkg.unit)))))))
theorem stays_Model : Pkg.Stays p_Model := Pkg.stays_via (Pkg.stays_cons (Pkg.stays_slice stays_Type) (Pkg.stays_cons (Pkg.stays_slice (Pkg.stays_int .i64)) (Pkg.stays_cons (Pkg.stays_slice stays_Shape) (Pkg.stays_cons (Pkg.stays_slice (Pkg.stays_int .i64)) (Pkg.stays_cons (Pkg.stays_slice stays_Proc) (Pkg.stays_cons (Pkg.stays_int .i64) (Pkg.stays_cons (Pkg.stays_slice stays_Expr) Pkg.stays_unit)))))))
set_option maxRecDepth 100000 in
theorem opens_Model {H : Type} {enc : TypeId × Value → H} {w : World} : Pkg.Opens enc Tryd.prog w 32 p_Model := by
  refine Pkg.opens_struct (N := 7) (g := fun (y : (List D.Type) × (List Int) × (List D.Shape) × (List Int) × (List D.Proc) × Int × (List D.Expr) × Unit) => (⟨y.1, y.2.1, y.2.2.1, y.2.2.2.1, y.2.2.2.2.1, y.2.2.2.2.2.1, y.2.2.2.2.2.2.1⟩ : D.Model)) Tryd.underlying32 rfl (by kernel_rfl) (fun _ => rfl) ?_
  refine Pkg.opensF_cons rfl (by kernel_rfl) (by decide) (Pkg.opens_slice (size := 2) (bytes := 16) Tryd.underlying26 (by kernel_rfl) (by kernel_rfl) (by decide) opens_Type) ?_
  refine Pkg.opensF_cons rfl (by kernel_rfl) (by decide) (Pkg.opens_slice (size := 1) (bytes := 8) Tryd.underlying22 (by kernel_rfl) (by kernel_rfl) (by decide) (Pkg.opens_int Tryd.underlying2)) ?_
  refine Pkg.opensF_cons rfl (by kernel_rfl) (by decide) (Pkg.opens_slice (size := 2) (bytes := 32) Tryd.underlying27 (by kernel_rfl) (by kernel_rfl) (by decide) opens_Shape) ?_
  refine Pkg.opensF_cons rfl (by kernel_rfl) (by decide) (Pkg.opens_slice (size := 1) (bytes := 8) Tryd.underlying28 (by kernel_rfl) (by kernel_rfl) (by decide) (Pkg.opens_int Tryd.underlying3)) ?_
  refine Pkg.opensF_cons rfl (by kernel_rfl) (by decide) (Pkg.opens_slice (size := 10) (bytes := 136) Tryd.underlying29 (by kernel_rfl) (by kernel_rfl) (by decide) opens_Proc) ?_
  refine Pkg.opensF_cons rfl (by kernel_rfl) (by decide) (Pkg.opens_int Tryd.underlying3) ?_
  refine Pkg.opensF_cons rfl (by kernel_rfl) (by decide) (Pkg.opens_slice (size := 12) (bytes := 144) Tryd.underlying30 (by kernel_rfl) (by kernel_rfl) (by decide) opens_Expr) ?_
  exact Pkg.opensF_nil
/-- api.Chan -/
@[ext] structure D.Chan where
  Shape : Int
  Queue : (List (List Int))
deriving DecidableEq
def p_Chan : Pkg D.Chan := Pkg.via (fun x : D.Chan => (x.Shape, x.Queue, ())) (Pkg.cons 1 (Pkg.int .i64) (Pkg.cons 1 (Pkg.slice 1 24 (Pkg.slice 1 8 (Pkg.int .i64))) Pkg.unit))
theorem stays_Chan : Pkg.Stays p_Chan := Pkg.stays_via (Pkg.stays_cons (Pkg.stays_int .i64) (Pkg.stays_cons (Pkg.stays_slice (Pkg.stays_slice (Pkg.stays_int .i64))) Pkg.stays_unit))
set_option maxRecDepth 100000 in
theorem opens_Chan {H : Type} {enc : TypeId × Value → H} {w : World} : Pkg.Opens enc Tryd.prog w 104 p_Chan := by
  refine Pkg.opens_struct (N := 2) (g := fun (y : Int × (List (List Int)) × Unit) => (⟨y.1, y.2.1⟩ : D.Chan)) Tryd.underlying104 rfl (by kernel_rfl) (fun _ => rfl) ?_
  refine Pkg.opensF_cons rfl (by kernel_rfl) (by decide) (Pkg.opens_int Tryd.underlying3) ?_
  refine Pkg.opensF_cons rfl (by kernel_rfl) (by decide) (Pkg.opens_slice (size := 1) (bytes := 24) Tryd.underlying102 (by kernel_rfl) (by kernel_rfl) (by decide) (Pkg.opens_slice (size := 1) (bytes := 8) Tryd.underlying105 (by kernel_rfl) (by kernel_rfl) (by decide) (Pkg.opens_int Tryd.underlying2))) ?_
  exact Pkg.opensF_nil
/-- api.Process -/
@[ext] structure D.Process where
  Type_ : Int
  Loc : Int
  Prio : Int
  Frame : (List Int)
deriving DecidableEq
def p_Process : Pkg D.Process := Pkg.via (fun x : D.Process => (x.Type_, x.Loc, x.Prio, x.Frame, ())) (Pkg.cons 1 (Pkg.int .i64) (Pkg.cons 1 (Pkg.int .i64) (Pkg.cons 1 (Pkg.int .i64) (Pkg.cons 1 (Pkg.slice 1 8 (Pkg.int .i64)) Pkg.unit))))
theorem stays_Process : Pkg.Stays p_Process := Pkg.stays_via (Pkg.stays_cons (Pkg.stays_int .i64) (Pkg.stays_cons (Pkg.stays_int .i64) (Pkg.stays_cons (Pkg.stays_int .i64) (Pkg.stays_cons (Pkg.stays_slice (Pkg.stays_int .i64)) Pkg.stays_unit))))
set_option maxRecDepth 100000 in
theorem opens_Process {H : Type} {enc : TypeId × Value → H} {w : World} : Pkg.Opens enc Tryd.prog w 53 p_Process := by
  refine Pkg.opens_struct (N := 4) (g := fun (y : Int × Int × Int × (List Int) × Unit) => (⟨y.1, y.2.1, y.2.2.1, y.2.2.2.1⟩ : D.Process)) Tryd.underlying53 rfl (by kernel_rfl) (fun _ => rfl) ?_
  refine Pkg.opensF_cons rfl (by kernel_rfl) (by decide) (Pkg.opens_int Tryd.underlying3) ?_
  refine Pkg.opensF_cons rfl (by kernel_rfl) (by decide) (Pkg.opens_int Tryd.underlying3) ?_
  refine Pkg.opensF_cons rfl (by kernel_rfl) (by decide) (Pkg.opens_int Tryd.underlying3) ?_
  refine Pkg.opensF_cons rfl (by kernel_rfl) (by decide) (Pkg.opens_slice (size := 1) (bytes := 8) Tryd.underlying22 (by kernel_rfl) (by kernel_rfl) (by decide) (Pkg.opens_int Tryd.underlying2)) ?_
  exact Pkg.opensF_nil
/-- api.State -/
@[ext] structure D.State where
  Globals : (List Int)
  Chans : (List D.Chan)
  Procs : (List D.Process)
  Last : Int
  Alone : Int
  Claim : Int
deriving DecidableEq
def p_State : Pkg D.State := Pkg.via (fun x : D.State => (x.Globals, x.Chans, x.Procs, x.Last, x.Alone, x.Claim, ())) (Pkg.cons 1 (Pkg.slice 1 8 (Pkg.int .i64)) (Pkg.cons 1 (Pkg.slice 2 32 p_Chan) (Pkg.cons 1 (Pkg.slice 4 48 p_Process) (Pkg.cons 1 (Pkg.int .i64) (Pkg.cons 1 (Pkg.int .i64) (Pkg.cons 1 (Pkg.int .i64) Pkg.unit))))))
theorem stays_State : Pkg.Stays p_State := Pkg.stays_via (Pkg.stays_cons (Pkg.stays_slice (Pkg.stays_int .i64)) (Pkg.stays_cons (Pkg.stays_slice stays_Chan) (Pkg.stays_cons (Pkg.stays_slice stays_Process) (Pkg.stays_cons (Pkg.stays_int .i64) (Pkg.stays_cons (Pkg.stays_int .i64) (Pkg.stays_cons (Pkg.stays_int .i64) Pkg.stays_unit))))))
set_option maxRecDepth 100000 in
theorem opens_State {H : Type} {enc : TypeId × Value → H} {w : World} : Pkg.Opens enc Tryd.prog w 36 p_State := by
  refine Pkg.opens_struct (N := 6) (g := fun (y : (List Int) × (List D.Chan) × (List D.Process) × Int × Int × Int × Unit) => (⟨y.1, y.2.1, y.2.2.1, y.2.2.2.1, y.2.2.2.2.1, y.2.2.2.2.2.1⟩ : D.State)) Tryd.underlying36 rfl (by kernel_rfl) (fun _ => rfl) ?_
  refine Pkg.opensF_cons rfl (by kernel_rfl) (by decide) (Pkg.opens_slice (size := 1) (bytes := 8) Tryd.underlying22 (by kernel_rfl) (by kernel_rfl) (by decide) (Pkg.opens_int Tryd.underlying2)) ?_
  refine Pkg.opensF_cons rfl (by kernel_rfl) (by decide) (Pkg.opens_slice (size := 2) (bytes := 32) Tryd.underlying33 (by kernel_rfl) (by kernel_rfl) (by decide) opens_Chan) ?_
  refine Pkg.opensF_cons rfl (by kernel_rfl) (by decide) (Pkg.opens_slice (size := 4) (bytes := 48) Tryd.underlying34 (by kernel_rfl) (by kernel_rfl) (by decide) opens_Process) ?_
  refine Pkg.opensF_cons rfl (by kernel_rfl) (by decide) (Pkg.opens_int Tryd.underlying3) ?_
  refine Pkg.opensF_cons rfl (by kernel_rfl) (by decide) (Pkg.opens_int Tryd.underlying3) ?_
  refine Pkg.opensF_cons rfl (by kernel_rfl) (by decide) (Pkg.opens_int Tryd.underlying3) ?_
  exact Pkg.opensF_nil
/-- api.Env -/
@[ext] structure D.Env where
  M : D.Model
  S : D.State
  Pid : Int
  Timeout : Bool
  Able : (List Bool)
deriving DecidableEq
def p_Env : Pkg D.Env := Pkg.via (fun x : D.Env => (x.M, x.S, x.Pid, x.Timeout, x.Able, ())) (Pkg.cons 7 p_Model (Pkg.cons 6 p_State (Pkg.cons 1 (Pkg.int .i64) (Pkg.cons 1 Pkg.bool (Pkg.cons 1 (Pkg.slice 1 1 Pkg.bool) Pkg.unit)))))
theorem stays_Env : Pkg.Stays p_Env := Pkg.stays_via (Pkg.stays_cons stays_Model (Pkg.stays_cons stays_State (Pkg.stays_cons (Pkg.stays_int .i64) (Pkg.stays_cons Pkg.stays_bool (Pkg.stays_cons (Pkg.stays_slice Pkg.stays_bool) Pkg.stays_unit)))))
set_option maxRecDepth 100000 in
theorem opens_Env {H : Type} {enc : TypeId × Value → H} {w : World} : Pkg.Opens enc Tryd.prog w 39 p_Env := by
  refine Pkg.opens_struct (N := 16) (g := fun (y : D.Model × D.State × Int × Bool × (List Bool) × Unit) => (⟨y.1, y.2.1, y.2.2.1, y.2.2.2.1, y.2.2.2.2.1⟩ : D.Env)) Tryd.underlying39 rfl (by kernel_rfl) (fun _ => rfl) ?_
  refine Pkg.opensF_cons rfl (by kernel_rfl) (by decide) opens_Model ?_
  refine Pkg.opensF_cons rfl (by kernel_rfl) (by decide) opens_State ?_
  refine Pkg.opensF_cons rfl (by kernel_rfl) (by decide) (Pkg.opens_int Tryd.underlying3) ?_
  refine Pkg.opensF_cons rfl (by kernel_rfl) (by decide) (Pkg.opens_bool Tryd.underlying4) ?_
  refine Pkg.opensF_cons rfl (by kernel_rfl) (by decide) (Pkg.opens_slice (size := 1) (bytes := 1) Tryd.underlying37 (by kernel_rfl) (by kernel_rfl) (by decide) (Pkg.opens_bool Tryd.underlying4)) ?_
  exact Pkg.opensF_nil
end Go.Proofs.YthmhbmikcdfkcaaDoor
