/-
  Plain data as trees: how each kind of data is told, and that memory which says the data says the tree.
-/
import Derived.Test.YtdjjlkekbphbaaaDoorIs
import Derived.Test.YtdjjlkekbphbaaaDoorVjB
namespace Go.Proofs.YtdjjlkekbphbaaaDoor
open Go.RowKit

def intV (n : Int) : VV := .sc (.int .i64 n)
def boolV (b : Bool) : VV := .sc (.bool b)
def strV (s : ByteArray) : VV := .sc (.string s)
/-- Memory that says the data (Is) says the trees; and all numbers of it are ones of their kinds. -/
structure Ev {α : Type} (p : Pkg α) (enc : α → List VV) (wf : α → Prop) : Prop where
  ok : ∀ {w : World} {E : Prot} {m : Option Phi} {cs : List Value} {x : α}, (∀ k, ¬ E.fz k) → p.mu x ≤ 1048576 → Is p w cs x → cs.length = (enc x).length ∧ (∀ (j : Nat) (y : VV), (enc x)[j]? = some y → V w E m y (cs.getD j undef)) ∧ wf x
namespace Ev
def wInt (k : IntKind) (n : Int) : Prop := (Lit.int k n).wf = true
theorem imp {α : Type} {p : Pkg α} {e e' : α → List VV} {wf wf' : α → Prop} (h : Ev p e wf) (he : ∀ x, e x = e' x) (hw : ∀ x, wf x → wf' x) : Ev p e' wf' := ⟨fun {w E m cs x} hE hm k => by
  obtain ⟨h1, h2, h3⟩ := h.ok (E := E) (m := m) hE hm k
  rw [← he x]
  exact ⟨h1, h2, hw x h3⟩⟩
theorem int (k : IntKind) : Ev (Pkg.int k) (fun n => [.sc (.int k n)]) (wInt k) := ⟨fun {w E m cs x} _ _ h => by
  obtain ⟨rfl, hw⟩ := is_int.1 h
  refine ⟨rfl, fun j y hy => ?_, hw⟩
  match j, hy with
  | 0, hy => simp only [List.getElem?_cons_zero, Option.some.injEq] at hy; subst hy; exact .sc
  | j + 1, hy => simp at hy⟩
theorem bool : Ev Pkg.bool (fun b => [.sc (.bool b)]) (fun _ => True) := ⟨fun {w E m cs x} _ _ h => by
  obtain rfl := is_bool.1 h
  refine ⟨rfl, fun j y hy => ?_, trivial⟩
  match j, hy with
  | 0, hy => simp only [List.getElem?_cons_zero, Option.some.injEq] at hy; subst hy; exact .sc
  | j + 1, hy => simp at hy⟩
theorem str : Ev Pkg.str (fun b => [.sc (.string b)]) (fun b => b.size ≤ 1048576) := ⟨fun {w E m cs x} _ hm h => by
  obtain ⟨rfl, hs⟩ := is_str.1 h
  have hm' : x.size + 1 ≤ 1048576 := hm
  refine ⟨rfl, fun j y hy => ?_, by omega⟩
  match j, hy with
  | 0, hy => simp only [List.getElem?_cons_zero, Option.some.injEq] at hy; subst hy; exact .sc
  | j + 1, hy => simp at hy⟩
theorem unit : Ev Pkg.unit (fun _ => []) (fun _ => True) := ⟨fun {w E m cs x} _ _ h => by
  obtain rfl := is_unit.1 h
  exact ⟨rfl, fun j y hy => by simp at hy, trivial⟩⟩
theorem cons {α β : Type} {p : Pkg α} {q : Pkg β} {e1 : α → List VV} {e2 : β → List VV} {w1 : α → Prop} {w2 : β → Prop} {n : Nat} (h1 : Ev p e1 w1) (h2 : Ev q e2 w2) : Ev (Pkg.cons n p q) (fun y => e1 y.1 ++ e2 y.2) (fun y => w1 y.1 ∧ w2 y.2) := ⟨fun {w E m cs x} hE hm h => by
  obtain ⟨a, b, rfl, ha, k1, k2⟩ := is_cons.1 h
  have hm' : p.mu x.1 + q.mu x.2 ≤ 1048576 := hm
  obtain ⟨l1, v1, f1⟩ := h1.ok (E := E) (m := m) hE (by omega) k1
  obtain ⟨l2, v2, f2⟩ := h2.ok (E := E) (m := m) hE (by omega) k2
  refine ⟨by simp [l1, l2], fun j y hy => ?_, f1, f2⟩
  by_cases hj : j < (e1 x.1).length
  · rw [List.getElem?_append_left hj] at hy
    have := v1 j y hy
    rw [List.getD_eq_getElem?_getD, List.getElem?_append_left (by omega), ← List.getD_eq_getElem?_getD]
    exact this
  · rw [List.getElem?_append_right (by omega)] at hy
    have := v2 _ y hy
    rw [List.getD_eq_getElem?_getD, List.getElem?_append_right (by omega), l1, ← List.getD_eq_getElem?_getD]
    exact this⟩
theorem via {α β : Type} {p : Pkg α} {e : α → List VV} {wf : α → Prop} (f : β → α) (h : Ev p e wf) : Ev (Pkg.via f p) (fun y => e (f y)) (fun y => wf (f y)) := ⟨fun {w E m cs x} hE hm k => h.ok hE (by have hm' : p.mu (f x) + 1 ≤ 1048576 := hm; omega) (is_via.1 k)⟩
theorem mem_sum {α : Type} {μ : α → Nat} : ∀ {l : List α} {y : α}, y ∈ l → μ y ≤ Rd.sum μ l
  | x :: l, y, h => by
    rcases List.mem_cons.1 h with rfl | h
    · simp only [Rd.sum]; omega
    · have := mem_sum (μ := μ) h; simp only [Rd.sum]; omega
  | [], _, h => by cases h
theorem len_sum {α : Type} {μ : α → Nat} (h1 : ∀ x, 1 ≤ μ x) : ∀ (l : List α), l.length ≤ Rd.sum μ l
  | [] => by simp
  | x :: l => by have := len_sum h1 l; have := h1 x; simp only [Rd.sum, List.length_cons]; omega
theorem one_sum {α : Type} {μ : α → Nat} : ∀ (l : List α), 1 ≤ Rd.sum μ l
  | [] => by simp [Rd.sum]
  | x :: l => by have := one_sum (μ := μ) l; simp only [Rd.sum]; omega
theorem slice {α : Type} {p : Pkg α} {e : α → List VV} {wf : α → Prop} {size bytes : Nat} (d : α) (h : Ev p e wf) (hl : ∀ x, (e x).length = size) (hp : ∀ x, 1 ≤ p.mu x) : Ev (Pkg.slice size bytes p) (fun l => [.sl true l.length size fun i => e (l.getD i d)]) (fun l => l.length ≤ 1048576 ∧ ∀ y ∈ l, wf y) := ⟨fun {w E m cs x} hE hmu k => by
  have hmu' : Rd.sum p.mu x ≤ 1048576 := hmu
  have hmem : ∀ y ∈ x, p.mu y ≤ 1048576 := fun y hy => Nat.le_trans (mem_sum hy) hmu'
  obtain ⟨v, rfl⟩ : ∃ v, cs = [v] := by
    obtain ⟨ao, cap, e', _⟩ := k
    exact ⟨_, e'⟩
  obtain ⟨ao, cap, rfl, k1, k2, k3⟩ := is_slice k
  refine ⟨rfl, fun j y hy => ?_, Nat.le_trans (len_sum hp x) hmu', fun y hy => ?_⟩
  · match j, hy with
    | 0, hy =>
      simp only [List.getElem?_cons_zero, Option.some.injEq] at hy
      subst hy
      refine V.sl_mk k1 k2 fun hp => ?_
      obtain ⟨b, off, rfl, hb, hel⟩ := k3 hp
      have hat : ∀ i, i < x.length → ∃ es : List Value, es.length = size ∧ (∀ k, k < size → w.cell? ⟨b, off + i * size + k, none⟩ = es[k]?) ∧ Is p w es (x.getD i d) := fun i hi => hel i (x.getD i d) (by simp [List.getD, hi])
      refine ⟨b, off, rfl, hb, hE b, fun i _ => hl _, fun i j => (w.cell? ⟨b, off + i * size + j, none⟩).getD undef, fun i j y hi hy => ?_, fun i j y hi hy => ?_⟩
      · obtain ⟨es, h4, h5, h6⟩ := hat i hi
        have hj : j < size := by rw [← hl (x.getD i d)]; exact (List.getElem?_eq_some_iff.1 hy).1
        show w.cell? ⟨b, off + i * size + j, none⟩ = some ((w.cell? ⟨b, off + i * size + j, none⟩).getD undef)
        have h7 : w.cell? ⟨b, off + i * size + j, none⟩ = some (es[j]'(by omega)) := by rw [h5 j hj, List.getElem?_eq_getElem (by omega)]
        rw [h7]; rfl
      · obtain ⟨es, h4, h5, h6⟩ := hat i hi
        have hj : j < size := by rw [← hl (x.getD i d)]; exact (List.getElem?_eq_some_iff.1 hy).1
        have hi' : x.getD i d ∈ x := by simp [List.getD, hi]
        have := (h.ok (E := E.at true) (m := none) (fun k => hE k) (hmem _ hi') h6).2.1 j y hy
        rw [List.getD_eq_getElem?_getD, ← h5 j hj] at this
        exact this
    | j + 1, hy => simp at hy
  · have hm := hmem y hy
    obtain ⟨i, hi, rfl⟩ := List.mem_iff_getElem.1 hy
    obtain ⟨b, off, e', hb, hel⟩ := k3 (by omega)
    obtain ⟨es, _, _, hx⟩ := hel i x[i] (List.getElem?_eq_getElem hi)
    exact (h.ok (E := E) (m := m) hE hm hx).2.2⟩
/-- A struct's value. -/
theorem agg {α : Type} {p : Pkg α} {e : α → List VV} {wf : α → Prop} (h : Ev p e wf) {w : World} {E : Prot} {m : Option Phi} {cs : Array Value} {x : α} (hE : ∀ k, ¬ E.fz k) (hm : p.mu x ≤ 1048576) (k : Is p w cs.toList x) : V w E m (.agg (e x)) (.agg cs) ∧ wf x := by
  obtain ⟨h1, h2, h3⟩ := h.ok (E := E) (m := m) hE hm k
  refine ⟨.agg (by simpa using h1) fun j y hy => ?_, h3⟩
  have := h2 j y hy
  simpa [Array.getD_eq_getD_getElem?, List.getD_eq_getElem?_getD] using this
/-- A value of one cell. -/
theorem one {α : Type} {p : Pkg α} {e : α → VV} {wf : α → Prop} (h : Ev p (fun x => [e x]) wf) {w : World} {E : Prot} {m : Option Phi} {v : Value} {x : α} (hE : ∀ k, ¬ E.fz k) (hm : p.mu x ≤ 1048576) (k : Is p w [v] x) : V w E m (e x) v ∧ wf x := by
  obtain ⟨h1, h2, h3⟩ := h.ok (E := E) (m := m) hE hm k
  exact ⟨h2 0 (e x) rfl, h3⟩
end Ev
end Go.Proofs.YtdjjlkekbphbaaaDoor
