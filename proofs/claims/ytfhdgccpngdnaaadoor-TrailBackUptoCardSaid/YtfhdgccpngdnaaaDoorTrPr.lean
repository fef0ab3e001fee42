/-
  A search's end, printed by the program: strings.Builder.
-/
import Derived.Test.YtfhdgccpngdnaaaDoorTrQ3
import Derived.Test.YtfhdgccpngdnaaaDoorShelf
import Derived.Shelf.Strings.BuilderK
import Derived.WalkKit
import Derived.Lib.Hide
namespace Go.Proofs.YtfhdgccpngdnaaaDoor
open Go.RowKit

/-! ### The builder -/
abbrev bldT : TypeId := 40
abbrev byteT : TypeId := 5
def BldI (B b : Nat) (s : ByteArray) (w : World) : Prop := Lib.IsBuilderF bldT byteT B b (Lib.byteCells (bs s)) w
theorem byteCells_bs (a s : ByteArray) : Lib.byteCells (bs a) ++ Lib.strCells s = Lib.byteCells (bs (a ++ s)) := by
  rw [bs_append]
  simp [Lib.byteCells, Lib.strCells, bs]
theorem write_calls {B b : Nat} {a s : ByteArray} {w : World} (h : BldI B b a w) (hlen : a.size + s.size ≤ 140737488355328) (hB : B ≤ w.heap.size) :
    Calls Tryd.prog 11 #[.pointer (some ⟨b, 0, none⟩), .string s] w fun e w' => e = .returned (.tuple #[.int .i64 s.size, .nilIface]) ∧ BldI B b (a ++ s) w' ∧ Below B w w' ∧ Lib.OthersKept byteT (some b) w w' := by
  refine (Any.Builder_WriteString_k Tryd.lays166 Tryd.Builder_Extra_166 B b (Lib.byteCells (bs a)) s w h (by rw [Lib.byteCells_length, ← size_bs]; exact hlen) hB).mono ?_
  rintro e w' ⟨rfl, h1, h2, h3⟩
  refine ⟨rfl, ?_, h2, h3⟩
  rw [byteCells_bs] at h1
  exact .inr h1
theorem string_calls {B b : Nat} {a : ByteArray} {w : World} (h : BldI B b a w) (hB : B ≤ w.heap.size) :
    Calls Tryd.prog 13 #[.pointer (some ⟨b, 0, none⟩)] w fun e w' => e = .returned (.string a) ∧ Below B w w' := by
  refine (Tryd.Builder_String_any_k B b (bs a) w h hB).mono ?_
  rintro e w' ⟨rfl, _, h2, _⟩
  refine ⟨?_, h2⟩
  show Ending.returned (.string (mk (bs a))) = _
  rw [mk_bs]
theorem BldI.below {B b : Nat} {a : ByteArray} {w w' : World} (h : BldI B b a w) (hb : Below w.heap.size w w') : BldI B b a w' := by
  have key : ∀ p, Lib.BuilderAtF bldT byteT B b p (Lib.byteCells (bs a)) w → Lib.BuilderAtF bldT byteT B b p (Lib.byteCells (bs a)) w' := by
    intro p h
    have hlt := h.lt
    obtain ⟨hB, v, hbk, hown, hne⟩ := h
    exact ⟨hB, v, (hb.block _ hlt).trans hbk, hown.kept (row := none) ⟨hb.os, hb.tape, hb.output, hb.size, fun k hk _ => hb.block k hk⟩ (by cases hv : v.ownBlock <;> simp), hne⟩
  rcases h with h | h
  · exact .inl (key _ h)
  · exact .inr (key _ h)
theorem BldI.alloc {B b : Nat} {a : ByteArray} {w : World} (h : BldI B b a w) (o : Obj) : BldI B b a (w.alloc o) := Lib.IsBuilderF.alloc h o
theorem BldI.drawN {B b : Nat} {a : ByteArray} {w : World} (h : BldI B b a w) (n : Nat) : BldI B b a (w.drewN n) := h
theorem BldI.start (w : World) : BldI w.heap.size w.heap.size ⟨#[]⟩ (w.alloc (.cells #[.pointer none, .slice none 0 0] bldT)) := Lib.IsBuilderF.of (Lib.fresh_isBuilder bldT byteT w)
/-- The cells of an end. -/
theorem fd_inv {w : World} {E : Prot} {m : Option Phi} {f : D.Found} {v : Value} (h : V w E m (.agg (encFd f)) v) : ∃ tr, v = .agg #[.int .i64 f.Kind, .int .i64 f.What, .int .i64 f.Err, .int .i64 f.At, tr, .int .i64 f.Cycle, .int .i64 f.States, .int .i64 f.Steps] ∧ V w E m (encTr f.Trail) tr := by
  obtain ⟨vs, rfl, h1, h2⟩ := h.agg_inv
  obtain ⟨l⟩ := vs
  match l, h1, h2 with
  | [a, b, c, d, e, f, g, i], _, h2 =>
    have e0 := (h2 0 _ rfl).sc_inv
    have e1 := (h2 1 _ rfl).sc_inv
    have e2 := (h2 2 _ rfl).sc_inv
    have e3 := (h2 3 _ rfl).sc_inv
    have e5 := (h2 5 _ rfl).sc_inv
    have e6 := (h2 6 _ rfl).sc_inv
    have e7 := (h2 7 _ rfl).sc_inv
    simp only [Array.getD_eq_getD_getElem?] at e0 e1 e2 e3 e5 e6 e7
    refine ⟨e, ?_, h2 4 _ rfl⟩
    simp at e0 e1 e2 e3 e5 e6 e7
    rw [e0, e1, e2, e3, e5, e6, e7]
/-- The moves, where they lie. -/
theorem tr_inv {w : World} {E : Prot} {m : Option Phi} {l : List D.Move} {v : Value} (h : V w E m (encTr l) v) : ∃ a cap, v = .slice a l.length cap ∧ l.length ≤ cap ∧ cap ≤ maxLen ∧ (0 < l.length → ∃ b off, a = some ⟨b, off, none⟩ ∧ b < w.heap.size ∧ ∀ i, i < l.length → ∀ j x, ((mvL (l.getD i default)).map (Value.int .i64))[j]? = some x → w.cell? ⟨b, off + i * 7 + j, none⟩ = some x) := by
  obtain ⟨a, cap, rfl, h1, h2, h3⟩ := h.sl_inv
  refine ⟨a, cap, rfl, h1, h2, fun hp => ?_⟩
  obtain ⟨b, off, rfl, h4, h5, h6, u, h7, h8⟩ := h3 hp
  refine ⟨b, off, rfl, h4, fun i hi j x hx => ?_⟩
  have e : encMv (l.getD i default) = (mvL (l.getD i default)).map intV := rfl
  rw [List.getElem?_map] at hx
  obtain ⟨n, hn, rfl⟩ := Option.map_eq_some_iff.1 hx
  have hx' : (encMv (l.getD i default))[j]? = some (intV n) := by rw [e, List.getElem?_map, hn]; rfl
  rw [h7 i j _ hi hx', (h8 i j _ hi hx').sc_inv]
/-- The program's line. -/
theorem line_calls {w : World} {word : ByteArray} {l : List Int} (hL : LibAt w) (hB : ∀ k, k ∈ libB → k < w.heap.size) (h : LineOk word l) {b n : Nat} (hb : w.heap[b]? = some (.cells (l.map (Value.int .i64)).toArray 3 (0, 0))) (hn : n = l.length) :
    Calls Tryd.prog 12 #[.string word, .slice (some ⟨b, 0, none⟩) n n] w fun e w' => e = .returned (.string (lineB word l)) ∧ Below w.heap.size w w' := by
  subst hn
  have hlt := (Array.getElem?_eq_some_iff.1 hb).1
  refine ((line_spec h).start hL hB ?_).mono ?_
  · refine ⟨rfl, fun j x hx => ?_⟩
    match j, hx with
    | 0, hx => simp only [List.getElem?_cons_zero, Option.some.injEq] at hx; subst hx; exact .sc
    | 1, hx =>
      simp only [List.getElem?_cons_succ, List.getElem?_cons_zero, Option.some.injEq] at hx; subst hx
      have hlen := h.len
      refine V.sl_mk (Nat.le_refl _) (by unfold maxLen; omega) fun hp => ⟨b, 0, rfl, hlt, fun hk => hk, fun i _ => rfl, fun i _ => .int .i64 (l.getD i 0), fun i j x hi hx => ?_, fun i j x hi hx => ?_⟩
      · match j, hx with
        | 0, hx =>
          simp only [World.cell?, hb]
          simp [List.getElem?_eq_getElem hi, List.getD]
        | j + 1, hx => simp at hx
      · match j, hx with
        | 0, hx => simp only [List.getElem?_cons_zero, Option.some.injEq] at hx; subst hx; exact .sc
        | j + 1, hx => simp at hx
    | j + 2, hx => simp at hx
  · rintro e w' ⟨v, rfl, h1, h2⟩
    exact ⟨by rw [h2.sc_inv], h1⟩
end Go.Proofs.YtfhdgccpngdnaaaDoor
