/-
  A state as text: strings.Builder; the closure that puts numbers.
-/
import Derived.Test.YtdjjlkekbphbaaaDoorStW3
import Derived.Test.YtdjjlkekbphbaaaDoorShelf
import Derived.Shelf.Strings.BuilderK
import Derived.Lib.OthersKept
import Derived.Lib.BufferKept
import Derived.WalkKit
import Derived.Lib.Hide
import Derived.Lib.SliceRun
namespace Go.Proofs.YtdjjlkekbphbaaaDoor
open Go.RowKit

/-! ### The builder -/
abbrev bldT : TypeId := 105
abbrev byteT : TypeId := 5
def BldI (B b : Nat) (s : ByteArray) (w : World) : Prop := Lib.IsBuilderF bldT byteT B b (Lib.byteCells (bs s)) w
theorem bs_append (a s : ByteArray) : bs (a ++ s) = bs a ++ bs s := by simp [bs]
theorem byteCells_bs (a s : ByteArray) : Lib.byteCells (bs a) ++ Lib.strCells s = Lib.byteCells (bs (a ++ s)) := by
  rw [bs_append]
  simp [Lib.byteCells, Lib.strCells, bs]
def commaB : ByteArray := mk [44]
theorem byteCells_comma (a : ByteArray) : Lib.byteCells (bs a) ++ [.int .u8 44] = Lib.byteCells (bs (a ++ commaB)) := by
  rw [bs_append]
  simp [Lib.byteCells, commaB, bs_mk]
theorem write_calls {B b : Nat} {a s : ByteArray} {w : World} (h : BldI B b a w) (hlen : a.size + s.size ≤ 140737488355328) (hB : B ≤ w.heap.size) :
    Calls Tryd.prog 36 #[.pointer (some ⟨b, 0, none⟩), .string s] w fun e w' => e = .returned (.tuple #[.int .i64 s.size, .nilIface]) ∧ BldI B b (a ++ s) w' ∧ Below B w w' ∧ Lib.OthersKept byteT (some b) w w' := by
  refine (Any.Builder_WriteString_k Tryd.lays166 Tryd.Builder_Extra_166 B b (Lib.byteCells (bs a)) s w h (by rw [Lib.byteCells_length, ← size_bs]; exact hlen) hB).mono ?_
  rintro e w' ⟨rfl, h1, h2, h3⟩
  refine ⟨rfl, ?_, h2, h3⟩
  rw [byteCells_bs] at h1
  exact .inr h1
theorem comma_calls {B b : Nat} {a : ByteArray} {w : World} (h : BldI B b a w) (hlen : a.size + 1 ≤ 140737488355328) (hB : B ≤ w.heap.size) :
    Calls Tryd.prog 40 #[.pointer (some ⟨b, 0, none⟩), .int .u8 44] w fun e w' => e = .returned .nilIface ∧ BldI B b (a ++ commaB) w' ∧ Below B w w' ∧ Lib.OthersKept byteT (some b) w w' := by
  refine (Any.Builder_WriteByte_k Tryd.lays167 Tryd.Builder_Extra_167 B b (Lib.byteCells (bs a)) 44 w h (by rw [Lib.byteCells_length, ← size_bs]; exact hlen) hB).mono ?_
  rintro e w' ⟨rfl, h1, h2, h3⟩
  refine ⟨rfl, ?_, h2, h3⟩
  rw [byteCells_comma] at h1
  exact .inr h1
theorem string_calls {B b : Nat} {a : ByteArray} {w : World} (h : BldI B b a w) (hB : B ≤ w.heap.size) :
    Calls Tryd.prog 44 #[.pointer (some ⟨b, 0, none⟩)] w fun e w' => e = .returned (.string a) ∧ Below B w w' := by
  refine (Tryd.Builder_String_any_k B b (bs a) w h hB).mono ?_
  rintro e w' ⟨rfl, _, h2, _⟩
  refine ⟨?_, h2⟩
  show Ending.returned (.string (mk (bs a))) = _
  rw [mk_bs]
theorem BldI.below {B b : Nat} {a : ByteArray} {w w' : World} (h : BldI B b a w) (hb : Below w.heap.size w w') : BldI B b a w' := by
  have key : ∀ p, Lib.BuilderAtF bldT byteT B b p (Lib.byteCells (bs a)) w → Lib.BuilderAtF bldT byteT B b p (Lib.byteCells (bs a)) w' := by
    intro p h
    have hlt := h.lt
    obtain ⟨hB, v, hbk, hown, hne⟩ := h
    exact ⟨hB, v, (hb.block _ hlt).trans hbk, hown.kept (row := none) ⟨hb.os, hb.tape, hb.output, hb.size, fun k hk _ => hb.block k hk⟩ (by cases hv : v.ownBlock <;> simp), hne⟩
  rcases h with h | h
  · exact .inl (key _ h)
  · exact .inr (key _ h)
theorem BldI.start (w : World) : BldI w.heap.size w.heap.size ⟨#[]⟩ (w.alloc (.cells #[.pointer none, .slice none 0 0] bldT)) := Lib.IsBuilderF.of (Lib.fresh_isBuilder bldT byteT w)
theorem LibAt.below {B : Nat} {w w' : World} (h : LibAt w) (hB : ∀ k, k ∈ libB → k < B) (hb : Below B w w') : LibAt w' := h.congr fun k hk => hb.block k (hB k hk)
theorem rowB_append (a b : List Int) : rowB (a ++ b) = rowB a ++ rowB b := by simp [rowB]
theorem rowB_len {l : List Int} (h : ∀ n ∈ l, I64 n) : (rowB l).length ≤ 22 * l.length := by
  induction l with
  | nil => simp [rowB]
  | cons n l ih =>
    have h1 := ih fun x hx => h x (List.mem_cons_of_mem _ hx)
    have h2 := Lib.itoa_length_le n (h n (List.mem_cons_self ..)).1 (h n (List.mem_cons_self ..)).2
    show (Lib.itoa n ++ [44] ++ rowB l).length ≤ _
    simp only [List.length_append, List.length_cons, List.length_nil]
    omega
theorem mk_append (a b : By) : mk a ++ mk b = mk (a ++ b) := by
  have : bs (mk a ++ mk b) = bs (mk (a ++ b)) := by rw [bs_append, bs_mk, bs_mk, bs_mk]
  rw [← mk_bs (mk a ++ mk b), this, mk_bs]
theorem app_nil (a : ByteArray) : a ++ mk [] = a := by
  have : bs (a ++ mk []) = bs a := by rw [bs_append, bs_mk, List.append_nil]
  rw [← mk_bs (a ++ mk []), this, mk_bs]
theorem ba_assoc (a b c : ByteArray) : a ++ b ++ c = a ++ (b ++ c) := ByteArray.append_assoc
theorem row_succ {a : ByteArray} {l : List Int} {k : Nat} (hk : k < l.length) : a ++ mk (rowB (l.take k)) ++ itoaB (l.getD k 0) ++ commaB = a ++ mk (rowB (l.take (k + 1))) := by
  rw [take_push (d := 0) hk, rowB_append, ← mk_append]
  have : mk (rowB [l.getD k 0]) = itoaB (l.getD k 0) ++ commaB := by
    unfold itoaB commaB
    rw [mk_append]; simp [rowB]
  rw [this, ba_assoc, ba_assoc]
set_option maxRecDepth 100000 in
set_option maxHeartbeats 1000000 in
theorem put_calls {B b : Nat} {a : ByteArray} {w : World} {l : List Int} {ao : Option Addr} {cap : Nat} (hL : LibAt w) (hlB : ∀ k, k ∈ libB → k < B) (h : BldI B b a w) (hB : B ≤ w.heap.size) (hI : ∀ n ∈ l, I64 n) (hsz : a.size + 22 * l.length ≤ 70368744177664)
    (hc : ∀ w', Below B w w' → Lib.OthersKept byteT (some b) w w' → 0 < l.length → ∃ bb off, ao = some ⟨bb, off, none⟩ ∧ ∀ i, i < l.length → w'.cell? ⟨bb, off + i, none⟩ = some (.int .i64 (l.getD i 0))) :
    Calls Tryd.prog 56 #[.slice ao l.length cap, .pointer (some ⟨b, 0, none⟩)] w fun e w' => (∃ v, e = .returned v) ∧ BldI B b (a ++ mk (rowB l)) w' ∧ Below B w w' ∧ Lib.OthersKept byteT (some b) w w' := by
  go_enter Tryd.func56, Tryd.ntmps56
  go_wp2_with fail
  go_loopw [7] (fun i wr => ∃ k : Nat, k ≤ l.length ∧ i = .int .i64 k ∧ BldI B b (a ++ mk (rowB (l.take k))) wr ∧ Below B w wr ∧ Lib.OthersKept byteT (some b) w wr) (fun i _ => l.length - (intOf i).toNat)
  case atStart => exact ⟨0, Nat.zero_le _, rfl, by rw [show rowB (l.take 0) = [] from rfl, app_nil]; exact h, Below.refl _ _, Lib.OthersKept.refl _ _ _⟩
  case round =>
    clear h
    obtain ⟨k, hk, rfl, hbd, hbw, hkp⟩ := hrel
    have hrl := rowB_len (l := l.take k) (fun n hn => hI n (List.mem_of_mem_take hn))
    by_cases hlt : k < l.length
    · obtain ⟨bb, off, rfl, hcell⟩ := hc wr hbw hkp (by omega)
      have hn := hI _ (getD_mem (d := 0) hlt)
      have hsuc := row_succ (a := a) hlt
      have c1 := hcell k hlt
      clear hcell hc
      generalize l.getD k 0 = n at hn hsuc c1
      go_wp2_with fail
      have hL1 := hL.below hlB hbw
      refine (Tryd.strconv_FormatInt_10 n hn.1 hn.2 wr hL1.tab).mono ?_
      rintro e w1 ⟨rfl, k1, os, hw1⟩
      have hb1 : Below wr.heap.size wr w1 := by rw [hw1]; exact Lib.below_grow _ wr (Nat.le_refl _) k1 os
      have i1 := hbd.below hb1
      have i2 := hbw.trans (hb1.mono (Nat.le_trans hB hbw.size))
      have i3 := hkp.below hb1
      clear hbd hbw hkp hw1 hb1 c1 hL1
      have hz := size_itoa hn
      have hlk : (l.take k).length = k := by simp; omega
      go_wp2_with fail
      refine (write_calls (s := itoaB n) i1 (by rw [ByteArray.size_append, size_mk]; omega) (Nat.le_trans hB i2.size)).mono ?_
      rintro e w2 ⟨rfl, j1, j2, j3⟩
      have i2' := i2.trans j2
      have i3' := i3.trans j3
      clear i1 i2 i3 j2 j3
      go_wp2_with fail
      refine (comma_calls j1 (by rw [ByteArray.size_append, ByteArray.size_append, size_mk]; omega) (Nat.le_trans hB i2'.size)).mono ?_
      rintro e w3 ⟨rfl, m1, m2, m3⟩
      rw [hsuc] at m1
      have i2'' := i2'.trans m2
      have i3'' := i3'.trans m3
      clear i2' i3' m2 m3 j1
      go_wp2
      go_roundw
      case rel => exact ⟨k + 1, by omega, by go_num, m1, i2'', i3''⟩
      case measure => simp [intOf]; omega
    · obtain rfl : k = l.length := by omega
      rw [List.take_length] at hbd
      clear hc
      go_wp2
      go_end0
      exact ⟨⟨_, rfl⟩, hbd, hbw, hkp⟩
end Go.Proofs.YtdjjlkekbphbaaaDoor
