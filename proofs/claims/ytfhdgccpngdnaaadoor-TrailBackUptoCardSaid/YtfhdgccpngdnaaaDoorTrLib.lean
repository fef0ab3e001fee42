/-
  What the library's functions hand back, said of trees: numerals, what is parsed, what a text falls into.
-/
import Derived.Test.YtfhdgccpngdnaaaDoorVjB
import Derived.Test.YtfhdgccpngdnaaaDoorVjTab
import Derived.Lib.AppendIntMem
import Derived.Lib.SmallJoins
namespace Go.Proofs.YtfhdgccpngdnaaaDoor
open Go.RowKit

def strV (s : ByteArray) : VV := .sc (.string s)
def intV (n : Int) : VV := .sc (.int .i64 n)
def I64 (n : Int) : Prop := -9223372036854775808 ≤ n ∧ n ≤ 9223372036854775807
/-- A number's numeral. -/
def itoaB (n : Int) : ByteArray := ⟨(Lib.itoa n).toArray⟩
def spB : ByteArray := ⟨#[32]⟩
/-- The pieces of a text. -/
def splitL (s : ByteArray) : List ByteArray := Lib.splitB spB 0 (Lib.countB s spB) s
def rowsS (l : List ByteArray) : Nat → List VV := fun i => [strV (l.getD i default)]
/-- What is parsed, and whether it fails. -/
def parseR (s : ByteArray) : Int × Bool :=
  match Lib.parseIntB 64 s.data.toList with
  | .ok v => (v, false)
  | .range => (Lib.intSat 64 s.data.toList, true)
  | _ => (0, true)

theorem itoa_spec {n : Int} (h : I64 n) : VSpec Tryd.prog 20 [] [intV n] [] (strV (itoaB n)) := by
  refine VSpec.hand ⟨_, Tryd.func20, rfl, by kernel_rfl⟩ fun w E vs hA hL _ _ hs => ?_
  obtain ⟨u1, us1, rfl, v1, hs⟩ := hs.cons_inv
  obtain rfl := hs.nil_inv
  rw [v1.sc_inv]
  refine (Tryd.strconv_Itoa n h.1 h.2 w hL.tab).mono ?_
  rintro e w' ⟨rfl, k, os, rfl⟩
  exact ⟨_, rfl, .sc, Lib.below_grow _ w (Nat.le_refl _) k os⟩
theorem format_spec {n : Int} (h : I64 n) : VSpec Tryd.prog 25 [] [intV n, intV 10] [] (strV (itoaB n)) := by
  refine VSpec.hand ⟨_, Tryd.func25, rfl, by kernel_rfl⟩ fun w E vs hA hL _ _ hs => ?_
  obtain ⟨u1, us1, rfl, v1, hs⟩ := hs.cons_inv
  obtain ⟨u2, us2, rfl, v2, hs⟩ := hs.cons_inv
  obtain rfl := hs.nil_inv
  rw [v1.sc_inv, v2.sc_inv]
  refine (Tryd.strconv_FormatInt_10 n h.1 h.2 w hL.tab).mono ?_
  rintro e w' ⟨rfl, k, os, rfl⟩
  exact ⟨_, rfl, .sc, Lib.below_grow _ w (Nat.le_refl _) k os⟩
theorem parse_spec {s : ByteArray} (h : s.size ≤ 281474976710656) : VSpec Tryd.prog 24 [] [strV s, intV 10, intV 64] [] (.tup [intV (parseR s).1, .er (parseR s).2]) := by
  refine VSpec.hand ⟨_, Tryd.func24, rfl, by kernel_rfl⟩ fun w E vs hA hL _ _ hs => ?_
  obtain ⟨u1, us1, rfl, v1, hs⟩ := hs.cons_inv
  obtain ⟨u2, us2, rfl, v2, hs⟩ := hs.cons_inv
  obtain ⟨u3, us3, rfl, v3, hs⟩ := hs.cons_inv
  obtain rfl := hs.nil_inv
  rw [v1.sc_inv, v2.sc_inv, v3.sc_inv]
  unfold parseR
  split
  · rename_i v hp
    refine (Tryd.strconv_ParseInt_10_at64_ok s (by omega) v hp w).mono ?_
    rintro e w' ⟨rfl, hw⟩
    refine ⟨_, rfl, v_tup2 .sc (.er (.inr ⟨rfl, rfl⟩)), ?_⟩
    rcases hw with rfl | ⟨t, rfl⟩
    · exact Below.refl _ _
    · exact Joins.below_bytesWorld _ w _ t (Nat.le_refl _)
  · rename_i hp
    obtain ⟨tt, p, hc⟩ := hL.ran
    refine (Tryd.strconv_ParseInt_10_at64_range s h hp _ w hc (.inr ⟨tt, p, rfl⟩)).mono ?_
    rintro e w' ⟨N, rfl, _, _, hb⟩
    exact ⟨_, rfl, v_tup2 .sc (.er (.inl ⟨rfl, _, _, rfl⟩)), hb⟩
  · rename_i h1 h2
    obtain ⟨tt, p, hc⟩ := hL.syn
    refine (Tryd.strconv_ParseInt_10_at64_bad s h h1 h2 _ w hc (.inr ⟨tt, p, rfl⟩)).mono ?_
    rintro e w' ⟨N, rfl, _, _, hb⟩
    exact ⟨_, rfl, v_tup2 .sc (.er (.inl ⟨rfl, _, _, rfl⟩)), hb⟩
theorem split_len (s : ByteArray) : (splitL s).length = Lib.countB s spB + 1 := Lib.splitB_all spB (by decide) 0 _ s rfl
theorem split_spec {s : ByteArray} (h : s.size < 4294967281) : VSpec Tryd.prog 23 [] [strV s, strV spB] [] (.sl true (splitL s).length 1 (rowsS (splitL s))) := by
  refine VSpec.hand ⟨_, Tryd.func23, rfl, by kernel_rfl⟩ fun w E vs hA hL _ _ hs => ?_
  obtain ⟨u1, us1, rfl, v1, hs⟩ := hs.cons_inv
  obtain ⟨u2, us2, rfl, v2, hs⟩ := hs.cons_inv
  obtain rfl := hs.nil_inv
  rw [v1.sc_inv, v2.sc_inv]
  obtain ⟨m, hm⟩ := hL.len
  refine (Tryd.strings_Split s spB m w h hm (by decide)).mono ?_
  rintro e w' ⟨rfl, rfl⟩
  have hl := split_len s
  have hc := Lib.countB_le spB (by decide) s.size s (Nat.le_refl _)
  refine ⟨_, rfl, ?_, (Below.refl _ w).alloc (Nat.le_refl _) _⟩
  rw [← hl]
  refine V.sl_mk (Nat.le_refl _) (by unfold maxLen; omega) fun hp => ⟨w.heap.size, 0, rfl, by simp, fun hk => by have := hA _ hk; omega, fun i _ => rfl, fun i _ => .string ((splitL s).getD i default), fun i j x hi hx => ?_, fun i j x hi hx => ?_⟩
  · match j, hx with
    | 0, _ =>
      have e : (w.alloc (.cells ((splitL s).map Value.string).toArray 9)).cell? ⟨w.heap.size, 0 + i * 1 + 0, none⟩ = (((splitL s).map Value.string).toArray)[i]? := by
        simp only [World.cell?, heap_alloc_new, Nat.zero_add, Nat.mul_one, Nat.add_zero]
        rfl
      refine e.trans ?_
      simp [List.getElem?_eq_getElem hi, List.getD]
    | j + 1, hx => simp [rowsS] at hx
  · match j, hx with
    | 0, hx => simp only [rowsS, List.getElem?_cons_zero, Option.some.injEq] at hx; subst hx; exact .sc
    | j + 1, hx => simp [rowsS] at hx
theorem index_spec (s : ByteArray) (c : Int) : VSpec Tryd.prog 15 [] [strV s, .sc (.int .u8 c)] [] (intV (Lib.indexByte s.data.toList c.toNat.toUInt8)) := by
  refine VSpec.hand ⟨_, Tryd.func15, rfl, by kernel_rfl⟩ fun w E vs hA hL _ _ hs => ?_
  obtain ⟨u1, us1, rfl, v1, hs⟩ := hs.cons_inv
  obtain ⟨u2, us2, rfl, v2, hs⟩ := hs.cons_inv
  obtain rfl := hs.nil_inv
  rw [v1.sc_inv, v2.sc_inv]
  refine (Tryd.strings_IndexByte s c w).mono ?_
  rintro e w' ⟨rfl, rfl⟩
  exact ⟨_, rfl, .sc, Below.refl _ _⟩
end Go.Proofs.YtfhdgccpngdnaaaDoor
