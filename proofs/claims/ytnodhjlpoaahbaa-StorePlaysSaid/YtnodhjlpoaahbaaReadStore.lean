/-
  The plain data of the program's types, their readings and how an argument of each is opened. Written by genread.py off the translation's types.
-/
import Derived.Test.YtnodhjlpoaahbaaRead
namespace Go.Proofs.Ytnodhjlpoaahbaa
open Go.RowKit
/-- spinneretlaw18.Act -/
structure D.spinneretlaw18_Act where
  Kind : Int
  N : Int
  Key : ByteArray
  Bits : Int
def mu_spinneretlaw18_Act (x : D.spinneretlaw18_Act) : Nat := (fun _ => 1) x.Kind + (fun _ => 1) x.N + (fun s => s.size + 1) x.Key + (fun _ => 1) x.Bits + 1
def rd_spinneretlaw18_Act : Rd D.spinneretlaw18_Act := fun ok w cs x => (Rd.cons 1 (Rd.int .i64) (Rd.cons 1 (Rd.int .i64) (Rd.cons 1 Rd.str (Rd.cons 1 (Rd.int .u64) Rd.unit)))) ok w cs (x.Kind, x.N, x.Key, x.Bits, ())
theorem stays_spinneretlaw18_Act : Rd.Stays rd_spinneretlaw18_Act := fun ok ok' w w' cs x hs ho h => (Rd.cons_stays (Rd.int_stays .i64) (Rd.cons_stays (Rd.int_stays .i64) (Rd.cons_stays Rd.str_stays (Rd.cons_stays (Rd.int_stays .u64) Rd.unit_stays)))) ok ok' w w' cs (x.Kind, x.N, x.Key, x.Bits, ()) hs ho h
set_option maxRecDepth 100000 in
theorem opens_spinneretlaw18_Act {H : Type} {enc : TypeId × Value → H} {w : World} : Rd.Opens enc Try.prog w 36 rd_spinneretlaw18_Act mu_spinneretlaw18_Act := by
  have h : Rd.Opens enc Try.prog w 36 (Rd.cons 1 (Rd.int .i64) (Rd.cons 1 (Rd.int .i64) (Rd.cons 1 Rd.str (Rd.cons 1 (Rd.int .u64) Rd.unit)))) (fun y => (fun y => (fun _ => 1) y.1 + (fun y => (fun _ => 1) y.1 + (fun y => (fun s => s.size + 1) y.1 + (fun y => (fun _ => 1) y.1 + (fun _ => 0) y.2) y.2) y.2) y.2) y + 1) := by
    refine Rd.opens_struct (N := 4) Try.underlying36 (by kernel_rfl) ?_
    change Rd.OpensF _ _ _ _ (_ :: _ :: _ :: _ :: []) _ _ _
    refine Rd.opensF_cons (N := 4) (o := 0) (n := 1) (R := (Rd.int .i64)) (S := (Rd.cons 1 (Rd.int .i64) (Rd.cons 1 Rd.str (Rd.cons 1 (Rd.int .u64) Rd.unit)))) (μ := (fun _ => 1)) (ν := (fun y => (fun _ => 1) y.1 + (fun y => (fun s => s.size + 1) y.1 + (fun y => (fun _ => 1) y.1 + (fun _ => 0) y.2) y.2) y.2)) rfl (by kernel_rfl) (by decide) (Rd.opens_int Try.underlying3) ?_
    refine Rd.opensF_cons (N := 4) (o := 1) (n := 1) (R := (Rd.int .i64)) (S := (Rd.cons 1 Rd.str (Rd.cons 1 (Rd.int .u64) Rd.unit))) (μ := (fun _ => 1)) (ν := (fun y => (fun s => s.size + 1) y.1 + (fun y => (fun _ => 1) y.1 + (fun _ => 0) y.2) y.2)) rfl (by kernel_rfl) (by decide) (Rd.opens_int Try.underlying3) ?_
    refine Rd.opensF_cons (N := 4) (o := 2) (n := 1) (R := Rd.str) (S := (Rd.cons 1 (Rd.int .u64) Rd.unit)) (μ := (fun s => s.size + 1)) (ν := (fun y => (fun _ => 1) y.1 + (fun _ => 0) y.2)) rfl (by kernel_rfl) (by decide) (Rd.opens_str Try.underlying9) ?_
    refine Rd.opensF_cons (N := 4) (o := 3) (n := 1) (R := (Rd.int .u64)) (S := Rd.unit) (μ := (fun _ => 1)) (ν := (fun _ => 0)) rfl (by kernel_rfl) (by decide) (Rd.opens_int Try.underlying34) ?_
    exact Rd.opensF_nil
  exact Rd.opens_as (fun (y : Int × Int × ByteArray × Int × Unit) => (⟨y.1, y.2.1, y.2.2.1, y.2.2.2.1⟩ : D.spinneretlaw18_Act)) (fun _ _ _ _ h => h) (fun y => by simp only [mu_spinneretlaw18_Act]; omega) h
end Go.Proofs.Ytnodhjlpoaahbaa
