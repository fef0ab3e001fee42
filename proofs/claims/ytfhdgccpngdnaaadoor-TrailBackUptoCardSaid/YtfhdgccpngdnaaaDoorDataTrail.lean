/-
  The plain data of the program's types, their bundles and how an argument of each is opened. Written by genpkg.py off the translation's types.
-/
import Derived.Test.YtfhdgccpngdnaaaDoorIs
namespace Go.Proofs.YtfhdgccpngdnaaaDoor
open Go.RowKit
/-- api.Move -/
@[ext] structure D.Move where
  Pid : Int
  Esc : Int
  Way : Int
  With : Int
  WithEsc : Int
  WithWay : Int
  Claim : Int
deriving DecidableEq
def p_Move : Pkg D.Move := Pkg.via (fun x : D.Move => (x.Pid, x.Esc, x.Way, x.With, x.WithEsc, x.WithWay, x.Claim, ())) (Pkg.cons 1 (Pkg.int .i64) (Pkg.cons 1 (Pkg.int .i64) (Pkg.cons 1 (Pkg.int .i64) (Pkg.cons 1 (Pkg.int .i64) (Pkg.cons 1 (Pkg.int .i64) (Pkg.cons 1 (Pkg.int .i64) (Pkg.cons 1 (Pkg.int .i64) Pkg.unit)))))))
theorem stays_Move : Pkg.Stays p_Move := Pkg.stays_via (Pkg.stays_cons (Pkg.stays_int .i64) (Pkg.stays_cons (Pkg.stays_int .i64) (Pkg.stays_cons (Pkg.stays_int .i64) (Pkg.stays_cons (Pkg.stays_int .i64) (Pkg.stays_cons (Pkg.stays_int .i64) (Pkg.stays_cons (Pkg.stays_int .i64) (Pkg.stays_cons (Pkg.stays_int .i64) Pkg.stays_unit)))))))
set_option maxRecDepth 100000 in
theorem opens_Move {H : Type} {enc : TypeId × Value → H} {w : World} : Pkg.Opens enc Tryd.prog w 47 p_Move := by
  refine Pkg.opens_struct (N := 7) (g := fun (y : Int × Int × Int × Int × Int × Int × Int × Unit) => (⟨y.1, y.2.1, y.2.2.1, y.2.2.2.1, y.2.2.2.2.1, y.2.2.2.2.2.1, y.2.2.2.2.2.2.1⟩ : D.Move)) Tryd.underlying47 rfl (by kernel_rfl) (fun _ => rfl) ?_
  refine Pkg.opensF_cons rfl (by kernel_rfl) (by decide) (Pkg.opens_int Tryd.underlying3) ?_
  refine Pkg.opensF_cons rfl (by kernel_rfl) (by decide) (Pkg.opens_int Tryd.underlying3) ?_
  refine Pkg.opensF_cons rfl (by kernel_rfl) (by decide) (Pkg.opens_int Tryd.underlying3) ?_
  refine Pkg.opensF_cons rfl (by kernel_rfl) (by decide) (Pkg.opens_int Tryd.underlying3) ?_
  refine Pkg.opensF_cons rfl (by kernel_rfl) (by decide) (Pkg.opens_int Tryd.underlying3) ?_
  refine Pkg.opensF_cons rfl (by kernel_rfl) (by decide) (Pkg.opens_int Tryd.underlying3) ?_
  refine Pkg.opensF_cons rfl (by kernel_rfl) (by decide) (Pkg.opens_int Tryd.underlying3) ?_
  exact Pkg.opensF_nil
/-- api.Found -/
@[ext] structure D.Found where
  Kind : Int
  What : Int
  Err : Int
  At : Int
  Trail : (List D.Move)
  Cycle : Int
  States : Int
  Steps : Int
deriving DecidableEq
def p_Found : Pkg D.Found := Pkg.via (fun x : D.Found => (x.Kind, x.What, x.Err, x.At, x.Trail, x.Cycle, x.States, x.Steps, ())) (Pkg.cons 1 (Pkg.int .i64) (Pkg.cons 1 (Pkg.int .i64) (Pkg.cons 1 (Pkg.int .i64) (Pkg.cons 1 (Pkg.int .i64) (Pkg.cons 1 (Pkg.slice 7 56 p_Move) (Pkg.cons 1 (Pkg.int .i64) (Pkg.cons 1 (Pkg.int .i64) (Pkg.cons 1 (Pkg.int .i64) Pkg.unit))))))))
theorem stays_Found : Pkg.Stays p_Found := Pkg.stays_via (Pkg.stays_cons (Pkg.stays_int .i64) (Pkg.stays_cons (Pkg.stays_int .i64) (Pkg.stays_cons (Pkg.stays_int .i64) (Pkg.stays_cons (Pkg.stays_int .i64) (Pkg.stays_cons (Pkg.stays_slice stays_Move) (Pkg.stays_cons (Pkg.stays_int .i64) (Pkg.stays_cons (Pkg.stays_int .i64) (Pkg.stays_cons (Pkg.stays_int .i64) Pkg.stays_unit))))))))
set_option maxRecDepth 100000 in
theorem opens_Found {H : Type} {enc : TypeId × Value → H} {w : World} : Pkg.Opens enc Tryd.prog w 25 p_Found := by
  refine Pkg.opens_struct (N := 8) (g := fun (y : Int × Int × Int × Int × (List D.Move) × Int × Int × Int × Unit) => (⟨y.1, y.2.1, y.2.2.1, y.2.2.2.1, y.2.2.2.2.1, y.2.2.2.2.2.1, y.2.2.2.2.2.2.1, y.2.2.2.2.2.2.2.1⟩ : D.Found)) Tryd.underlying25 rfl (by kernel_rfl) (fun _ => rfl) ?_
  refine Pkg.opensF_cons rfl (by kernel_rfl) (by decide) (Pkg.opens_int Tryd.underlying3) ?_
  refine Pkg.opensF_cons rfl (by kernel_rfl) (by decide) (Pkg.opens_int Tryd.underlying3) ?_
  refine Pkg.opensF_cons rfl (by kernel_rfl) (by decide) (Pkg.opens_int Tryd.underlying22) ?_
  refine Pkg.opensF_cons rfl (by kernel_rfl) (by decide) (Pkg.opens_int Tryd.underlying3) ?_
  refine Pkg.opensF_cons rfl (by kernel_rfl) (by decide) (Pkg.opens_slice (size := 7) (bytes := 56) Tryd.underlying23 (by kernel_rfl) (by kernel_rfl) (by decide) opens_Move) ?_
  refine Pkg.opensF_cons rfl (by kernel_rfl) (by decide) (Pkg.opens_int Tryd.underlying3) ?_
  refine Pkg.opensF_cons rfl (by kernel_rfl) (by decide) (Pkg.opens_int Tryd.underlying3) ?_
  refine Pkg.opensF_cons rfl (by kernel_rfl) (by decide) (Pkg.opens_int Tryd.underlying3) ?_
  exact Pkg.opensF_nil
end Go.Proofs.YtfhdgccpngdnaaaDoor
