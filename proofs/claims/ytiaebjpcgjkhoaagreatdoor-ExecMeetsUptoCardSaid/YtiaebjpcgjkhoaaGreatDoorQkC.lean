/-
  Texts, joined: GdH, GdL, GdW1, GdW2, GdW3, GdW4, GdW5, GdW6, CkP, CkS, CkA, CkH, CkW, Touch, StClone, ExS, CoP, CoV, CellRet, Scope.
-/
import Derived.Test.YtiaebjpcgjkhoaaGreatDoorQkB
import Derived.KernelRfl
import Derived.WalkKit
import Derived.OneCell
import Derived.Deep.QuietTactic
import Derived.BigRegion
import Derived.Deep.RegionLaw
import Derived.Deep.AppendLies
import Derived.Lib.SliceRun
import Derived.Lib.Hide
import Derived.Laws.Rows
namespace Go.Proofs.YtiaebjpcgjkhoaaGreatDoor
open Go.RowKit
set_option maxRecDepth 100000
theorem Z6 (b : Bool) (t : D.Type) : (Ag Tryz.prog tb Ba Bd true Tryz.f93 [] (Ai b)).goal (St.init [] [.agg (AR t)]) =
    (leO [] [] ∧ (Ai (bif bif decide (t.Bits ≥ (1 : Int)) then decide (t.Bits ≤ (32 : Int)) else false then bif bif !t.Signed then true else t.Bits == 16 then true else t.Bits == 32 else false)).le (Ai b)) := by kernel_rfl
theorem Y7 (b : Bool) (t : D.Type) (v : Int) : (Ag Tryz.prog tb Ba Bd true Tryz.f107 [] (Ai b)).goal (St.init [] [.agg (AR t), Ad v]) =
    (∃ (y : Bool), Ae Tryz.prog 93 [] [VV.agg (AR t)] [] (Ai y) ∧ ((!y) = true → leO [] [] ∧ (Ai false).le (Ai b)) ∧ ((!y) = false → (t.Signed = true → (0 : Int) ≤ IntKind.i64.wrap (t.Bits - (1 : Int)) ∧ ((true && decide (v ≥ IntKind.i64.wrap ((-1 : Int) * (2 : Int) ^ min (IntKind.i64.wrap (t.Bits - (1 : Int))).toNat IntKind.i64.bits)) == true) = true → (0 : Int) ≤ IntKind.i64.wrap (t.Bits - (1 : Int))) ∧ leO [] [] ∧ (Ai (bif decide (v ≥ IntKind.i64.wrap ((-1 : Int) * (2 : Int) ^ min (IntKind.i64.wrap (t.Bits - (1 : Int))).toNat IntKind.i64.bits)) then decide (v < IntKind.i64.wrap ((1 : Int) * (2 : Int) ^ min (IntKind.i64.wrap (t.Bits - (1 : Int))).toNat IntKind.i64.bits)) else false)).le (Ai b)) ∧ (t.Signed = false → ((true && decide (v ≥ (0 : Int)) == true) = true → (0 : Int) ≤ t.Bits) ∧ leO [] [] ∧ (Ai (bif decide (v ≥ (0 : Int)) then decide (v < IntKind.i64.wrap ((1 : Int) * (2 : Int) ^ min t.Bits.toNat IntKind.i64.bits)) else false)).le (Ai b)))) := by kernel_rfl
theorem Ww (r : Int) (v : D.Var) : (Ag Tryz.prog tb Ba Ke true Tryz.f146 [] (Ad r)).goal (St.init [] [.agg (A4 v)]) =
    (((bif bif decide (v.Slot < (0 : Int)) then true else decide (v.Slot > (1073741824 : Int)) then true else decide ((↑v.Dims.length : Int) > (4 : Int))) = true → leO [] [] ∧ (Ad (0 : Int)).le (Ad r)) ∧ ((bif bif decide (v.Slot < (0 : Int)) then true else decide (v.Slot > (1073741824 : Int)) then true else decide ((↑v.Dims.length : Int) > (4 : Int))) = false → AH (Ag Tryz.prog tb Ba Ke true Tryz.f146 [] (Ad r)) [1, 1, 1, 0, 1, 0] (Ao [(3, Ad (IntKind.i64.wrap (v.Slot + (1 : Int)))), (24, Bw true v.Dims), (25, Ad (↑v.Dims.length : Int)), (26, Ad (0 : Int))] []))) := by kernel_rfl
theorem VE (r : Int) (t : List D.Type) (init : List Int) : (Ag Tryz.prog tb Ba J8 true Tryz.f130 [] (Ad r)).goal (St.init [] [Aj true t, Aa true init]) =
    (AH (Ag Tryz.prog tb Ba J8 true Tryz.f130 [] (Ad r)) [1, 0, 1, 0] (Ao [(0, Aj true t), (1, Aa true init), (7, Ad (↑t.length : Int)), (8, Ad (0 : Int))] [])) := by kernel_rfl
theorem VZ (b : Bool) (s : D.Shape) : (Ag Tryz.prog tb Ba Kb true Tryz.f131 [] (Ai b)).goal (St.init [] [.agg (Bq s)]) =
    (((bif bif bif decide (s.Room < (0 : Int)) then true else decide (s.Room > (16 : Int)) then true else decide ((↑s.Fields.length : Int) < (1 : Int)) then true else decide ((↑s.Fields.length : Int) > (8 : Int))) = true → leO [] [] ∧ (Ai false).le (Ai b)) ∧ ((bif bif bif decide (s.Room < (0 : Int)) then true else decide (s.Room > (16 : Int)) then true else decide ((↑s.Fields.length : Int) < (1 : Int)) then true else decide ((↑s.Fields.length : Int) > (8 : Int))) = false → AH (Ag Tryz.prog tb Ba Kb true Tryz.f131 [] (Ai b)) [1, 1, 0, 1, 0] (Ao [(26, Aj true s.Fields), (27, Ad (↑s.Fields.length : Int)), (28, Ad (0 : Int))] []))) := by kernel_rfl
theorem S0 (b : Bool) (m : D.Model) (n : Int) : (Ag Tryz.prog tb Ba Bd true Tryz.f161 [] (Ai b)).goal (St.init [] [tpM m, Ad n]) =
    (leO [] [] ∧ (Ai (bif bif decide (n ≥ (0 : Int)) then decide (n < (↑m.Procs.length : Int)) else false then n != m.Claim else false)).le (Ai b)) := by kernel_rfl
theorem Xt (b : Bool) (a : Int) (l : List Int) : (Ag Tryz.prog tb Ba Kg true Tryz.f157 [] (Ai b)).goal (St.init [] [Ad a, Aa false l]) =
    (AH (Ag Tryz.prog tb Ba Kg true Tryz.f157 [] (Ai b)) [1, 0, 1, 0] (Ao [(0, Ad a), (7, Aa false l), (8, Ad (↑l.length : Int)), (9, Ad (0 : Int))] [])) := by kernel_rfl
theorem TL (b : Bool) (a : Int) (l : List Int) : (Ag Tryz.prog tb Ba IU true Tryz.f157 [] (Ai b)).goal (St.init [] [Ad a, Aa true l]) =
    (AH (Ag Tryz.prog tb Ba IU true Tryz.f157 [] (Ai b)) [1, 0, 1, 0] (Ao [(0, Ad a), (7, Aa true l), (8, Ad (↑l.length : Int)), (9, Ad (0 : Int))] [])) := by kernel_rfl
theorem XU (b : Bool) (m : D.Model) (a : Int) (v : D.Var) : (Ag Tryz.prog tb Ba Hk true Tryz.f158 [] (Ai b)).goal (St.init [] [tpM m, Ad a, .agg (A4 v)]) =
    (((bif bif bif bif decide (v.Scope < (0 : Int)) then true else decide (v.Scope > (2 : Int)) then true else decide (v.Slot < (0 : Int)) then true else decide (v.Slot > (128 : Int)) then true else decide ((↑v.Dims.length : Int) > (4 : Int))) = true → leO [] [] ∧ (Ai false).le (Ai b)) ∧ ((bif bif bif bif decide (v.Scope < (0 : Int)) then true else decide (v.Scope > (2 : Int)) then true else decide (v.Slot < (0 : Int)) then true else decide (v.Slot > (128 : Int)) then true else decide ((↑v.Dims.length : Int) > (4 : Int))) = false → ((v.Scope == 2) = true → ∃ (y : Bool), Ae Tryz.prog 157 [] [Ad a, VV.sl false 1 1 fun (i : Nat) => List.take 1 (List.drop (i * 1) [Ad v.Who])] [] (Ai y) ∧ ∃ (y_1 : Bool), ((true && (!y) == false) = true → Ae Tryz.prog 161 [] [VV.tp (Ac m), Ad v.Type_] [] (Ai y_1)) ∧ ((bif !y then true else !y_1) = true → leO [] [] ∧ (Ai false).le (Ai b)) ∧ ((bif !y then true else !y_1) = false → AH (Ag Tryz.prog tb Ba Hk true Tryz.f158 [] (Ai b)) [1, 1, 1, 0, 1, 0] (Ao [(1, Ad a), (58, Bw true v.Dims), (59, Ad (↑v.Dims.length : Int)), (60, Ad (0 : Int))] []))) ∧ ((v.Scope == 2) = false → ((bif v.Who != (-1 : Int) then true else v.Type_ != (-1 : Int)) = true → leO [] [] ∧ (Ai false).le (Ai b)) ∧ ((bif v.Who != (-1 : Int) then true else v.Type_ != (-1 : Int)) = false → AH (Ag Tryz.prog tb Ba Hk true Tryz.f158 [] (Ai b)) [1, 1, 1, 0, 1, 0] (Ao [(1, Ad a), (58, Bw true v.Dims), (59, Ad (↑v.Dims.length : Int)), (60, Ad (0 : Int))] []))))) := by kernel_rfl
theorem WI (r : Int) (op : Int) : (Ag Tryz.prog tb Ba Bd true Tryz.f156 [] (Ad r)).goal (St.init [] [Ad op]) =
    (((op == 1) = true → ((op == 1) = true → leO [] [] ∧ (Ad (0 : Int)).le (Ad r)) ∧ ((op == 1) = false → ((op == 24) = true → leO [] [] ∧ (Ad (3 : Int)).le (Ad r)) ∧ ((op == 24) = false → ((bif decide (op ≥ (6 : Int)) then decide (op ≤ (23 : Int)) else false) = true → leO [] [] ∧ (Ad (2 : Int)).le (Ad r)) ∧ ((bif decide (op ≥ (6 : Int)) then decide (op ≤ (23 : Int)) else false) = false → leO [] [] ∧ (Ad (1 : Int)).le (Ad r))))) ∧ ((op == 1) = false → ((op == 2) = true → ((op == 2) = true → leO [] [] ∧ (Ad (0 : Int)).le (Ad r)) ∧ ((op == 2) = false → ((op == 24) = true → leO [] [] ∧ (Ad (3 : Int)).le (Ad r)) ∧ ((op == 24) = false → ((bif decide (op ≥ (6 : Int)) then decide (op ≤ (23 : Int)) else false) = true → leO [] [] ∧ (Ad (2 : Int)).le (Ad r)) ∧ ((bif decide (op ≥ (6 : Int)) then decide (op ≤ (23 : Int)) else false) = false → leO [] [] ∧ (Ad (1 : Int)).le (Ad r))))) ∧ ((op == 2) = false → ((op == 31) = true → ((op == 31) = true → leO [] [] ∧ (Ad (0 : Int)).le (Ad r)) ∧ ((op == 31) = false → ((op == 24) = true → leO [] [] ∧ (Ad (3 : Int)).le (Ad r)) ∧ ((op == 24) = false → ((bif decide (op ≥ (6 : Int)) then decide (op ≤ (23 : Int)) else false) = true → leO [] [] ∧ (Ad (2 : Int)).le (Ad r)) ∧ ((bif decide (op ≥ (6 : Int)) then decide (op ≤ (23 : Int)) else false) = false → leO [] [] ∧ (Ad (1 : Int)).le (Ad r))))) ∧ ((op == 31) = false → ((op == 32) = true → ((op == 32) = true → leO [] [] ∧ (Ad (0 : Int)).le (Ad r)) ∧ ((op == 32) = false → ((op == 24) = true → leO [] [] ∧ (Ad (3 : Int)).le (Ad r)) ∧ ((op == 24) = false → ((bif decide (op ≥ (6 : Int)) then decide (op ≤ (23 : Int)) else false) = true → leO [] [] ∧ (Ad (2 : Int)).le (Ad r)) ∧ ((bif decide (op ≥ (6 : Int)) then decide (op ≤ (23 : Int)) else false) = false → leO [] [] ∧ (Ad (1 : Int)).le (Ad r))))) ∧ ((op == 32) = false → ((op == 33) = true → ((op == 33) = true → leO [] [] ∧ (Ad (0 : Int)).le (Ad r)) ∧ ((op == 33) = false → ((op == 24) = true → leO [] [] ∧ (Ad (3 : Int)).le (Ad r)) ∧ ((op == 24) = false → ((bif decide (op ≥ (6 : Int)) then decide (op ≤ (23 : Int)) else false) = true → leO [] [] ∧ (Ad (2 : Int)).le (Ad r)) ∧ ((bif decide (op ≥ (6 : Int)) then decide (op ≤ (23 : Int)) else false) = false → leO [] [] ∧ (Ad (1 : Int)).le (Ad r))))) ∧ ((op == 33) = false → ((op == 34) = true → ((op == 34) = true → leO [] [] ∧ (Ad (0 : Int)).le (Ad r)) ∧ ((op == 34) = false → ((op == 24) = true → leO [] [] ∧ (Ad (3 : Int)).le (Ad r)) ∧ ((op == 24) = false → ((bif decide (op ≥ (6 : Int)) then decide (op ≤ (23 : Int)) else false) = true → leO [] [] ∧ (Ad (2 : Int)).le (Ad r)) ∧ ((bif decide (op ≥ (6 : Int)) then decide (op ≤ (23 : Int)) else false) = false → leO [] [] ∧ (Ad (1 : Int)).le (Ad r))))) ∧ ((op == 34) = false → ((op == 35) = true → ((op == 35) = true → leO [] [] ∧ (Ad (0 : Int)).le (Ad r)) ∧ ((op == 35) = false → ((op == 24) = true → leO [] [] ∧ (Ad (3 : Int)).le (Ad r)) ∧ ((op == 24) = false → ((bif decide (op ≥ (6 : Int)) then decide (op ≤ (23 : Int)) else false) = true → leO [] [] ∧ (Ad (2 : Int)).le (Ad r)) ∧ ((bif decide (op ≥ (6 : Int)) then decide (op ≤ (23 : Int)) else false) = false → leO [] [] ∧ (Ad (1 : Int)).le (Ad r))))) ∧ ((op == 35) = false → ((op == 39) = true → leO [] [] ∧ (Ad (0 : Int)).le (Ad r)) ∧ ((op == 39) = false → ((op == 24) = true → leO [] [] ∧ (Ad (3 : Int)).le (Ad r)) ∧ ((op == 24) = false → ((bif decide (op ≥ (6 : Int)) then decide (op ≤ (23 : Int)) else false) = true → leO [] [] ∧ (Ad (2 : Int)).le (Ad r)) ∧ ((bif decide (op ≥ (6 : Int)) then decide (op ≤ (23 : Int)) else false) = false → leO [] [] ∧ (Ad (1 : Int)).le (Ad r)))))))))))) := by kernel_rfl
theorem QO (b : Bool) (m : D.Model) (a : Int) (args mt : List Int) : (Ag Tryz.prog tb Ba Hn true Tryz.f159 [] (Ai b)).goal (St.init [] [tpM m, Ad a, Aa true args, Aa true mt]) =
    (∃ (y : Bool), ((true && (bif bif decide ((↑args.length : Int) < (1 : Int)) then true else decide ((↑args.length : Int) > (8 : Int)) then true else (↑mt.length : Int) != (↑args.length : Int)) == false) = true → Ae Tryz.prog 157 [] [Ad a, Aa true args] [] (Ai y)) ∧ ((bif bif bif decide ((↑args.length : Int) < (1 : Int)) then true else decide ((↑args.length : Int) > (8 : Int)) then true else (↑mt.length : Int) != (↑args.length : Int) then true else !y) = true → leO [] [] ∧ (Ai false).le (Ai b)) ∧ ((bif bif bif decide ((↑args.length : Int) < (1 : Int)) then true else decide ((↑args.length : Int) > (8 : Int)) then true else (↑mt.length : Int) != (↑args.length : Int) then true else !y) = false → AH (Ag Tryz.prog tb Ba Hn true Tryz.f159 [] (Ai b)) [1, 1, 0, 1, 0] (Ao [(0, VV.tp (Ac m)), (2, Aa true args), (32, Aa true mt), (33, Ad (↑mt.length : Int)), (34, Ad (0 : Int))] []))) := by kernel_rfl
theorem Zc (b : Bool) (m : D.Model) (a : Int) : (Ag Tryz.prog tb Ba F6 true Tryz.f132 [] (Ai b)).goal (St.init [] [tpM m, Ad a]) =
    (((0 : Int) ≤ a ∧ a < (↑m.Exprs.length : Int)) ∧ ((bif decide ((m.Exprs.getD a.toNat default).Op < (1 : Int)) then true else decide ((m.Exprs.getD a.toNat default).Op > (39 : Int))) = true → leO [] [] ∧ (Ai false).le (Ai b)) ∧ ((bif decide ((m.Exprs.getD a.toNat default).Op < (1 : Int)) then true else decide ((m.Exprs.getD a.toNat default).Op > (39 : Int))) = false → AH (Ag Tryz.prog tb Ba F6 true Tryz.f132 [] (Ai b)) [1, 1, 1, 0, 1, 0] (Ao [(0, VV.tp (Ac m)), (1, Ad a), (5, VV.bp 0 0), (30, VV.agg [Ad (m.Exprs.getD a.toNat default).A, Ad (m.Exprs.getD a.toNat default).B, Ad (m.Exprs.getD a.toNat default).C]), (31, Ad (0 : Int))] [Ob.box (Au (m.Exprs.getD a.toNat default))]))) := by kernel_rfl
theorem S2 (b : Bool) (m : D.Model) (x : D.Expr) : (Ag Tryz.prog tb Ba Bd true Tryz.f160 [] (Ai b)).goal (St.init [] [tpM m, .agg (Au x)]) =
    (∃ (y : Bool), ((true && (bif decide (x.N < (0 : Int)) then true else decide (x.N ≥ (1073741824 : Int))) == false) = true → Ae Tryz.prog 161 [] [VV.tp (Ac m), Ad x.N] [] (Ai y)) ∧ ((bif bif bif decide (x.N < (0 : Int)) then true else decide (x.N ≥ (1073741824 : Int)) then true else !y then true else decide ((↑x.Args.length : Int) < (1 : Int))) = true → leO [] [] ∧ (Ai false).le (Ai b)) ∧ ((bif bif bif decide (x.N < (0 : Int)) then true else decide (x.N ≥ (1073741824 : Int)) then true else !y then true else decide ((↑x.Args.length : Int) < (1 : Int))) = false → ((0 : Int) ≤ x.N ∧ x.N < (↑m.Procs.length : Int)) ∧ ∃ (y : Bool), Ae Tryz.prog 157 [] [Ad (↑(m.Procs.getD x.N.toNat default).Locs.length : Int), Aa true x.Args] [] (Ai y) ∧ leO [] [] ∧ (Ai y).le (Ai b))) := by kernel_rfl
theorem XM (r : List (List D.Trans)) (l : D.Loc) : (Ag Tryz.prog tb Ba Bd true Tryz.f134 [] (AE true r)).goal (St.init [] [.agg (AY l)]) =
    ((1 + l.Esc.length) * 24 ≤ 140737488355328 ∧ (∀ (i : Nat), i < l.Esc.length → ((fun (i : Nat) => [Aq true (l.Esc.getD i [])]) i).all VV.mem1 = true) ∧ leO [] [] ∧ (VV.sl true (1 + l.Esc.length) 1 fun (i : Nat) => bif i.blt 1 then (fun (i : Nat) => List.take 1 (List.drop (i * 1) [Aq true l.Out])) i else [Aq true (l.Esc.getD (i - 1) [])]).le (AE true r)) := by kernel_rfl
theorem Xb (b : Bool) (p : D.Proc) : (Ag Tryz.prog tb Ba Bd true Tryz.f103 [] (Ai b)).goal (St.init [] [.agg (AB p)]) =
    (∃ (y : Int), ((true && (bif decide ((↑p.Frame.length : Int) ≤ (128 : Int)) then (↑p.Init.length : Int) == (↑p.Frame.length : Int) else false) == true) = true → Ae Tryz.prog 130 [] [Aj true p.Frame, Aa true p.Init] [] (Ad y)) ∧ leO [] [] ∧ (Ai (bif bif bif bif bif bif bif bif decide ((↑p.Frame.length : Int) ≤ (128 : Int)) then (↑p.Init.length : Int) == (↑p.Frame.length : Int) else false then decide (y < (0 : Int)) else false then decide (p.Params ≥ (0 : Int)) else false then decide (p.Params ≤ (↑p.Frame.length : Int)) else false then decide (p.Active ≥ (0 : Int)) else false then decide (p.Active ≤ (16 : Int)) else false then decide (p.Prio ≥ (1 : Int)) else false then decide (p.Prio ≤ (255 : Int)) else false)).le (Ai b)) := by kernel_rfl
theorem W9 (b : Bool) (p : D.Proc) : (Ag Tryz.prog tb Ba Ej true Tryz.f104 [] (Ai b)).goal (St.init [] [.agg (AB p)]) =
    (((bif bif bif bif bif decide ((↑p.Locs.length : Int) < (1 : Int)) then true else decide ((↑p.Locs.length : Int) > (256 : Int)) then true else decide (p.Start < (0 : Int)) then true else decide (p.Start ≥ (↑p.Locs.length : Int)) then true else decide (p.Final < (0 : Int)) then true else decide (p.Final ≥ (↑p.Locs.length : Int))) = true → leO [] [] ∧ (Ai false).le (Ai b)) ∧ ((bif bif bif bif bif decide ((↑p.Locs.length : Int) < (1 : Int)) then true else decide ((↑p.Locs.length : Int) > (256 : Int)) then true else decide (p.Start < (0 : Int)) then true else decide (p.Start ≥ (↑p.Locs.length : Int)) then true else decide (p.Final < (0 : Int)) then true else decide (p.Final ≥ (↑p.Locs.length : Int))) = false → AH (Ag Tryz.prog tb Ba Ej true Tryz.f104 [] (Ai b)) [1, 1, 1, 1, 0, 1, 0] (Ao [(1, VV.bp 0 0), (3, Ad (↑p.Locs.length : Int)), (4, Ad (0 : Int)), (43, BM true p.Locs), (44, Ad (↑p.Locs.length : Int)), (45, Ad (0 : Int))] [Ob.box (AB p)]))) := by kernel_rfl
theorem Rj (b : Bool) (p : D.Proc) : (Ag Tryz.prog tb Ba Ho true Tryz.f105 [] (Ai b)).goal (St.init [] [.agg (AB p)]) =
    (((bif bif bif decide ((↑p.Frame.length : Int) > (0 : Int)) then true else decide (p.Params > (0 : Int)) then true else decide (p.Active > (0 : Int)) then true else p.Provided != (-1 : Int)) = true → leO [] [] ∧ (Ai false).le (Ai b)) ∧ ((bif bif bif decide ((↑p.Frame.length : Int) > (0 : Int)) then true else decide (p.Params > (0 : Int)) then true else decide (p.Active > (0 : Int)) then true else p.Provided != (-1 : Int)) = false → AH (Ag Tryz.prog tb Ba Ho true Tryz.f105 [] (Ai b)) [1, 1, 0, 1, 0] (Ao [(25, BM true p.Locs), (26, Ad (↑p.Locs.length : Int)), (27, Ad (0 : Int))] []))) := by kernel_rfl
theorem Xj (b : Bool) (s : D.Stmt) (u v x : Bool) : (Ag Tryz.prog tb Ba Bd true Tryz.f173 [] (Ai b)).goal (St.init [] [.agg (Av s), Ai u, Ai v, Ai x]) =
    (leO [] [] ∧ (Ai (bif bif bif !u then true else IntKind.i64.wrap ((↑s.Args.length : Int) + (↑s.Match.length : Int)) == 0 then bif !v then true else s.N == 0 else false then bif !x then true else s.Text.toList == (⟨#[]⟩ : ByteArray).toList else false)).le (Ai b)) := by kernel_rfl
theorem WH (b : Bool) (m : D.Model) (a : Int) : (Ag Tryz.prog tb Ba Bd true Tryz.f172 [] (Ai b)).goal (St.init [] [tpM m, Ad a]) =
    (∃ (y : Bool), Ae Tryz.prog 157 [] [Ad (↑m.Exprs.length : Int), VV.sl false 1 1 fun (i : Nat) => List.take 1 (List.drop (i * 1) [Ad a])] [] (Ai y) ∧ leO [] [] ∧ (Ai y).le (Ai b)) := by kernel_rfl
theorem R3 (b : Bool) (m : D.Model) (a : Int) : (Ag Tryz.prog tb Ba Bd true Tryz.f174 [] (Ai b)).goal (St.init [] [tpM m, Ad a]) =
    (∃ (y : Bool), Ae Tryz.prog 172 [] [VV.tp (Ac m), Ad a] [] (Ai y) ∧ ((true && y == true) = true → (0 : Int) ≤ a ∧ a < (↑m.Exprs.length : Int)) ∧ ((true && (bif y then (m.Exprs.getD a.toNat default).Op == 2 else false) == true) = true → (0 : Int) ≤ a ∧ a < (↑m.Exprs.length : Int)) ∧ leO [] [] ∧ (Ai (bif bif y then (m.Exprs.getD a.toNat default).Op == 2 else false then (m.Exprs.getD a.toNat default).V.Scope != (2 : Int) else false)).le (Ai b)) := by kernel_rfl
theorem MD (b : Bool) (m : D.Model) (s : D.Stmt) : (Ag Tryz.prog tb Ba Bd true Tryz.f162 [] (Ai b)).goal (St.init [] [tpM m, .agg (Av s)]) =
    (((s.Kind == 1) = true → ((s.Kind == 1) = true → ∃ (y : Bool), Ae Tryz.prog 172 [] [VV.tp (Ac m), Ad s.A] [] (Ai y) ∧ ∃ (y_1 : Bool), ((true && (bif y then s.B == (-1 : Int) else false) == true) = true → Ae Tryz.prog 173 [] [VV.agg (Av s), Ai true, Ai true, Ai true] [] (Ai y_1)) ∧ leO [] [] ∧ (Ai (bif bif y then s.B == (-1 : Int) else false then y_1 else false)).le (Ai b)) ∧ ((s.Kind == 1) = false → ((s.Kind == 2) = true → ∃ (y : Bool), Ae Tryz.prog 174 [] [VV.tp (Ac m), Ad s.A] [] (Ai y) ∧ ∃ (y_1 : Bool), ((true && y == true) = true → Ae Tryz.prog 172 [] [VV.tp (Ac m), Ad s.B] [] (Ai y_1)) ∧ ∃ (y_2 : Bool), ((true && (bif y then y_1 else false) == true) = true → Ae Tryz.prog 173 [] [VV.agg (Av s), Ai true, Ai true, Ai true] [] (Ai y_2)) ∧ leO [] [] ∧ (Ai (bif bif y then y_1 else false then y_2 else false)).le (Ai b)) ∧ ((s.Kind == 2) = false → ((s.Kind == 4) = true → ∃ (y : Bool), ((true && (bif s.A == (-1 : Int) then s.B == (-1 : Int) else false) == true) = true → Ae Tryz.prog 157 [] [Ad (↑m.Exprs.length : Int), Aa true s.Args] [] (Ai y)) ∧ leO [] [] ∧ (Ai (bif bif bif bif bif s.A == (-1 : Int) then s.B == (-1 : Int) else false then y else false then (↑s.Match.length : Int) == 0 else false then decide ((↑s.Text.size : Int) ≤ (256 : Int)) else false then s.N == 0 else false)).le (Ai b)) ∧ ((s.Kind == 4) = false → ((s.Kind == 5) = true → ∃ (y : Bool), Ae Tryz.prog 172 [] [VV.tp (Ac m), Ad s.A] [] (Ai y) ∧ ∃ (y_1 : Bool), ((true && (bif bif bif y then s.B == (-1 : Int) else false then decide ((↑s.Args.length : Int) ≥ (1 : Int)) else false then decide ((↑s.Args.length : Int) ≤ (8 : Int)) else false) == true) = true → Ae Tryz.prog 157 [] [Ad (↑m.Exprs.length : Int), Aa true s.Args] [] (Ai y_1)) ∧ leO [] [] ∧ (Ai (bif bif bif bif bif bif bif y then s.B == (-1 : Int) else false then decide ((↑s.Args.length : Int) ≥ (1 : Int)) else false then decide ((↑s.Args.length : Int) ≤ (8 : Int)) else false then y_1 else false then (↑s.Match.length : Int) == 0 else false then bif s.N == 0 then true else s.N == 1 else false then s.Text.toList == (⟨#[]⟩ : ByteArray).toList else false)).le (Ai b)) ∧ ((s.Kind == 5) = false → ((s.Kind == 6) = true → ∃ (y : Bool), Ae Tryz.prog 172 [] [VV.tp (Ac m), Ad s.A] [] (Ai y) ∧ ∃ (y_1 : Bool), ((true && (bif y then s.B == (-1 : Int) else false) == true) = true → Ae Tryz.prog 175 [] [VV.tp (Ac m), VV.agg (Av s)] [] (Ai y_1)) ∧ leO [] [] ∧ (Ai (bif bif bif bif bif y then s.B == (-1 : Int) else false then y_1 else false then decide (s.N ≥ (0 : Int)) else false then decide (s.N ≤ (3 : Int)) else false then s.Text.toList == (⟨#[]⟩ : ByteArray).toList else false)).le (Ai b)) ∧ ((s.Kind == 6) = false → ((s.Kind == 7) = true → ((s.Kind == 7) = true → ∃ (y : Bool), ((true && (bif s.A == (-1 : Int) then s.B == (-1 : Int) else false) == true) = true → Ae Tryz.prog 173 [] [VV.agg (Av s), Ai true, Ai true, Ai true] [] (Ai y)) ∧ leO [] [] ∧ (Ai (bif bif s.A == (-1 : Int) then s.B == (-1 : Int) else false then y else false)).le (Ai b)) ∧ ((s.Kind == 7) = false → ((s.Kind == 9) = true → ∃ (y : Bool), Ae Tryz.prog 174 [] [VV.tp (Ac m), Ad s.A] [] (Ai y) ∧ ∃ (y_1 : Bool), ((true && (bif bif bif y then s.B == (-1 : Int) else false then decide (s.N ≥ (0 : Int)) else false then decide (s.N < (↑m.Shapes.length : Int)) else false) == true) = true → Ae Tryz.prog 173 [] [VV.agg (Av s), Ai true, Ai false, Ai true] [] (Ai y_1)) ∧ leO [] [] ∧ (Ai (bif bif bif bif y then s.B == (-1 : Int) else false then decide (s.N ≥ (0 : Int)) else false then decide (s.N < (↑m.Shapes.length : Int)) else false then y_1 else false)).le (Ai b)) ∧ ((s.Kind == 9) = false → leO [] [] ∧ (Ai false).le (Ai b)))) ∧ ((s.Kind == 7) = false → ((s.Kind == 8) = true → ∃ (y : Bool), ((true && (bif s.A == (-1 : Int) then s.B == (-1 : Int) else false) == true) = true → Ae Tryz.prog 173 [] [VV.agg (Av s), Ai true, Ai true, Ai true] [] (Ai y)) ∧ leO [] [] ∧ (Ai (bif bif s.A == (-1 : Int) then s.B == (-1 : Int) else false then y else false)).le (Ai b)) ∧ ((s.Kind == 8) = false → ((s.Kind == 9) = true → ∃ (y : Bool), Ae Tryz.prog 174 [] [VV.tp (Ac m), Ad s.A] [] (Ai y) ∧ ∃ (y_1 : Bool), ((true && (bif bif bif y then s.B == (-1 : Int) else false then decide (s.N ≥ (0 : Int)) else false then decide (s.N < (↑m.Shapes.length : Int)) else false) == true) = true → Ae Tryz.prog 173 [] [VV.agg (Av s), Ai true, Ai false, Ai true] [] (Ai y_1)) ∧ leO [] [] ∧ (Ai (bif bif bif bif y then s.B == (-1 : Int) else false then decide (s.N ≥ (0 : Int)) else false then decide (s.N < (↑m.Shapes.length : Int)) else false then y_1 else false)).le (Ai b)) ∧ ((s.Kind == 9) = false → leO [] [] ∧ (Ai false).le (Ai b)))))))))) ∧ ((s.Kind == 1) = false → ((s.Kind == 3) = true → ∃ (y : Bool), Ae Tryz.prog 172 [] [VV.tp (Ac m), Ad s.A] [] (Ai y) ∧ ∃ (y_1 : Bool), ((true && (bif y then s.B == (-1 : Int) else false) == true) = true → Ae Tryz.prog 173 [] [VV.agg (Av s), Ai true, Ai true, Ai true] [] (Ai y_1)) ∧ leO [] [] ∧ (Ai (bif bif y then s.B == (-1 : Int) else false then y_1 else false)).le (Ai b)) ∧ ((s.Kind == 3) = false → ((s.Kind == 2) = true → ∃ (y : Bool), Ae Tryz.prog 174 [] [VV.tp (Ac m), Ad s.A] [] (Ai y) ∧ ∃ (y_1 : Bool), ((true && y == true) = true → Ae Tryz.prog 172 [] [VV.tp (Ac m), Ad s.B] [] (Ai y_1)) ∧ ∃ (y_2 : Bool), ((true && (bif y then y_1 else false) == true) = true → Ae Tryz.prog 173 [] [VV.agg (Av s), Ai true, Ai true, Ai true] [] (Ai y_2)) ∧ leO [] [] ∧ (Ai (bif bif y then y_1 else false then y_2 else false)).le (Ai b)) ∧ ((s.Kind == 2) = false → ((s.Kind == 4) = true → ∃ (y : Bool), ((true && (bif s.A == (-1 : Int) then s.B == (-1 : Int) else false) == true) = true → Ae Tryz.prog 157 [] [Ad (↑m.Exprs.length : Int), Aa true s.Args] [] (Ai y)) ∧ leO [] [] ∧ (Ai (bif bif bif bif bif s.A == (-1 : Int) then s.B == (-1 : Int) else false then y else false then (↑s.Match.length : Int) == 0 else false then decide ((↑s.Text.size : Int) ≤ (256 : Int)) else false then s.N == 0 else false)).le (Ai b)) ∧ ((s.Kind == 4) = false → ((s.Kind == 5) = true → ∃ (y : Bool), Ae Tryz.prog 172 [] [VV.tp (Ac m), Ad s.A] [] (Ai y) ∧ ∃ (y_1 : Bool), ((true && (bif bif bif y then s.B == (-1 : Int) else false then decide ((↑s.Args.length : Int) ≥ (1 : Int)) else false then decide ((↑s.Args.length : Int) ≤ (8 : Int)) else false) == true) = true → Ae Tryz.prog 157 [] [Ad (↑m.Exprs.length : Int), Aa true s.Args] [] (Ai y_1)) ∧ leO [] [] ∧ (Ai (bif bif bif bif bif bif bif y then s.B == (-1 : Int) else false then decide ((↑s.Args.length : Int) ≥ (1 : Int)) else false then decide ((↑s.Args.length : Int) ≤ (8 : Int)) else false then y_1 else false then (↑s.Match.length : Int) == 0 else false then bif s.N == 0 then true else s.N == 1 else false then s.Text.toList == (⟨#[]⟩ : ByteArray).toList else false)).le (Ai b)) ∧ ((s.Kind == 5) = false → ((s.Kind == 6) = true → ∃ (y : Bool), Ae Tryz.prog 172 [] [VV.tp (Ac m), Ad s.A] [] (Ai y) ∧ ∃ (y_1 : Bool), ((true && (bif y then s.B == (-1 : Int) else false) == true) = true → Ae Tryz.prog 175 [] [VV.tp (Ac m), VV.agg (Av s)] [] (Ai y_1)) ∧ leO [] [] ∧ (Ai (bif bif bif bif bif y then s.B == (-1 : Int) else false then y_1 else false then decide (s.N ≥ (0 : Int)) else false then decide (s.N ≤ (3 : Int)) else false then s.Text.toList == (⟨#[]⟩ : ByteArray).toList else false)).le (Ai b)) ∧ ((s.Kind == 6) = false → ((s.Kind == 7) = true → ((s.Kind == 7) = true → ∃ (y : Bool), ((true && (bif s.A == (-1 : Int) then s.B == (-1 : Int) else false) == true) = true → Ae Tryz.prog 173 [] [VV.agg (Av s), Ai true, Ai true, Ai true] [] (Ai y)) ∧ leO [] [] ∧ (Ai (bif bif s.A == (-1 : Int) then s.B == (-1 : Int) else false then y else false)).le (Ai b)) ∧ ((s.Kind == 7) = false → ((s.Kind == 9) = true → ∃ (y : Bool), Ae Tryz.prog 174 [] [VV.tp (Ac m), Ad s.A] [] (Ai y) ∧ ∃ (y_1 : Bool), ((true && (bif bif bif y then s.B == (-1 : Int) else false then decide (s.N ≥ (0 : Int)) else false then decide (s.N < (↑m.Shapes.length : Int)) else false) == true) = true → Ae Tryz.prog 173 [] [VV.agg (Av s), Ai true, Ai false, Ai true] [] (Ai y_1)) ∧ leO [] [] ∧ (Ai (bif bif bif bif y then s.B == (-1 : Int) else false then decide (s.N ≥ (0 : Int)) else false then decide (s.N < (↑m.Shapes.length : Int)) else false then y_1 else false)).le (Ai b)) ∧ ((s.Kind == 9) = false → leO [] [] ∧ (Ai false).le (Ai b)))) ∧ ((s.Kind == 7) = false → ((s.Kind == 8) = true → ∃ (y : Bool), ((true && (bif s.A == (-1 : Int) then s.B == (-1 : Int) else false) == true) = true → Ae Tryz.prog 173 [] [VV.agg (Av s), Ai true, Ai true, Ai true] [] (Ai y)) ∧ leO [] [] ∧ (Ai (bif bif s.A == (-1 : Int) then s.B == (-1 : Int) else false then y else false)).le (Ai b)) ∧ ((s.Kind == 8) = false → ((s.Kind == 9) = true → ∃ (y : Bool), Ae Tryz.prog 174 [] [VV.tp (Ac m), Ad s.A] [] (Ai y) ∧ ∃ (y_1 : Bool), ((true && (bif bif bif y then s.B == (-1 : Int) else false then decide (s.N ≥ (0 : Int)) else false then decide (s.N < (↑m.Shapes.length : Int)) else false) == true) = true → Ae Tryz.prog 173 [] [VV.agg (Av s), Ai true, Ai false, Ai true] [] (Ai y_1)) ∧ leO [] [] ∧ (Ai (bif bif bif bif y then s.B == (-1 : Int) else false then decide (s.N ≥ (0 : Int)) else false then decide (s.N < (↑m.Shapes.length : Int)) else false then y_1 else false)).le (Ai b)) ∧ ((s.Kind == 9) = false → leO [] [] ∧ (Ai false).le (Ai b))))))))))) := by kernel_rfl
theorem VJ (b : Bool) (m : D.Model) (s : D.Stmt) : (Ag Tryz.prog tb Ba Ka true Tryz.f175 [] (Ai b)).goal (St.init [] [tpM m, .agg (Av s)]) =
    (∃ (y : Bool), Ae Tryz.prog 159 [] [VV.tp (Ac m), Ad (↑m.Exprs.length : Int), Aa true s.Args, Aa true s.Match] [] (Ai y) ∧ ((!y) = true → leO [] [] ∧ (Ai false).le (Ai b)) ∧ ((!y) = false → AH (Ag Tryz.prog tb Ba Ka true Tryz.f175 [] (Ai b)) [1, 1, 0, 1, 0] (Ao [(0, VV.tp (Ac m)), (3, VV.bp 0 0), (21, Aa true s.Match), (22, Ad (↑s.Match.length : Int)), (23, Ad (0 : Int))] [Ob.box (Av s)]))) := by kernel_rfl
theorem XV (b : Bool) (m : D.Model) (i : Int) (list : List Int) (run : Int) : (Ag Tryz.prog tb Ba Hl true Tryz.f136 [] (Ai b)).goal (St.init [] [tpM m, Ad i, Aa false list, Ad run]) =
    (AH (Ag Tryz.prog tb Ba Hl true Tryz.f136 [] (Ai b)) [1] (Ao [(0, VV.tp (Ac m)), (1, Ad i), (2, Aa false list), (3, Ad run), (9, VV.dead), (10, VV.dead), (11, VV.dead)] [])) := by kernel_rfl
theorem VU (r : Int) (m : D.Model) (i : Int) (v : D.Var) : (Ag Tryz.prog tb Ba Bd true Tryz.f163 [] (Ad r)).goal (St.init [] [tpM m, Ad i, .agg (A4 v)]) =
    (((v.Scope == 0) = true → leO [] [] ∧ (Ad (↑m.Globals.length : Int)).le (Ad r)) ∧ ((v.Scope == 0) = false → ((v.Scope == 1) = true → ((0 : Int) ≤ i ∧ i < (↑m.Procs.length : Int)) ∧ leO [] [] ∧ (Ad (↑(m.Procs.getD i.toNat default).Frame.length : Int)).le (Ad r)) ∧ ((v.Scope == 1) = false → ((0 : Int) ≤ v.Type_ ∧ v.Type_ < (↑m.Procs.length : Int)) ∧ leO [] [] ∧ (Ad (↑(m.Procs.getD v.Type_.toNat default).Frame.length : Int)).le (Ad r)))) := by kernel_rfl
theorem ZL (b : Bool) (m : D.Model) (i : Int) (s : D.Stmt) : (Ag Tryz.prog tb Ba Bd true Tryz.f135 [] (Ai b)).goal (St.init [] [tpM m, Ad i, .agg (Av s)]) =
    (∃ (y : Bool), Ae Tryz.prog 162 [] [VV.tp (Ac m), VV.agg (Av s)] [] (Ai y) ∧ ((bif !y then true else bif bif bif bif i == m.Claim then s.Kind != (1 : Int) else false then s.Kind != (3 : Int) else false then s.Kind != (7 : Int) else false then s.Kind != (8 : Int) else false) = true → leO [] [] ∧ (Ai false).le (Ai b)) ∧ ((bif !y then true else bif bif bif bif i == m.Claim then s.Kind != (1 : Int) else false then s.Kind != (3 : Int) else false then s.Kind != (7 : Int) else false then s.Kind != (8 : Int) else false) = false → s.Args.length * 8 ≤ 140737488355328 ∧ (∀ (i : Nat), i < s.Args.length → ((fun (i : Nat) => [Ad (s.Args.getD i (0 : Int))]) i).all VV.mem1 = true) ∧ (decide (s.A ≥ (0 : Int)) = true → (s.Args.length + 1) * 8 ≤ 140737488355328 ∧ (decide (s.B ≥ (0 : Int)) = true → (s.Args.length + 1 + 1) * 8 ≤ 140737488355328 ∧ ((s.Kind == 1) = true → ∃ (y : Bool), Ae Tryz.prog 136 [] [VV.tp (Ac m), Ad i, VV.sl false (s.Args.length + 1 + 1) 1 fun (i : Nat) => bif i.blt (s.Args.length + 1) then (fun (i : Nat) => bif i.blt s.Args.length then [Ad (s.Args.getD i (0 : Int))] else (fun (i : Nat) => List.take 1 (List.drop (i * 1) [Ad s.A])) (i - s.Args.length)) i else (fun (i : Nat) => List.take 1 (List.drop (i * 1) [Ad s.B])) (i - (s.Args.length + 1)), Ad s.A] [] (Ai y) ∧ leO [] [] ∧ (Ai y).le (Ai b)) ∧ ((s.Kind == 1) = false → ((s.Kind == 2) = true → ∃ (y : Bool), Ae Tryz.prog 136 [] [VV.tp (Ac m), Ad i, VV.sl false (s.Args.length + 1 + 1) 1 fun (i : Nat) => bif i.blt (s.Args.length + 1) then (fun (i : Nat) => bif i.blt s.Args.length then [Ad (s.Args.getD i (0 : Int))] else (fun (i : Nat) => List.take 1 (List.drop (i * 1) [Ad s.A])) (i - s.Args.length)) i else (fun (i : Nat) => List.take 1 (List.drop (i * 1) [Ad s.B])) (i - (s.Args.length + 1)), Ad s.B] [] (Ai y) ∧ leO [] [] ∧ (Ai y).le (Ai b)) ∧ ((s.Kind == 2) = false → ∃ (y : Bool), Ae Tryz.prog 136 [] [VV.tp (Ac m), Ad i, VV.sl false (s.Args.length + 1 + 1) 1 fun (i : Nat) => bif i.blt (s.Args.length + 1) then (fun (i : Nat) => bif i.blt s.Args.length then [Ad (s.Args.getD i (0 : Int))] else (fun (i : Nat) => List.take 1 (List.drop (i * 1) [Ad s.A])) (i - s.Args.length)) i else (fun (i : Nat) => List.take 1 (List.drop (i * 1) [Ad s.B])) (i - (s.Args.length + 1)), Ad (-1 : Int)] [] (Ai y) ∧ leO [] [] ∧ (Ai y).le (Ai b)))) ∧ (decide (s.B ≥ (0 : Int)) = false → ((s.Kind == 1) = true → ∃ (y : Bool), Ae Tryz.prog 136 [] [VV.tp (Ac m), Ad i, VV.sl false (s.Args.length + 1) 1 fun (i : Nat) => bif i.blt s.Args.length then [Ad (s.Args.getD i (0 : Int))] else (fun (i : Nat) => List.take 1 (List.drop (i * 1) [Ad s.A])) (i - s.Args.length), Ad s.A] [] (Ai y) ∧ leO [] [] ∧ (Ai y).le (Ai b)) ∧ ((s.Kind == 1) = false → ((s.Kind == 2) = true → ∃ (y : Bool), Ae Tryz.prog 136 [] [VV.tp (Ac m), Ad i, VV.sl false (s.Args.length + 1) 1 fun (i : Nat) => bif i.blt s.Args.length then [Ad (s.Args.getD i (0 : Int))] else (fun (i : Nat) => List.take 1 (List.drop (i * 1) [Ad s.A])) (i - s.Args.length), Ad s.B] [] (Ai y) ∧ leO [] [] ∧ (Ai y).le (Ai b)) ∧ ((s.Kind == 2) = false → ∃ (y : Bool), Ae Tryz.prog 136 [] [VV.tp (Ac m), Ad i, VV.sl false (s.Args.length + 1) 1 fun (i : Nat) => bif i.blt s.Args.length then [Ad (s.Args.getD i (0 : Int))] else (fun (i : Nat) => List.take 1 (List.drop (i * 1) [Ad s.A])) (i - s.Args.length), Ad (-1 : Int)] [] (Ai y) ∧ leO [] [] ∧ (Ai y).le (Ai b))))) ∧ (decide (s.A ≥ (0 : Int)) = false → (decide (s.B ≥ (0 : Int)) = true → (s.Args.length + 1) * 8 ≤ 140737488355328 ∧ ((s.Kind == 1) = true → ∃ (y : Bool), Ae Tryz.prog 136 [] [VV.tp (Ac m), Ad i, VV.sl false (s.Args.length + 1) 1 fun (i : Nat) => bif i.blt s.Args.length then [Ad (s.Args.getD i (0 : Int))] else (fun (i : Nat) => List.take 1 (List.drop (i * 1) [Ad s.B])) (i - s.Args.length), Ad s.A] [] (Ai y) ∧ leO [] [] ∧ (Ai y).le (Ai b)) ∧ ((s.Kind == 1) = false → ((s.Kind == 2) = true → ∃ (y : Bool), Ae Tryz.prog 136 [] [VV.tp (Ac m), Ad i, VV.sl false (s.Args.length + 1) 1 fun (i : Nat) => bif i.blt s.Args.length then [Ad (s.Args.getD i (0 : Int))] else (fun (i : Nat) => List.take 1 (List.drop (i * 1) [Ad s.B])) (i - s.Args.length), Ad s.B] [] (Ai y) ∧ leO [] [] ∧ (Ai y).le (Ai b)) ∧ ((s.Kind == 2) = false → ∃ (y : Bool), Ae Tryz.prog 136 [] [VV.tp (Ac m), Ad i, VV.sl false (s.Args.length + 1) 1 fun (i : Nat) => bif i.blt s.Args.length then [Ad (s.Args.getD i (0 : Int))] else (fun (i : Nat) => List.take 1 (List.drop (i * 1) [Ad s.B])) (i - s.Args.length), Ad (-1 : Int)] [] (Ai y) ∧ leO [] [] ∧ (Ai y).le (Ai b)))) ∧ (decide (s.B ≥ (0 : Int)) = false → ((s.Kind == 1) = true → ∃ (y : Bool), Ae Tryz.prog 136 [] [VV.tp (Ac m), Ad i, Aa false s.Args, Ad s.A] [] (Ai y) ∧ leO [] [] ∧ (Ai y).le (Ai b)) ∧ ((s.Kind == 1) = false → ((s.Kind == 2) = true → ∃ (y : Bool), Ae Tryz.prog 136 [] [VV.tp (Ac m), Ad i, Aa false s.Args, Ad s.B] [] (Ai y) ∧ leO [] [] ∧ (Ai y).le (Ai b)) ∧ ((s.Kind == 2) = false → ∃ (y : Bool), Ae Tryz.prog 136 [] [VV.tp (Ac m), Ad i, Aa false s.Args, Ad (-1 : Int)] [] (Ai y) ∧ leO [] [] ∧ (Ai y).le (Ai b))))))) := by kernel_rfl
theorem YC (b : Bool) (m : D.Model) (i : Int) : (Ag Tryz.prog tb Ba Ft true Tryz.f106 [] (Ai b)).goal (St.init [] [tpM m, Ad i]) =
    (((0 : Int) ≤ i ∧ i < (↑m.Procs.length : Int)) ∧ AH (Ag Tryz.prog tb Ba Ft true Tryz.f106 [] (Ai b)) [1, 1, 0, 1, 0] (Ao [(0, VV.tp (Ac m)), (1, Ad i), (5, VV.bp 0 0), (21, BM true (m.Procs.getD i.toNat default).Locs), (22, Ad (↑(m.Procs.getD i.toNat default).Locs.length : Int)), (23, Ad (0 : Int))] [Ob.box (AB (m.Procs.getD i.toNat default))])) := by kernel_rfl
theorem R6 (r e : Int) (m : D.Model) : (Ag Tryz.prog tb Ba CP true Tryz.f102 [] (.tup [Ad r, Ad e])).goal (St.init [] [tpM m]) =
    (((bif decide ((↑m.Globals.length : Int) > (128 : Int)) then true else (↑m.Init.length : Int) != (↑m.Globals.length : Int)) = true → leO [] [] ∧ (VV.tup [Ad (1 : Int), Ad (-1 : Int)]).le (VV.tup [Ad r, Ad e])) ∧ ((bif decide ((↑m.Globals.length : Int) > (128 : Int)) then true else (↑m.Init.length : Int) != (↑m.Globals.length : Int)) = false → ∃ (y : Int), Ae Tryz.prog 130 [] [Aj true m.Globals, Aa true m.Init] [] (Ad y) ∧ (decide (y ≥ (0 : Int)) = true → leO [] [] ∧ (VV.tup [Ad (1 : Int), Ad y]).le (VV.tup [Ad r, Ad e])) ∧ (decide (y ≥ (0 : Int)) = false → ((bif decide ((↑m.Shapes.length : Int) > (32 : Int)) then true else decide ((↑m.Chans.length : Int) > (32 : Int))) = true → leO [] [] ∧ (VV.tup [Ad (2 : Int), Ad (-1 : Int)]).le (VV.tup [Ad r, Ad e])) ∧ ((bif decide ((↑m.Shapes.length : Int) > (32 : Int)) then true else decide ((↑m.Chans.length : Int) > (32 : Int))) = false → AH (Ag Tryz.prog tb Ba CP true Tryz.f102 [] (VV.tup [Ad r, Ad e])) [1, 1, 1, 1, 1, 0, 1, 0] (Ao [(0, VV.tp (Ac m)), (4, VV.bp 0 0), (50, Aw true m.Shapes), (51, Ad (↑m.Shapes.length : Int)), (52, Ad (0 : Int))] [Ob.box (Ac m)]))))) := by kernel_rfl
theorem Y2 (r : List Int) (x : D.Expr) : (Ag Tryz.prog tb Ba Fu true Tryz.f133 [] (Aa true r)).goal (St.init [] [.agg (Au x)]) =
    (∃ (y : Int), Ae Tryz.prog 156 [] [Ad x.Op] [] (Ad y) ∧ ((0 : Int) ≤ y ∧ y ≤ (↑3 : Int)) ∧ y.toNat * 8 ≤ 140737488355328 ∧ ((bif x.Op == 30 then true else x.Op == 39) = true → (y.toNat + x.Args.length) * 8 ≤ 140737488355328 ∧ (∀ (i : Nat), i < x.Args.length → ((fun (i : Nat) => [Ad (x.Args.getD i (0 : Int))]) i).all VV.mem1 = true) ∧ ((x.Op == 2) = true → ((x.V.Scope == 2) = true → (y.toNat + x.Args.length + 1) * 8 ≤ 140737488355328 ∧ AH (Ag Tryz.prog tb Ba Fu true Tryz.f133 [] (Aa true r)) [1, 1, 1, 0, 1, 0, 1, 1, 0] (Ao [(3, VV.ow 0 0 (y.toNat + x.Args.length + 1)), (45, Bw true x.V.Dims), (46, Ad (↑x.V.Dims.length : Int)), (47, Ad (0 : Int))] [Ob.arr true 0 (y.toNat + x.Args.length + 1) 1 fun (i : Nat) => bif i.blt (y.toNat + x.Args.length) then (fun (i : Nat) => bif i.blt y.toNat then (fun (i : Nat) => List.take 1 (List.drop (i * 1) [Ad x.A, Ad x.B, Ad x.C])) i else [Ad (x.Args.getD (i - y.toNat) (0 : Int))]) i else (fun (i : Nat) => List.take 1 (List.drop (i * 1) [Ad x.V.Who])) (i - (y.toNat + x.Args.length))])) ∧ ((x.V.Scope == 2) = false → AH (Ag Tryz.prog tb Ba Fu true Tryz.f133 [] (Aa true r)) [1, 1, 1, 0, 1, 0, 1, 1, 0] (Ao [(3, VV.ow 0 0 (y.toNat + x.Args.length)), (45, Bw true x.V.Dims), (46, Ad (↑x.V.Dims.length : Int)), (47, Ad (0 : Int))] [Ob.arr true 0 (y.toNat + x.Args.length) 1 fun (i : Nat) => bif i.blt y.toNat then (fun (i : Nat) => List.take 1 (List.drop (i * 1) [Ad x.A, Ad x.B, Ad x.C])) i else [Ad (x.Args.getD (i - y.toNat) (0 : Int))]]))) ∧ ((x.Op == 2) = false → leO [] [] ∧ (VV.sl true (y.toNat + x.Args.length) 1 fun (i : Nat) => bif i.blt y.toNat then (fun (i : Nat) => List.take 1 (List.drop (i * 1) [Ad x.A, Ad x.B, Ad x.C])) i else [Ad (x.Args.getD (i - y.toNat) (0 : Int))]).le (Aa true r))) ∧ ((bif x.Op == 30 then true else x.Op == 39) = false → ((x.Op == 2) = true → ((x.V.Scope == 2) = true → (y.toNat + 1) * 8 ≤ 140737488355328 ∧ AH (Ag Tryz.prog tb Ba Fu true Tryz.f133 [] (Aa true r)) [1, 1, 1, 0, 1, 0, 1, 1, 0] (Ao [(3, VV.ow 0 0 (y.toNat + 1)), (45, Bw true x.V.Dims), (46, Ad (↑x.V.Dims.length : Int)), (47, Ad (0 : Int))] [Ob.arr true 0 (y.toNat + 1) 1 fun (i : Nat) => bif i.blt y.toNat then (fun (i : Nat) => List.take 1 (List.drop (i * 1) [Ad x.A, Ad x.B, Ad x.C])) i else (fun (i : Nat) => List.take 1 (List.drop (i * 1) [Ad x.V.Who])) (i - y.toNat)])) ∧ ((x.V.Scope == 2) = false → AH (Ag Tryz.prog tb Ba Fu true Tryz.f133 [] (Aa true r)) [1, 1, 1, 0, 1, 0, 1, 1, 0] (Ao [(3, VV.ow 0 0 y.toNat), (45, Bw true x.V.Dims), (46, Ad (↑x.V.Dims.length : Int)), (47, Ad (0 : Int))] [Ob.arr true 0 y.toNat 1 fun (i : Nat) => List.take 1 (List.drop (i * 1) [Ad x.A, Ad x.B, Ad x.C])]))) ∧ ((x.Op == 2) = false → leO [] [] ∧ (VV.sl true y.toNat 1 fun (i : Nat) => List.take 1 (List.drop (i * 1) [Ad x.A, Ad x.B, Ad x.C])).le (Aa true r)))) := by kernel_rfl
theorem Xq (r e f : Int) (m : D.Model) : (Ag Tryz.prog tb Ba F7 true Tryz.f70 [] (.tup [Ad r, Ad e, Ad f])).goal (St.init [] [.agg (Ac m)]) =
    (∃ (y : Int × Int), Ae Tryz.prog 102 [] [VV.tp (Ac m)] [] (VV.tup [Ad y.fst, Ad y.snd]) ∧ (decide (y.fst > (0 : Int)) = true → leO [] [] ∧ (VV.tup [Ad (40 : Int), Ad y.fst, Ad y.snd]).le (VV.tup [Ad r, Ad e, Ad f])) ∧ (decide (y.fst > (0 : Int)) = false → AH (Ag Tryz.prog tb Ba F7 true Tryz.f70 [] (VV.tup [Ad r, Ad e, Ad f])) [1, 1, 1, 1, 0, 1, 0] (Ao [(1, VV.bp 0 0), (5, VV.bp 1 0), (8, Ad (0 : Int)), (25, AA true m.Procs), (26, Ad (↑m.Procs.length : Int)), (27, Ad (0 : Int))] [Ob.box (Ac m), Ob.box (Ac m)]))) := by kernel_rfl
end Go.Proofs.YtiaebjpcgjkhoaaGreatDoor
namespace Go.Proofs.YtiaebjpcgjkhoaaGreatDoor
open Go.RowKit
set_option maxRecDepth 100000
theorem SS (r : Int) (n : Int) (v : D.Var) (k : Int) (J : St → Prop) : ((Ag Tryz.prog tb Ba Ke true Tryz.f146 [] (Ad r)).loop [1, 1, 1, 0, 1, 0] J).goal (Ul n v k) =
    ((decide (k < (↑v.Dims.length : Int)) = true → ((0 : Int) ≤ k ∧ k < (↑v.Dims.length : Int)) ∧ ((bif bif bif decide ((v.Dims.getD k.toNat default).Len < (1 : Int)) then true else decide (IntKind.i64.wrap ((v.Dims.getD k.toNat default).Len - (1 : Int)) > (1073741824 : Int)) then true else decide ((v.Dims.getD k.toNat default).Stride < (0 : Int)) then true else decide ((v.Dims.getD k.toNat default).Stride > (1073741824 : Int))) = true → leO [] [] ∧ (Ad (0 : Int)).le (Ad r)) ∧ ((bif bif bif decide ((v.Dims.getD k.toNat default).Len < (1 : Int)) then true else decide (IntKind.i64.wrap ((v.Dims.getD k.toNat default).Len - (1 : Int)) > (1073741824 : Int)) then true else decide ((v.Dims.getD k.toNat default).Stride < (0 : Int)) then true else decide ((v.Dims.getD k.toNat default).Stride > (1073741824 : Int))) = false → J (Ao [(3, Ad (IntKind.i64.wrap (n + IntKind.i64.wrap (IntKind.i64.wrap ((v.Dims.getD k.toNat default).Len - (1 : Int)) * (v.Dims.getD k.toNat default).Stride)))), (24, Bw true v.Dims), (25, Ad (↑v.Dims.length : Int)), (26, Ad (IntKind.i64.wrap (k + (1 : Int))))] []))) ∧ (decide (k < (↑v.Dims.length : Int)) = false → leO [] [] ∧ (Ad n).le (Ad r))) := by kernel_rfl
theorem R0 (r : Int) (t : List D.Type) (init : List Int) (k : Int) (J : St → Prop) : ((Ag Tryz.prog tb Ba J8 true Tryz.f130 [] (Ad r)).loop [1, 0, 1, 0] J).goal (T9 t init k) =
    ((decide (k < (↑t.length : Int)) = true → ((0 : Int) ≤ k ∧ k < (↑t.length : Int)) ∧ ((0 : Int) ≤ k ∧ k < (↑init.length : Int)) ∧ ∃ (y : Bool), Ae Tryz.prog 107 [] [VV.agg (AR (t.getD k.toNat default)), Ad (init.getD k.toNat (0 : Int))] [] (Ai y) ∧ ((!y) = true → leO [] [] ∧ (Ad k).le (Ad r)) ∧ ((!y) = false → J (Ao [(0, Aj true t), (1, Aa true init), (7, Ad (↑t.length : Int)), (8, Ad (IntKind.i64.wrap (k + (1 : Int))))] []))) ∧ (decide (k < (↑t.length : Int)) = false → leO [] [] ∧ (Ad (-1 : Int)).le (Ad r))) := by kernel_rfl
theorem Sl (b : Bool) (s : D.Shape) (k : Int) (J : St → Prop) : ((Ag Tryz.prog tb Ba Kb true Tryz.f131 [] (Ai b)).loop [1, 1, 0, 1, 0] J).goal (Uc s k) =
    ((decide (k < (↑s.Fields.length : Int)) = true → ((0 : Int) ≤ k ∧ k < (↑s.Fields.length : Int)) ∧ ∃ (y : Bool), Ae Tryz.prog 93 [] [VV.agg (AR (s.Fields.getD k.toNat default))] [] (Ai y) ∧ ((!y) = true → leO [] [] ∧ (Ai false).le (Ai b)) ∧ ((!y) = false → J (Ao [(26, Aj true s.Fields), (27, Ad (↑s.Fields.length : Int)), (28, Ad (IntKind.i64.wrap (k + (1 : Int))))] []))) ∧ (decide (k < (↑s.Fields.length : Int)) = false → leO [] [] ∧ (Ai true).le (Ai b))) := by kernel_rfl
theorem TM (b : Bool) (a : Int) (l : List Int) (k : Int) (J : St → Prop) : ((Ag Tryz.prog tb Ba Kg true Tryz.f157 [] (Ai b)).loop [1, 0, 1, 0] J).goal (Ut a l k) =
    ((decide (k < (↑l.length : Int)) = true → ((0 : Int) ≤ k ∧ k < (↑l.length : Int)) ∧ ((bif decide (l.getD k.toNat (0 : Int) < (0 : Int)) then true else decide (l.getD k.toNat (0 : Int) ≥ a)) = true → leO [] [] ∧ (Ai false).le (Ai b)) ∧ ((bif decide (l.getD k.toNat (0 : Int) < (0 : Int)) then true else decide (l.getD k.toNat (0 : Int) ≥ a)) = false → J (Ao [(0, Ad a), (7, Aa false l), (8, Ad (↑l.length : Int)), (9, Ad (IntKind.i64.wrap (k + (1 : Int))))] []))) ∧ (decide (k < (↑l.length : Int)) = false → leO [] [] ∧ (Ai true).le (Ai b))) := by kernel_rfl
theorem Ro (b : Bool) (a : Int) (l : List Int) (k : Int) (J : St → Prop) : ((Ag Tryz.prog tb Ba IU true Tryz.f157 [] (Ai b)).loop [1, 0, 1, 0] J).goal (P4 a l k) =
    ((decide (k < (↑l.length : Int)) = true → ((0 : Int) ≤ k ∧ k < (↑l.length : Int)) ∧ ((bif decide (l.getD k.toNat (0 : Int) < (0 : Int)) then true else decide (l.getD k.toNat (0 : Int) ≥ a)) = true → leO [] [] ∧ (Ai false).le (Ai b)) ∧ ((bif decide (l.getD k.toNat (0 : Int) < (0 : Int)) then true else decide (l.getD k.toNat (0 : Int) ≥ a)) = false → J (Ao [(0, Ad a), (7, Aa true l), (8, Ad (↑l.length : Int)), (9, Ad (IntKind.i64.wrap (k + (1 : Int))))] []))) ∧ (decide (k < (↑l.length : Int)) = false → leO [] [] ∧ (Ai true).le (Ai b))) := by kernel_rfl
theorem VA (b : Bool) (a : Int) (v : D.Var) (k : Int) (J : St → Prop) : ((Ag Tryz.prog tb Ba Hk true Tryz.f158 [] (Ai b)).loop [1, 1, 1, 0, 1, 0] J).goal (Se a v k) =
    ((decide (k < (↑v.Dims.length : Int)) = true → ((0 : Int) ≤ k ∧ k < (↑v.Dims.length : Int)) ∧ ∃ (y : Bool), Ae Tryz.prog 157 [] [Ad a, VV.sl false 1 1 fun (i : Nat) => List.take 1 (List.drop (i * 1) [Ad (v.Dims.getD k.toNat default).I])] [] (Ai y) ∧ ((bif bif bif bif !y then true else decide ((v.Dims.getD k.toNat default).Len < (1 : Int)) then true else decide ((v.Dims.getD k.toNat default).Len > (128 : Int)) then true else decide ((v.Dims.getD k.toNat default).Stride < (0 : Int)) then true else decide ((v.Dims.getD k.toNat default).Stride > (128 : Int))) = true → leO [] [] ∧ (Ai false).le (Ai b)) ∧ ((bif bif bif bif !y then true else decide ((v.Dims.getD k.toNat default).Len < (1 : Int)) then true else decide ((v.Dims.getD k.toNat default).Len > (128 : Int)) then true else decide ((v.Dims.getD k.toNat default).Stride < (0 : Int)) then true else decide ((v.Dims.getD k.toNat default).Stride > (128 : Int))) = false → J (Ao [(1, Ad a), (58, Bw true v.Dims), (59, Ad (↑v.Dims.length : Int)), (60, Ad (IntKind.i64.wrap (k + (1 : Int))))] []))) ∧ (decide (k < (↑v.Dims.length : Int)) = false → leO [] [] ∧ (Ai true).le (Ai b))) := by kernel_rfl
theorem OP (b : Bool) (m : D.Model) (args mt : List Int) (k : Int) (J : St → Prop) : ((Ag Tryz.prog tb Ba Hn true Tryz.f159 [] (Ai b)).loop [1, 1, 0, 1, 0] J).goal (Nf m args mt k) =
    ((decide (k < (↑mt.length : Int)) = true → ((0 : Int) ≤ k ∧ k < (↑mt.length : Int)) ∧ ((true && (bif decide (mt.getD k.toNat (0 : Int) < (-1 : Int)) then true else decide (mt.getD k.toNat (0 : Int) > (1 : Int))) == false && (mt.getD k.toNat (0 : Int) == 0) == true) = true → (0 : Int) ≤ k ∧ k < (↑args.length : Int)) ∧ ((true && (bif decide (mt.getD k.toNat (0 : Int) < (-1 : Int)) then true else decide (mt.getD k.toNat (0 : Int) > (1 : Int))) == false && (mt.getD k.toNat (0 : Int) == 0) == true) = true → (0 : Int) ≤ args.getD k.toNat (0 : Int) ∧ args.getD k.toNat (0 : Int) < (↑m.Exprs.length : Int)) ∧ ((bif bif decide (mt.getD k.toNat (0 : Int) < (-1 : Int)) then true else decide (mt.getD k.toNat (0 : Int) > (1 : Int)) then true else bif mt.getD k.toNat (0 : Int) == 0 then (m.Exprs.getD (args.getD k.toNat (0 : Int)).toNat default).Op != (2 : Int) else false) = true → leO [] [] ∧ (Ai false).le (Ai b)) ∧ ((bif bif decide (mt.getD k.toNat (0 : Int) < (-1 : Int)) then true else decide (mt.getD k.toNat (0 : Int) > (1 : Int)) then true else bif mt.getD k.toNat (0 : Int) == 0 then (m.Exprs.getD (args.getD k.toNat (0 : Int)).toNat default).Op != (2 : Int) else false) = false → J (Ao [(0, VV.tp (Ac m)), (2, Aa true args), (32, Aa true mt), (33, Ad (↑mt.length : Int)), (34, Ad (IntKind.i64.wrap (k + (1 : Int))))] []))) ∧ (decide (k < (↑mt.length : Int)) = false → leO [] [] ∧ (Ai true).le (Ai b))) := by kernel_rfl
theorem Rb (b : Bool) (m : D.Model) (a : Int) (x : D.Expr) (J : St → Prop) : ((Ag Tryz.prog tb Ba F6 true Tryz.f132 [] (Ai b)).loop [1, 1, 1, 0, 1, 0] J).goal (Gg m a x 0) =
    ((true = true → ((0 : Int) ≤ (0 : Int) ∧ (0 : Int) < (↑3 : Int)) ∧ ∃ (y : Int), Ae Tryz.prog 156 [] [Ad x.Op] [] (Ad y) ∧ ∃ (y_1 : Bool), ((true && decide ((0 : Int) < y) == true) = true → Ae Tryz.prog 157 [] [Ad a, VV.sl true 1 1 fun (i : Nat) => List.take 1 (List.drop (i * 1) [Ad x.A])] [] (Ai y_1)) ∧ ∃ (y_2 : Int), ((true && (bif decide ((0 : Int) < y) then !y_1 else false) == false) = true → Ae Tryz.prog 156 [] [Ad x.Op] [] (Ad y_2)) ∧ ((bif bif decide ((0 : Int) < y) then !y_1 else false then true else bif decide ((0 : Int) ≥ y_2) then x.A != (-1 : Int) else false) = true → leO [] [] ∧ (Ai false).le (Ai b)) ∧ ((bif bif decide ((0 : Int) < y) then !y_1 else false then true else bif decide ((0 : Int) ≥ y_2) then x.A != (-1 : Int) else false) = false → J (Ao [(0, VV.tp (Ac m)), (1, Ad a), (5, VV.bp 0 0), (30, VV.agg [Ad x.A, Ad x.B, Ad x.C]), (31, Ad (IntKind.i64.wrap ((0 : Int) + (1 : Int))))] [Ob.box (Au x)]))) ∧ (true = false → ((x.Op == 1) = true → ∃ (y : Bool), Ae Tryz.prog 107 [] [VV.agg [Ad (32 : Int), Ai true], Ad x.N] [] (Ai y) ∧ leO [] [] ∧ (Ai y).le (Ai b)) ∧ ((x.Op == 1) = false → ((x.Op == 2) = true → ∃ (y : Bool), Ae Tryz.prog 158 [] [VV.tp (Ac m), Ad a, VV.agg (A4 x.V)] [] (Ai y) ∧ leO [] [] ∧ (Ai y).le (Ai b)) ∧ ((x.Op == 2) = false → ((x.Op == 30) = true → ∃ (y : Bool), Ae Tryz.prog 159 [] [VV.tp (Ac m), Ad a, Aa true x.Args, Aa true x.Match] [] (Ai y) ∧ leO [] [] ∧ (Ai (bif y then bif x.N == 0 then true else x.N == 1 else false)).le (Ai b)) ∧ ((x.Op == 30) = false → ((x.Op == 38) = true → ∃ (y : Bool), Ae Tryz.prog 160 [] [VV.tp (Ac m), VV.agg (Au x)] [] (Ai y) ∧ leO [] [] ∧ (Ai y).le (Ai b)) ∧ ((x.Op == 38) = false → ((x.Op == 39) = true → ∃ (y : Bool), ((true && (bif decide (x.N ≥ (0 : Int)) then decide (x.N < (1073741824 : Int)) else false) == true) = true → Ae Tryz.prog 161 [] [VV.tp (Ac m), Ad x.N] [] (Ai y)) ∧ ((true && (bif bif decide (x.N ≥ (0 : Int)) then decide (x.N < (1073741824 : Int)) else false then y else false) == true) = true → (0 : Int) ≤ x.N ∧ x.N < (↑m.Procs.length : Int)) ∧ ∃ (y_1 : Bool), ((true && (bif bif bif decide (x.N ≥ (0 : Int)) then decide (x.N < (1073741824 : Int)) else false then y else false then (↑x.Args.length : Int) == (m.Procs.getD x.N.toNat default).Params else false) == true) = true → Ae Tryz.prog 157 [] [Ad a, Aa true x.Args] [] (Ai y_1)) ∧ leO [] [] ∧ (Ai (bif bif bif bif decide (x.N ≥ (0 : Int)) then decide (x.N < (1073741824 : Int)) else false then y else false then (↑x.Args.length : Int) == (m.Procs.getD x.N.toNat default).Params else false then y_1 else false)).le (Ai b)) ∧ ((x.Op == 39) = false → leO [] [] ∧ (Ai true).le (Ai b)))))))) := by kernel_rfl
theorem Ra (b : Bool) (m : D.Model) (a : Int) (x : D.Expr) (J : St → Prop) : ((Ag Tryz.prog tb Ba F6 true Tryz.f132 [] (Ai b)).loop [1, 1, 1, 0, 1, 0] J).goal (Gg m a x 1) =
    ((true = true → ((0 : Int) ≤ (1 : Int) ∧ (1 : Int) < (↑3 : Int)) ∧ ∃ (y : Int), Ae Tryz.prog 156 [] [Ad x.Op] [] (Ad y) ∧ ∃ (y_1 : Bool), ((true && decide ((1 : Int) < y) == true) = true → Ae Tryz.prog 157 [] [Ad a, VV.sl true 1 1 fun (i : Nat) => List.take 1 (List.drop (i * 1) [Ad x.B])] [] (Ai y_1)) ∧ ∃ (y_2 : Int), ((true && (bif decide ((1 : Int) < y) then !y_1 else false) == false) = true → Ae Tryz.prog 156 [] [Ad x.Op] [] (Ad y_2)) ∧ ((bif bif decide ((1 : Int) < y) then !y_1 else false then true else bif decide ((1 : Int) ≥ y_2) then x.B != (-1 : Int) else false) = true → leO [] [] ∧ (Ai false).le (Ai b)) ∧ ((bif bif decide ((1 : Int) < y) then !y_1 else false then true else bif decide ((1 : Int) ≥ y_2) then x.B != (-1 : Int) else false) = false → J (Ao [(0, VV.tp (Ac m)), (1, Ad a), (5, VV.bp 0 0), (30, VV.agg [Ad x.A, Ad x.B, Ad x.C]), (31, Ad (IntKind.i64.wrap ((1 : Int) + (1 : Int))))] [Ob.box (Au x)]))) ∧ (true = false → ((x.Op == 1) = true → ∃ (y : Bool), Ae Tryz.prog 107 [] [VV.agg [Ad (32 : Int), Ai true], Ad x.N] [] (Ai y) ∧ leO [] [] ∧ (Ai y).le (Ai b)) ∧ ((x.Op == 1) = false → ((x.Op == 2) = true → ∃ (y : Bool), Ae Tryz.prog 158 [] [VV.tp (Ac m), Ad a, VV.agg (A4 x.V)] [] (Ai y) ∧ leO [] [] ∧ (Ai y).le (Ai b)) ∧ ((x.Op == 2) = false → ((x.Op == 30) = true → ∃ (y : Bool), Ae Tryz.prog 159 [] [VV.tp (Ac m), Ad a, Aa true x.Args, Aa true x.Match] [] (Ai y) ∧ leO [] [] ∧ (Ai (bif y then bif x.N == 0 then true else x.N == 1 else false)).le (Ai b)) ∧ ((x.Op == 30) = false → ((x.Op == 38) = true → ∃ (y : Bool), Ae Tryz.prog 160 [] [VV.tp (Ac m), VV.agg (Au x)] [] (Ai y) ∧ leO [] [] ∧ (Ai y).le (Ai b)) ∧ ((x.Op == 38) = false → ((x.Op == 39) = true → ∃ (y : Bool), ((true && (bif decide (x.N ≥ (0 : Int)) then decide (x.N < (1073741824 : Int)) else false) == true) = true → Ae Tryz.prog 161 [] [VV.tp (Ac m), Ad x.N] [] (Ai y)) ∧ ((true && (bif bif decide (x.N ≥ (0 : Int)) then decide (x.N < (1073741824 : Int)) else false then y else false) == true) = true → (0 : Int) ≤ x.N ∧ x.N < (↑m.Procs.length : Int)) ∧ ∃ (y_1 : Bool), ((true && (bif bif bif decide (x.N ≥ (0 : Int)) then decide (x.N < (1073741824 : Int)) else false then y else false then (↑x.Args.length : Int) == (m.Procs.getD x.N.toNat default).Params else false) == true) = true → Ae Tryz.prog 157 [] [Ad a, Aa true x.Args] [] (Ai y_1)) ∧ leO [] [] ∧ (Ai (bif bif bif bif decide (x.N ≥ (0 : Int)) then decide (x.N < (1073741824 : Int)) else false then y else false then (↑x.Args.length : Int) == (m.Procs.getD x.N.toNat default).Params else false then y_1 else false)).le (Ai b)) ∧ ((x.Op == 39) = false → leO [] [] ∧ (Ai true).le (Ai b)))))))) := by kernel_rfl
theorem Q9 (b : Bool) (m : D.Model) (a : Int) (x : D.Expr) (J : St → Prop) : ((Ag Tryz.prog tb Ba F6 true Tryz.f132 [] (Ai b)).loop [1, 1, 1, 0, 1, 0] J).goal (Gg m a x 2) =
    ((true = true → ((0 : Int) ≤ (2 : Int) ∧ (2 : Int) < (↑3 : Int)) ∧ ∃ (y : Int), Ae Tryz.prog 156 [] [Ad x.Op] [] (Ad y) ∧ ∃ (y_1 : Bool), ((true && decide ((2 : Int) < y) == true) = true → Ae Tryz.prog 157 [] [Ad a, VV.sl true 1 1 fun (i : Nat) => List.take 1 (List.drop (i * 1) [Ad x.C])] [] (Ai y_1)) ∧ ∃ (y_2 : Int), ((true && (bif decide ((2 : Int) < y) then !y_1 else false) == false) = true → Ae Tryz.prog 156 [] [Ad x.Op] [] (Ad y_2)) ∧ ((bif bif decide ((2 : Int) < y) then !y_1 else false then true else bif decide ((2 : Int) ≥ y_2) then x.C != (-1 : Int) else false) = true → leO [] [] ∧ (Ai false).le (Ai b)) ∧ ((bif bif decide ((2 : Int) < y) then !y_1 else false then true else bif decide ((2 : Int) ≥ y_2) then x.C != (-1 : Int) else false) = false → J (Ao [(0, VV.tp (Ac m)), (1, Ad a), (5, VV.bp 0 0), (30, VV.agg [Ad x.A, Ad x.B, Ad x.C]), (31, Ad (IntKind.i64.wrap ((2 : Int) + (1 : Int))))] [Ob.box (Au x)]))) ∧ (true = false → ((x.Op == 1) = true → ∃ (y : Bool), Ae Tryz.prog 107 [] [VV.agg [Ad (32 : Int), Ai true], Ad x.N] [] (Ai y) ∧ leO [] [] ∧ (Ai y).le (Ai b)) ∧ ((x.Op == 1) = false → ((x.Op == 2) = true → ∃ (y : Bool), Ae Tryz.prog 158 [] [VV.tp (Ac m), Ad a, VV.agg (A4 x.V)] [] (Ai y) ∧ leO [] [] ∧ (Ai y).le (Ai b)) ∧ ((x.Op == 2) = false → ((x.Op == 30) = true → ∃ (y : Bool), Ae Tryz.prog 159 [] [VV.tp (Ac m), Ad a, Aa true x.Args, Aa true x.Match] [] (Ai y) ∧ leO [] [] ∧ (Ai (bif y then bif x.N == 0 then true else x.N == 1 else false)).le (Ai b)) ∧ ((x.Op == 30) = false → ((x.Op == 38) = true → ∃ (y : Bool), Ae Tryz.prog 160 [] [VV.tp (Ac m), VV.agg (Au x)] [] (Ai y) ∧ leO [] [] ∧ (Ai y).le (Ai b)) ∧ ((x.Op == 38) = false → ((x.Op == 39) = true → ∃ (y : Bool), ((true && (bif decide (x.N ≥ (0 : Int)) then decide (x.N < (1073741824 : Int)) else false) == true) = true → Ae Tryz.prog 161 [] [VV.tp (Ac m), Ad x.N] [] (Ai y)) ∧ ((true && (bif bif decide (x.N ≥ (0 : Int)) then decide (x.N < (1073741824 : Int)) else false then y else false) == true) = true → (0 : Int) ≤ x.N ∧ x.N < (↑m.Procs.length : Int)) ∧ ∃ (y_1 : Bool), ((true && (bif bif bif decide (x.N ≥ (0 : Int)) then decide (x.N < (1073741824 : Int)) else false then y else false then (↑x.Args.length : Int) == (m.Procs.getD x.N.toNat default).Params else false) == true) = true → Ae Tryz.prog 157 [] [Ad a, Aa true x.Args] [] (Ai y_1)) ∧ leO [] [] ∧ (Ai (bif bif bif bif decide (x.N ≥ (0 : Int)) then decide (x.N < (1073741824 : Int)) else false then y else false then (↑x.Args.length : Int) == (m.Procs.getD x.N.toNat default).Params else false then y_1 else false)).le (Ai b)) ∧ ((x.Op == 39) = false → leO [] [] ∧ (Ai true).le (Ai b)))))))) := by kernel_rfl
theorem Q8 (b : Bool) (m : D.Model) (a : Int) (x : D.Expr) (J : St → Prop) : ((Ag Tryz.prog tb Ba F6 true Tryz.f132 [] (Ai b)).loop [1, 1, 1, 0, 1, 0] J).goal (Gg m a x 3) =
    ((false = true → ((0 : Int) ≤ (3 : Int) ∧ (3 : Int) < (↑3 : Int)) ∧ False ∧ ∃ (y : Int), Ae Tryz.prog 156 [] [Ad x.Op] [] (Ad y) ∧ ((true && decide ((3 : Int) < y) == true) = true → False) ∧ ∃ (y_1 : Bool), ((true && decide ((3 : Int) < y) == true) = true → Ae Tryz.prog 157 [] [Ad a, VV.dead] [] (Ai y_1)) ∧ ∃ (y_2 : Int), ((true && (bif decide ((3 : Int) < y) then !y_1 else false) == false) = true → Ae Tryz.prog 156 [] [Ad x.Op] [] (Ad y_2)) ∧ ((true && (bif decide ((3 : Int) < y) then !y_1 else false) == false && decide ((3 : Int) ≥ y_2) == true) = true → False) ∧ ((true && (bif decide ((3 : Int) < y) then !y_1 else false) == false) = true → False) ∧ False ∧ False) ∧ (false = false → ((x.Op == 1) = true → ∃ (y : Bool), Ae Tryz.prog 107 [] [VV.agg [Ad (32 : Int), Ai true], Ad x.N] [] (Ai y) ∧ leO [] [] ∧ (Ai y).le (Ai b)) ∧ ((x.Op == 1) = false → ((x.Op == 2) = true → ∃ (y : Bool), Ae Tryz.prog 158 [] [VV.tp (Ac m), Ad a, VV.agg (A4 x.V)] [] (Ai y) ∧ leO [] [] ∧ (Ai y).le (Ai b)) ∧ ((x.Op == 2) = false → ((x.Op == 30) = true → ∃ (y : Bool), Ae Tryz.prog 159 [] [VV.tp (Ac m), Ad a, Aa true x.Args, Aa true x.Match] [] (Ai y) ∧ leO [] [] ∧ (Ai (bif y then bif x.N == 0 then true else x.N == 1 else false)).le (Ai b)) ∧ ((x.Op == 30) = false → ((x.Op == 38) = true → ∃ (y : Bool), Ae Tryz.prog 160 [] [VV.tp (Ac m), VV.agg (Au x)] [] (Ai y) ∧ leO [] [] ∧ (Ai y).le (Ai b)) ∧ ((x.Op == 38) = false → ((x.Op == 39) = true → ∃ (y : Bool), ((true && (bif decide (x.N ≥ (0 : Int)) then decide (x.N < (1073741824 : Int)) else false) == true) = true → Ae Tryz.prog 161 [] [VV.tp (Ac m), Ad x.N] [] (Ai y)) ∧ ((true && (bif bif decide (x.N ≥ (0 : Int)) then decide (x.N < (1073741824 : Int)) else false then y else false) == true) = true → (0 : Int) ≤ x.N ∧ x.N < (↑m.Procs.length : Int)) ∧ ∃ (y_1 : Bool), ((true && (bif bif bif decide (x.N ≥ (0 : Int)) then decide (x.N < (1073741824 : Int)) else false then y else false then (↑x.Args.length : Int) == (m.Procs.getD x.N.toNat default).Params else false) == true) = true → Ae Tryz.prog 157 [] [Ad a, Aa true x.Args] [] (Ai y_1)) ∧ leO [] [] ∧ (Ai (bif bif bif bif decide (x.N ≥ (0 : Int)) then decide (x.N < (1073741824 : Int)) else false then y else false then (↑x.Args.length : Int) == (m.Procs.getD x.N.toNat default).Params else false then y_1 else false)).le (Ai b)) ∧ ((x.Op == 39) = false → leO [] [] ∧ (Ai true).le (Ai b)))))))) := by kernel_rfl
theorem Tr (b : Bool) (p : D.Proc) (many k : Int) (J : St → Prop) : ((Ag Tryz.prog tb Ba Ej true Tryz.f104 [] (Ai b)).loop [1, 1, 1, 1, 0, 1, 0] J).goal (PZ p many k) =
    ((decide (k < (↑p.Locs.length : Int)) = true → ((0 : Int) ≤ k ∧ k < (↑p.Locs.length : Int)) ∧ ((bif bif decide ((↑(p.Locs.getD k.toNat default).Esc.length : Int) > (8 : Int)) then true else bif (p.Locs.getD k.toNat default).Dstep then (p.Locs.getD k.toNat default).Atomic else false then true else bif k == p.Final then decide (IntKind.i64.wrap ((↑(p.Locs.getD k.toNat default).Out.length : Int) + (↑(p.Locs.getD k.toNat default).Esc.length : Int)) > (0 : Int)) else false) = true → leO [] [] ∧ (Ai false).le (Ai b)) ∧ ((bif bif decide ((↑(p.Locs.getD k.toNat default).Esc.length : Int) > (8 : Int)) then true else bif (p.Locs.getD k.toNat default).Dstep then (p.Locs.getD k.toNat default).Atomic else false then true else bif k == p.Final then decide (IntKind.i64.wrap ((↑(p.Locs.getD k.toNat default).Out.length : Int) + (↑(p.Locs.getD k.toNat default).Esc.length : Int)) > (0 : Int)) else false) = false → ∃ (y : List (List D.Trans)), Ae Tryz.prog 134 [] [VV.agg (AY (p.Locs.getD k.toNat default))] [] (AE true y) ∧ AH ((Ag Tryz.prog tb Ba Ej true Tryz.f104 [] (Ai b)).loop [1, 1, 1, 1, 0, 1, 0] J) [1, 1, 0, 0, 1, 1, 1, 0] (Ao [(1, VV.bp 0 0), (3, Ad (↑p.Locs.length : Int)), (4, Ad many), (43, BM true p.Locs), (44, Ad (↑p.Locs.length : Int)), (45, Ad k), (79, AE true y), (80, Ad (↑y.length : Int)), (81, Ad (0 : Int))] [Ob.box (AB p)]))) ∧ (decide (k < (↑p.Locs.length : Int)) = false → leO [] [] ∧ (Ai true).le (Ai b))) := by kernel_rfl
theorem Tq (b : Bool) (p : D.Proc) (many k : Int) (ws : List (List D.Trans)) (j : Int) (J J2 : St → Prop) : (((Ag Tryz.prog tb Ba Ej true Tryz.f104 [] (Ai b)).loop [1, 1, 1, 1, 0, 1, 0] J).loop [1, 1, 0, 0, 1, 1, 1, 0] J2).goal (PY p many k ws j) =
    ((decide (j < (↑ws.length : Int)) = true → ((0 : Int) ≤ j ∧ j < (↑ws.length : Int)) ∧ ((bif decide (j > (0 : Int)) then (↑(ws.getD j.toNat []).length : Int) == 0 else false) = true → leO [] [] ∧ (Ai false).le (Ai b)) ∧ ((bif decide (j > (0 : Int)) then (↑(ws.getD j.toNat []).length : Int) == 0 else false) = false → (decide (IntKind.i64.wrap (many + (↑(ws.getD j.toNat []).length : Int)) > (1024 : Int)) = true → leO [] [] ∧ (Ai false).le (Ai b)) ∧ (decide (IntKind.i64.wrap (many + (↑(ws.getD j.toNat []).length : Int)) > (1024 : Int)) = false → AH (((Ag Tryz.prog tb Ba Ej true Tryz.f104 [] (Ai b)).loop [1, 1, 1, 1, 0, 1, 0] J).loop [1, 1, 0, 0, 1, 1, 1, 0] J2) [1, 1, 0, 0, 1, 1, 1, 1, 1, 0] (Ao [(1, VV.bp 0 0), (3, Ad (↑p.Locs.length : Int)), (4, Ad (IntKind.i64.wrap (many + (↑(ws.getD j.toNat []).length : Int)))), (43, BM true p.Locs), (44, Ad (↑p.Locs.length : Int)), (45, Ad k), (79, AE true ws), (80, Ad (↑ws.length : Int)), (81, Ad j), (99, Aq true (ws.getD j.toNat [])), (100, Ad (↑(ws.getD j.toNat []).length : Int)), (101, Ad (0 : Int))] [Ob.box (AB p)])))) ∧ (decide (j < (↑ws.length : Int)) = false → J (Ao [(1, VV.bp 0 0), (3, Ad (↑p.Locs.length : Int)), (4, Ad many), (43, BM true p.Locs), (44, Ad (↑p.Locs.length : Int)), (45, Ad (IntKind.i64.wrap (k + (1 : Int))))] [Ob.box (AB p)]))) := by kernel_rfl
theorem Tp (b : Bool) (p : D.Proc) (many k : Int) (ws : List (List D.Trans)) (j : Int) (w : List D.Trans) (h : Int) (J J2 J3 : St → Prop) : ((((Ag Tryz.prog tb Ba Ej true Tryz.f104 [] (Ai b)).loop [1, 1, 1, 1, 0, 1, 0] J).loop [1, 1, 0, 0, 1, 1, 1, 0] J2).loop [1, 1, 0, 0, 1, 1, 1, 1, 1, 0] J3).goal (PX p many k ws j w h) =
    ((decide (h < (↑w.length : Int)) = true → ((0 : Int) ≤ h ∧ h < (↑w.length : Int)) ∧ ((bif decide ((w.getD h.toNat default).To < (0 : Int)) then true else decide ((w.getD h.toNat default).To ≥ (↑p.Locs.length : Int))) = true → leO [] [] ∧ (Ai false).le (Ai b)) ∧ ((bif decide ((w.getD h.toNat default).To < (0 : Int)) then true else decide ((w.getD h.toNat default).To ≥ (↑p.Locs.length : Int))) = false → J3 (Ao [(1, VV.bp 0 0), (3, Ad (↑p.Locs.length : Int)), (4, Ad many), (43, BM true p.Locs), (44, Ad (↑p.Locs.length : Int)), (45, Ad k), (79, AE true ws), (80, Ad (↑ws.length : Int)), (81, Ad j), (99, Aq true w), (100, Ad (↑w.length : Int)), (101, Ad (IntKind.i64.wrap (h + (1 : Int))))] [Ob.box (AB p)]))) ∧ (decide (h < (↑w.length : Int)) = false → J2 (Ao [(1, VV.bp 0 0), (3, Ad (↑p.Locs.length : Int)), (4, Ad many), (43, BM true p.Locs), (44, Ad (↑p.Locs.length : Int)), (45, Ad k), (79, AE true ws), (80, Ad (↑ws.length : Int)), (81, Ad (IntKind.i64.wrap (j + (1 : Int))))] [Ob.box (AB p)]))) := by kernel_rfl
theorem O2 (b : Bool) (p : D.Proc) (k : Int) (J : St → Prop) : ((Ag Tryz.prog tb Ba Ho true Tryz.f105 [] (Ai b)).loop [1, 1, 0, 1, 0] J).goal (Ng p k) =
    ((decide (k < (↑p.Locs.length : Int)) = true → ((0 : Int) ≤ k ∧ k < (↑p.Locs.length : Int)) ∧ ((bif bif decide ((↑(p.Locs.getD k.toNat default).Esc.length : Int) > (0 : Int)) then true else (p.Locs.getD k.toNat default).Atomic then true else (p.Locs.getD k.toNat default).Dstep) = true → leO [] [] ∧ (Ai false).le (Ai b)) ∧ ((bif bif decide ((↑(p.Locs.getD k.toNat default).Esc.length : Int) > (0 : Int)) then true else (p.Locs.getD k.toNat default).Atomic then true else (p.Locs.getD k.toNat default).Dstep) = false → J (Ao [(25, BM true p.Locs), (26, Ad (↑p.Locs.length : Int)), (27, Ad (IntKind.i64.wrap (k + (1 : Int))))] []))) ∧ (decide (k < (↑p.Locs.length : Int)) = false → leO [] [] ∧ (Ai true).le (Ai b))) := by kernel_rfl
theorem R5 (b : Bool) (m : D.Model) (s : D.Stmt) (k : Int) (J : St → Prop) : ((Ag Tryz.prog tb Ba Ka true Tryz.f175 [] (Ai b)).loop [1, 1, 0, 1, 0] J).goal (Ub m s k) =
    ((decide (k < (↑s.Match.length : Int)) = true → ((0 : Int) ≤ k ∧ k < (↑s.Match.length : Int)) ∧ ((true && (s.Match.getD k.toNat (0 : Int) == 0) == true) = true → (0 : Int) ≤ k ∧ k < (↑s.Args.length : Int)) ∧ ∃ (y : Bool), ((true && (s.Match.getD k.toNat (0 : Int) == 0) == true) = true → Ae Tryz.prog 174 [] [VV.tp (Ac m), Ad (s.Args.getD k.toNat (0 : Int))] [] (Ai y)) ∧ ((bif s.Match.getD k.toNat (0 : Int) == 0 then !y else false) = true → leO [] [] ∧ (Ai false).le (Ai b)) ∧ ((bif s.Match.getD k.toNat (0 : Int) == 0 then !y else false) = false → J (Ao [(0, VV.tp (Ac m)), (3, VV.bp 0 0), (21, Aa true s.Match), (22, Ad (↑s.Match.length : Int)), (23, Ad (IntKind.i64.wrap (k + (1 : Int))))] [Ob.box (Av s)]))) ∧ (decide (k < (↑s.Match.length : Int)) = false → leO [] [] ∧ (Ai true).le (Ai b))) := by kernel_rfl
theorem VD (b : Bool) (m : D.Model) (i : Int) (list : List Int) (run : Int) (J : St → Prop) : ((Ag Tryz.prog tb Ba Hl true Tryz.f136 [] (Ai b)).first [1] 0 J).goal (Aab m i list run) =
    (((0 : Int) ≤ (↑m.Exprs.length : Int) ∧ (↑m.Exprs.length : Int) ≤ (↑m.Exprs.length : Int) ∧ (↑m.Exprs.length : Int) * (↑1 : Int) ≤ (140737488355328 : Int)) ∧ list.length * 8 ≤ 140737488355328 ∧ (∀ (i : Nat), i < list.length → ((fun (i : Nat) => [Ad (list.getD i (0 : Int))]) i).all VV.mem1 = true) ∧ (((0 : Int) == (↑list.length : Int)) = true → leO [] [] ∧ (Ai true).le (Ai b)) ∧ (((0 : Int) == (↑list.length : Int)) = false → ((0 : Int) ≤ (0 : Int) ∧ (0 : Int) < (↑list.length : Int)) ∧ ((0 : Int) ≤ list.getD (Int.toNat (0 : Int)) (0 : Int) ∧ list.getD (Int.toNat (0 : Int)) (0 : Int) < (↑(↑m.Exprs.length : Int).toNat : Int)) ∧ (false = true → J (Ao [(0, VV.tp (Ac m)), (1, Ad i), (2, Aa false list), (3, Ad run), (9, VV.ow 0 0 (↑m.Exprs.length : Int).toNat), (10, VV.ow 1 0 list.length), (11, Ad (IntKind.i64.wrap ((0 : Int) + (1 : Int))))] [Ob.arr true 0 (↑m.Exprs.length : Int).toNat 1 fun (_ : Nat) => (((Ag Tryz.prog tb Ba Hl true Tryz.f136 [] (Ai b)).first [1] 0 J).T (4 : TypeId)).zero, Ob.arr true 0 list.length 1 fun (i : Nat) => [Ad (list.getD i (0 : Int))]])) ∧ (false = false → ((0 : Int) ≤ list.getD (Int.toNat (0 : Int)) (0 : Int) ∧ list.getD (Int.toNat (0 : Int)) (0 : Int) < (↑(↑m.Exprs.length : Int).toNat : Int)) ∧ ((0 : Int) ≤ list.getD (Int.toNat (0 : Int)) (0 : Int) ∧ list.getD (Int.toNat (0 : Int)) (0 : Int) < (↑m.Exprs.length : Int)) ∧ ((bif bif (m.Exprs.getD (list.getD (Int.toNat (0 : Int)) (0 : Int)).toNat default).Op == 39 then list.getD (Int.toNat (0 : Int)) (0 : Int) != run else false then true else bif i == m.Claim then bif bif (m.Exprs.getD (list.getD (Int.toNat (0 : Int)) (0 : Int)).toNat default).Op == 31 then true else (m.Exprs.getD (list.getD (Int.toNat (0 : Int)) (0 : Int)).toNat default).Op == 39 then true else bif (m.Exprs.getD (list.getD (Int.toNat (0 : Int)) (0 : Int)).toNat default).Op == 2 then (m.Exprs.getD (list.getD (Int.toNat (0 : Int)) (0 : Int)).toNat default).V.Scope == 1 else false else false) = true → leO [] [] ∧ (Ai false).le (Ai b)) ∧ ((bif bif (m.Exprs.getD (list.getD (Int.toNat (0 : Int)) (0 : Int)).toNat default).Op == 39 then list.getD (Int.toNat (0 : Int)) (0 : Int) != run else false then true else bif i == m.Claim then bif bif (m.Exprs.getD (list.getD (Int.toNat (0 : Int)) (0 : Int)).toNat default).Op == 31 then true else (m.Exprs.getD (list.getD (Int.toNat (0 : Int)) (0 : Int)).toNat default).Op == 39 then true else bif (m.Exprs.getD (list.getD (Int.toNat (0 : Int)) (0 : Int)).toNat default).Op == 2 then (m.Exprs.getD (list.getD (Int.toNat (0 : Int)) (0 : Int)).toNat default).V.Scope == 1 else false else false) = false → (((m.Exprs.getD (list.getD (Int.toNat (0 : Int)) (0 : Int)).toNat default).Op == 2) = true → ∃ (y : Int), Ae Tryz.prog 146 [] [VV.agg [Ad (m.Exprs.getD (list.getD (Int.toNat (0 : Int)) (0 : Int)).toNat default).V.Scope, Ad (m.Exprs.getD (list.getD (Int.toNat (0 : Int)) (0 : Int)).toNat default).V.Slot, Ad (m.Exprs.getD (list.getD (Int.toNat (0 : Int)) (0 : Int)).toNat default).V.Who, Ad (m.Exprs.getD (list.getD (Int.toNat (0 : Int)) (0 : Int)).toNat default).V.Type_, Bw true (m.Exprs.getD (list.getD (Int.toNat (0 : Int)) (0 : Int)).toNat default).V.Dims]] [] (Ad y) ∧ ∃ (y_1 : Int), Ae Tryz.prog 163 [] [VV.tp (Ac m), Ad i, VV.agg [Ad (m.Exprs.getD (list.getD (Int.toNat (0 : Int)) (0 : Int)).toNat default).V.Scope, Ad (m.Exprs.getD (list.getD (Int.toNat (0 : Int)) (0 : Int)).toNat default).V.Slot, Ad (m.Exprs.getD (list.getD (Int.toNat (0 : Int)) (0 : Int)).toNat default).V.Who, Ad (m.Exprs.getD (list.getD (Int.toNat (0 : Int)) (0 : Int)).toNat default).V.Type_, Bw true (m.Exprs.getD (list.getD (Int.toNat (0 : Int)) (0 : Int)).toNat default).V.Dims]] [] (Ad y_1) ∧ (decide (y > y_1) = true → leO [] [] ∧ (Ai false).le (Ai b)) ∧ (decide (y > y_1) = false → ∃ (y : List Int), Ae Tryz.prog 133 [] [VV.agg [Ad (m.Exprs.getD (list.getD (Int.toNat (0 : Int)) (0 : Int)).toNat default).Op, Ad (m.Exprs.getD (list.getD (Int.toNat (0 : Int)) (0 : Int)).toNat default).N, Ad (m.Exprs.getD (list.getD (Int.toNat (0 : Int)) (0 : Int)).toNat default).A, Ad (m.Exprs.getD (list.getD (Int.toNat (0 : Int)) (0 : Int)).toNat default).B, Ad (m.Exprs.getD (list.getD (Int.toNat (0 : Int)) (0 : Int)).toNat default).C, Ad (m.Exprs.getD (list.getD (Int.toNat (0 : Int)) (0 : Int)).toNat default).V.Scope, Ad (m.Exprs.getD (list.getD (Int.toNat (0 : Int)) (0 : Int)).toNat default).V.Slot, Ad (m.Exprs.getD (list.getD (Int.toNat (0 : Int)) (0 : Int)).toNat default).V.Who, Ad (m.Exprs.getD (list.getD (Int.toNat (0 : Int)) (0 : Int)).toNat default).V.Type_, Bw true (m.Exprs.getD (list.getD (Int.toNat (0 : Int)) (0 : Int)).toNat default).V.Dims, Aa true (m.Exprs.getD (list.getD (Int.toNat (0 : Int)) (0 : Int)).toNat default).Args, Aa true (m.Exprs.getD (list.getD (Int.toNat (0 : Int)) (0 : Int)).toNat default).Match]] [] (Aa true y) ∧ (list.length + y.length) * 8 ≤ 140737488355328 ∧ (∀ (i : Nat), i < y.length → ((fun (i : Nat) => [Ad (y.getD i (0 : Int))]) i).all VV.mem1 = true) ∧ J (Ao [(0, VV.tp (Ac m)), (1, Ad i), (2, Aa false list), (3, Ad run), (9, VV.ow 0 0 (↑m.Exprs.length : Int).toNat), (10, VV.ow 1 0 (list.length + y.length)), (11, Ad (IntKind.i64.wrap ((0 : Int) + (1 : Int))))] [Ob.arr true 0 (↑m.Exprs.length : Int).toNat 1 fun (j : Nat) => bif j.beq (list.getD 0 (0 : Int)).toNat then [Ai true] else [Ai false], Ob.arr true 0 (list.length + y.length) 1 fun (i : Nat) => bif i.blt list.length then (fun (i : Nat) => [Ad (list.getD i (0 : Int))]) i else (fun (i : Nat) => [Ad (y.getD i (0 : Int))]) (i - list.length)]))) ∧ (((m.Exprs.getD (list.getD (Int.toNat (0 : Int)) (0 : Int)).toNat default).Op == 2) = false → ∃ (y : List Int), Ae Tryz.prog 133 [] [VV.agg [Ad (m.Exprs.getD (list.getD (Int.toNat (0 : Int)) (0 : Int)).toNat default).Op, Ad (m.Exprs.getD (list.getD (Int.toNat (0 : Int)) (0 : Int)).toNat default).N, Ad (m.Exprs.getD (list.getD (Int.toNat (0 : Int)) (0 : Int)).toNat default).A, Ad (m.Exprs.getD (list.getD (Int.toNat (0 : Int)) (0 : Int)).toNat default).B, Ad (m.Exprs.getD (list.getD (Int.toNat (0 : Int)) (0 : Int)).toNat default).C, Ad (m.Exprs.getD (list.getD (Int.toNat (0 : Int)) (0 : Int)).toNat default).V.Scope, Ad (m.Exprs.getD (list.getD (Int.toNat (0 : Int)) (0 : Int)).toNat default).V.Slot, Ad (m.Exprs.getD (list.getD (Int.toNat (0 : Int)) (0 : Int)).toNat default).V.Who, Ad (m.Exprs.getD (list.getD (Int.toNat (0 : Int)) (0 : Int)).toNat default).V.Type_, Bw true (m.Exprs.getD (list.getD (Int.toNat (0 : Int)) (0 : Int)).toNat default).V.Dims, Aa true (m.Exprs.getD (list.getD (Int.toNat (0 : Int)) (0 : Int)).toNat default).Args, Aa true (m.Exprs.getD (list.getD (Int.toNat (0 : Int)) (0 : Int)).toNat default).Match]] [] (Aa true y) ∧ (list.length + y.length) * 8 ≤ 140737488355328 ∧ (∀ (i : Nat), i < y.length → ((fun (i : Nat) => [Ad (y.getD i (0 : Int))]) i).all VV.mem1 = true) ∧ J (Ao [(0, VV.tp (Ac m)), (1, Ad i), (2, Aa false list), (3, Ad run), (9, VV.ow 0 0 (↑m.Exprs.length : Int).toNat), (10, VV.ow 1 0 (list.length + y.length)), (11, Ad (IntKind.i64.wrap ((0 : Int) + (1 : Int))))] [Ob.arr true 0 (↑m.Exprs.length : Int).toNat 1 fun (j : Nat) => bif j.beq (list.getD 0 (0 : Int)).toNat then [Ai true] else [Ai false], Ob.arr true 0 (list.length + y.length) 1 fun (i : Nat) => bif i.blt list.length then (fun (i : Nat) => [Ad (list.getD i (0 : Int))]) i else (fun (i : Nat) => [Ad (y.getD i (0 : Int))]) (i - list.length)])))))) := by kernel_rfl
theorem VC (b : Bool) (m : D.Model) (i : Int) (list : List Int) (run : Int) (seen : List Bool) (todo : List Int) (k : Int) (J : St → Prop) : ((Ag Tryz.prog tb Ba Hl true Tryz.f136 [] (Ai b)).pass [1] 0 J).goal (Og m i list run seen todo k) =
    (((k == (↑todo.length : Int)) = true → leO [] [] ∧ (Ai true).le (Ai b)) ∧ ((k == (↑todo.length : Int)) = false → ((0 : Int) ≤ k ∧ k < (↑todo.length : Int)) ∧ ((0 : Int) ≤ todo.getD k.toNat (0 : Int) ∧ todo.getD k.toNat (0 : Int) < (↑seen.length : Int)) ∧ (seen.getD (todo.getD k.toNat (0 : Int)).toNat false = true → J (Ao [(0, VV.tp (Ac m)), (1, Ad i), (2, Aa false list), (3, Ad run), (9, VV.ow 0 0 seen.length), (10, VV.ow 1 0 todo.length), (11, Ad (IntKind.i64.wrap (k + (1 : Int))))] [Ob.arr true 0 seen.length 1 fun (i : Nat) => [Ai (seen.getD i false)], Ob.arr true 0 todo.length 1 fun (i : Nat) => [Ad (todo.getD i (0 : Int))]])) ∧ (seen.getD (todo.getD k.toNat (0 : Int)).toNat false = false → ((0 : Int) ≤ todo.getD k.toNat (0 : Int) ∧ todo.getD k.toNat (0 : Int) < (↑seen.length : Int)) ∧ ((0 : Int) ≤ todo.getD k.toNat (0 : Int) ∧ todo.getD k.toNat (0 : Int) < (↑m.Exprs.length : Int)) ∧ ((bif bif (m.Exprs.getD (todo.getD k.toNat (0 : Int)).toNat default).Op == 39 then todo.getD k.toNat (0 : Int) != run else false then true else bif i == m.Claim then bif bif (m.Exprs.getD (todo.getD k.toNat (0 : Int)).toNat default).Op == 31 then true else (m.Exprs.getD (todo.getD k.toNat (0 : Int)).toNat default).Op == 39 then true else bif (m.Exprs.getD (todo.getD k.toNat (0 : Int)).toNat default).Op == 2 then (m.Exprs.getD (todo.getD k.toNat (0 : Int)).toNat default).V.Scope == 1 else false else false) = true → leO [] [] ∧ (Ai false).le (Ai b)) ∧ ((bif bif (m.Exprs.getD (todo.getD k.toNat (0 : Int)).toNat default).Op == 39 then todo.getD k.toNat (0 : Int) != run else false then true else bif i == m.Claim then bif bif (m.Exprs.getD (todo.getD k.toNat (0 : Int)).toNat default).Op == 31 then true else (m.Exprs.getD (todo.getD k.toNat (0 : Int)).toNat default).Op == 39 then true else bif (m.Exprs.getD (todo.getD k.toNat (0 : Int)).toNat default).Op == 2 then (m.Exprs.getD (todo.getD k.toNat (0 : Int)).toNat default).V.Scope == 1 else false else false) = false → (((m.Exprs.getD (todo.getD k.toNat (0 : Int)).toNat default).Op == 2) = true → ∃ (y : Int), Ae Tryz.prog 146 [] [VV.agg (A4 (m.Exprs.getD (todo.getD k.toNat (0 : Int)).toNat default).V)] [] (Ad y) ∧ ∃ (y_1 : Int), Ae Tryz.prog 163 [] [VV.tp (Ac m), Ad i, VV.agg (A4 (m.Exprs.getD (todo.getD k.toNat (0 : Int)).toNat default).V)] [] (Ad y_1) ∧ (decide (y > y_1) = true → leO [] [] ∧ (Ai false).le (Ai b)) ∧ (decide (y > y_1) = false → ∃ (y : List Int), Ae Tryz.prog 133 [] [VV.agg (Au (m.Exprs.getD (todo.getD k.toNat (0 : Int)).toNat default))] [] (Aa true y) ∧ (todo.length + y.length) * 8 ≤ 140737488355328 ∧ (∀ (i : Nat), i < y.length → ((fun (i : Nat) => [Ad (y.getD i (0 : Int))]) i).all VV.mem1 = true) ∧ J (Ao [(0, VV.tp (Ac m)), (1, Ad i), (2, Aa false list), (3, Ad run), (9, VV.ow 0 0 seen.length), (10, VV.ow 1 0 (todo.length + y.length)), (11, Ad (IntKind.i64.wrap (k + (1 : Int))))] [Ob.arr true 0 seen.length 1 fun (j : Nat) => bif j.beq (todo.getD k.toNat (0 : Int)).toNat then [Ai true] else [Ai (seen.getD j false)], Ob.arr true 0 (todo.length + y.length) 1 fun (i : Nat) => bif i.blt todo.length then A7 todo i else (fun (i : Nat) => [Ad (y.getD i (0 : Int))]) (i - todo.length)]))) ∧ (((m.Exprs.getD (todo.getD k.toNat (0 : Int)).toNat default).Op == 2) = false → ∃ (y : List Int), Ae Tryz.prog 133 [] [VV.agg (Au (m.Exprs.getD (todo.getD k.toNat (0 : Int)).toNat default))] [] (Aa true y) ∧ (todo.length + y.length) * 8 ≤ 140737488355328 ∧ (∀ (i : Nat), i < y.length → ((fun (i : Nat) => [Ad (y.getD i (0 : Int))]) i).all VV.mem1 = true) ∧ J (Ao [(0, VV.tp (Ac m)), (1, Ad i), (2, Aa false list), (3, Ad run), (9, VV.ow 0 0 seen.length), (10, VV.ow 1 0 (todo.length + y.length)), (11, Ad (IntKind.i64.wrap (k + (1 : Int))))] [Ob.arr true 0 seen.length 1 fun (j : Nat) => bif j.beq (todo.getD k.toNat (0 : Int)).toNat then [Ai true] else [Ai (seen.getD j false)], Ob.arr true 0 (todo.length + y.length) 1 fun (i : Nat) => bif i.blt todo.length then A7 todo i else (fun (i : Nat) => [Ad (y.getD i (0 : Int))]) (i - todo.length)])))))) := by kernel_rfl
theorem WD (b : Bool) (m : D.Model) (i : Int) (p : D.Proc) (k : Int) (J : St → Prop) : ((Ag Tryz.prog tb Ba Ft true Tryz.f106 [] (Ai b)).loop [1, 1, 0, 1, 0] J).goal (Oo m i p k) =
    ((decide (k < (↑p.Locs.length : Int)) = true → ((0 : Int) ≤ k ∧ k < (↑p.Locs.length : Int)) ∧ ∃ (y : List (List D.Trans)), Ae Tryz.prog 134 [] [VV.agg (AY (p.Locs.getD k.toNat default))] [] (AE true y) ∧ AH ((Ag Tryz.prog tb Ba Ft true Tryz.f106 [] (Ai b)).loop [1, 1, 0, 1, 0] J) [1, 1, 0, 0, 1, 1, 0] (Ao [(0, VV.tp (Ac m)), (1, Ad i), (5, VV.bp 0 0), (21, BM true p.Locs), (22, Ad (↑p.Locs.length : Int)), (23, Ad k), (28, AE true y), (29, Ad (↑y.length : Int)), (30, Ad (0 : Int))] [Ob.box (AB p)])) ∧ (decide (k < (↑p.Locs.length : Int)) = false → ∃ (y : Bool), ((true && decide (p.Provided < (0 : Int)) == false) = true → Ae Tryz.prog 136 [] [VV.tp (Ac m), Ad i, VV.sl true 1 1 fun (i : Nat) => List.take 1 (List.drop (i * 1) [Ad p.Provided]), Ad (-1 : Int)] [] (Ai y)) ∧ leO [] [] ∧ (Ai (bif decide (p.Provided < (0 : Int)) then true else y)).le (Ai b))) := by kernel_rfl
theorem WC (b : Bool) (m : D.Model) (i : Int) (p : D.Proc) (k : Int) (ws : List (List D.Trans)) (j : Int) (J J2 : St → Prop) : (((Ag Tryz.prog tb Ba Ft true Tryz.f106 [] (Ai b)).loop [1, 1, 0, 1, 0] J).loop [1, 1, 0, 0, 1, 1, 0] J2).goal (On m i p k ws j) =
    ((decide (j < (↑ws.length : Int)) = true → ((0 : Int) ≤ j ∧ j < (↑ws.length : Int)) ∧ AH (((Ag Tryz.prog tb Ba Ft true Tryz.f106 [] (Ai b)).loop [1, 1, 0, 1, 0] J).loop [1, 1, 0, 0, 1, 1, 0] J2) [1, 1, 0, 0, 1, 1, 0] (Ao [(0, VV.tp (Ac m)), (1, Ad i), (5, VV.bp 0 0), (21, BM true p.Locs), (22, Ad (↑p.Locs.length : Int)), (23, Ad k), (28, AE true ws), (29, Ad (↑ws.length : Int)), (30, Ad j), (34, Aq true (ws.getD j.toNat [])), (35, Ad (↑(ws.getD j.toNat []).length : Int)), (36, Ad (0 : Int))] [Ob.box (AB p)])) ∧ (decide (j < (↑ws.length : Int)) = false → J (Ao [(0, VV.tp (Ac m)), (1, Ad i), (5, VV.bp 0 0), (21, BM true p.Locs), (22, Ad (↑p.Locs.length : Int)), (23, Ad (IntKind.i64.wrap (k + (1 : Int))))] [Ob.box (AB p)]))) := by kernel_rfl
theorem WB (b : Bool) (m : D.Model) (i : Int) (p : D.Proc) (k : Int) (ws : List (List D.Trans)) (j : Int) (w : List D.Trans) (h : Int) (J J2 J3 : St → Prop) : ((((Ag Tryz.prog tb Ba Ft true Tryz.f106 [] (Ai b)).loop [1, 1, 0, 1, 0] J).loop [1, 1, 0, 0, 1, 1, 0] J2).loop [1, 1, 0, 0, 1, 1, 0] J3).goal (Um m i p k ws j w h) =
    ((decide (h < (↑w.length : Int)) = true → ((0 : Int) ≤ h ∧ h < (↑w.length : Int)) ∧ ∃ (y : Bool), Ae Tryz.prog 135 [] [VV.tp (Ac m), Ad i, VV.agg (Av (w.getD h.toNat default).S)] [] (Ai y) ∧ ((!y) = true → leO [] [] ∧ (Ai false).le (Ai b)) ∧ ((!y) = false → J3 (Ao [(0, VV.tp (Ac m)), (1, Ad i), (5, VV.bp 0 0), (21, BM true p.Locs), (22, Ad (↑p.Locs.length : Int)), (23, Ad k), (28, AE true ws), (29, Ad (↑ws.length : Int)), (30, Ad j), (34, Aq true w), (35, Ad (↑w.length : Int)), (36, Ad (IntKind.i64.wrap (h + (1 : Int))))] [Ob.box (AB p)]))) ∧ (decide (h < (↑w.length : Int)) = false → J2 (Ao [(0, VV.tp (Ac m)), (1, Ad i), (5, VV.bp 0 0), (21, BM true p.Locs), (22, Ad (↑p.Locs.length : Int)), (23, Ad k), (28, AE true ws), (29, Ad (↑ws.length : Int)), (30, Ad (IntKind.i64.wrap (j + (1 : Int))))] [Ob.box (AB p)]))) := by kernel_rfl
theorem PL (r e : Int) (m : D.Model) (k : Int) (J : St → Prop) : ((Ag Tryz.prog tb Ba CP true Tryz.f102 [] (.tup [Ad r, Ad e])).loop [1, 1, 1, 1, 1, 0, 1, 0] J).goal (X8 m k) =
    ((decide (k < (↑m.Shapes.length : Int)) = true → ((0 : Int) ≤ k ∧ k < (↑m.Shapes.length : Int)) ∧ ∃ (y : Bool), Ae Tryz.prog 131 [] [VV.agg (Bq (m.Shapes.getD k.toNat default))] [] (Ai y) ∧ ((!y) = true → leO [] [] ∧ (VV.tup [Ad (2 : Int), Ad k]).le (VV.tup [Ad r, Ad e])) ∧ ((!y) = false → J (Ao [(0, VV.tp (Ac m)), (4, VV.bp 0 0), (50, Aw true m.Shapes), (51, Ad (↑m.Shapes.length : Int)), (52, Ad (IntKind.i64.wrap (k + (1 : Int))))] [Ob.box (Ac m)]))) ∧ (decide (k < (↑m.Shapes.length : Int)) = false → AH (Ag Tryz.prog tb Ba CP true Tryz.f102 [] (VV.tup [Ad r, Ad e])) [1, 1, 1, 1, 1, 1, 0, 1, 0] (Ao [(0, VV.tp (Ac m)), (4, VV.bp 0 0), (63, Aa true m.Chans), (64, Ad (↑m.Chans.length : Int)), (65, Ad (0 : Int))] [Ob.box (Ac m)]))) := by kernel_rfl
theorem PK (r e : Int) (m : D.Model) (k : Int) (J : St → Prop) : ((Ag Tryz.prog tb Ba CP true Tryz.f102 [] (.tup [Ad r, Ad e])).loop [1, 1, 1, 1, 1, 1, 0, 1, 0] J).goal (X7 m k) =
    ((decide (k < (↑m.Chans.length : Int)) = true → ((0 : Int) ≤ k ∧ k < (↑m.Chans.length : Int)) ∧ ((bif decide (m.Chans.getD k.toNat (0 : Int) < (0 : Int)) then true else decide (m.Chans.getD k.toNat (0 : Int) ≥ (↑m.Shapes.length : Int))) = true → leO [] [] ∧ (VV.tup [Ad (2 : Int), Ad k]).le (VV.tup [Ad r, Ad e])) ∧ ((bif decide (m.Chans.getD k.toNat (0 : Int) < (0 : Int)) then true else decide (m.Chans.getD k.toNat (0 : Int) ≥ (↑m.Shapes.length : Int))) = false → J (Ao [(0, VV.tp (Ac m)), (4, VV.bp 0 0), (63, Aa true m.Chans), (64, Ad (↑m.Chans.length : Int)), (65, Ad (IntKind.i64.wrap (k + (1 : Int))))] [Ob.box (Ac m)]))) ∧ (decide (k < (↑m.Chans.length : Int)) = false → ((bif bif bif bif decide ((↑m.Procs.length : Int) < (1 : Int)) then true else decide ((↑m.Procs.length : Int) > (16 : Int)) then true else decide (m.Claim < (-1 : Int)) then true else decide (m.Claim ≥ (↑m.Procs.length : Int)) then true else decide ((↑m.Exprs.length : Int) > (4096 : Int))) = true → leO [] [] ∧ (VV.tup [Ad (3 : Int), Ad (-1 : Int)]).le (VV.tup [Ad r, Ad e])) ∧ ((bif bif bif bif decide ((↑m.Procs.length : Int) < (1 : Int)) then true else decide ((↑m.Procs.length : Int) > (16 : Int)) then true else decide (m.Claim < (-1 : Int)) then true else decide (m.Claim ≥ (↑m.Procs.length : Int)) then true else decide ((↑m.Exprs.length : Int) > (4096 : Int))) = false → ((0 : Int) ≤ (↑m.Exprs.length : Int) ∧ (↑m.Exprs.length : Int) ≤ (↑m.Exprs.length : Int) ∧ (↑m.Exprs.length : Int) * (↑1 : Int) ≤ (140737488355328 : Int)) ∧ AH (Ag Tryz.prog tb Ba CP true Tryz.f102 [] (VV.tup [Ad r, Ad e])) [1, 1, 1, 1, 1, 1, 1, 1, 1, 0, 1, 0] (Ao [(0, VV.tp (Ac m)), (4, VV.bp 0 0), (10, VV.ow 1 0 (↑m.Exprs.length : Int).toNat), (116, Ad (↑m.Exprs.length : Int)), (117, Ad (0 : Int))] [Ob.box (Ac m), Ob.arr true 0 (↑m.Exprs.length : Int).toNat 1 fun (_ : Nat) => ((Ag Tryz.prog tb Ba CP true Tryz.f102 [] (VV.tup [Ad r, Ad e])).T (4 : TypeId)).zero])))) := by kernel_rfl
theorem PJ (r e : Int) (m : D.Model) (had : List Bool) (k : Int) (J : St → Prop) : ((Ag Tryz.prog tb Ba CP true Tryz.f102 [] (.tup [Ad r, Ad e])).loop [1, 1, 1, 1, 1, 1, 1, 1, 1, 0, 1, 0] J).goal (X6 m had k) =
    ((decide (k < (↑m.Exprs.length : Int)) = true → ∃ (y : Bool), Ae Tryz.prog 132 [] [VV.tp (Ac m), Ad k] [] (Ai y) ∧ ((!y) = true → leO [] [] ∧ (VV.tup [Ad (3 : Int), Ad k]).le (VV.tup [Ad r, Ad e])) ∧ ((!y) = false → ((0 : Int) ≤ k ∧ k < (↑m.Exprs.length : Int)) ∧ ∃ (y : List Int), Ae Tryz.prog 133 [] [VV.agg (Au (m.Exprs.getD k.toNat default))] [] (Aa true y) ∧ AH ((Ag Tryz.prog tb Ba CP true Tryz.f102 [] (VV.tup [Ad r, Ad e])).loop [1, 1, 1, 1, 1, 1, 1, 1, 1, 0, 1, 0] J) [1, 1, 0, 0, 1, 1, 1, 0] (Ao [(0, VV.tp (Ac m)), (4, VV.bp 0 0), (10, VV.ow 1 0 had.length), (11, Ad k), (116, Ad (↑m.Exprs.length : Int)), (117, Ad k), (130, Aa true y), (131, Ad (↑y.length : Int)), (132, Ad (0 : Int))] [Ob.box (Ac m), Ob.arr true 0 had.length 1 fun (i : Nat) => [Ai (had.getD i false)]]))) ∧ (decide (k < (↑m.Exprs.length : Int)) = false → leO [] [] ∧ (VV.tup [Ad (0 : Int), Ad (0 : Int)]).le (VV.tup [Ad r, Ad e]))) := by kernel_rfl
theorem PI (r e : Int) (m : D.Model) (had : List Bool) (k : Int) (l : List Int) (j : Int) (J J2 : St → Prop) : (((Ag Tryz.prog tb Ba CP true Tryz.f102 [] (.tup [Ad r, Ad e])).loop [1, 1, 1, 1, 1, 1, 1, 1, 1, 0, 1, 0] J).loop [1, 1, 0, 0, 1, 1, 1, 0] J2).goal (X5 m had k l j) =
    ((decide (j < (↑l.length : Int)) = true → ((0 : Int) ≤ j ∧ j < (↑l.length : Int)) ∧ ((0 : Int) ≤ l.getD j.toNat (0 : Int) ∧ l.getD j.toNat (0 : Int) < (↑had.length : Int)) ∧ (had.getD (l.getD j.toNat (0 : Int)).toNat false = true → leO [] [] ∧ (VV.tup [Ad (3 : Int), Ad k]).le (VV.tup [Ad r, Ad e])) ∧ (had.getD (l.getD j.toNat (0 : Int)).toNat false = false → ((0 : Int) ≤ l.getD j.toNat (0 : Int) ∧ l.getD j.toNat (0 : Int) < (↑had.length : Int)) ∧ J2 (Ao [(0, VV.tp (Ac m)), (4, VV.bp 0 0), (10, VV.ow 1 0 had.length), (11, Ad k), (116, Ad (↑m.Exprs.length : Int)), (117, Ad k), (130, Aa true l), (131, Ad (↑l.length : Int)), (132, Ad (IntKind.i64.wrap (j + (1 : Int))))] [Ob.box (Ac m), Ob.arr true 0 had.length 1 fun (j_1 : Nat) => bif j_1.beq (l.getD j.toNat (0 : Int)).toNat then [Ai true] else [Ai (had.getD j_1 false)]]))) ∧ (decide (j < (↑l.length : Int)) = false → J (Ao [(0, VV.tp (Ac m)), (4, VV.bp 0 0), (10, VV.ow 1 0 had.length), (116, Ad (↑m.Exprs.length : Int)), (117, Ad (IntKind.i64.wrap (k + (1 : Int))))] [Ob.box (Ac m), Ob.arr true 0 had.length 1 fun (i : Nat) => [Ai (had.getD i false)]]))) := by kernel_rfl
theorem W8 (r : List Int) (x : D.Expr) (l : List Int) (k : Int) (J : St → Prop) : ((Ag Tryz.prog tb Ba Fu true Tryz.f133 [] (Aa true r)).loop [1, 1, 1, 0, 1, 0, 1, 1, 0] J).goal (Si x l k) =
    ((decide (k < (↑x.V.Dims.length : Int)) = true → ((0 : Int) ≤ k ∧ k < (↑x.V.Dims.length : Int)) ∧ (l.length + 1) * 8 ≤ 140737488355328 ∧ J (Ao [(3, VV.ow 0 0 (l.length + 1)), (45, Bw true x.V.Dims), (46, Ad (↑x.V.Dims.length : Int)), (47, Ad (IntKind.i64.wrap (k + (1 : Int))))] [Ob.arr true 0 (l.length + 1) 1 fun (i : Nat) => bif i.blt l.length then [Ad (l.getD i (0 : Int))] else (fun (i : Nat) => List.take 1 (List.drop (i * 1) [Ad (x.V.Dims.getD k.toNat default).I])) (i - l.length)])) ∧ (decide (k < (↑x.V.Dims.length : Int)) = false → leO [] [] ∧ (Aa true l).le (Aa true r))) := by kernel_rfl
theorem TH (r e f : Int) (m : D.Model) (many k : Int) (J : St → Prop) : ((Ag Tryz.prog tb Ba F7 true Tryz.f70 [] (.tup [Ad r, Ad e, Ad f])).loop [1, 1, 1, 1, 0, 1, 0] J).goal (P3 m many k) =
    ((decide (k < (↑m.Procs.length : Int)) = true → ((0 : Int) ≤ k ∧ k < (↑m.Procs.length : Int)) ∧ ∃ (y : Bool), Ae Tryz.prog 103 [] [VV.agg (AB (m.Procs.getD k.toNat default))] [] (Ai y) ∧ ∃ (y_1 : Bool), ((true && (!y) == false) = true → Ae Tryz.prog 104 [] [VV.agg (AB (m.Procs.getD k.toNat default))] [] (Ai y_1)) ∧ ∃ (y_2 : Bool), ((true && (bif bif bif !y then true else !y_1 then true else decide ((m.Procs.getD k.toNat default).Provided < (-1 : Int)) then true else decide ((m.Procs.getD k.toNat default).Provided ≥ (↑m.Exprs.length : Int))) == false && (k == m.Claim) == true) = true → Ae Tryz.prog 105 [] [VV.agg (AB (m.Procs.getD k.toNat default))] [] (Ai y_2)) ∧ ((bif bif bif bif !y then true else !y_1 then true else decide ((m.Procs.getD k.toNat default).Provided < (-1 : Int)) then true else decide ((m.Procs.getD k.toNat default).Provided ≥ (↑m.Exprs.length : Int)) then true else bif k == m.Claim then !y_2 else false) = true → leO [] [] ∧ (VV.tup [Ad (40 : Int), Ad (4 : Int), Ad k]).le (VV.tup [Ad r, Ad e, Ad f])) ∧ ((bif bif bif bif !y then true else !y_1 then true else decide ((m.Procs.getD k.toNat default).Provided < (-1 : Int)) then true else decide ((m.Procs.getD k.toNat default).Provided ≥ (↑m.Exprs.length : Int)) then true else bif k == m.Claim then !y_2 else false) = false → J (Ao [(1, VV.bp 0 0), (5, VV.bp 1 0), (8, Ad (IntKind.i64.wrap (many + (m.Procs.getD k.toNat default).Active))), (25, AA true m.Procs), (26, Ad (↑m.Procs.length : Int)), (27, Ad (IntKind.i64.wrap (k + (1 : Int))))] [Ob.box (Ac m), Ob.box (Ac m)]))) ∧ (decide (k < (↑m.Procs.length : Int)) = false → (decide (many > (16 : Int)) = true → leO [] [] ∧ (VV.tup [Ad (40 : Int), Ad (5 : Int), Ad (-1 : Int)]).le (VV.tup [Ad r, Ad e, Ad f])) ∧ (decide (many > (16 : Int)) = false → AH (Ag Tryz.prog tb Ba F7 true Tryz.f70 [] (VV.tup [Ad r, Ad e, Ad f])) [1, 1, 1, 1, 1, 1, 0, 1, 0] (Ao [(5, VV.bp 0 0), (74, Ad (↑m.Procs.length : Int)), (75, Ad (0 : Int))] [Ob.box (Ac m)])))) := by kernel_rfl
theorem TG (r e f : Int) (m : D.Model) (k : Int) (J : St → Prop) : ((Ag Tryz.prog tb Ba F7 true Tryz.f70 [] (.tup [Ad r, Ad e, Ad f])).loop [1, 1, 1, 1, 1, 1, 0, 1, 0] J).goal (P2 m k) =
    ((decide (k < (↑m.Procs.length : Int)) = true → ∃ (y : Bool), Ae Tryz.prog 106 [] [VV.tp (Ac m), Ad k] [] (Ai y) ∧ ((!y) = true → leO [] [] ∧ (VV.tup [Ad (40 : Int), Ad (6 : Int), Ad k]).le (VV.tup [Ad r, Ad e, Ad f])) ∧ ((!y) = false → J (Ao [(5, VV.bp 0 0), (74, Ad (↑m.Procs.length : Int)), (75, Ad (IntKind.i64.wrap (k + (1 : Int))))] [Ob.box (Ac m)]))) ∧ (decide (k < (↑m.Procs.length : Int)) = false → leO [] [] ∧ (VV.tup [Ad (0 : Int), Ad (0 : Int), Ad (0 : Int)]).le (VV.tup [Ad r, Ad e, Ad f]))) := by kernel_rfl
end Go.Proofs.YtiaebjpcgjkhoaaGreatDoor
namespace Go.Proofs.YtiaebjpcgjkhoaaGreatDoor
open Go.RowKit
theorem As {a b : Bool} (h : a = b) : leO [] [] ∧ VV.le (.sc (.bool a)) (.sc (.bool b)) := ⟨trivial, VV.le_eq (by rw [h])⟩
theorem BJ {a b : Int} (h : a = b) : leO [] [] ∧ VV.le (.sc (.int .i64 a)) (.sc (.int .i64 b)) := ⟨trivial, VV.le_eq (by rw [h])⟩
theorem D6 {a b c d : Int} (h : (a, b) = (c, d)) : leO [] [] ∧ VV.le (.tup [.sc (.int .i64 a), .sc (.int .i64 b)]) (.tup [.sc (.int .i64 c), .sc (.int .i64 d)]) := by
  simp only [Prod.mk.injEq] at h; exact ⟨trivial, VV.le_eq (by rw [h.1, h.2])⟩
theorem Ie {a b c d e f : Int} (h : (a, b, c) = (d, e, f)) : leO [] [] ∧ VV.le (.tup [.sc (.int .i64 a), .sc (.int .i64 b), .sc (.int .i64 c)]) (.tup [.sc (.int .i64 d), .sc (.int .i64 e), .sc (.int .i64 f)]) := by
  simp only [Prod.mk.injEq] at h; exact ⟨trivial, VV.le_eq (by rw [h.1, h.2.1, h.2.2])⟩
theorem AQ {a b : Int} (h : decide (a < b) = true) : a < b := of_decide_eq_true h
theorem AV {a b : Int} (h : decide (a < b) = false) : b ≤ a := by have := of_decide_eq_false h; omega
theorem Aa0 {n : Int} (h : Ev.wInt .i64 n) : -9223372036854775808 ≤ n ∧ n ≤ 9223372036854775807 := Abi.1 h
theorem PG (t : D.Type) : Ae Tryz.prog 93 [] [.agg (AR t)] [] (Ai (EV t)) := by
  refine Ah Am An Tryz.func93 (by kernel_rfl) rfl (Z6 _ t) (As ?_)
  rw [Bool.eq_iff_iff]; simp [EV]; cases t.Signed <;> simp <;> omega
theorem XW {t : D.Type} (h : EV t = true) : 1 ≤ t.Bits ∧ t.Bits ≤ 32 ∧ (t.Signed = true → t.Bits = 16 ∨ t.Bits = 32) := by
  unfold EV at h
  simp at h
  refine ⟨h.1, h.2.1, fun hs => ?_⟩
  rcases h.2.2 with h | h
  · rw [hs] at h; cases h
  · exact h
theorem S1 {n : Nat} (h : n ≤ 32) : (1 : Int) ≤ 2 ^ n ∧ (2 : Int) ^ n ≤ 4294967296 := by
  have h1 : (2 : Nat) ^ n ≤ 2 ^ 32 := Nat.pow_le_pow_right (by omega) h
  have h2 : 1 ≤ (2 : Nat) ^ n := Nat.one_le_two_pow
  have e : (2 : Int) ^ n = ((2 ^ n : Nat) : Int) := by simp
  rw [e]
  have e32 : (2 : Nat) ^ 32 = 4294967296 := by decide
  omega
theorem JZ (t : D.Type) (v : Int) : Ae Tryz.prog 107 [] [.agg (AR t), Ad v] [] (Ai (Cz t v)) := by
  refine Ah Am An Tryz.func107 (by kernel_rfl) rfl (Y7 _ t v) ⟨EV t, PG t, fun h => As ?_, fun h => ?_⟩
  · have h' : EV t = false := by simpa using h
    simp [Cz, h']
  · have h' : EV t = true := by simpa using h
    obtain ⟨h1, h2, h3⟩ := XW h'
    have hb : IntKind.i64.bits = 64 := rfl
    have hw : IntKind.i64.wrap (t.Bits - 1) = t.Bits - 1 := A6 (by omega) (by omega)
    refine ⟨fun hs => ?_, fun hs => ?_⟩
    · rw [hw]
      refine ⟨by omega, fun _ => by omega, As ?_⟩
      have hp := S1 (n := (t.Bits - 1).toNat) (by omega)
      have hm : min (t.Bits - 1).toNat IntKind.i64.bits = (t.Bits - 1).toNat := by rw [hb]; omega
      rw [hm, A6 (n := -1 * _) (by omega) (by omega), A6 (n := 1 * _) (by omega) (by omega)]
      have e1 : (-1 : Int) * 2 ^ (t.Bits - 1).toNat = -(2 ^ (t.Bits - 1).toNat) := by omega
      have e2 : (1 : Int) * 2 ^ (t.Bits - 1).toNat = 2 ^ (t.Bits - 1).toNat := by omega
      rw [e1, e2]
      simp only [Cz, h', hs, cond_true, Bool.true_and, ge_iff_le]
      cases decide (-(2 : Int) ^ (t.Bits - 1).toNat ≤ v) <;> rfl
    · refine ⟨fun _ => by omega, As ?_⟩
      have hp := S1 (n := t.Bits.toNat) (by omega)
      have hm : min t.Bits.toNat IntKind.i64.bits = t.Bits.toNat := by rw [hb]; omega
      rw [hm, A6 (n := 1 * _) (by omega) (by omega)]
      have e2 : (1 : Int) * 2 ^ t.Bits.toNat = 2 ^ t.Bits.toNat := by omega
      rw [e2]
      simp only [Cz, h', hs, cond_false, Bool.true_and, ge_iff_le]
      cases decide (0 ≤ v) <;> rfl
theorem E8 {v : D.Var} (hv : Gc v) : Ae Tryz.prog 146 [] [.agg (A4 v)] [] (Ad (CE v)) := by
  have hd := hv.Dims
  refine Ah Am An Tryz.func146 (by kernel_rfl) rfl (Ww _ v) ⟨fun h => BJ ?_, fun h => ?_⟩
  · unfold CE
    have : (decide (v.Slot < 0) || (decide (1073741824 < v.Slot) || decide (4 < v.Dims.length))) = true := by simp at h ⊢; omega
    rw [this, cond_true]
  · have hb : 0 ≤ v.Slot ∧ v.Slot ≤ 1073741824 ∧ v.Dims.length ≤ 4 := by simp at h; omega
    have e : CE v = CQ (v.Slot + 1) v.Dims := by
      unfold CE
      have : (decide (v.Slot < 0) || (decide (1073741824 < v.Slot) || decide (4 < v.Dims.length))) = false := by simp; omega
      rw [this, cond_false]
    rw [e, A6 (by omega) (by omega)]
    refine Bh Am An (fun g st => ∃ (k : Nat) (n : Int), k ≤ v.Dims.length ∧ g = v.Dims.length - k ∧ 0 ≤ n ∧ n ≤ 1073741825 + k * 1152921504606846976 ∧ CQ n (v.Dims.drop k) = CQ (v.Slot + 1) v.Dims ∧ st = Ul n v k) (by kernel_rfl) (by kernel_rfl)
      ⟨_, Up.of ⟨0, v.Slot + 1, Nat.zero_le _, rfl, by omega, by omega, rfl, rfl⟩⟩ ?_
    rintro g st ⟨k, n, hk, rfl, hn0, hn1, hr, rfl⟩
    refine A9.raw (SS _ n v k _) ⟨fun hlt => ?_, fun hge => BJ ?_⟩
    · have hlt' : k < v.Dims.length := by have := AQ hlt; omega
      have hto : (k : Int).toNat = k := by omega
      rw [hto]
      have hdr : v.Dims.drop k = v.Dims.getD k default :: v.Dims.drop (k + 1) := by
        rw [List.drop_eq_getElem_cons hlt']; simp [List.getD, hlt']
      have hw := hd.2 _ (AF (d := default) hlt')
      generalize v.Dims.getD k default = d at hdr hw ⊢
      have hwl := Aa0 hw.Len
      rw [hdr] at hr
      refine ⟨⟨by omega, by omega⟩, fun hy => BJ ?_, fun hy => ?_⟩
      · rw [← hr]
        have : Fh d = true := by
          unfold Fh
          by_cases hl : d.Len < 1
          · simp [hl]
          · rw [A6 (by omega) (by omega)] at hy
            simp at hy ⊢; omega
        show _ = CQ n (d :: _)
        unfold CQ; rw [this]; rfl
      · have hl : 1 ≤ d.Len := by
          by_cases hl : d.Len < 1
          · simp [hl] at hy
          · omega
        have hwr : IntKind.i64.wrap (d.Len - 1) = d.Len - 1 := A6 (by omega) (by omega)
        rw [hwr] at hy ⊢
        have hb2 : d.Len - 1 ≤ 1073741824 ∧ 0 ≤ d.Stride ∧ d.Stride ≤ 1073741824 := by simp at hy; omega
        have hbad : Fh d = false := by unfold Fh; simp; omega
        have hm1 : 0 ≤ (d.Len - 1) * d.Stride := Int.mul_nonneg (by omega) hb2.2.1
        have hm2 : (d.Len - 1) * d.Stride ≤ 1073741824 * 1073741824 := Int.mul_le_mul hb2.1 hb2.2.2 hb2.2.1 (by omega)
        rw [A6 (n := (d.Len - 1) * d.Stride) (by omega) (by omega), A6 (n := n + _) (by omega) (by omega), Ap (by omega)]
        refine ⟨v.Dims.length - (k + 1), by omega, Up.of ⟨k + 1, n + (d.Len - 1) * d.Stride, by omega, rfl, by omega, by omega, ?_, rfl⟩⟩
        rw [← hr]
        show _ = CQ n (d :: _)
        conv => rhs; unfold CQ
        rw [hbad]; rfl
    · have hge' : v.Dims.length ≤ k := by have := AV hge; omega
      rw [List.drop_eq_nil_of_le hge'] at hr
      rw [← hr]; rfl
theorem Lr {t : List D.Type} {init : List Int} (hl : t.length ≤ init.length) (hs : t.length ≤ 1048576) : Ae Tryz.prog 130 [] [Aj true t, Aa true init] [] (Ad (Dl t init)) := by
  refine Ah Am An Tryz.func130 (by kernel_rfl) rfl (VE _ t init) ?_
  refine AI Am An t.length (fun k => T9 t init k) (fun k => ∀ i, i < k → Cz (t.getD i default) (init.getD i 0) = true) (by kernel_rfl) (by kernel_rfl) (fun i hi => by omega) ?_
  intro k hk hI J next
  refine A9.raw (R0 _ t init k J) ⟨fun hlt => ?_, fun hge => BJ ?_⟩
  · have hlt' : k < t.length := by have := AQ hlt; omega
    refine ⟨⟨by omega, by omega⟩, ⟨by omega, by omega⟩, Cz (t.getD k default) (init.getD k 0), JZ _ _, fun hy => BJ ?_, fun hy => next _ hlt' (fun i hi => ?_) (Up.of ?_)⟩
    · exact (Dc (f := fun i => Cz (t.getD i default) (init.getD i 0)) hI hlt' (by simpa using hy)).symm
    · rcases Nat.lt_succ_iff_lt_or_eq.1 hi with h | rfl
      · exact hI i h
      · simpa using hy
    · rw [Ap (by omega)]; rfl
  · have hge' : t.length ≤ k := by have := AV hge; omega
    exact (Dd (f := fun i => Cz (t.getD i default) (init.getD i 0)) fun i hi => hI i (by omega)).symm
theorem Sk {s : D.Shape} (hs : I0 s) : Ae Tryz.prog 131 [] [.agg (Bq s)] [] (Ai (CM s)) := by
  have hl := hs.Fields.1
  refine Ah Am An Tryz.func131 (by kernel_rfl) rfl (VZ _ s) ⟨fun h => As ?_, fun h => ?_⟩
  · symm; rw [Bool.eq_false_iff]; intro hc; simp [CM] at hc h; omega
  · have e : CM s = B3 s.Fields.length fun i => EV (s.Fields.getD i default) := by
      unfold CM
      have : (decide (0 ≤ s.Room) && decide (s.Room ≤ 16) && decide (1 ≤ s.Fields.length) && decide (s.Fields.length ≤ 8)) = true := by simp at h ⊢; omega
      rw [this, Bool.true_and]
    rw [e]
    refine AI Am An s.Fields.length (fun k => Uc s k) (fun k => ∀ i, i < k → EV (s.Fields.getD i default) = true) (by kernel_rfl) (by kernel_rfl) (fun i hi => by omega) ?_
    intro k hk hI J next
    refine A9.raw (Sl _ s k J) ⟨fun hlt => ?_, fun hge => As ?_⟩
    · have hlt' : k < s.Fields.length := by have := AQ hlt; omega
      refine ⟨⟨by omega, by omega⟩, EV (s.Fields.getD k default), PG _, fun hy => As ?_, fun hy => next _ hlt' (fun i hi => ?_) (Up.of ?_)⟩
      · exact (Bg (f := fun i => EV (s.Fields.getD i default)) hlt' (by simpa using hy)).symm
      · rcases Nat.lt_succ_iff_lt_or_eq.1 hi with h | rfl
        · exact hI i h
        · simpa using hy
      · rw [Ap (by omega)]; rfl
    · have hge' : s.Fields.length ≤ k := by have := AV hge; omega
      exact (AW.2 fun i hi => hI i (by omega)).symm
theorem GV (m : D.Model) (n : Int) : Ae Tryz.prog 161 [] [tpM m, Ad n] [] (Ai (BN m n)) := by
  refine Ah Am An Tryz.func161 (by kernel_rfl) rfl (S0 _ m n) (As ?_)
  rw [Bool.eq_iff_iff]; simp [BN]
theorem Rp {a : Int} {l : List Int} (hl : l.length ≤ 1099511627776) : Ae Tryz.prog 157 [] [Ad a, Aa false l] [] (Ai (BI a l)) := by
  refine Ah Am An Tryz.func157 (by kernel_rfl) rfl (Xt _ a l) ?_
  refine AI Am An l.length (fun k => Ut a l k) (fun k => ∀ i, i < k → inP a (l.getD i 0) = true) (by kernel_rfl) (by kernel_rfl) (fun i hi => by omega) ?_
  intro k hk hI J next
  refine A9.raw (TM _ a l k J) ⟨fun hlt => ?_, fun hge => As ?_⟩
  · have hlt' : k < l.length := by have := AQ hlt; omega
    have hto : (k : Int).toNat = k := by omega
    rw [hto]
    refine ⟨⟨by omega, by omega⟩, fun hy => As ?_, fun hy => next _ hlt' (fun i hi => ?_) (Up.of ?_)⟩
    · exact (Bg (f := fun i => inP a (l.getD i 0)) hlt' (by rw [Bool.eq_false_iff]; intro hc; simp [inP] at hc hy; omega)).symm
    · rcases Nat.lt_succ_iff_lt_or_eq.1 hi with h | rfl
      · exact hI i h
      · simp [inP] at hy ⊢; omega
    · rw [Ap (by omega)]; rfl
  · have hge' : l.length ≤ k := by have := AV hge; omega
    exact (AW.2 fun i hi => hI i (by omega)).symm
theorem Eh {a : Int} {l : List Int} (hl : l.length ≤ 1099511627776) : Ae Tryz.prog 157 [] [Ad a, Aa true l] [] (Ai (BI a l)) := by
  refine Ah Am An Tryz.func157 (by kernel_rfl) rfl (TL _ a l) ?_
  refine AI Am An l.length (fun k => P4 a l k) (fun k => ∀ i, i < k → inP a (l.getD i 0) = true) (by kernel_rfl) (by kernel_rfl) (fun i hi => by omega) ?_
  intro k hk hI J next
  refine A9.raw (Ro _ a l k J) ⟨fun hlt => ?_, fun hge => As ?_⟩
  · have hlt' : k < l.length := by have := AQ hlt; omega
    have hto : (k : Int).toNat = k := by omega
    rw [hto]
    refine ⟨⟨by omega, by omega⟩, fun hy => As ?_, fun hy => next _ hlt' (fun i hi => ?_) (Up.of ?_)⟩
    · exact (Bg (f := fun i => inP a (l.getD i 0)) hlt' (by rw [Bool.eq_false_iff]; intro hc; simp [inP] at hc hy; omega)).symm
    · rcases Nat.lt_succ_iff_lt_or_eq.1 hi with h | rfl
      · exact hI i h
      · simp [inP] at hy ⊢; omega
    · rw [Ap (by omega)]; rfl
  · have hge' : l.length ≤ k := by have := AV hge; omega
    exact (AW.2 fun i hi => hI i (by omega)).symm
theorem J5 {a x : Int} : Ae Tryz.prog 157 [] [Ad a, .sl false 1 1 fun i => List.take 1 (List.drop (i * 1) [.sc (.int .i64 x)])] [] (Ai (inP a x)) := by
  have h := Rp (a := a) (l := [x]) (by simp)
  have e : BI a [x] = inP a x := by simp [BI, B3, List.getD]
  rw [e] at h
  refine h.le trivial ⟨VV.le_refl _, VV.le_sl (.inl rfl) fun i hi => A8 ?_, trivial⟩ trivial (VV.le_refl _)
  obtain rfl : i = 0 := by omega
  rfl
end Go.Proofs.YtiaebjpcgjkhoaaGreatDoor
namespace Go.Proofs.YtiaebjpcgjkhoaaGreatDoor
open Go.RowKit
theorem bt {b : Bool} {p : Prop} (h : b = true) (k : b = false) : p := by rw [h] at k; cases k
theorem IK {a x : Int} : Ae Tryz.prog 157 [] [Ad a, .sl true 1 1 fun i => List.take 1 (List.drop (i * 1) [.sc (.int .i64 x)])] [] (Ai (inP a x)) := by
  have h := Eh (a := a) (l := [x]) (by simp)
  have e : BI a [x] = inP a x := by simp [BI, B3, List.getD]
  rw [e] at h
  refine h.le trivial ⟨VV.le_refl _, VV.le_sl (.inl rfl) fun i hi => A8 ?_, trivial⟩ trivial (VV.le_refl _)
  obtain rfl : i = 0 := by omega
  rfl
theorem DE (op : Int) : Ae Tryz.prog 156 [] [Ad op] [] (Ad (AK op)) := by
  refine Ah Am An Tryz.func156 (by kernel_rfl) rfl (WI _ op) ?_
  have k0 : ∀ {p : Prop}, (op = 1 ∨ op = 2 ∨ op = 31 ∨ op = 32 ∨ op = 33 ∨ op = 34 ∨ op = 35 ∨ op = 39) → leO [] [] ∧ VV.le (.sc (.int .i64 0)) (.sc (.int .i64 (AK op : Nat))) := fun h => BJ (by unfold AK; rw [if_pos h]; rfl)
  have kx : ¬(op = 1 ∨ op = 2 ∨ op = 31 ∨ op = 32 ∨ op = 33 ∨ op = 34 ∨ op = 35 ∨ op = 39) → ((op == (24 : Int)) = true → leO [] [] ∧ (VV.sc (.int .i64 3)).le (.sc (.int .i64 (AK op : Nat)))) ∧ ((op == (24 : Int)) = false →
      ((bif decide (op ≥ (6 : Int)) then decide (op ≤ (23 : Int)) else false) = true → leO [] [] ∧ (VV.sc (.int .i64 2)).le (.sc (.int .i64 (AK op : Nat)))) ∧ ((bif decide (op ≥ (6 : Int)) then decide (op ≤ (23 : Int)) else false) = false → leO [] [] ∧ (VV.sc (.int .i64 1)).le (.sc (.int .i64 (AK op : Nat))))) := by
    intro hn
    refine ⟨fun h => BJ ?_, fun h => ⟨fun h2 => BJ ?_, fun h2 => BJ ?_⟩⟩
    · unfold AK; rw [if_neg hn, if_pos (by simpa using h)]; rfl
    · unfold AK; rw [if_neg hn, if_neg (by simpa using h), if_pos (by simp at h2; omega)]; rfl
    · unfold AK; rw [if_neg hn, if_neg (by simpa using h), if_neg (by simp at h2; omega)]; rfl
  refine ⟨fun h1 => ⟨fun _ => k0 (p := True) (by simp at h1; omega), fun h => bt h1 h⟩, fun h1 => ⟨fun h2 => ⟨fun _ => k0 (p := True) (by simp at h2; omega), fun h => bt h2 h⟩, fun h2 => ⟨fun h3 => ⟨fun _ => k0 (p := True) (by simp at h3; omega), fun h => bt h3 h⟩, fun h3 => ⟨fun h4 => ⟨fun _ => k0 (p := True) (by simp at h4; omega), fun h => bt h4 h⟩, fun h4 => ⟨fun h5 => ⟨fun _ => k0 (p := True) (by simp at h5; omega), fun h => bt h5 h⟩, fun h5 =>
    ⟨fun h6 => ⟨fun _ => k0 (p := True) (by simp at h6; omega), fun h => bt h6 h⟩, fun h6 => ⟨fun h7 => ⟨fun _ => k0 (p := True) (by simp at h7; omega), fun h => bt h7 h⟩, fun h7 => ⟨fun h8 => k0 (p := True) (by simp at h8; omega), fun h8 => kx (by simp at h1 h2 h3 h4 h5 h6 h7 h8; omega)⟩⟩⟩⟩⟩⟩⟩⟩
theorem Vz {m : D.Model} {a : Int} {v : D.Var} (hv : Gc v) : Ae Tryz.prog 158 [] [tpM m, Ad a, .agg (A4 v)] [] (Ai (Cr m a v)) := by
  have hl := hv.Dims.1
  refine Ah Am An Tryz.func158 (by kernel_rfl) rfl (XU _ m a v) ?_
  have hloop : ∀ b : Bool, b = B3 v.Dims.length (fun i => Gs a (v.Dims.getD i default)) → AH (Ag Tryz.prog tb Ba Hk true Tryz.f158 [] (Ai b)) [1, 1, 1, 0, 1, 0] (Se a v 0) := by
    rintro b rfl
    refine AI Am An v.Dims.length (fun k => Se a v k) (fun k => ∀ i, i < k → Gs a (v.Dims.getD i default) = true) (by kernel_rfl) (by kernel_rfl) (fun i hi => by omega) ?_
    intro k hk hI J next
    refine A9.raw (VA _ a v k J) ⟨fun hlt => ?_, fun hge => As ?_⟩
    · have hlt' : k < v.Dims.length := by have := AQ hlt; omega
      have hto : (k : Int).toNat = k := by omega
      rw [hto]
      have hdim : ∀ d : D.Dim, Gs a d = !(bif bif bif bif !(inP a d.I) then true else decide (d.Len < 1) then true else decide (d.Len > 128) then true else decide (d.Stride < 0) then true else decide (d.Stride > 128)) := by
        intro d
        unfold Gs
        cases inP a d.I
        · rfl
        · rw [Bool.eq_iff_iff]; simp <;> omega
      refine ⟨⟨by omega, by omega⟩, inP a (v.Dims.getD k default).I, J5, fun hy => As ?_, fun hy => next _ hlt' (fun i hi => ?_) (Up.of ?_)⟩
      · exact (Bg (f := fun i => Gs a (v.Dims.getD i default)) hlt' (by show Gs a _ = false; rw [hdim, hy]; rfl)).symm
      · rcases Nat.lt_succ_iff_lt_or_eq.1 hi with h | rfl
        · exact hI i h
        · show Gs a _ = true; rw [hdim, hy]; rfl
      · rw [Ap (by omega)]; rfl
    · have hge' : v.Dims.length ≤ k := by have := AV hge; omega
      exact (AW.2 fun i hi => hI i (by omega)).symm
  unfold Cr
  generalize B3 v.Dims.length (fun i => Gs a (v.Dims.getD i default)) = al at hloop ⊢
  refine ⟨fun h => As ?_, fun h => ⟨fun h2 => ?_, fun h2 => ?_⟩⟩
  · symm; rw [Bool.eq_false_iff]; intro hc; simp at h hc; omega
  all_goals
    have e : (decide (0 ≤ v.Scope) && decide (v.Scope ≤ 2) && decide (0 ≤ v.Slot) && decide (v.Slot ≤ 128) && decide (v.Dims.length ≤ 4)) = true := by simp at h ⊢; omega
    rw [e, Bool.true_and]
  · have e2 : decide (v.Scope = 2) = true := by simpa using h2
    rw [e2, cond_true]
    refine ⟨inP a v.Who, J5, BN m v.Type_, fun _ => GV _ _, fun hy => As ?_, fun hy => hloop _ ?_⟩
    · cases h3 : inP a v.Who <;> cases h4 : BN m v.Type_ <;> rw [h3, h4] at hy <;> first | rfl | cases hy
    · cases h3 : inP a v.Who <;> cases h4 : BN m v.Type_ <;> rw [h3, h4] at hy <;> first | (simp; done) | cases hy
  · have e2 : decide (v.Scope = 2) = false := by simpa using h2
    rw [e2, cond_false]
    refine ⟨fun hy => As ?_, fun hy => hloop _ ?_⟩
    · symm; rw [Bool.eq_false_iff]; intro hc; simp at hy hc; omega
    · have : (decide (v.Who = -1) && decide (v.Type_ = -1)) = true := by simp at hy ⊢; omega
      rw [this, Bool.true_and]
theorem Js {m : D.Model} {a : Int} {args mt : List Int} (ha : a ≤ m.Exprs.length) (h1 : args.length ≤ 1048576) (h2 : mt.length ≤ 1048576) :
    Ae Tryz.prog 159 [] [tpM m, Ad a, Aa true args, Aa true mt] [] (Ai (Bn m a args mt)) := by
  refine Ah Am An Tryz.func159 (by kernel_rfl) rfl (QO _ m a args mt) ⟨BI a args, fun _ => Eh (by omega), fun h => As ?_, fun h => ?_⟩
  · unfold Bn
    symm; rw [Bool.eq_false_iff]; intro hc
    simp at hc h
    obtain ⟨⟨⟨⟨c1, c2⟩, c3⟩, c4⟩, _⟩ := hc
    rw [c4] at h
    simp at h
    omega
  · have hb : BI a args = true := by
      cases hq : BI a args with
      | true => rfl
      | false => rw [hq] at h; simp at h
    have hlen : 1 ≤ args.length ∧ args.length ≤ 8 ∧ mt.length = args.length := by rw [hb] at h; simp at h; omega
    have e : Bn m a args mt = B3 mt.length fun i => Ed m (args.getD i 0) (mt.getD i 0) := by
      unfold Bn
      rw [hb]; simp [hlen]
    rw [e]
    have hin := DF.1 hb
    refine AI Am An mt.length (fun k => Nf m args mt k) (fun k => ∀ i, i < k → Ed m (args.getD i 0) (mt.getD i 0) = true) (by kernel_rfl) (by kernel_rfl) (fun i hi => by omega) ?_
    intro k hk hI J next
    refine A9.raw (OP _ m args mt k J) ⟨fun hlt => ?_, fun hge => As ?_⟩
    · have hlt' : k < mt.length := by have := AQ hlt; omega
      have hto : (k : Int).toNat = k := by omega
      rw [hto]
      have hx := hin _ (AF (d := (0 : Int)) (show k < args.length by omega))
      have hm : Ed m (args.getD k 0) (mt.getD k 0) = !(bif bif decide (mt.getD k 0 < -1) then true else decide (mt.getD k 0 > 1) then true else bif mt.getD k 0 == 0 then (m.Exprs.getD (args.getD k 0).toNat default).Op != 2 else false) := by
        unfold Ed AD
        rw [Bool.eq_iff_iff]; simp <;> omega
      refine ⟨⟨by omega, by omega⟩, fun _ => ⟨by omega, by omega⟩, fun _ => ⟨by omega, by omega⟩, fun hy => As ?_, fun hy => next _ hlt' (fun i hi => ?_) (Up.of ?_)⟩
      · exact (Bg (f := fun i => Ed m (args.getD i 0) (mt.getD i 0)) hlt' (by show Ed m _ _ = false; rw [hm, hy]; rfl)).symm
      · rcases Nat.lt_succ_iff_lt_or_eq.1 hi with h | rfl
        · exact hI i h
        · rw [hm, hy]; rfl
      · rw [Ap (by omega)]; rfl
    · have hge' : mt.length ≤ k := by have := AV hge; omega
      exact (AW.2 fun i hi => hI i (by omega)).symm
theorem QC {m : D.Model} {x : D.Expr} (h1 : x.Args.length ≤ 1048576) : Ae Tryz.prog 160 [] [tpM m, .agg (Au x)] [] (Ai (HA m x)) := by
  refine Ah Am An Tryz.func160 (by kernel_rfl) rfl (S2 _ m x) ⟨BN m x.N, fun _ => GV _ _, fun h => As ?_, fun h => ?_⟩
  · unfold HA
    symm; rw [Bool.eq_false_iff]; intro hc
    simp at hc h
    obtain ⟨⟨⟨⟨c1, c2⟩, c3⟩, c4⟩, _⟩ := hc
    rw [c3] at h
    simp at h
    omega
  · have hb : BN m x.N = true := by
      cases hq : BN m x.N with
      | true => rfl
      | false => rw [hq] at h; simp at h
    have hp : 0 ≤ x.N ∧ x.N < m.Procs.length := by unfold BN at hb; simp at hb; omega
    have hlen : 0 ≤ x.N ∧ x.N < 1073741824 ∧ 1 ≤ x.Args.length := by rw [hb] at h; simp at h; omega
    refine ⟨⟨by omega, by omega⟩, BI (G3 m x.N).length x.Args, Eh (by omega), As ?_⟩
    unfold HA
    rw [hb]; simp [hlen]
theorem Ep {a op : Int} {i : Nat} {p : Int} : C8 a op i p = !(bif bif decide ((i : Int) < (AK op : Nat)) then !(inP a p) else false then true else bif decide ((i : Int) ≥ (AK op : Nat)) then p != -1 else false) := by
  unfold C8
  by_cases h : i < AK op
  · have h1 : decide (i < AK op) = true := by simpa using h
    have h2 : decide ((i : Int) < (AK op : Nat)) = true := by simp; omega
    have h3 : decide ((i : Int) ≥ (AK op : Nat)) = false := by simp; omega
    rw [h1, h2, h3]; simp
  · have h1 : decide (i < AK op) = false := by simpa using h
    have h2 : decide ((i : Int) < (AK op : Nat)) = false := by simp; omega
    have h3 : decide ((i : Int) ≥ (AK op : Nat)) = true := by simp; omega
    rw [h1, h2, h3, Bool.eq_iff_iff]; simp
theorem Xf {m : D.Model} {a : Int} (h0 : 0 ≤ a) (ha : a < m.Exprs.length) (hw : Hs (AD m a)) : Ae Tryz.prog 132 [] [tpM m, Ad a] [] (Ai (CT m a)) := by
  refine Ah Am An Tryz.func132 (by kernel_rfl) rfl (Zc _ m a) ⟨⟨h0, ha⟩, fun h => As ?_, fun h => ?_⟩
  · symm; rw [Bool.eq_false_iff]; intro hc
    unfold CT at hc
    simp only [Bool.and_eq_true, decide_eq_true_eq] at hc
    have h' : (bif decide ((AD m a).Op < 1) then true else decide ((AD m a).Op > 39)) = true := h
    simp at h'
    omega
  · have hop : 1 ≤ (AD m a).Op ∧ (AD m a).Op ≤ 39 := by
      have h' : (bif decide ((AD m a).Op < 1) then true else decide ((AD m a).Op > 39)) = false := h
      simp at h'; omega
    have hargs := hw.Args.1
    have hmt := hw.Match.1
    have hwv := hw.V
    generalize hb : CT m a = b
    unfold CT at hb
    simp only at hb
    show AH _ _ (Gg m a (AD m a) 0)
    generalize AD m a = x at hop hargs hmt hwv hb ⊢
    have e : (decide (1 ≤ x.Op) && decide (x.Op ≤ 39)) = true := by simp; omega
    rw [e, Bool.true_and] at hb
    refine Bh Am An (fun g st => (g = 3 ∧ st = Gg m a x 0) ∨ (g = 2 ∧ C8 a x.Op 0 x.A = true ∧ st = Gg m a x 1) ∨ (g = 1 ∧ C8 a x.Op 0 x.A = true ∧ C8 a x.Op 1 x.B = true ∧ st = Gg m a x 2) ∨ (g = 0 ∧ C8 a x.Op 0 x.A = true ∧ C8 a x.Op 1 x.B = true ∧ C8 a x.Op 2 x.C = true ∧ st = Gg m a x 3))
      (by kernel_rfl) (by kernel_rfl) ⟨3, Up.of (.inl ⟨rfl, rfl⟩)⟩ ?_
    rintro g st (⟨rfl, rfl⟩ | ⟨rfl, p0, rfl⟩ | ⟨rfl, p0, p1, rfl⟩ | ⟨rfl, p0, p1, p2, rfl⟩)
    · refine A9.raw (Rb _ m a x _) ⟨fun _ => ⟨⟨by omega, by omega⟩, _, DE _, _, fun _ => IK, _, fun _ => DE _, fun hy => As ?_, fun hy => ⟨2, by omega, Up.of (.inr (.inl ⟨rfl, ?_, ?_⟩))⟩⟩, fun h => by cases h⟩
      · have hp : C8 a x.Op 0 x.A = false := by rw [Ep]; exact congrArg (!·) hy
        rw [← hb, hp]; rfl
      · rw [Ep]; exact congrArg (!·) hy
      · rw [A6 (by omega) (by omega)]; rfl
    · refine A9.raw (Ra _ m a x _) ⟨fun _ => ⟨⟨by omega, by omega⟩, _, DE _, _, fun _ => IK, _, fun _ => DE _, fun hy => As ?_, fun hy => ⟨1, by omega, Up.of (.inr (.inr (.inl ⟨rfl, p0, ?_, ?_⟩)))⟩⟩, fun h => by cases h⟩
      · have hp : C8 a x.Op 1 x.B = false := by rw [Ep]; exact congrArg (!·) hy
        rw [← hb, p0, hp]; rfl
      · rw [Ep]; exact congrArg (!·) hy
      · rw [A6 (by omega) (by omega)]; rfl
    · refine A9.raw (Q9 _ m a x _) ⟨fun _ => ⟨⟨by omega, by omega⟩, _, DE _, _, fun _ => IK, _, fun _ => DE _, fun hy => As ?_, fun hy => ⟨0, by omega, Up.of (.inr (.inr (.inr ⟨rfl, p0, p1, ?_, ?_⟩)))⟩⟩, fun h => by cases h⟩
      · have hp : C8 a x.Op 2 x.C = false := by rw [Ep]; exact congrArg (!·) hy
        rw [← hb, p0, p1, hp]; rfl
      · rw [Ep]; exact congrArg (!·) hy
      · rw [A6 (by omega) (by omega)]; rfl
    · rw [p0, p1, p2] at hb
      simp only [Bool.and_self, Bool.true_and] at hb
      subst hb
      refine A9.raw (Q8 _ m a x _) ⟨fun h => (by cases h), fun _ => ⟨fun h1 => ⟨_, JZ ⟨32, true⟩ _, As ?_⟩, fun h1 => ⟨fun h2 => ⟨_, Vz hwv, As ?_⟩, fun h2 => ⟨fun h3 => ⟨_, Js (by omega) hargs hmt, As ?_⟩, fun h3 => ⟨fun h4 => ⟨_, QC hargs, As ?_⟩, fun h4 =>
        ⟨fun h5 => ⟨BN m x.N, fun _ => GV _ _, fun hy => ?_, BI a x.Args, fun _ => Eh (by omega), As ?_⟩, fun h5 => As ?_⟩⟩⟩⟩⟩⟩
      · rw [if_pos (by simpa using h1)]
      · rw [if_neg (by simpa using h1), if_pos (by simpa using h2)]
      · rw [if_neg (by simpa using h1), if_neg (by simpa using h2), if_pos (by simpa using h3)]
        cases Bn m a x.Args x.Match
        · rfl
        · rw [Bool.eq_iff_iff]; simp
      · rw [if_neg (by simpa using h1), if_neg (by simpa using h2), if_neg (by simpa using h3), if_pos (by simpa using h4)]
      · have hb : BN m x.N = true := by
          cases hq : BN m x.N with
          | true => rfl
          | false => rw [hq] at hy; simp at hy
        unfold BN at hb; simp at hb; omega
      · rw [if_neg (by simpa using h1), if_neg (by simpa using h2), if_neg (by simpa using h3), if_neg (by simpa using h4), if_pos (by simpa using h5)]
        cases BN m x.N <;> cases BI a x.Args <;> first | (simp; done) | (rw [Bool.eq_iff_iff]; simp)
      · rw [if_neg (by simpa using h1), if_neg (by simpa using h2), if_neg (by simpa using h3), if_neg (by simpa using h4), if_neg (by simpa using h5)]
end Go.Proofs.YtiaebjpcgjkhoaaGreatDoor
namespace Go.Proofs.YtiaebjpcgjkhoaaGreatDoor
open Go.RowKit
theorem BQ {α : Type} {l : List α} {k : Nat} {d : α} (h : k < l.length) : l.drop k = l.getD k d :: l.drop (k + 1) := by
  rw [List.drop_eq_getElem_cons h]; simp [List.getD, h]
theorem DH {α : Type} {l : List α} {k : Nat} {d : α} (h : k < l.length) : l.take (k + 1) = l.take k ++ [l.getD k d] := by
  rw [List.take_add_one, List.getElem?_eq_getElem h]; simp [List.getD, h]
theorem K4 {α : Type} {i n : Nat} {a b : α} (h : i < n) : (bif Nat.blt i n then a else b) = a := by
  have hb : Nat.blt i n = true := Nat.ble_eq_true_of_le h
  rw [hb, cond_true]
theorem O0 {α : Type} {i n : Nat} {a b : α} (h : n ≤ i) : (bif Nat.blt i n then a else b) = b := by
  have hb : Nat.blt i n = false := by
    cases hq : Nat.blt i n with
    | true => have := Nat.le_of_ble_eq_true hq; omega
    | false => rfl
  rw [hb, cond_false]
theorem B8 {α : Type} {f : α → List VV} {d : α} {l r : List α} {F G : Nat → List VV} (h1 : ∀ i, i < l.length → F i = f (l.getD i d)) (h2 : ∀ i, i < r.length → G i = f (r.getD i d)) {i : Nat} (hi : i < (l ++ r).length) :
    (bif i.blt l.length then F i else G (i - l.length)) = f ((l ++ r).getD i d) := by
  by_cases hl : i < l.length
  · rw [K4 hl, h1 i hl]
    simp only [List.getD_eq_getElem?_getD, List.getElem?_append_left hl]
  · rw [O0 (by omega), h2 _ (by simp at hi; omega)]
    simp only [List.getD_eq_getElem?_getD, List.getElem?_append_right (by omega : l.length ≤ i)]
theorem DW {x : Int} : ∀ i, i < [x].length → (fun i => List.take 1 (List.drop (i * 1) [VV.sc (.int .i64 x)])) i = (fun n => [Ad n]) ([x].getD i 0) := by
  intro i hi
  obtain rfl : i = 0 := by simpa using hi
  rfl
theorem V3 {c : Ctx} {rel : List Nat} {l : List (Nat × VV)} {g n sz : Nat} {F G : Nat → List VV} (h : ∀ i, i < n → F i = G i) (k : AH c rel (Ao l [.arr true g n sz G])) : AH c rel (Ao l [.arr true g n sz F]) :=
  AH.le (hs := [.arr true g n sz F]) (hs' := [.arr true g n sz G]) (AZ _) ⟨Ob.le_arr fun i hi => A8 (h i hi), trivial⟩ k
theorem MY {l : D.Loc} (h1 : l.Esc.length ≤ 1048576) : Ae Tryz.prog 134 [] [.agg (AY l)] [] (AE true (Bt l)) := by
  refine Ah Am An Tryz.func134 (by kernel_rfl) rfl (XM _ l) ⟨by omega, fun i hi => rfl, trivial, ?_⟩
  have e : 1 + l.Esc.length = (Bt l).length := by simp [Bt]; omega
  rw [e]
  refine VV.le_sl (.inl rfl) fun i hi => A8 ?_
  refine B8 (l := [l.Out]) (r := l.Esc) (f := fun w => [Aq true w]) (d := []) (F := fun i => List.take 1 (List.drop (i * 1) [Aq true l.Out])) (G := fun i => [Aq true (l.Esc.getD i [])]) (fun i hi => ?_) (fun i hi => rfl) hi
  obtain rfl : i = 0 := by simpa using hi
  rfl
theorem Ts {p : D.Proc} (hp : Fw p) : Ae Tryz.prog 103 [] [.agg (AB p)] [] (Ai (FM p)) := by
  have h1 := hp.Frame.1
  refine Ah Am An Tryz.func103 (by kernel_rfl) rfl (Xb _ p) ⟨Dl p.Frame p.Init, fun h => Lr ?_ h1, As ?_⟩
  · simp at h; omega
  · rw [Bool.eq_iff_iff]; simp [FM]; omega
theorem O1 {p : D.Proc} (hp : Fw p) : Ae Tryz.prog 105 [] [.agg (AB p)] [] (Ai (Fi p)) := by
  have h1 := hp.Locs.1
  refine Ah Am An Tryz.func105 (by kernel_rfl) rfl (Rj _ p) ⟨fun h => As ?_, fun h => ?_⟩
  · symm; rw [Bool.eq_false_iff]; intro hc; simp [Fi, -List.length_eq_zero_iff] at hc h; omega
  · have e : Fi p = B3 p.Locs.length fun i => E9 (p.Locs.getD i default) := by
      unfold Fi
      have : (decide (p.Frame.length = 0) && decide (p.Params ≤ 0) && decide (p.Active ≤ 0) && decide (p.Provided = -1)) = true := by simp at h ⊢; omega
      rw [this, Bool.true_and]
    rw [e]
    refine AI Am An p.Locs.length (fun k => Ng p k) (fun k => ∀ i, i < k → E9 (p.Locs.getD i default) = true) (by kernel_rfl) (by kernel_rfl) (fun i hi => by omega) ?_
    intro k hk hI J next
    refine A9.raw (O2 _ p k J) ⟨fun hlt => ?_, fun hge => As ?_⟩
    · have hlt' : k < p.Locs.length := by have := AQ hlt; omega
      have hto : (k : Int).toNat = k := by omega
      rw [hto]
      have hpl : ∀ l : D.Loc, E9 l = !(bif bif decide ((l.Esc.length : Int) > 0) then true else l.Atomic then true else l.Dstep) := by
        intro l
        unfold E9
        cases l.Atomic <;> cases l.Dstep <;> rw [Bool.eq_iff_iff] <;> simp
      refine ⟨⟨by omega, by omega⟩, fun hy => As ?_, fun hy => next _ hlt' (fun i hi => ?_) (Up.of ?_)⟩
      · exact (Bg (f := fun i => E9 (p.Locs.getD i default)) hlt' (by show E9 _ = false; rw [hpl, hy]; rfl)).symm
      · rcases Nat.lt_succ_iff_lt_or_eq.1 hi with h | rfl
        · exact hI i h
        · rw [hpl, hy]; rfl
      · rw [Ap (by omega)]; rfl
    · have hge' : p.Locs.length ≤ k := by have := AV hge; omega
      exact (AW.2 fun i hi => hI i (by omega)).symm
theorem Tn {p : D.Proc} (hp : Fw p) : Ae Tryz.prog 104 [] [.agg (AB p)] [] (Ai (Fg p)) := by
  have h1 := hp.Locs.1
  refine Ah Am An Tryz.func104 (by kernel_rfl) rfl (W9 _ p) ⟨fun h => As ?_, fun h => ?_⟩
  · symm; rw [Bool.eq_false_iff]; intro hc; simp [Fg, inP] at hc h; omega
  · have e : Fg p = GZ p.Locs.length p.Final 0 0 p.Locs := by
      unfold Fg
      have : (decide (1 ≤ p.Locs.length) && decide (p.Locs.length ≤ 256) && inP p.Locs.length p.Start && inP p.Locs.length p.Final) = true := by simp [inP] at h ⊢; omega
      rw [this, Bool.true_and]
    rw [e]
    generalize hb : GZ p.Locs.length p.Final 0 0 p.Locs = b
    refine Bh Am An (fun g st => ∃ (k many : Nat), k ≤ p.Locs.length ∧ g = p.Locs.length - k ∧ many ≤ 1024 ∧ GZ p.Locs.length p.Final many k (p.Locs.drop k) = b ∧ st = PZ p many k) (by kernel_rfl) (by kernel_rfl) ⟨_, Up.of ⟨0, 0, Nat.zero_le _, rfl, by omega, hb, rfl⟩⟩ ?_
    rintro g st ⟨k, many, hk, rfl, hm, hr, rfl⟩
    refine A9.raw (Tr _ p many k _) ⟨fun hlt => ?_, fun hge => As ?_⟩
    · have hlt' : k < p.Locs.length := by have := AQ hlt; omega
      have hto : (k : Int).toNat = k := by omega
      rw [hto]
      have hwl := hp.Locs.2 _ (AF (d := default) hlt')
      rw [BQ (d := default) hlt'] at hr
      generalize p.Locs.getD k default = l at hwl hr ⊢
      have ho := hwl.Out.1
      have hes := hwl.Esc.1
      have hbad : OS p.Final k l = bif bif decide ((l.Esc.length : Int) > 8) then true else bif l.Dstep then l.Atomic else false then true else bif (k : Int) == p.Final then decide (IntKind.i64.wrap ((l.Out.length : Int) + (l.Esc.length : Int)) > 0) else false := by
        rw [A6 (by omega) (by omega)]
        unfold OS
        cases l.Dstep <;> cases l.Atomic <;> rw [Bool.eq_iff_iff] <;> simp <;> omega
      rw [← hbad]
      unfold GZ at hr
      refine ⟨⟨by omega, by omega⟩, fun hy => As ?_, fun hy => ?_⟩
      · rw [hy, cond_true] at hr; exact hr
      · rw [hy, cond_false] at hr
        refine ⟨Bt l, MY hes, ?_⟩
        have hwsl : (Bt l).length ≤ 1048577 := by simp [Bt]; omega
        have hwse : ∀ w ∈ Bt l, w.length ≤ 1048576 := by
          intro w hw
          rcases List.mem_cons.1 hw with rfl | hw
          · exact ho
          · exact (hwl.Esc.2 w hw).1
        generalize Bt l = ws at hr hwsl hwse ⊢
        generalize hwo : Gd p.Locs.length many 0 ws = wo at hr
        refine Bh Am An (fun g st => ∃ (j mn : Nat), j ≤ ws.length ∧ g = ws.length - j ∧ mn ≤ 1024 ∧ Gd p.Locs.length mn j (ws.drop j) = wo ∧ st = PY p mn k ws j) (by kernel_rfl) (by kernel_rfl) ⟨_, Up.of ⟨0, many, Nat.zero_le _, rfl, hm, hwo, rfl⟩⟩ ?_
        rintro g st ⟨j, mn, hj, rfl, hmn, hq, rfl⟩
        refine A9.raw (Tq _ p mn k ws j _ _) ⟨fun hlt2 => ?_, fun hge2 => ?_⟩
        · have hlt2' : j < ws.length := by have := AQ hlt2; omega
          have hto2 : (j : Int).toNat = j := by omega
          rw [hto2]
          have hwle := hwse _ (AF (d := []) hlt2')
          rw [BQ (d := []) hlt2'] at hq
          generalize ws.getD j [] = w at hwle hq ⊢
          unfold Gd at hq
          rw [A6 (n := (mn : Int) + _) (by omega) (by omega)]
          have e1 : (bif decide ((j : Int) > 0) then (w.length : Int) == 0 else false) = (decide (0 < j) && decide (w.length = 0)) := by
            rw [Bool.eq_iff_iff]; simp
          have e2 : decide ((mn : Int) + (w.length : Int) > 1024) = decide (1024 < mn + w.length) := by
            rw [Bool.eq_iff_iff]; simp; omega
          rw [e1, e2]
          refine ⟨⟨by omega, by omega⟩, fun hy1 => As ?_, fun hy1 => ⟨fun hy2 => As ?_, fun hy2 => ?_⟩⟩
          · rw [hy1, cond_true] at hq; rw [← hq] at hr; exact hr
          · rw [hy1, cond_false, hy2, cond_true] at hq; rw [← hq] at hr; exact hr
          · rw [hy1, cond_false, hy2, cond_false] at hq
            have hmn2 : mn + w.length ≤ 1024 := by simpa using hy2
            rw [show (mn : Int) + (w.length : Int) = ((mn + w.length : Nat) : Int) by omega]
            refine AI Am An w.length (fun h => PX p (mn + w.length : Nat) k ws j w h) (fun h => ∀ i, i < h → inP p.Locs.length (w.getD i default).To = true) (by kernel_rfl) (by kernel_rfl) (fun i hi => by omega) ?_
            intro h3 hh3 hI J3 next
            refine A9.raw (Tp _ p _ k ws j w h3 _ _ J3) ⟨fun hlt3 => ?_, fun hge3 => ?_⟩
            · have hlt3' : h3 < w.length := by have := AQ hlt3; omega
              have hto3 : (h3 : Int).toNat = h3 := by omega
              rw [hto3]
              have hin : inP p.Locs.length (w.getD h3 default).To = !(bif decide ((w.getD h3 default).To < 0) then true else decide ((w.getD h3 default).To ≥ (p.Locs.length : Int))) := by
                unfold inP; rw [Bool.eq_iff_iff]; simp
              refine ⟨⟨by omega, by omega⟩, fun hy => As ?_, fun hy => next _ hlt3' (fun i hi => ?_) (Up.of ?_)⟩
              · have := Bg (n := w.length) (f := fun i => inP p.Locs.length (w.getD i default).To) hlt3' (by show inP _ _ = false; rw [hin, hy]; rfl)
                rw [this, cond_false] at hq; rw [← hq] at hr; exact hr
              · rcases Nat.lt_succ_iff_lt_or_eq.1 hi with h | rfl
                · exact hI i h
                · rw [hin, hy]; rfl
              · rw [Ap (by omega)]; rfl
            · have hge3' : w.length ≤ h3 := by have := AV hge3; omega
              have := (AW (n := w.length) (f := fun i => inP p.Locs.length (w.getD i default).To)).2 fun i hi => hI i (by omega)
              rw [this, cond_true] at hq
              rw [Ap (by omega)]
              exact ⟨ws.length - (j + 1), by omega, Up.of ⟨j + 1, mn + w.length, by omega, rfl, hmn2, hq, rfl⟩⟩
        · have hge2' : ws.length ≤ j := by have := AV hge2; omega
          rw [List.drop_eq_nil_of_le hge2'] at hq
          unfold Gd at hq
          rw [← hq] at hr
          rw [Ap (by omega)]
          exact ⟨p.Locs.length - (k + 1), by omega, Up.of ⟨k + 1, mn, by omega, rfl, hmn, hr, rfl⟩⟩
    · have hge' : p.Locs.length ≤ k := by have := AV hge; omega
      rw [List.drop_eq_nil_of_le hge'] at hr
      exact hr
theorem I8 (t : ByteArray) : (t.toList == (⟨#[]⟩ : ByteArray).toList) = decide (t.size = 0) := by
  rw [ByteArray.toList_eq, ByteArray.toList_eq, Bool.eq_iff_iff, beq_iff_eq, decide_eq_true_eq]
  show t.data.toList = [] ↔ t.data.size = 0
  rw [← Array.length_toList, List.length_eq_zero_iff]
theorem TB {s : D.Stmt} {u v x : Bool} (h1 : s.Args.length ≤ 1048576) (h2 : s.Match.length ≤ 1048576) : Ae Tryz.prog 173 [] [.agg (Av s), Ai u, Ai v, Ai x] [] (Ai (CO s u v x)) := by
  refine Ah Am An Tryz.func173 (by kernel_rfl) rfl (Xj _ s u v x) (As ?_)
  rw [A6 (by omega) (by omega), I8]
  unfold CO
  have e1 : ((s.Args.length : Int) + (s.Match.length : Int) == 0) = decide (s.Args.length + s.Match.length = 0) := by rw [Bool.eq_iff_iff, beq_iff_eq, decide_eq_true_eq]; omega
  have e2 : (s.N == 0) = decide (s.N = 0) := by rw [Bool.eq_iff_iff, beq_iff_eq, decide_eq_true_eq]
  rw [e1, e2]
  generalize decide (s.Args.length + s.Match.length = 0) = b1
  generalize decide (s.N = 0) = b2
  generalize decide (s.Text.size = 0) = b3
  cases u <;> cases v <;> cases x <;> cases b1 <;> cases b2 <;> cases b3 <;> rfl
theorem Ec (m : D.Model) (a : Int) : Ae Tryz.prog 172 [] [tpM m, Ad a] [] (Ai (Cl m a)) :=
  Ah Am An Tryz.func172 (by kernel_rfl) rfl (WH _ m a) ⟨inP m.Exprs.length a, J5, As rfl⟩
theorem GP (m : D.Model) (a : Int) : Ae Tryz.prog 174 [] [tpM m, Ad a] [] (Ai (Bp m a)) := by
  have hin : ∀ y : Bool, y = Cl m a → y = true → 0 ≤ a ∧ a < m.Exprs.length := fun y hy h => Cn.1 (by rw [hy] at h; exact h)
  refine Ah Am An Tryz.func174 (by kernel_rfl) rfl (R3 _ m a) ⟨Cl m a, Ec m a, fun h => hin _ rfl (by simpa using h), fun h => hin _ rfl ?_, As ?_⟩
  · cases hq : Cl m a with
    | true => rfl
    | false => rw [hq] at h; simp at h
  · unfold Bp AD
    cases Cl m a
    · rfl
    · rw [Bool.eq_iff_iff]; simp
theorem R4 {m : D.Model} {s : D.Stmt} (h1 : s.Args.length ≤ 1048576) (h2 : s.Match.length ≤ 1048576) : Ae Tryz.prog 175 [] [tpM m, .agg (Av s)] [] (Ai (EX m s)) := by
  refine Ah Am An Tryz.func175 (by kernel_rfl) rfl (VJ _ m s) ⟨Bn m m.Exprs.length s.Args s.Match, Js (Int.le_refl _) h1 h2, fun h => As ?_, fun h => ?_⟩
  · have h' : Bn m m.Exprs.length s.Args s.Match = false := by simpa using h
    unfold EX; rw [h', Bool.false_and]
  · have h' : Bn m m.Exprs.length s.Args s.Match = true := by simpa using h
    have hlen : s.Match.length = s.Args.length := by
      unfold Bn at h'
      simp only [Bool.and_eq_true, decide_eq_true_eq] at h'
      exact h'.1.1.2
    have e : EX m s = B3 s.Match.length fun i => !decide (s.Match.getD i 0 = 0) || Bp m (s.Args.getD i 0) := by unfold EX; rw [h', Bool.true_and]
    rw [e]
    refine AI Am An s.Match.length (fun k => Ub m s k) (fun k => ∀ i, i < k → (!decide (s.Match.getD i 0 = 0) || Bp m (s.Args.getD i 0)) = true) (by kernel_rfl) (by kernel_rfl) (fun i hi => by omega) ?_
    intro k hk hI J next
    refine A9.raw (R5 _ m s k J) ⟨fun hlt => ?_, fun hge => As ?_⟩
    · have hlt' : k < s.Match.length := by have := AQ hlt; omega
      have hto : (k : Int).toNat = k := by omega
      rw [hto]
      have hm : (!decide (s.Match.getD k 0 = 0) || Bp m (s.Args.getD k 0)) = !(bif s.Match.getD k 0 == 0 then !(Bp m (s.Args.getD k 0)) else false) := by
        generalize s.Match.getD k 0 = z
        cases Bp m (s.Args.getD k 0)
        · rw [Bool.eq_iff_iff]; simp
        · simp
      refine ⟨⟨by omega, by omega⟩, fun _ => ⟨by omega, by omega⟩, Bp m (s.Args.getD k 0), fun _ => GP _ _, fun hy => As ?_, fun hy => next _ hlt' (fun i hi => ?_) (Up.of ?_)⟩
      · exact (Bg (f := fun i => !decide (s.Match.getD i 0 = 0) || Bp m (s.Args.getD i 0)) hlt' (by show (!decide (s.Match.getD k 0 = 0) || Bp m (s.Args.getD k 0)) = false; rw [hm, hy]; rfl)).symm
      · rcases Nat.lt_succ_iff_lt_or_eq.1 hi with h | rfl
        · exact hI i h
        · rw [hm, hy]; rfl
      · rw [Ap (by omega)]; rfl
    · have hge' : s.Match.length ≤ k := by have := AV hge; omega
      exact (AW.2 fun i hi => hI i (by omega)).symm
theorem LH {m : D.Model} {i : Int} {v : D.Var} (h1 : v.Scope = 1 → 0 ≤ i ∧ i < m.Procs.length) (h2 : v.Scope ≠ 0 → v.Scope ≠ 1 → 0 ≤ v.Type_ ∧ v.Type_ < m.Procs.length) : Ae Tryz.prog 163 [] [tpM m, Ad i, .agg (A4 v)] [] (Ad (DT m i v)) := by
  refine Ah Am An Tryz.func163 (by kernel_rfl) rfl (VU _ m i v) ⟨fun h => BJ ?_, fun h => ⟨fun k => ⟨h1 (by simpa using k), BJ ?_⟩, fun k => ⟨h2 (by simpa using h) (by simpa using k), BJ ?_⟩⟩⟩
  · unfold DT; rw [if_pos (by simpa using h)]
  · unfold DT; rw [if_neg (by simpa using h), if_pos (by simpa using k)]
  · unfold DT; rw [if_neg (by simpa using h), if_neg (by simpa using k)]
end Go.Proofs.YtiaebjpcgjkhoaaGreatDoor
namespace Go.Proofs.YtiaebjpcgjkhoaaGreatDoor
open Go.RowKit
def leS (x y : VV) : Prop := ∀ (w : World) (E : AU) (m : Option Phi) (v : Value), (∀ k, E.br k → E.fz k) → V w E m x v → V w E m y v
theorem CJ (x : VV) : leS x x := fun _ _ _ _ _ h => h
theorem JV {n sz : Nat} {f : Nat → List VV} : leS (.sl true n sz f) (.sl false n sz f) := by
  intro w E m v hE h
  obtain ⟨a, cap, rfl, h1, h2, h3⟩ := V.sl_inv h
  refine V.sl_mk h1 h2 fun hp => ?_
  obtain ⟨b, off, rfl, hb, hn, hl, u, hc, hv⟩ := h3 hp
  exact ⟨b, off, rfl, hb, fun hbr => hn (hE b hbr), hl, u, hc, fun i j x hi hx => (hv i j x hi hx).less (fun _ h => h) fun _ _ => trivial⟩
theorem Ae.frz {P : Program} {f : FuncId} {hs hs' : List Ob} {xs ys : List VV} {r : VV} (h : Ae P f hs xs hs' r) (hl : ys.length = xs.length) (hle : ∀ (j : Nat) x y, xs[j]? = some x → ys[j]? = some y → leS y x) : Ae P f hs ys hs' r := by
  refine ⟨h.callable, fun w E φ vs hz hH hφ hs0 => h.call w E φ vs hz hH hφ ⟨hs0.1.trans hl, fun j x hx => ?_⟩⟩
  have hj : j < ys.length := by rw [hl]; exact (List.getElem?_eq_some_iff.1 hx).1
  exact hle j x _ hx (List.getElem?_eq_getElem hj) _ _ _ _ (fun k hk => hk.imp (hH.sub k) fun h => h) (hs0.2 j _ (List.getElem?_eq_getElem hj))
theorem ieq (a b : Int) : (a == b) = decide (a = b) := by rw [Bool.eq_iff_iff, beq_iff_eq, decide_eq_true_eq]
theorem AS (a b : Bool) : (bif a then b else false) = (a && b) := by cases a <;> rfl
theorem Bc (a b : Bool) : (bif a then true else b) = (a || b) := by cases a <;> rfl
theorem nge (n k : Nat) : decide ((n : Int) ≥ k) = decide (k ≤ n) := by rw [Bool.eq_iff_iff, decide_eq_true_eq, decide_eq_true_eq]; omega
theorem nle (n k : Nat) : decide ((n : Int) ≤ k) = decide (n ≤ k) := by rw [Bool.eq_iff_iff, decide_eq_true_eq, decide_eq_true_eq]; omega
theorem ge1 (n : Nat) : decide ((n : Int) ≥ 1) = decide (1 ≤ n) := nge n 1
theorem le8 (n : Nat) : decide ((n : Int) ≤ 8) = decide (n ≤ 8) := nle n 8
theorem Aa6 (n : Nat) : decide ((n : Int) ≤ 256) = decide (n ≤ 256) := nle n 256
theorem Aau (n : Nat) : decide ((n : Int) = 0) = decide (n = 0) := by rw [Bool.eq_iff_iff, decide_eq_true_eq, decide_eq_true_eq]; omega
structure Kj (s : D.Stmt) : Prop where
  a : s.Args.length ≤ 1048576
  m : s.Match.length ≤ 1048576
theorem LA {m : D.Model} {s : D.Stmt} (hs : Kj s) : Ae Tryz.prog 162 [] [tpM m, .agg (Av s)] [] (Ai (Az m s)) := by
  have ha := hs.a
  have hb := hs.m
  have em : ∀ u v x : Bool, Ae Tryz.prog 173 [] [.agg (Av s), Ai u, Ai v, Ai x] [] (Ai (CO s u v x)) := fun u v x => TB ha hb
  have n1 : ∀ x : Bool, (bif x then s.B == (-1 : Int) else false) = (x && decide (s.B = -1)) := fun x => by rw [ieq, AS]
  have hkn : ∀ {k : Int}, (s.Kind == k) = true → s.Kind = k := fun h => by simpa using h
  have hkf : ∀ {k : Int}, (s.Kind == k) = false → s.Kind ≠ k := fun h => by simpa using h
  refine Ah Am An Tryz.func162 (by kernel_rfl) rfl (MD _ m s) ?_
  have t13 : s.Kind = 1 ∨ s.Kind = 3 → Az m s = (Cl m s.A && decide (s.B = -1) && CO s true true true) := fun h => by unfold Az; rw [if_pos h]
  have t2 : s.Kind = 2 → Az m s = (Bp m s.A && Cl m s.B && CO s true true true) := fun h => by unfold Az; rw [if_neg (by omega), if_pos h]
  have t4 : s.Kind = 4 → Az m s = (decide (s.A = -1) && decide (s.B = -1) && BI m.Exprs.length s.Args && decide (s.Match.length = 0) && decide (s.Text.size ≤ 256) && decide (s.N = 0)) := fun h => by unfold Az; rw [if_neg (by omega), if_neg (by omega), if_pos h]
  have t5 : s.Kind = 5 → Az m s = (Cl m s.A && decide (s.B = -1) && decide (1 ≤ s.Args.length) && decide (s.Args.length ≤ 8) && BI m.Exprs.length s.Args && decide (s.Match.length = 0) && (decide (s.N = 0) || decide (s.N = 1)) && decide (s.Text.size = 0)) := fun h => by unfold Az; rw [if_neg (by omega), if_neg (by omega), if_neg (by omega), if_pos h]
  have t6 : s.Kind = 6 → Az m s = (Cl m s.A && decide (s.B = -1) && EX m s && decide (0 ≤ s.N) && decide (s.N ≤ 3) && decide (s.Text.size = 0)) := fun h => by unfold Az; rw [if_neg (by omega), if_neg (by omega), if_neg (by omega), if_neg (by omega), if_pos h]
  have t7 : s.Kind = 7 ∨ s.Kind = 8 → Az m s = (decide (s.A = -1) && decide (s.B = -1) && CO s true true true) := fun h => by unfold Az; rw [if_neg (by omega), if_neg (by omega), if_neg (by omega), if_neg (by omega), if_neg (by omega), if_pos h]
  have t9 : s.Kind = 9 → Az m s = (Bp m s.A && decide (s.B = -1) && decide (0 ≤ s.N) && decide (s.N < m.Shapes.length) && CO s true false true) := fun h => by unfold Az; rw [if_neg (by omega), if_neg (by omega), if_neg (by omega), if_neg (by omega), if_neg (by omega), if_neg (by omega), if_pos h]
  have tx : ¬(s.Kind = 1 ∨ s.Kind = 3) → s.Kind ≠ 2 → s.Kind ≠ 4 → s.Kind ≠ 5 → s.Kind ≠ 6 → ¬(s.Kind = 7 ∨ s.Kind = 8) → s.Kind ≠ 9 → Az m s = false := fun h1 h2 h3 h4 h5 h6 h7 => by unfold Az; rw [if_neg h1, if_neg h2, if_neg h3, if_neg h4, if_neg h5, if_neg h6, if_neg h7]
  generalize Az m s = b at t13 t2 t4 t5 t6 t7 t9 tx ⊢
  exact ⟨fun h1 => ⟨fun _ => ⟨_, Ec m s.A, _, fun _ => em true true true, As (by rw [t13 (.inl (hkn h1)), n1, AS])⟩, fun h => bt h1 h⟩, fun h1 => ⟨fun h3 => ⟨_, Ec m s.A, _, fun _ => em true true true, As (by rw [t13 (.inr (hkn h3)), n1, AS])⟩, fun h3 => ⟨fun h2 => ⟨_, GP m s.A, _, fun _ => Ec m s.B, _, fun _ => em true true true, As (by rw [t2 (hkn h2), AS, AS])⟩, fun h2 => ⟨fun h4 => ⟨_, fun _ => Eh (by omega), As (by rw [t4 (hkn h4)]; simp only [ieq, AS, Aau, Aa6])⟩, fun h4 => ⟨fun h5 => ⟨_, Ec m s.A, _, fun _ => Eh (by omega), As (by rw [t5 (hkn h5)]; simp only [ieq, AS, Bc, Aau, I8, le8, ge1])⟩, fun h5 => ⟨fun h6 => ⟨_, Ec m s.A, _, fun _ => R4 ha hb, As (by rw [t6 (hkn h6)]; simp only [ieq, AS, I8, ge_iff_le])⟩, fun h6 => ⟨fun h7 => ⟨fun _ => ⟨_, fun _ => em true true true, As (by rw [t7 (.inl (hkn h7))]; simp only [ieq, AS])⟩, fun h => bt h7 h⟩, fun h7 => ⟨fun h8 => ⟨_, fun _ => em true true true, As (by rw [t7 (.inr (hkn h8))]; simp only [ieq, AS])⟩, fun h8 => ⟨fun h9 => ⟨_, GP m s.A, _, fun _ => em true false true, As (by rw [t9 (hkn h9)]; simp only [ieq, AS, ge_iff_le])⟩, fun h9 => As (tx (fun h => h.elim (hkf h1) (hkf h3)) (hkf h2) (hkf h4) (hkf h5) (hkf h6) (fun h => h.elim (hkf h7) (hkf h8)) (hkf h9)).symm⟩⟩⟩⟩⟩⟩⟩⟩⟩
theorem F3 {x : D.Expr} (h1 : x.Args.length ≤ 1048576) (h2 : x.V.Dims.length ≤ 1048576) : Ae Tryz.prog 133 [] [.agg (Au x)] [] (Aa true (Bb x)) := by
  have hp3 := LX x.Op
  have hP : ([x.A, x.B, x.C].take (AK x.Op)).length = AK x.Op := by simp; omega
  have hrow : ∀ i, i < ([x.A, x.B, x.C].take (AK x.Op)).length → List.take 1 (List.drop (i * 1) [VV.sc (.int .i64 x.A), .sc (.int .i64 x.B), .sc (.int .i64 x.C)]) = [Ad (([x.A, x.B, x.C].take (AK x.Op)).getD i 0)] := by
    intro i hi
    rw [hP] at hi
    have : ([x.A, x.B, x.C].take (AK x.Op)).getD i 0 = [x.A, x.B, x.C].getD i 0 := by simp only [List.getD_eq_getElem?_getD, List.getElem?_take, hi, if_true]
    rw [this]
    rcases (show i = 0 ∨ i = 1 ∨ i = 2 by omega) with rfl | rfl | rfl <;> rfl
  have hto : ((AK x.Op : Nat) : Int).toNat = AK x.Op := by omega
  have loop : ∀ (L : List Int), L.length ≤ 2097152 → L ++ x.V.Dims.map D.Dim.I = Bb x → AH (Ag Tryz.prog tb Ba Fu true Tryz.f133 [] (Aa true (Bb x))) [1, 1, 1, 0, 1, 0, 1, 1, 0] (Si x L 0) := by
    intro L hL hR
    generalize Bb x = R at hR ⊢
    refine AI Am An x.V.Dims.length (fun k => Si x (L ++ (x.V.Dims.take k).map D.Dim.I) k) (fun _ => True) (by kernel_rfl) (by kernel_rfl) trivial ?_ |> fun h => by simpa using h
    intro k hk _ J next
    have hlen : (L ++ (x.V.Dims.take k).map D.Dim.I).length = L.length + k := by simp; omega
    refine A9.raw (W8 _ x _ k J) ⟨fun hlt => ?_, fun hge => ⟨trivial, ?_⟩⟩
    · have hlt' : k < x.V.Dims.length := by have := AQ hlt; omega
      have hto : (k : Int).toNat = k := by omega
      rw [hto]
      refine ⟨⟨by omega, by omega⟩, by rw [hlen]; omega, next _ hlt' trivial ?_⟩
      have hpush : (x.V.Dims.take (k + 1)).map D.Dim.I = (x.V.Dims.take k).map D.Dim.I ++ [(x.V.Dims.getD k default).I] := by rw [DH (d := default) hlt']; simp
      have e : L ++ (x.V.Dims.take (k + 1)).map D.Dim.I = (L ++ (x.V.Dims.take k).map D.Dim.I) ++ [(x.V.Dims.getD k default).I] := by rw [hpush, List.append_assoc]
      rw [e, Ap (by omega)]
      generalize L ++ (x.V.Dims.take k).map D.Dim.I = M
      generalize (x.V.Dims.getD k default).I = z
      refine Up.mk (l' := [(3, .ow 0 0 (M ++ [z]).length), (45, Bw true x.V.Dims), (46, Ad x.V.Dims.length), (47, Ad ((k + 1 : Nat) : Int))]) (hs' := [.arr true 0 (M ++ [z]).length 1 (A7 (M ++ [z]))]) ?_ ?_ rfl
      · rw [show M.length + 1 = (M ++ [z]).length by simp]; exact AZ _
      · rw [show M.length + 1 = (M ++ [z]).length by simp]
        exact ⟨Ob.le_arr fun i hi => A8 (B8 (f := fun n => [Ad n]) (d := 0) (l := M) (r := [z]) (F := fun i => [.sc (.int .i64 (M.getD i 0))]) (fun i hi => rfl) DW hi), trivial⟩
    · have hge' : x.V.Dims.length ≤ k := by have := AV hge; omega
      rw [List.take_of_length_le hge', hR]
      exact VV.le_refl _
  refine Ah Am An Tryz.func133 (by kernel_rfl) rfl (Y2 _ x) ⟨(AK x.Op : Nat), DE _, ?_⟩
  rw [hto]
  have hpp : AK x.Op = ([x.A, x.B, x.C].take (AK x.Op)).length := hP.symm
  generalize hLp : [x.A, x.B, x.C].take (AK x.Op) = P at hrow hpp loop
  have hheld : Bb x = P ++ ((if x.Op = 30 ∨ x.Op = 39 then x.Args else []) ++ (if x.Op = 2 then (if x.V.Scope = 2 then [x.V.Who] else []) ++ x.V.Dims.map D.Dim.I else [])) := by unfold Bb; rw [hLp]
  generalize Bb x = R at hheld loop ⊢
  rw [hpp] at hp3 ⊢
  refine ⟨⟨by omega, by omega⟩, by omega, fun h => ⟨by omega, fun i hi => rfl, fun k => ?_, fun k => ⟨trivial, ?_⟩⟩, fun h => ⟨fun k => ⟨fun q => ⟨by omega, ?_⟩, fun q => ?_⟩, fun k => ⟨trivial, ?_⟩⟩⟩
  · simp at h k; omega
  · have e : R = P ++ x.Args := by rw [hheld, if_pos (by simpa using h), if_neg (by simpa using k)]; simp
    subst e
    rw [show P.length + x.Args.length = (P ++ x.Args).length by simp]
    exact VV.le_sl (.inl rfl) fun i hi => A8 (B8 (f := fun n => [Ad n]) (d := 0) (l := P) (r := x.Args) (G := fun j => [.sc (.int .i64 (x.Args.getD j 0))]) hrow (fun i hi => rfl) hi)
  · have h' : ¬(x.Op = 30 ∨ x.Op = 39) := by simpa using h
    have e : (P ++ [x.V.Who]) ++ x.V.Dims.map D.Dim.I = R := by rw [hheld, if_neg h', if_pos (by simpa using k), if_pos (by simpa using q)]; simp
    refine AH.le (l' := [(3, .ow 0 0 (P ++ [x.V.Who]).length), (45, Bw true x.V.Dims), (46, Ad x.V.Dims.length), (47, Ad 0)]) (hs' := [.arr true 0 (P ++ [x.V.Who]).length 1 (A7 (P ++ [x.V.Who]))]) ?_ ?_ (loop _ (by simp; omega) e)
    · rw [show P.length + 1 = (P ++ [x.V.Who]).length by simp]; exact AZ _
    · rw [show P.length + 1 = (P ++ [x.V.Who]).length by simp]
      exact ⟨Ob.le_arr fun i hi => A8 (B8 (f := fun n => [Ad n]) (d := 0) (l := P) (r := [x.V.Who]) hrow DW hi), trivial⟩
  · have h' : ¬(x.Op = 30 ∨ x.Op = 39) := by simpa using h
    have e : P ++ x.V.Dims.map D.Dim.I = R := by rw [hheld, if_neg h', if_pos (by simpa using k), if_neg (by simpa using q)]; simp
    exact V3 (G := A7 P) (fun i hi => hrow i hi) (loop _ (by omega) e)
  · have h' : ¬(x.Op = 30 ∨ x.Op = 39) := by simpa using h
    have e : R = P := by rw [hheld, if_neg h', if_neg (by simpa using k)]; simp
    subst e
    exact VV.le_sl (.inl rfl) fun i hi => A8 (hrow i hi)
end Go.Proofs.YtiaebjpcgjkhoaaGreatDoor
namespace Go.Proofs.YtiaebjpcgjkhoaaGreatDoor
open Go.RowKit
structure D8 (m : D.Model) : Prop where
  wf : AN m
  ex : ∀ k : Nat, k < m.Exprs.length → CT m k = true
def InE (m : D.Model) (l : List Int) : Prop := ∀ x ∈ l, 0 ≤ x ∧ x < m.Exprs.length
theorem Jx {m : D.Model} {k : Int} (h0 : 0 ≤ k) (h : k < m.Exprs.length) : AD m k ∈ m.Exprs := AF (by omega)
theorem D8.at {m : D.Model} (h : D8 m) {k : Int} (h0 : 0 ≤ k) (hk : k < m.Exprs.length) : CT m k = true := by
  have := h.ex k.toNat (by omega)
  rwa [show ((k.toNat : Nat) : Int) = k by omega] at this
theorem D8.held {m : D.Model} (h : D8 m) {k : Int} (h0 : 0 ≤ k) (hk : k < m.Exprs.length) : InE m (Bb (AD m k)) := fun x hx => by
  have := KY (h.at h0 hk) x hx; omega
theorem D8.small {m : D.Model} (h : D8 m) : ∀ x ∈ m.Exprs, x.Args.length ≤ 1048576 ∧ x.V.Dims.length ≤ 1048576 := fun x hx =>
  ⟨(h.wf.Exprs.2 x hx).Args.1, (h.wf.Exprs.2 x hx).V.Dims.1⟩
theorem D8.slots {m : D.Model} (h : D8 m) {k : Int} (h0 : 0 ≤ k) (hk : k < m.Exprs.length) (h2 : (AD m k).Op = 2) : (AD m k).V.Scope ≠ 0 → (AD m k).V.Scope ≠ 1 → 0 ≤ (AD m k).V.Type_ ∧ (AD m k).V.Type_ < m.Procs.length := by
  have hx := h.at h0 hk
  unfold CT at hx
  simp only [Bool.and_eq_true] at hx
  obtain ⟨_, hO⟩ := hx
  generalize AD m k = x at *
  rw [if_neg (by omega), if_pos h2] at hO
  simp only [Bool.and_eq_true, Cr] at hO
  obtain ⟨⟨⟨⟨⟨⟨hs0, hs2⟩, _⟩, _⟩, _⟩, hW⟩, _⟩ := hO
  intro n0 n1
  have hs : x.V.Scope = 2 := by simp at hs0 hs2; omega
  simp only [hs, decide_true, cond_true, Bool.and_eq_true] at hW
  have := hW.2
  unfold BN at this
  simp at this; omega
structure Inv (m : D.Model) (i run : Int) (n : Nat) (b : Bool) (seen : List Bool) (todo : List Int) (k : Nat) : Prop where
  sl : seen.length = m.Exprs.length
  le : k ≤ todo.length
  mem : InE m todo
  sum : todo.length + load m seen = n
  res : Lq m i run (todo.length - k + load m seen + 1) seen (todo.drop k) = b
section
variable {m : D.Model} {i run : Int} {n : Nat} {b : Bool} {seen : List Bool} {todo : List Int} {k : Nat}
theorem Inv.at (h : Inv m i run n b seen todo k) (hk : k < todo.length) : 0 ≤ todo.getD k 0 ∧ todo.getD k 0 < m.Exprs.length := h.mem _ (AF hk)
theorem Inv.step (h : Inv m i run n b seen todo k) (hk : k < todo.length) :
    (bif seen.getD (todo.getD k 0).toNat false then Lq m i run (todo.length - (k + 1) + load m seen + 1) seen (todo.drop (k + 1)) else bif Ez m i run (todo.getD k 0) then false
      else Lq m i run (todo.length - (k + 1) + load m seen + 1) (seen.set (todo.getD k 0).toNat true) (todo.drop (k + 1) ++ Bb (AD m (todo.getD k 0)))) = b := by
  have := h.res
  rw [BQ (d := 0) hk, show todo.length - k + load m seen + 1 = (todo.length - (k + 1) + load m seen + 1) + 1 by omega] at this
  exact this
theorem Inv.had (h : Inv m i run n b seen todo k) (hk : k < todo.length) (hs : seen.getD (todo.getD k 0).toNat false = true) : Inv m i run n b seen todo (k + 1) := by
  have := h.step hk
  rw [hs, cond_true] at this
  exact ⟨h.sl, hk, h.mem, h.sum, this⟩
theorem Inv.bad (h : Inv m i run n b seen todo k) (hk : k < todo.length) (hs : seen.getD (todo.getD k 0).toNat false = false) (hu : Ez m i run (todo.getD k 0) = true) : false = b := by
  have := h.step hk
  rw [hs, cond_false, hu, cond_true] at this
  exact this
theorem Inv.more (hr : D8 m) (h : Inv m i run n b seen todo k) (hk : k < todo.length) (hs : seen.getD (todo.getD k 0).toNat false = false) (hu : Ez m i run (todo.getD k 0) = false) :
    Inv m i run n b (seen.set (todo.getD k 0).toNat true) (todo ++ Bb (AD m (todo.getD k 0))) (k + 1) := by
  have ht := h.at hk
  have hl := YP (m := m) hs (by rw [h.sl]; omega) h.sl
  have := h.step hk
  rw [hs, cond_false, hu, cond_false] at this
  have hsum := h.sum
  have hx : m.Exprs.getD (todo.getD k 0).toNat default = AD m (todo.getD k 0) := rfl
  rw [hx] at hl
  refine ⟨by simp [h.sl], by simp; omega, fun x hxm => ?_, by rw [List.length_append]; omega, ?_⟩
  · rcases List.mem_append.1 hxm with hxm | hxm
    · exact h.mem x hxm
    · exact hr.held ht.1 ht.2 x hxm
  · rw [List.drop_append_of_le_length hk, List.length_append]
    rw [show todo.length + (Bb (AD m (todo.getD k 0))).length - (k + 1) + load m (seen.set (todo.getD k 0).toNat true) + 1 = todo.length - (k + 1) + load m seen + 1 by omega]
    exact this
end
theorem M4 (m : D.Model) (i run k : Int) : Ez m i run k = ((bif bif (AD m k).Op == 39 then k != run else false then true else bif i == m.Claim then bif bif (AD m k).Op == 31 then true else (AD m k).Op == 39 then true else bif (AD m k).Op == 2 then (AD m k).V.Scope == 1 else false else false) ||
    ((AD m k).Op == 2 && decide (DT m i (AD m k).V < CE (AD m k).V))) := by
  unfold Ez
  simp only [ieq, AS, Bc, bne, Bool.or_assoc, decide_not]
theorem KO {l : List Bool} {t j : Nat} (hj : j < l.length) : (bif j.beq t then [VV.sc (.bool true)] else [.sc (.bool (l.getD j false))]) = [Ai ((l.set t true).getD j false)] := by
  cases hq : j.beq t with
  | true =>
    have := Nat.eq_of_beq_eq_true hq; subst this
    simp [List.getD, hj, Ai]
  | false =>
    have hne : t ≠ j := by rintro rfl; simp at hq
    simp [List.getD, hne, Ai]
theorem O9 {l r : List Int} {F : Nat → List VV} (hF : ∀ i, i < l.length → F i = [Ad (l.getD i 0)]) {i : Nat} (hi : i < (l ++ r).length) : (bif i.blt l.length then F i else (fun j => [Ad (r.getD j 0)]) (i - l.length)) = A7 (l ++ r) i :=
  B8 (f := fun n => [Ad n]) (d := 0) (l := l) (r := r) (G := fun j => [Ad (r.getD j 0)]) hF (fun _ _ => rfl) hi
theorem VB {m : D.Model} {i run : Int} {list : List Int} (hr : D8 m) (hi0 : 0 ≤ i) (hi : i < m.Procs.length) (hin : InE m list) (hlen : list.length ≤ 2097152) :
    Ae Tryz.prog 136 [] [tpM m, Ad i, Aa false list, Ad run] [] (Ai (GN m i list run)) := by
  have hN := hr.wf.Exprs.1
  have hload := Aax hr.small (AO m)
  have hmul : m.Exprs.length * 2097156 ≤ 1048576 * 2097156 := Nat.mul_le_mul_right _ hN
  generalize hb : GN m i list run = b
  have inv0 : Inv m i run (list.length + load m (AO m)) b (AO m) list 0 := ⟨by simp [AO], Nat.zero_le _, hin, rfl, by rw [← hb]; rfl⟩
  generalize hn : list.length + load m (AO m) = n at inv0
  have hn2 : n ≤ 4398046511104 := by omega
  have small : ∀ {t : Int}, 0 ≤ t → t < m.Exprs.length → (AD m t).Args.length ≤ 1048576 ∧ (AD m t).V.Dims.length ≤ 1048576 := fun h0 h1 => hr.small _ (Jx h0 h1)
  have wfv : ∀ {t : Int}, 0 ≤ t → t < m.Exprs.length → Gc (AD m t).V := fun h0 h1 => (hr.wf.Exprs.2 _ (Jx h0 h1)).V
  refine Ah Am An Tryz.func136 (by kernel_rfl) rfl (XV _ m i list run) ?_
  refine V1 Am An 0 (fun g st => ∃ (seen : List Bool) (todo : List Int) (k : Nat), Inv m i run n b seen todo k ∧ g = todo.length - k + load m seen ∧ st = Og m i list run seen todo k) (by kernel_rfl) (by kernel_rfl) (by kernel_rfl) (by kernel_rfl) (A9.raw (VD _ m i list run _) ?_) fun g st h => ?_
  · have hnn : ((m.Exprs.length : Int).toNat) = m.Exprs.length := by omega
    rw [hnn]
    have hto : Int.toNat 0 = 0 := rfl
    have hz : ∀ j, j < m.Exprs.length → (AO m).getD j false = false := fun j hj => by simp [AO, List.getD, hj]
    have hsl : (AO m).length = m.Exprs.length := by simp [AO]
    refine ⟨⟨by omega, by omega, by omega⟩, by omega, fun _ _ => rfl, fun h => As ?_, fun h => ?_⟩
    · have h0 : list.length = 0 := by simp at h; omega
      have := inv0.res
      rw [List.eq_nil_of_length_eq_zero h0] at this
      rw [← this]; rfl
    · have h0 : 0 < list.length := by simp at h; omega
      have ht := inv0.at h0
      rw [hto]
      have hs := hz (list.getD 0 0).toNat (by omega)
      have hbad := M4 m i run (list.getD 0 0)
      have more := fun hu => inv0.more hr h0 hs hu
      have bad := fun hu => inv0.bad h0 hs hu
      have hsm := small ht.1 ht.2
      have hwv := wfv ht.1 ht.2
      have hsum := inv0.sum
      have hsl2 := hr.slots ht.1 ht.2
      refine ⟨⟨by omega, by omega⟩, ⟨by omega, by omega⟩, fun h => (by cases h), fun _ => ⟨⟨by omega, by omega⟩, ⟨by omega, by omega⟩, fun hc => As (bad (by rw [hbad, Bool.or_eq_true]; exact .inl hc)), fun hc => ?_⟩⟩
      have fin : Ez m i run (list.getD 0 0) = false → (list.length + (Bb (AD m (list.getD 0 0))).length) * 8 ≤ 140737488355328 ∧ ∃ g, Up (fun st => ∃ (seen : List Bool) (todo : List Int) (k : Nat), Inv m i run n b seen todo k ∧ g = todo.length - k + load m seen ∧ st = Og m i list run seen todo k)
          (Ao [(0, tpM m), (1, Ad i), (2, Aa false list), (3, Ad run), (9, .ow 0 0 m.Exprs.length), (10, .ow 1 0 (list.length + (Bb (AD m (list.getD 0 0))).length)), (11, Ad (IntKind.i64.wrap (0 + 1)))]
            [.arr true 0 m.Exprs.length 1 (fun j => bif j.beq (list.getD 0 0).toNat then [.sc (.bool true)] else [.sc (.bool false)]), .arr true 0 (list.length + (Bb (AD m (list.getD 0 0))).length) 1 (fun j => bif j.blt list.length then (fun j => [Ad (list.getD j 0)]) j else (fun j => [Ad ((Bb (AD m (list.getD 0 0))).getD j 0)]) (j - list.length))]) := by
        intro hu
        have hm := more hu
        have hm2 := hm.sum
        generalize Bb (AD m (list.getD 0 0)) = H at hm hm2 ⊢
        generalize (list.getD 0 0).toNat = t at hm hm2 ⊢
        rw [List.length_append] at hm2
        refine ⟨by omega, (list ++ H).length - (0 + 1) + load m ((AO m).set t true), ?_⟩
        have hw1 : IntKind.i64.wrap (0 + 1) = ((1 : Nat) : Int) := rfl
        have hnl : m.Exprs.length = ((AO m).set t true).length := by simp [AO]
        refine Up.mk (l' := [(0, tpM m), (1, Ad i), (2, Aa false list), (3, Ad run), (9, .ow 0 0 ((AO m).set t true).length), (10, .ow 1 0 (list ++ H).length), (11, Ad ((1 : Nat) : Int))])
          (hs' := [.arr true 0 ((AO m).set t true).length 1 (DV ((AO m).set t true)), .arr true 0 (list ++ H).length 1 (A7 (list ++ H))]) ?_ ?_ ⟨_, _, _, hm, rfl, rfl⟩
        · rw [hw1, ← hnl, List.length_append]; exact AZ _
        · rw [← hnl, ← List.length_append]
          refine ⟨Ob.le_arr fun j hj => A8 ?_, Ob.le_arr fun j hj => A8 (O9 (fun i hi => rfl) hj), trivial⟩
          have := KO (l := AO m) (t := t) (j := j) (by omega)
          rw [hz j hj] at this
          exact this
      refine ⟨fun h2 => ⟨_, E8 hwv, _, LH (fun _ => ⟨hi0, hi⟩) (hsl2 (eq_of_beq h2)), fun h3 => As (bad ?_), fun h3 => ?_⟩, fun h2 => ?_⟩
      · rw [hbad, Bool.or_eq_true, Bool.and_eq_true]; exact .inr ⟨h2, h3⟩
      · have hu : Ez m i run (list.getD 0 0) = false := by
          rw [hbad, Bool.or_eq_false_iff, Bool.and_eq_false_iff]; exact ⟨hc, .inr h3⟩
        obtain ⟨f1, f2⟩ := fin hu
        exact ⟨Bb (AD m (list.getD 0 0)), F3 hsm.1 hsm.2, f1, fun i hi => rfl, f2⟩
      · have hu : Ez m i run (list.getD 0 0) = false := by
          rw [hbad, Bool.or_eq_false_iff, Bool.and_eq_false_iff]; exact ⟨hc, .inl h2⟩
        obtain ⟨f1, f2⟩ := fin hu
        exact ⟨Bb (AD m (list.getD 0 0)), F3 hsm.1 hsm.2, f1, fun i hi => rfl, f2⟩
  · obtain ⟨seen, todo, k, inv, rfl, rfl⟩ := h
    refine A9.raw (VC _ m i list run seen todo k _) ⟨fun h => As ?_, fun h => ?_⟩
    · have h0 : k = todo.length := by simp at h; omega
      have := inv.res
      rw [List.drop_eq_nil_of_le (by omega)] at this
      rw [← this, Lq]
    · have hle := inv.le
      have h0 : k < todo.length := by simp at h; omega
      have ht := inv.at h0
      have hto : (k : Int).toNat = k := by omega
      rw [hto]
      have hbad := M4 m i run (todo.getD k 0)
      have hsm := small ht.1 ht.2
      have hwv := wfv ht.1 ht.2
      have hsum := inv.sum
      have hsle := inv.sl
      have hsl2 := hr.slots ht.1 ht.2
      refine ⟨⟨by omega, by omega⟩, ⟨by omega, by omega⟩, fun hs => ?_, fun hs => ?_⟩
      · have hh := inv.had h0 hs
        refine ⟨todo.length - (k + 1) + load m seen, by omega, Up.of ⟨seen, todo, k + 1, hh, rfl, ?_⟩⟩
        rw [Ap (by omega)]; rfl
      have more := fun hu => inv.more hr h0 hs hu
      have bad := fun hu => inv.bad h0 hs hu
      refine ⟨⟨by omega, by omega⟩, ⟨by omega, by omega⟩, fun hc => As (bad (by rw [hbad, Bool.or_eq_true]; exact .inl hc)), fun hc => ?_⟩
      have fin : Ez m i run (todo.getD k 0) = false → (todo.length + (Bb (AD m (todo.getD k 0))).length) * 8 ≤ 140737488355328 ∧ ∃ g', g' < todo.length - k + load m seen ∧ Up (fun st => ∃ (seen : List Bool) (todo : List Int) (k : Nat), Inv m i run n b seen todo k ∧ g' = todo.length - k + load m seen ∧ st = Og m i list run seen todo k)
          (Ao [(0, tpM m), (1, Ad i), (2, Aa false list), (3, Ad run), (9, .ow 0 0 seen.length), (10, .ow 1 0 (todo.length + (Bb (AD m (todo.getD k 0))).length)), (11, Ad (IntKind.i64.wrap (k + 1)))]
            [.arr true 0 seen.length 1 (fun j => bif j.beq (todo.getD k 0).toNat then [.sc (.bool true)] else [.sc (.bool (seen.getD j false))]), .arr true 0 (todo.length + (Bb (AD m (todo.getD k 0))).length) 1 (fun j => bif j.blt todo.length then A7 todo j else (fun j => [Ad ((Bb (AD m (todo.getD k 0))).getD j 0)]) (j - todo.length))]) := by
        intro hu
        have hm := more hu
        have hm2 := hm.sum
        generalize Bb (AD m (todo.getD k 0)) = H at hm hm2 ⊢
        generalize (todo.getD k 0).toNat = t at hm hm2 ⊢
        rw [List.length_append] at hm2
        refine ⟨by omega, (todo ++ H).length - (k + 1) + load m (seen.set t true), by rw [List.length_append]; omega, ?_⟩
        have hnl : seen.length = (seen.set t true).length := by simp
        refine Up.mk (l' := [(0, tpM m), (1, Ad i), (2, Aa false list), (3, Ad run), (9, .ow 0 0 (seen.set t true).length), (10, .ow 1 0 (todo ++ H).length), (11, Ad ((k + 1 : Nat) : Int))])
          (hs' := [.arr true 0 (seen.set t true).length 1 (DV (seen.set t true)), .arr true 0 (todo ++ H).length 1 (A7 (todo ++ H))]) ?_ ?_ ⟨_, _, _, hm, rfl, rfl⟩
        · rw [Ap (by omega), ← hnl, List.length_append]; exact AZ _
        · rw [← hnl, ← List.length_append]
          exact ⟨Ob.le_arr fun j hj => A8 (KO hj), Ob.le_arr fun j hj => A8 (O9 (fun i hi => rfl) hj), trivial⟩
      refine ⟨fun h2 => ⟨_, E8 hwv, _, LH (fun _ => ⟨hi0, hi⟩) (hsl2 (eq_of_beq h2)), fun h3 => As (bad ?_), fun h3 => ?_⟩, fun h2 => ?_⟩
      · rw [hbad, Bool.or_eq_true, Bool.and_eq_true]; exact .inr ⟨h2, h3⟩
      · have hu : Ez m i run (todo.getD k 0) = false := by
          rw [hbad, Bool.or_eq_false_iff, Bool.and_eq_false_iff]; exact ⟨hc, .inr h3⟩
        obtain ⟨f1, f2⟩ := fin hu
        exact ⟨Bb (AD m (todo.getD k 0)), F3 hsm.1 hsm.2, f1, fun i hi => rfl, f2⟩
      · have hu : Ez m i run (todo.getD k 0) = false := by
          rw [hbad, Bool.or_eq_false_iff, Bool.and_eq_false_iff]; exact ⟨hc, .inl h2⟩
        obtain ⟨f1, f2⟩ := fin hu
        exact ⟨Bb (AD m (todo.getD k 0)), F3 hsm.1 hsm.2, f1, fun i hi => rfl, f2⟩
theorem TZ {m : D.Model} {i run : Int} {list : List Int} {n : Nat} {F : Nat → List VV} (hr : D8 m) (hi0 : 0 ≤ i) (hi : i < m.Procs.length) (hin : InE m list) (hlen : list.length ≤ 2097152) (hn : n = list.length) (hF : ∀ j, j < list.length → F j = [Ad (list.getD j 0)]) :
    Ae Tryz.prog 136 [] [tpM m, Ad i, .sl false n 1 F, Ad run] [] (Ai (GN m i list run)) := by
  subst hn
  exact (VB hr hi0 hi hin hlen).le trivial ⟨VV.le_refl _, VV.le_refl _, VV.le_sl (.inl rfl) fun j hj => A8 (hF j hj), VV.le_refl _, trivial⟩ trivial (VV.le_refl _)
def Bs (s : D.Stmt) : List Int := s.Args ++ ((if 0 ≤ s.A then [s.A] else []) ++ (if 0 ≤ s.B then [s.B] else []))
theorem FU {m : D.Model} {a : Int} (h : Cl m a = true) : 0 ≤ a ∧ a < m.Exprs.length := Cn.1 h
theorem Lx {m : D.Model} {a : Int} (h : Bp m a = true) : 0 ≤ a ∧ a < m.Exprs.length := by
  unfold Bp at h
  simp only [Bool.and_eq_true] at h
  exact FU h.1.1
theorem QP {m : D.Model} {a : Int} {args mt : List Int} (h : Bn m a args mt = true) : 1 ≤ args.length ∧ args.length ≤ 8 ∧ mt.length = args.length ∧ ∀ x ∈ args, 0 ≤ x ∧ x < a := by
  unfold Bn at h
  simp only [Bool.and_eq_true, decide_eq_true_eq] at h
  exact ⟨h.1.1.1.1, h.1.1.1.2, h.1.1.2, DF.1 h.1.2⟩
theorem T5 {m : D.Model} {s : D.Stmt} (h : Az m s = true) : InE m s.Args ∧ (0 ≤ s.A → s.A < m.Exprs.length) ∧ (0 ≤ s.B → s.B < m.Exprs.length) := by
  have none : ∀ {n t : Bool}, CO s true n t = true → InE m s.Args := fun he => by
    unfold CO at he
    simp only [Bool.and_eq_true, Bool.not_true, Bool.false_or, decide_eq_true_eq] at he
    have : s.Args = [] := List.eq_nil_of_length_eq_zero (by omega)
    rw [this]; intro x hx; cases hx
  unfold Az at h
  split at h
  · simp only [Bool.and_eq_true, decide_eq_true_eq] at h
    exact ⟨none h.2, fun _ => (FU h.1.1).2, fun h0 => by omega⟩
  split at h
  · simp only [Bool.and_eq_true] at h
    exact ⟨none h.2, fun _ => (Lx h.1.1).2, fun _ => (FU h.1.2).2⟩
  split at h
  · simp only [Bool.and_eq_true, decide_eq_true_eq] at h
    exact ⟨DF.1 h.1.1.1.2, fun h0 => by omega, fun h0 => by omega⟩
  split at h
  · simp only [Bool.and_eq_true, decide_eq_true_eq] at h
    exact ⟨DF.1 h.1.1.1.2, fun _ => (FU h.1.1.1.1.1.1.1).2, fun h0 => by omega⟩
  split at h
  · simp only [Bool.and_eq_true, decide_eq_true_eq] at h
    have ht := h.1.1.1.2
    unfold EX at ht
    simp only [Bool.and_eq_true] at ht
    exact ⟨(QP ht.1).2.2.2, fun _ => (FU h.1.1.1.1.1).2, fun h0 => by omega⟩
  split at h
  · simp only [Bool.and_eq_true, decide_eq_true_eq] at h
    exact ⟨none h.2, fun h0 => by omega, fun h0 => by omega⟩
  split at h
  · simp only [Bool.and_eq_true, decide_eq_true_eq] at h
    exact ⟨none h.2, fun _ => (Lx h.1.1.1.1).2, fun h0 => by omega⟩
  · cases h
theorem RU {m : D.Model} {s : D.Stmt} (h : Az m s = true) : InE m (Bs s) := by
  obtain ⟨h1, h2, h3⟩ := T5 h
  intro x hx
  unfold Bs at hx
  rcases List.mem_append.1 hx with hx | hx
  · exact h1 x hx
  rcases List.mem_append.1 hx with hx | hx
  · split at hx
    · rename_i h0; obtain rfl := List.mem_singleton.1 hx; exact ⟨h0, h2 h0⟩
    · cases hx
  · split at hx
    · rename_i h0; obtain rfl := List.mem_singleton.1 hx; exact ⟨h0, h3 h0⟩
    · cases hx
theorem XO {m : D.Model} {i : Int} {s : D.Stmt} (hr : D8 m) (hi0 : 0 ≤ i) (hi : i < m.Procs.length) (hs : Kj s) : Ae Tryz.prog 135 [] [tpM m, Ad i, .agg (Av s)] [] (Ai (JI m i s)) := by
  have ha := hs.a
  have hkn : ∀ {k : Int}, (s.Kind == k) = true → s.Kind = k := fun h => by simpa using h
  have hkf : ∀ {k : Int}, (s.Kind == k) = false → s.Kind ≠ k := fun h => by simpa using h
  have ec : (bif bif bif bif i == m.Claim then s.Kind != 1 else false then s.Kind != 3 else false then s.Kind != 7 else false then s.Kind != 8 else false) = (decide (i = m.Claim) && (decide (s.Kind ≠ 1) && (decide (s.Kind ≠ 3) && (decide (s.Kind ≠ 7) && decide (s.Kind ≠ 8))))) := by
    simp only [ieq, AS, bne, Bool.and_assoc, decide_not]
  refine Ah Am An Tryz.func135 (by kernel_rfl) rfl (ZL _ m i s) ⟨Az m s, LA hs, ?_⟩
  rw [ec]
  have ew : JI m i s = (Az m s && !(decide (i = m.Claim) && (decide (s.Kind ≠ 1) && (decide (s.Kind ≠ 3) && (decide (s.Kind ≠ 7) && decide (s.Kind ≠ 8))))) && GN m i (Bs s) (if s.Kind = 1 then s.A else if s.Kind = 2 then s.B else -1)) := rfl
  generalize (decide (i = m.Claim) && (decide (s.Kind ≠ 1) && (decide (s.Kind ≠ 3) && (decide (s.Kind ≠ 7) && decide (s.Kind ≠ 8))))) = cl at ew ⊢
  refine ⟨fun h => As ?_, fun h => ?_⟩
  · rw [ew]
    cases hq : Az m s
    · rfl
    · rw [hq] at h
      have : cl = true := by simpa using h
      rw [this]; rfl
  · have hq : Az m s = true := by
      cases hq : Az m s with
      | true => rfl
      | false => rw [hq] at h; simp at h
    have hcl : cl = false := by rw [hq] at h; simpa using h
    rw [hq, hcl] at ew
    simp only [Bool.not_false, Bool.true_and] at ew
    have hin := RU hq
    have go : ∀ (run : Int) (n : Nat) (F : Nat → List VV), n = (Bs s).length → (∀ j, j < (Bs s).length → F j = [Ad ((Bs s).getD j 0)]) → Ae Tryz.prog 136 [] [tpM m, Ad i, .sl false n 1 F, Ad run] [] (Ai (GN m i (Bs s) run)) := fun run n F hn hF =>
      TZ hr hi0 hi hin (by unfold Bs; simp only [List.length_append]; split <;> split <;> simp <;> omega) hn hF
    have r1 : s.Kind = 1 → JI m i s = GN m i (Bs s) s.A := fun h => by rw [ew, if_pos h]
    have r2 : s.Kind ≠ 1 → s.Kind = 2 → JI m i s = GN m i (Bs s) s.B := fun h h' => by rw [ew, if_neg h, if_pos h']
    have r3 : s.Kind ≠ 1 → s.Kind ≠ 2 → JI m i s = GN m i (Bs s) (-1) := fun h h' => by rw [ew, if_neg h, if_neg h']
    generalize JI m i s = b at r1 r2 r3 ⊢
    refine ⟨by omega, fun _ _ => rfl, fun hA => ⟨by omega, fun hB => ⟨by omega, ?_⟩, fun hB => ?_⟩, fun hA => ⟨fun hB => ⟨by omega, ?_⟩, fun hB => ?_⟩⟩
    · have hL : Bs s = (s.Args ++ [s.A]) ++ [s.B] := by unfold Bs; rw [if_pos (by simpa using hA), if_pos (by simpa using hB), List.append_assoc]
      have c1 : s.Args.length + 1 + 1 = (Bs s).length := by rw [hL]; simp
      have e1 : s.Args.length + 1 = (s.Args ++ [s.A]).length := by simp
      have c2 : ∀ j, j < (Bs s).length → (bif Nat.blt j (s.Args.length + 1) then (fun j => bif Nat.blt j s.Args.length then [VV.sc (.int .i64 (s.Args.getD j 0))] else (fun i => List.take 1 (List.drop (i * 1) [VV.sc (.int .i64 s.A)])) (j - s.Args.length)) j else (fun i => List.take 1 (List.drop (i * 1) [VV.sc (.int .i64 s.B)])) (j - (s.Args.length + 1))) = [Ad ((Bs s).getD j 0)] := by
        rw [hL, e1]
        exact fun j hj => B8 (f := fun n => [Ad n]) (d := 0) (l := s.Args ++ [s.A]) (r := [s.B]) (F := fun j => bif Nat.blt j s.Args.length then [VV.sc (.int .i64 (s.Args.getD j 0))] else (fun i => List.take 1 (List.drop (i * 1) [VV.sc (.int .i64 s.A)])) (j - s.Args.length)) (fun i hi => B8 (f := fun n => [Ad n]) (d := 0) (l := s.Args) (r := [s.A]) (F := fun j => [.sc (.int .i64 (s.Args.getD j 0))]) (fun i hi => rfl) DW hi) DW hj
      exact ⟨fun k1 => ⟨_, go _ _ _ c1 c2, As (r1 (hkn k1)).symm⟩, fun k1 => ⟨fun k2 => ⟨_, go _ _ _ c1 c2, As (r2 (hkf k1) (hkn k2)).symm⟩, fun k2 => ⟨_, go _ _ _ c1 c2, As (r3 (hkf k1) (hkf k2)).symm⟩⟩⟩
    · have hL : Bs s = s.Args ++ [s.A] := by unfold Bs; rw [if_pos (by simpa using hA), if_neg (by simpa using hB), List.append_nil]
      have c1 : s.Args.length + 1 = (Bs s).length := by rw [hL]; simp
      have c2 : ∀ j, j < (Bs s).length → (bif Nat.blt j s.Args.length then [VV.sc (.int .i64 (s.Args.getD j 0))] else (fun i => List.take 1 (List.drop (i * 1) [VV.sc (.int .i64 s.A)])) (j - s.Args.length)) = [Ad ((Bs s).getD j 0)] := by
        rw [hL]
        exact fun j hj => B8 (f := fun n => [Ad n]) (d := 0) (l := s.Args) (r := [s.A]) (F := fun j => [.sc (.int .i64 (s.Args.getD j 0))]) (fun i hi => rfl) DW hj
      exact ⟨fun k1 => ⟨_, go _ _ _ c1 c2, As (r1 (hkn k1)).symm⟩, fun k1 => ⟨fun k2 => ⟨_, go _ _ _ c1 c2, As (r2 (hkf k1) (hkn k2)).symm⟩, fun k2 => ⟨_, go _ _ _ c1 c2, As (r3 (hkf k1) (hkf k2)).symm⟩⟩⟩
    · have hL : Bs s = s.Args ++ [s.B] := by unfold Bs; rw [if_neg (by simpa using hA), if_pos (by simpa using hB), List.nil_append]
      have c1 : s.Args.length + 1 = (Bs s).length := by rw [hL]; simp
      have c2 : ∀ j, j < (Bs s).length → (bif Nat.blt j s.Args.length then [VV.sc (.int .i64 (s.Args.getD j 0))] else (fun i => List.take 1 (List.drop (i * 1) [VV.sc (.int .i64 s.B)])) (j - s.Args.length)) = [Ad ((Bs s).getD j 0)] := by
        rw [hL]
        exact fun j hj => B8 (f := fun n => [Ad n]) (d := 0) (l := s.Args) (r := [s.B]) (F := fun j => [.sc (.int .i64 (s.Args.getD j 0))]) (fun i hi => rfl) DW hj
      exact ⟨fun k1 => ⟨_, go _ _ _ c1 c2, As (r1 (hkn k1)).symm⟩, fun k1 => ⟨fun k2 => ⟨_, go _ _ _ c1 c2, As (r2 (hkf k1) (hkn k2)).symm⟩, fun k2 => ⟨_, go _ _ _ c1 c2, As (r3 (hkf k1) (hkf k2)).symm⟩⟩⟩
    · have hL : Bs s = s.Args := by unfold Bs; rw [if_neg (by simpa using hA), if_neg (by simpa using hB), List.append_nil, List.append_nil]
      have c1 : s.Args.length = (Bs s).length := by rw [hL]
      have c2 : ∀ j, j < (Bs s).length → [Ad (s.Args.getD j 0)] = [Ad ((Bs s).getD j 0)] := by rw [hL]; exact fun _ _ => rfl
      exact ⟨fun k1 => ⟨_, go _ _ _ c1 c2, As (r1 (hkn k1)).symm⟩, fun k1 => ⟨fun k2 => ⟨_, go _ _ _ c1 c2, As (r2 (hkf k1) (hkn k2)).symm⟩, fun k2 => ⟨_, go _ _ _ c1 c2, As (r3 (hkf k1) (hkf k2)).symm⟩⟩⟩
end Go.Proofs.YtiaebjpcgjkhoaaGreatDoor
namespace Go.Proofs.YtiaebjpcgjkhoaaGreatDoor
open Go.RowKit
theorem XK {t : D.Trans} (h : IZ t) : Kj t.S := ⟨h.S.Args.1, h.S.Match.1⟩
theorem ZK {l : D.Loc} (h : NY l) : (Bt l).length ≤ 1048577 ∧ ∀ w ∈ Bt l, Ht w := by
  refine ⟨by have := h.Esc.1; simp [Bt]; omega, fun w hw => ?_⟩
  rcases List.mem_cons.1 hw with rfl | hw
  · exact h.Out
  · exact h.Esc.2 w hw
theorem WA {m : D.Model} {i : Int} (hr : D8 m) (hi0 : 0 ≤ i) (hi : i < m.Procs.length) (hpv : (m.Procs.getD i.toNat default).Provided < m.Exprs.length) :
    Ae Tryz.prog 106 [] [tpM m, Ad i] [] (Ai (C7 m i)) := by
  have hw := hr.wf.Procs.2 _ (AF (d := default) (show i.toNat < m.Procs.length by omega))
  refine Ah Am An Tryz.func106 (by kernel_rfl) rfl (YC _ m i) ⟨⟨hi0, hi⟩, ?_⟩
  generalize hb : C7 m i = b
  unfold C7 at hb
  simp only at hb
  generalize m.Procs.getD i.toNat default = p at hw hpv hb ⊢
  have hl := hw.Locs.1
  have bad : ∀ k, k < p.Locs.length → OR m i (p.Locs.getD k default) = false → false = b := fun k hk hf => by
    rw [Bg (f := fun k => OR m i (p.Locs.getD k default)) hk hf] at hb
    simpa using hb
  refine AI Am An p.Locs.length (fun k => Oo m i p k) (fun k => ∀ j, j < k → OR m i (p.Locs.getD j default) = true) (by kernel_rfl) (by kernel_rfl) (fun i hi => by omega) ?_
  intro k hk hI J next
  refine A9.raw (WD _ m i p k J) ⟨fun hlt => ?_, fun hge => ⟨GN m i [p.Provided] (-1), fun hy => ?_, As ?_⟩⟩
  · have hlt' : k < p.Locs.length := by have := AQ hlt; omega
    have hto : (k : Int).toNat = k := by omega
    rw [hto]
    have hwl := hw.Locs.2 _ (AF (d := default) hlt')
    have bad' := bad k hlt'
    have next' : ∀ st', OR m i (p.Locs.getD k default) = true → Up (fun s => s = Oo m i p ((k + 1 : Nat) : Int)) st' → J st' := fun st' h hu => next st' hlt' (fun j hj => by
      rcases Nat.lt_succ_iff_lt_or_eq.1 hj with h' | rfl
      · exact hI j h'
      · exact h) hu
    generalize p.Locs.getD k default = l at hwl bad' next' ⊢
    obtain ⟨hws, hwe⟩ := ZK hwl
    refine ⟨⟨by omega, by omega⟩, Bt l, MY hwl.Esc.1, ?_⟩
    unfold OR at bad' next'
    generalize Bt l = ws at hws hwe bad' next' ⊢
    refine AI Am An ws.length (fun j => On m i p k ws j) (fun j => ∀ x, x < j → Ip m i (ws.getD x []) = true) (by kernel_rfl) (by kernel_rfl) (fun i hi => by omega) ?_
    intro j hj hI2 J2 next2
    refine A9.raw (WC _ m i p k ws j J J2) ⟨fun hlt2 => ?_, fun hge2 => ?_⟩
    · have hlt2' : j < ws.length := by have := AQ hlt2; omega
      have hto2 : (j : Int).toNat = j := by omega
      rw [hto2]
      have hwle := hwe _ (AF (d := []) hlt2')
      have bad2 : Ip m i (ws.getD j []) = false → false = b := fun hf => bad' (Bg (f := fun x => Ip m i (ws.getD x [])) hlt2' hf)
      have next2' : ∀ st', Ip m i (ws.getD j []) = true → Up (fun s => s = On m i p k ws ((j + 1 : Nat) : Int)) st' → J2 st' := fun st' h hu => next2 st' hlt2' (fun x hx => by
        rcases Nat.lt_succ_iff_lt_or_eq.1 hx with h' | rfl
        · exact hI2 x h'
        · exact h) hu
      generalize ws.getD j [] = w at hwle bad2 next2' ⊢
      have hwl1 := hwle.1
      refine ⟨⟨by omega, by omega⟩, ?_⟩
      refine AI Am An w.length (fun h => Um m i p k ws j w h) (fun h => ∀ x, x < h → JI m i (w.getD x default).S = true) (by kernel_rfl) (by kernel_rfl) (fun i hi => by omega) ?_
      intro h hh hI3 J3 next3
      refine A9.raw (WB _ m i p k ws j w h J J2 J3) ⟨fun hlt3 => ?_, fun hge3 => ?_⟩
      · have hlt3' : h < w.length := by have := AQ hlt3; omega
        have hto3 : (h : Int).toNat = h := by omega
        rw [hto3]
        have hst := XK (hwle.2 _ (AF (d := default) hlt3'))
        refine ⟨⟨by omega, by omega⟩, JI m i (w.getD h default).S, XO hr hi0 hi hst, fun hy => As ?_, fun hy => next3 _ hlt3' (fun x hx => ?_) (Up.of ?_)⟩
        · exact bad2 (Bg (f := fun x => JI m i (w.getD x default).S) hlt3' (by simpa using hy))
        · rcases Nat.lt_succ_iff_lt_or_eq.1 hx with h' | rfl
          · exact hI3 x h'
          · simpa using hy
        · rw [Ap (by omega)]; rfl
      · have hge3' : w.length ≤ h := by have := AV hge3; omega
        refine next2' _ (AW.2 fun x hx => hI3 x (by omega)) (Up.of ?_)
        rw [Ap (by omega)]; rfl
    · have hge2' : ws.length ≤ j := by have := AV hge2; omega
      refine next' _ (AW.2 fun x hx => hI2 x (by omega)) (Up.of ?_)
      rw [Ap (by omega)]; rfl
  · have h0 : 0 ≤ p.Provided := by simp at hy; omega
    refine Ae.frz (TZ (list := [p.Provided]) (n := 1) hr hi0 hi (fun x hx => ?_) (by simp) rfl DW) rfl ?_
    · obtain rfl := List.mem_singleton.1 hx; exact ⟨h0, hpv⟩
    · intro j x y hx hy
      match j with
      | 0 => simp at hx hy; subst hx hy; exact CJ _
      | 1 => simp at hx hy; subst hx hy; exact CJ _
      | 2 => simp only [List.getElem?_cons_succ, List.getElem?_cons_zero, Option.some.injEq] at hx hy; subst hx hy; exact JV
      | 3 => simp at hx hy; subst hx hy; exact CJ _
      | j + 4 => simp at hx
  · have hge' : p.Locs.length ≤ k := by have := AV hge; omega
    rw [← hb, (AW (n := p.Locs.length) (f := fun k => OR m i (p.Locs.getD k default))).2 fun j hj => hI j (by omega), Bool.true_and, Bc]
theorem NK {m : D.Model} : ∀ (g i : Nat) (had : List Bool), g + i = m.Exprs.length → Eg m g i had < 0 → ∀ j, i ≤ j → j < m.Exprs.length → CT m j = true
  | 0, i, had, h, _, j, h1, h2 => by omega
  | g + 1, i, had, h, hn, j, h1, h2 => by
    unfold Eg at hn
    cases he : CT m i with
    | false => rw [he, cond_false] at hn; omega
    | true =>
      rw [he, cond_true] at hn
      split at hn
      · rename_i had' _
        by_cases hij : i = j
        · subst hij; exact he
        · exact NK g (i + 1) had' (by omega) hn j (by omega) h2
      · omega
theorem Q7 {m : D.Model} (h : EE m < 0) : ∀ k : Nat, k < m.Exprs.length → CT m k = true := fun k hk => NK _ 0 _ rfl h k (Nat.zero_le _) hk
theorem JD {n : Nat} {f : Nat → Bool} (h : Gv n f < 0) : ∀ i, i < n → f i = true := by
  rcases Mo (n := n) (f := f) with ⟨_, h2⟩ | ⟨k, _, h2, _⟩
  · exact h2
  · omega
theorem AaU {n : Nat} {f : Nat → Bool} : -1 ≤ Gv n f := by
  rcases Mo (n := n) (f := f) with ⟨h1, _⟩ | ⟨k, _, h2, _⟩ <;> omega
theorem ngt (n k : Nat) : decide ((n : Int) > k) = decide (k < n) := by rw [Bool.eq_iff_iff, decide_eq_true_eq, decide_eq_true_eq]; omega
theorem PH {m : D.Model} (hw : AN m) : Ae Tryz.prog 102 [] [tpM m] [] (.tup [Ad (Bk m).1, Ad (Bk m).2]) := by
  have hG := hw.Globals.1
  have hS := hw.Shapes.1
  have hC := hw.Chans.1
  have hE := hw.Exprs.1
  refine Ah Am An Tryz.func102 (by kernel_rfl) rfl (R6 _ _ m) ?_
  have t1 : (bif decide ((m.Globals.length : Int) > 128) then true else (m.Init.length : Int) != (m.Globals.length : Int)) = (decide (128 < m.Globals.length) || !decide (m.Init.length = m.Globals.length)) := by rw [Bool.eq_iff_iff]; simp; omega
  have t2 : (bif decide ((m.Shapes.length : Int) > 32) then true else decide ((m.Chans.length : Int) > 32)) = (decide (32 < m.Shapes.length) || decide (32 < m.Chans.length)) := by rw [Bool.eq_iff_iff]; simp; omega
  have t3 : (bif bif bif bif decide ((m.Procs.length : Int) < 1) then true else decide ((m.Procs.length : Int) > 16) then true else decide (m.Claim < (-1 : Int)) then true else decide (m.Claim ≥ (m.Procs.length : Int)) then true else decide ((m.Exprs.length : Int) > 4096)) =
      (decide (m.Procs.length < 1) || (decide (16 < m.Procs.length) || (decide (m.Claim < -1) || (decide ((m.Procs.length : Int) ≤ m.Claim) || decide (4096 < m.Exprs.length))))) := by
    have u1 : decide ((m.Procs.length : Int) < 1) = decide (m.Procs.length < 1) := by rw [Bool.eq_iff_iff, decide_eq_true_eq, decide_eq_true_eq]; omega
    have u2 : decide ((m.Procs.length : Int) > 16) = decide (16 < m.Procs.length) := ngt _ 16
    have u3 : decide ((m.Exprs.length : Int) > 4096) = decide (4096 < m.Exprs.length) := ngt _ 4096
    rw [u1, u2, u3]; simp only [Bc, Bool.or_assoc]
  rw [t1, t2]
  generalize hR : Bk m = R
  unfold Bk at hR
  refine ⟨fun h => D6 (by rw [h, cond_true] at hR; exact hR), fun h => ⟨Dl m.Globals m.Init, Lr (by simp at h; omega) hG, fun h2 => D6 (by rw [h, cond_false, h2, cond_true] at hR; exact hR), fun h2 => ⟨fun h3 => D6 ?_, fun h3 => ?_⟩⟩⟩
  · rw [h, cond_false, h2, cond_false, h3, cond_true] at hR; exact hR
  rw [h, cond_false, h2, cond_false, h3, cond_false] at hR
  refine AI Am An m.Shapes.length (fun k => X8 m k) (fun k => ∀ i, i < k → CM (m.Shapes.getD i default) = true) (by kernel_rfl) (by kernel_rfl) (fun i hi => by omega) ?_
  intro k hk hI J next
  refine A9.raw (PL _ _ m k J) ⟨fun hlt => ?_, fun hge => ?_⟩
  · have hlt' : k < m.Shapes.length := by have := AQ hlt; omega
    refine ⟨⟨by omega, by omega⟩, CM (m.Shapes.getD k default), Sk (hw.Shapes.2 _ (AF hlt')), fun hy => D6 ?_, fun hy => next _ hlt' (fun i hi => ?_) (Up.of ?_)⟩
    · have e : DB m = k := Dc (f := fun i => CM (m.Shapes.getD i default)) hI hlt' (by simpa using hy)
      rw [e, show decide ((0 : Int) ≤ (k : Int)) = true by simp, cond_true] at hR
      exact hR
    · rcases Nat.lt_succ_iff_lt_or_eq.1 hi with h | rfl
      · exact hI i h
      · simpa using hy
    · rw [Ap (by omega)]; rfl
  have hge' : m.Shapes.length ≤ k := by have := AV hge; omega
  have es : DB m = -1 := Dd (f := fun i => CM (m.Shapes.getD i default)) fun i hi => hI i (by omega)
  rw [es, show decide ((0 : Int) ≤ -1) = false from rfl, cond_false] at hR
  clear hI next
  refine AI Am An m.Chans.length (fun k => X7 m k) (fun k => ∀ i, i < k → inP m.Shapes.length (m.Chans.getD i 0) = true) (by kernel_rfl) (by kernel_rfl) (fun i hi => by omega) ?_
  intro k hk hI J next
  refine A9.raw (PK _ _ m k J) ⟨fun hlt => ?_, fun hge => ?_⟩
  · have hlt' : k < m.Chans.length := by have := AQ hlt; omega
    have hto : (k : Int).toNat = k := by omega
    rw [hto]
    have hin : inP m.Shapes.length (m.Chans.getD k 0) = !(bif decide (m.Chans.getD k 0 < 0) then true else decide (m.Chans.getD k 0 ≥ (m.Shapes.length : Int))) := by unfold inP; rw [Bool.eq_iff_iff]; simp
    refine ⟨⟨by omega, by omega⟩, fun hy => D6 ?_, fun hy => next _ hlt' (fun i hi => ?_) (Up.of ?_)⟩
    · have e : EF m = k := Dc (f := fun i => inP m.Shapes.length (m.Chans.getD i 0)) hI hlt' (by show inP _ _ = false; rw [hin, hy]; rfl)
      rw [e, show decide ((0 : Int) ≤ (k : Int)) = true by simp, cond_true] at hR
      exact hR
    · rcases Nat.lt_succ_iff_lt_or_eq.1 hi with h | rfl
      · exact hI i h
      · rw [hin, hy]; rfl
    · rw [Ap (by omega)]; rfl
  have hge' : m.Chans.length ≤ k := by have := AV hge; omega
  have ec : EF m = -1 := Dd (f := fun i => inP m.Shapes.length (m.Chans.getD i 0)) fun i hi => hI i (by omega)
  rw [ec, show decide ((0 : Int) ≤ -1) = false from rfl, cond_false] at hR
  rw [t3]
  refine ⟨fun h4 => D6 (by rw [h4, cond_true] at hR; exact hR), fun h4 => ⟨⟨by omega, by omega, by omega⟩, ?_⟩⟩
  rw [h4, cond_false] at hR
  clear hI next
  have hnn : ((m.Exprs.length : Int).toNat) = (AO m).length := by simp [AO]
  have hnl : (AO m).length = m.Exprs.length := by simp [AO]
  refine AH.le (l' := [(0, tpM m), (4, .bp 0 0), (10, .ow 1 0 (AO m).length), (116, Ad m.Exprs.length), (117, Ad 0)]) (hs' := [.box (Ac m), .arr true 0 (AO m).length 1 (DV (AO m))]) ?_ ?_ ?_
  · rw [hnn]; exact AZ _
  · rw [hnn]
    refine ⟨Ob.le_refl _, Ob.le_arr fun i hi => A8 ?_, trivial⟩
    have : (AO m).getD i false = false := by
      have hi' : i < m.Exprs.length := by rw [← hnl]; exact hi
      simp [AO, List.getD, hi']
    show _ = [Ai ((AO m).getD i false)]
    rw [this]; rfl
  generalize hX : EE m = X at hR
  have fin : ∀ {y : Int × Int}, (bif decide (0 ≤ X) then ((3 : Int), X) else (0, 0)) = y → y = R := fun h => by rw [← h]; exact hR
  refine Bh Am An (fun g st => ∃ (k : Nat) (had : List Bool), k ≤ m.Exprs.length ∧ g = m.Exprs.length - k ∧ had.length = m.Exprs.length ∧ Eg m (m.Exprs.length - k) k had = X ∧ st = X6 m had k) (by kernel_rfl) (by kernel_rfl) ⟨_, Up.of ⟨0, AO m, Nat.zero_le _, rfl, hnl, hX, rfl⟩⟩ ?_
  rintro g st ⟨k, had, hk, rfl, hhl, hr, rfl⟩
  refine A9.raw (PJ _ _ m had k _) ⟨fun hlt => ?_, fun hge => D6 (fin ?_)⟩
  · have hlt' : k < m.Exprs.length := by have := AQ hlt; omega
    have hto : (k : Int).toNat = k := by omega
    rw [hto]
    have hwx : Hs (m.Exprs.getD k default) := hw.Exprs.2 _ (AF hlt')
    rw [show m.Exprs.length - k = (m.Exprs.length - (k + 1)) + 1 by omega] at hr
    unfold Eg at hr
    refine ⟨CT m k, Xf (by omega) (by omega) (by unfold AD; rw [hto]; exact hwx), fun hy => D6 (fin ?_), fun hy => ⟨⟨by omega, by omega⟩, Bb (m.Exprs.getD k default), F3 hwx.Args.1 hwx.V.Dims.1, ?_⟩⟩
    · rw [show CT m k = false by simpa using hy, cond_false] at hr
      rw [← hr, show decide ((0 : Int) ≤ (k : Int)) = true by simp, cond_true]
    · have hye : CT m k = true := by simpa using hy
      rw [hye, cond_true] at hr
      have hin := KY hye
      have hhlen := Jv hwx.Args.1 hwx.V.Dims.1
      unfold AD at hin
      rw [hto] at hin
      generalize Bb (m.Exprs.getD k default) = l at hin hhlen hr ⊢
      generalize ho : MM had l = o at hr
      refine Bh Am An (fun g st => ∃ (j : Nat) (had' : List Bool), j ≤ l.length ∧ g = l.length - j ∧ had'.length = m.Exprs.length ∧ MM had' (l.drop j) = o ∧ st = X5 m had' k l j) (by kernel_rfl) (by kernel_rfl) ⟨_, Up.of ⟨0, had, Nat.zero_le _, rfl, hhl, ho, rfl⟩⟩ ?_
      rintro g st ⟨j, had', hj, rfl, hhl', hq, rfl⟩
      refine A9.raw (PI _ _ m had' k l j _ _) ⟨fun hlt2 => ?_, fun hge2 => ?_⟩
      · have hlt2' : j < l.length := by have := AQ hlt2; omega
        have hto2 : (j : Int).toNat = j := by omega
        rw [hto2]
        have hpi := hin _ (AF (d := 0) hlt2')
        rw [BQ (d := 0) hlt2'] at hq
        generalize l.getD j 0 = p at hpi hq ⊢
        unfold MM at hq
        refine ⟨⟨by omega, by omega⟩, ⟨by omega, by omega⟩, fun hy => D6 (fin ?_), fun hy => ⟨⟨by omega, by omega⟩, l.length - (j + 1), by omega, ?_⟩⟩
        · rw [hy, cond_true] at hq
          rw [← hq] at hr
          rw [← hr, show decide ((0 : Int) ≤ (k : Int)) = true by simp, cond_true]
        · rw [hy, cond_false] at hq
          have hsl : (had'.set p.toNat true).length = had'.length := by simp
          rw [Ap (by omega)]
          refine Up.mk (l' := [(0, tpM m), (4, .bp 0 0), (10, .ow 1 0 (had'.set p.toNat true).length), (11, Ad k), (116, Ad m.Exprs.length), (117, Ad k), (130, Aa true l), (131, Ad l.length), (132, Ad ((j + 1 : Nat) : Int))])
            (hs' := [.box (Ac m), .arr true 0 (had'.set p.toNat true).length 1 (DV (had'.set p.toNat true))]) ?_ ?_ ⟨j + 1, had'.set p.toNat true, by omega, rfl, by rw [hsl]; exact hhl', hq, rfl⟩
          · rw [hsl]; exact AZ _
          · rw [hsl]
            exact ⟨Ob.le_refl _, Ob.le_arr fun i hi => A8 (KO hi), trivial⟩
      · have hge2' : l.length ≤ j := by have := AV hge2; omega
        rw [List.drop_eq_nil_of_le hge2'] at hq
        unfold MM at hq
        rw [← hq] at hr
        rw [Ap (by omega)]
        exact ⟨m.Exprs.length - (k + 1), by omega, Up.of ⟨k + 1, had', by omega, rfl, hhl', hr, rfl⟩⟩
  · have hge' : m.Exprs.length ≤ k := by have := AV hge; omega
    rw [show m.Exprs.length - k = 0 by omega] at hr
    unfold Eg at hr
    rw [← hr]; rfl
theorem Ae0 (a b : Int) (x : Bool) : (bif a == b then !x else false) = (decide (a = b) && !x) := by rw [ieq, AS]
theorem G7 (m : D.Model) (k : Nat) : DZ m k = (bif bif bif bif !(FM (m.Procs.getD k default)) then true else !(Fg (m.Procs.getD k default)) then true else decide ((m.Procs.getD k default).Provided < (-1 : Int)) then true else decide ((m.Procs.getD k default).Provided ≥ (m.Exprs.length : Int)) then true else bif (k : Int) == m.Claim then !(Fi (m.Procs.getD k default)) else false) := by
  unfold DZ
  simp only [Ae0, Bc, Bool.or_assoc]
theorem Nx {m : D.Model} {k : Nat} (hk : k < m.Procs.length) : Df m (k + 1) = Df m k + (m.Procs.getD k default).Active := by
  unfold Df
  rw [DH (d := default) hk, List.map_append, List.sum_append]
  simp
theorem I9 {m : D.Model} (hw : AN m) (h : ¬ 0 < (Bk m).1) : D8 m := by
  refine ⟨hw, Q7 ?_⟩
  have hx : -1 ≤ EE m := by
    unfold EE
    have : ∀ (g i : Nat) (had : List Bool), -1 ≤ Eg m g i had := by
      intro g
      induction g with
      | zero => intro i had; unfold Eg; omega
      | succ g ih =>
        intro i had
        unfold Eg
        cases CT m i with
        | false => simp only [cond_false]; omega
        | true =>
          simp only [cond_true]
          split
          · exact ih _ _
          · omega
    exact this _ _ _
  refine Classical.byContradiction fun hn => h ?_
  unfold Bk
  generalize (decide (128 < m.Globals.length) || !decide (m.Init.length = m.Globals.length)) = b1
  generalize decide (0 ≤ Dl m.Globals m.Init) = b2
  generalize (decide (32 < m.Shapes.length) || decide (32 < m.Chans.length)) = b3
  generalize decide (0 ≤ DB m) = b4
  generalize decide (0 ≤ EF m) = b5
  generalize (decide (m.Procs.length < 1) || (decide (16 < m.Procs.length) || (decide (m.Claim < -1) || (decide ((m.Procs.length : Int) ≤ m.Claim) || decide (4096 < m.Exprs.length))))) = b6
  rw [show decide (0 ≤ EE m) = true by simp; omega]
  cases b1 <;> cases b2 <;> cases b3 <;> cases b4 <;> cases b5 <;> cases b6 <;> simp
theorem TF {m : D.Model} (hw : AN m) : Ae Tryz.prog 70 [] [.agg (Ac m)] [] (.tup [Ad (Hd m).1, Ad (Hd m).2.1, Ad (Hd m).2.2]) := by
  have hP := hw.Procs.1
  refine Ah Am An Tryz.func70 (by kernel_rfl) rfl (Xq _ _ _ m) ⟨Bk m, PH hw, ?_⟩
  generalize hR : Hd m = R
  unfold Hd at hR
  refine ⟨fun h => Ie (by rw [show decide (0 < (Bk m).1) = true from h, cond_true] at hR; exact hR), fun h => ?_⟩
  have hready := I9 hw (of_decide_eq_false h)
  rw [show decide (0 < (Bk m).1) = false from h, cond_false] at hR
  refine AI Am An m.Procs.length (fun k => P3 m (Df m k) k) (fun k => (∀ i, i < k → (!DZ m i) = true) ∧ 0 ≤ Df m k ∧ Df m k ≤ 16 * k) (by kernel_rfl) (by kernel_rfl) ⟨fun i hi => by omega, by simp [Df], by simp [Df]⟩ ?_
  intro k hk ⟨hI, hm0, hm1⟩ J next
  refine A9.raw (TH _ _ _ m (Df m k) k J) ⟨fun hlt => ?_, fun hge => ?_⟩
  · have hlt' : k < m.Procs.length := by have := AQ hlt; omega
    have hto : (k : Int).toNat = k := by omega
    rw [hto]
    have hwp := hw.Procs.2 _ (AF (d := default) hlt')
    refine ⟨⟨by omega, by omega⟩, FM (m.Procs.getD k default), Ts hwp, Fg (m.Procs.getD k default), fun _ => Tn hwp, Fi (m.Procs.getD k default), fun _ => O1 hwp, ?_⟩
    rw [← G7]
    refine ⟨fun hy => Ie ?_, fun hy => ?_⟩
    · have e : EN m = k := Dc (f := fun i => !DZ m i) hI hlt' (by rw [hy]; rfl)
      rw [e, show decide ((0 : Int) ≤ (k : Int)) = true by simp, cond_true] at hR
      exact hR
    · have hfr : FM (m.Procs.getD k default) = true := by
        rw [G7] at hy
        cases hq : FM (m.Procs.getD k default) with
        | true => rfl
        | false => rw [hq] at hy; simp at hy
      have hac : 0 ≤ (m.Procs.getD k default).Active ∧ (m.Procs.getD k default).Active ≤ 16 := by
        unfold FM at hfr
        simp only [Bool.and_eq_true, decide_eq_true_eq] at hfr
        omega
      have hms := Nx hlt'
      refine next _ hlt' ⟨fun i hi => ?_, by omega, by omega⟩ (Up.of ?_)
      · rcases Nat.lt_succ_iff_lt_or_eq.1 hi with h | rfl
        · exact hI i h
        · rw [hy]; rfl
      · rw [hms, Ap (by omega), A6 (n := Df m k + _) (by omega) (by omega)]; rfl
  · have hge' : k = m.Procs.length := by have := AV hge; omega
    subst hge'
    have e : EN m = -1 := Dd (f := fun i => !DZ m i) fun i hi => hI i (by omega)
    rw [e, show decide ((0 : Int) ≤ -1) = false from rfl, cond_false] at hR
    refine ⟨fun h2 => Ie (by rw [show decide (16 < Df m m.Procs.length) = true from h2, cond_true] at hR; exact hR), fun h2 => ?_⟩
    rw [show decide (16 < Df m m.Procs.length) = false from h2, cond_false] at hR
    have hpv : ∀ i, i < m.Procs.length → (m.Procs.getD i default).Provided < m.Exprs.length := fun i hi => by
      have := hI i hi
      rw [G7] at this
      simp only [Bc, Bool.not_eq_true', Bool.or_eq_false_iff, decide_eq_false_iff_not] at this
      omega
    clear hI next
    refine AI Am An m.Procs.length (fun k => P2 m k) (fun k => ∀ i : Nat, i < k → C7 m i = true) (by kernel_rfl) (by kernel_rfl) (fun i hi => by omega) ?_
    intro k hk hI J next
    refine A9.raw (TG _ _ _ m k J) ⟨fun hlt => ?_, fun hge => Ie ?_⟩
    · have hlt' : k < m.Procs.length := by have := AQ hlt; omega
      refine ⟨C7 m k, WA hready (by omega) (by omega) (hpv _ (by omega)), fun hy => Ie ?_, fun hy => next _ hlt' (fun i hi => ?_) (Up.of ?_)⟩
      · have e : GW m = k := Dc (f := fun i : Nat => C7 m i) hI hlt' (by simpa using hy)
        rw [e, show decide ((0 : Int) ≤ (k : Int)) = true by simp, cond_true] at hR
        exact hR
      · rcases Nat.lt_succ_iff_lt_or_eq.1 hi with h | rfl
        · exact hI i h
        · simpa using hy
      · rw [Ap (by omega)]; rfl
    · have hge' : m.Procs.length ≤ k := by have := AV hge; omega
      have e : GW m = -1 := Dd (f := fun i : Nat => C7 m i) fun i hi => hI i (by omega)
      rw [e, show decide ((0 : Int) ≤ -1) = false from rfl, cond_false] at hR
      exact hR
end Go.Proofs.YtiaebjpcgjkhoaaGreatDoor
namespace Go.Proofs.YtiaebjpcgjkhoaaGreatDoor
open Go.RowKit
def Ig (fz : Bool) (x : D.State) : List VV := [Aa true x.Globals, Br fz x.Chans, A1 fz x.Procs, Ad x.Last, Ad x.Alone, Ad x.Claim]
def BE (t : List D.Type) (l : List Int) : Bool := decide (t.length = l.length) && B3 l.length fun i => Cz (t.getD i default) (l.getD i 0)
def CN (m : D.Model) (k : Int) : D.Shape := m.Shapes.getD k.toNat default
def Bo (m : D.Model) (k : Int) : D.Proc := m.Procs.getD k.toNat default
def Dp (m : D.Model) (c : D.Chan) : Bool := inP m.Shapes.length c.Shape && decide ((c.Queue.length : Int) ≤ (CN m c.Shape).Room) && B3 c.Queue.length fun i => BE (CN m c.Shape).Fields (c.Queue.getD i [])
def BL (m : D.Model) (p : D.Process) : Bool := BN m p.Type_ && inP (Bo m p.Type_).Locs.length p.Loc && decide (p.Prio = (Bo m p.Type_).Prio) && BE (Bo m p.Type_).Frame p.Frame
def F4 (m : D.Model) (s : D.State) : Bool := BE m.Globals s.Globals && decide (s.Chans.length ≤ 32) && decide (s.Procs.length ≤ 16) && decide (0 ≤ s.Last) && decide (s.Last < 16) && decide (-1 ≤ s.Alone) && decide (s.Alone < s.Procs.length)
def FE (m : D.Model) (s : D.State) : Bool := bif decide (m.Claim < 0) then decide (s.Claim = -1) else inP (Bo m m.Claim).Locs.length s.Claim
def Cw (m : D.Model) (s : D.State) : Bool := F4 m s && (B3 s.Chans.length fun i => Dp m (s.Chans.getD i default)) && (B3 s.Procs.length fun i => BL m (s.Procs.getD i default)) && FE m s
def H6 (m : D.Model) : Bool := decide ((Hd m).1 = 0)
def CG (m : D.Model) (s : D.State) : Int := bif H6 m then (bif Cw m s then 0 else 41) else 40
structure Lim (m : D.Model) : Prop where
  room : ∀ k : Int, 0 ≤ k → k < m.Shapes.length → (CN m k).Room ≤ 16
  locs : ∀ k : Int, 0 ≤ k → k < m.Procs.length → (Bo m k).Locs.length ≤ 256
  one : 1 ≤ m.Procs.length
  clp : m.Claim < m.Procs.length
theorem ER {m : D.Model} (h : H6 m = true) : Bk m = (0, 0) ∧ EN m = -1 ∧ GW m = -1 := by
  unfold H6 Hd at h
  have h1 : ∀ n (f : Nat → Bool), -1 ≤ Gv n f := fun n f => AaU
  have hf := h1 m.Procs.length fun i => !DZ m i
  have hp := h1 m.Procs.length fun i : Nat => C7 m i
  cases b1 : decide (0 < (Bk m).1) with
  | true => rw [b1, cond_true] at h; simp at h
  | false =>
    rw [b1, cond_false] at h
    cases b2 : decide (0 ≤ EN m) with
    | true => rw [b2, cond_true] at h; simp at h
    | false =>
      rw [b2, cond_false] at h
      cases b3 : decide (16 < Df m m.Procs.length) with
      | true => rw [b3, cond_true] at h; simp at h
      | false =>
        rw [b3, cond_false] at h
        cases b4 : decide (0 ≤ GW m) with
        | true => rw [b4, cond_true] at h; simp at h
        | false =>
          have := of_decide_eq_false b2
          have := of_decide_eq_false b4
          refine ⟨?_, by show Gv _ _ = -1; unfold EN at *; omega, by show Gv _ _ = -1; unfold GW at *; omega⟩
          have b1 := of_decide_eq_false b1
          unfold Bk at b1 ⊢
          generalize (decide (128 < m.Globals.length) || !decide (m.Init.length = m.Globals.length)) = c1 at b1 ⊢
          generalize decide (0 ≤ Dl m.Globals m.Init) = c2 at b1 ⊢
          generalize (decide (32 < m.Shapes.length) || decide (32 < m.Chans.length)) = c3 at b1 ⊢
          generalize decide (0 ≤ DB m) = c4 at b1 ⊢
          generalize decide (0 ≤ EF m) = c5 at b1 ⊢
          generalize (decide (m.Procs.length < 1) || (decide (16 < m.Procs.length) || (decide (m.Claim < -1) || (decide ((m.Procs.length : Int) ≤ m.Claim) || decide (4096 < m.Exprs.length))))) = c6 at b1 ⊢
          generalize decide (0 ≤ EE m) = c7 at b1 ⊢
          cases c1 <;> cases c2 <;> cases c3 <;> cases c4 <;> cases c5 <;> cases c6 <;> cases c7 <;> simp at b1 ⊢
structure Abh (m : D.Model) : Prop where
  globals : m.Globals.length ≤ 128
  init : m.Init.length = m.Globals.length
  types : Dl m.Globals m.Init < 0
  shapes : m.Shapes.length ≤ 32
  chans : m.Chans.length ≤ 32
  shape : ∀ i, i < m.Shapes.length → CM (m.Shapes.getD i default) = true
  chan : ∀ i, i < m.Chans.length → inP m.Shapes.length (m.Chans.getD i 0) = true
  procs : 1 ≤ m.Procs.length ∧ m.Procs.length ≤ 16
  claim : -1 ≤ m.Claim ∧ m.Claim < m.Procs.length
  exprs : m.Exprs.length ≤ 4096
theorem N8 {m : D.Model} (h : Bk m = (0, 0)) : Abh m := by
  unfold Bk at h
  cases c1 : (decide (128 < m.Globals.length) || !decide (m.Init.length = m.Globals.length)) with
  | true => rw [c1, cond_true] at h; simp at h
  | false =>
  cases c2 : decide (0 ≤ Dl m.Globals m.Init) with
  | true => rw [c1, c2, cond_false, cond_true] at h; simp at h
  | false =>
  cases c3 : (decide (32 < m.Shapes.length) || decide (32 < m.Chans.length)) with
  | true => rw [c1, c2, c3, cond_false, cond_false, cond_true] at h; simp at h
  | false =>
  cases c4 : decide (0 ≤ DB m) with
  | true => rw [c1, c2, c3, c4, cond_false, cond_false, cond_false, cond_true] at h; simp at h
  | false =>
  cases c5 : decide (0 ≤ EF m) with
  | true => rw [c1, c2, c3, c4, c5, cond_false, cond_false, cond_false, cond_false, cond_true] at h; simp at h
  | false =>
  cases c6 : (decide (m.Procs.length < 1) || (decide (16 < m.Procs.length) || (decide (m.Claim < -1) || (decide ((m.Procs.length : Int) ≤ m.Claim) || decide (4096 < m.Exprs.length))))) with
  | true => rw [c1, c2, c3, c4, c5, c6, cond_false, cond_false, cond_false, cond_false, cond_false, cond_true] at h; simp at h
  | false =>
  simp only [Bool.or_eq_false_iff, decide_eq_false_iff_not, Bool.not_eq_false', decide_eq_true_eq] at c1 c2 c3 c4 c5 c6
  exact ⟨by omega, c1.2, by omega, by omega, by omega, JD (f := fun i => CM (m.Shapes.getD i default)) (by unfold DB at c4; omega), JD (f := fun i => inP m.Shapes.length (m.Chans.getD i 0)) (by unfold EF at c5; omega), by omega, by omega, by omega⟩
theorem JX {m : D.Model} (h : EN m = -1) : ∀ i, i < m.Procs.length → FM (m.Procs.getD i default) = true ∧ Fg (m.Procs.getD i default) = true := fun i hi => by
  have := JD (f := fun i => !DZ m i) (by unfold EN at h; omega) i hi
  unfold DZ at this
  simp only [Bool.not_eq_true', Bool.or_eq_false_iff, Bool.not_eq_false'] at this
  exact ⟨this.1, this.2.1⟩
theorem OT {m : D.Model} (h : H6 m = true) : Lim m := by
  obtain ⟨h1, h2, _⟩ := ER h
  have ht := N8 h1
  refine ⟨fun k h0 hk => ?_, fun k h0 hk => ?_, ht.procs.1, ht.claim.2⟩
  · have := ht.shape k.toNat (by omega)
    unfold CM at this
    simp only [Bool.and_eq_true, decide_eq_true_eq] at this
    exact this.1.1.1.2
  · have := (JX h2 k.toNat (by omega)).2
    unfold Fg at this
    simp only [Bool.and_eq_true, decide_eq_true_eq] at this
    exact this.1.1.1.2
structure Fit (s : D.State) : Prop where
  g : s.Globals.length ≤ 128
  c : s.Chans.length ≤ 32
  q : ∀ c ∈ s.Chans, c.Queue.length ≤ 16 ∧ ∀ x ∈ c.Queue, x.length ≤ 8
  p : s.Procs.length ≤ 16
  f : ∀ p ∈ s.Procs, p.Frame.length ≤ 128
theorem EP {t : List D.Type} {l : List Int} (h : BE t l = true) : l.length = t.length := by
  unfold BE at h
  simp only [Bool.and_eq_true, decide_eq_true_eq] at h
  exact h.1.symm
theorem Y9 {m : D.Model} {s : D.State} (hmay : H6 m = true) (h : Cw m s = true) : Fit s := by
  have hm := OT hmay
  obtain ⟨ht1, ht2, _⟩ := ER hmay
  have ht := N8 ht1
  unfold Cw at h
  simp only [Bool.and_eq_true] at h
  obtain ⟨⟨⟨h1, h2⟩, h3⟩, h4⟩ := h
  unfold F4 at h1
  simp only [Bool.and_eq_true, decide_eq_true_eq] at h1
  obtain ⟨⟨⟨⟨⟨⟨g1, g2⟩, g3⟩, g4⟩, g5⟩, g6⟩, g7⟩ := h1
  refine ⟨?_, g2, fun c hc => ?_, g3, fun p hp => ?_⟩
  · rw [EP g1]; exact ht.globals
  · have h := (CK (d := default) (f := fun c => Dp m c)).1 h2 c hc
    unfold Dp at h
    simp only [Bool.and_eq_true, decide_eq_true_eq] at h
    have hi := Cn.1 h.1.1
    have hr := hm.room _ hi.1 hi.2
    refine ⟨by omega, fun x hx => ?_⟩
    have hq := (CK (d := []) (f := fun x => BE (CN m c.Shape).Fields x)).1 h.2 x hx
    rw [EP hq]
    have := ht.shape c.Shape.toNat (by omega)
    unfold CM at this
    simp only [Bool.and_eq_true, decide_eq_true_eq] at this
    exact this.1.2
  · have h := (CK (d := default) (f := fun c => BL m c)).1 h3 p hp
    unfold BL BN at h
    simp only [Bool.and_eq_true, decide_eq_true_eq] at h
    rw [EP h.2]
    have := (JX ht2 p.Type_.toNat (by omega)).1
    unfold FM at this
    simp only [Bool.and_eq_true, decide_eq_true_eq] at this
    exact this.1.1.1.1.1.1.1.1
end Go.Proofs.YtiaebjpcgjkhoaaGreatDoor
namespace Go.Proofs.YtiaebjpcgjkhoaaGreatDoor
open Go.RowKit
def Ir (f : FuncId) : Shp := bif Nat.beq f 25 then VY else Ba f
end Go.Proofs.YtiaebjpcgjkhoaaGreatDoor
namespace Go.Proofs.YtiaebjpcgjkhoaaGreatDoor
open Go.RowKit
def J9 : Ann := { keep := fun
  | [0, 1, 0, 1, 1] => [0, 12, 13, 14]
  | _ => [] }
def Hp : Ann := { keep := fun
  | [0, 1, 0, 1, 1] => [2, 3, 32, 33, 34]
  | _ => [] }
def Fo : Ann := { keep := fun
  | [0, 1, 0, 1, 1] => [2, 3, 51, 52, 53]
  | [0, 1, 0, 1, 1, 1] => [2, 3, 63, 64, 65]
  | _ => [] }
def Ua (t : List D.Type) (l : List Int) (k : Int) : St := Ao [(0, Aj true t), (12, Aa true l), (13, Ad l.length), (14, Ad k)] []
def Nh (m : D.Model) (c : D.Chan) (k : Int) : St := Ao [(2, .bp 0 0), (3, .bp 1 0), (32, BA true c.Queue), (33, Ad c.Queue.length), (34, Ad k)] [.box (Ac m), .box (Ar c)]
def Uo (m : D.Model) (s : D.State) (k : Int) : St := Ao [(2, .bp 0 0), (3, .bp 1 0), (51, Br false s.Chans), (52, Ad s.Chans.length), (53, Ad k)] [.box (Ac m), .box (Ig false s)]
def Un (m : D.Model) (s : D.State) (k : Int) : St := Ao [(2, .bp 0 0), (3, .bp 1 0), (63, A1 false s.Procs), (64, Ad s.Procs.length), (65, Ad k)] [.box (Ac m), .box (Ig false s)]
end Go.Proofs.YtiaebjpcgjkhoaaGreatDoor
namespace Go.Proofs.YtiaebjpcgjkhoaaGreatDoor
open Go.RowKit
set_option maxRecDepth 100000
theorem VF (b : Bool) (t : List D.Type) (l : List Int) : (Ag Tryz.prog tb Ir J9 true Tryz.f71 [] (Ai b)).goal (St.init [] [Aj true t, Aa true l]) =
    ((((↑t.length : Int) != (↑l.length : Int)) = true → leO [] [] ∧ (Ai false).le (Ai b)) ∧ (((↑t.length : Int) != (↑l.length : Int)) = false → AH (Ag Tryz.prog tb Ir J9 true Tryz.f71 [] (Ai b)) [1, 1, 0, 1, 0] (Ao [(0, VV.sl true t.length 2 fun (i : Nat) => AR (t.getD i default)), (12, VV.sl true l.length 1 fun (i : Nat) => [Ad (l.getD i (0 : Int))]), (13, Ad (↑l.length : Int)), (14, Ad (0 : Int))] []))) := by kernel_rfl
theorem Rk (b : Bool) (m : D.Model) (c : D.Chan) : (Ag Tryz.prog tb Ir Hp true Tryz.f72 [] (Ai b)).goal (St.init [] [.agg (Ac m), .agg (Ar c)]) =
    (((true && (bif decide (c.Shape < (0 : Int)) then true else decide (c.Shape ≥ (↑m.Shapes.length : Int))) == false) = true → (0 : Int) ≤ c.Shape ∧ c.Shape < (↑m.Shapes.length : Int)) ∧ ((bif bif decide (c.Shape < (0 : Int)) then true else decide (c.Shape ≥ (↑m.Shapes.length : Int)) then true else decide ((↑c.Queue.length : Int) > (m.Shapes.getD c.Shape.toNat default).Room)) = true → leO [] [] ∧ (Ai false).le (Ai b)) ∧ ((bif bif decide (c.Shape < (0 : Int)) then true else decide (c.Shape ≥ (↑m.Shapes.length : Int)) then true else decide ((↑c.Queue.length : Int) > (m.Shapes.getD c.Shape.toNat default).Room)) = false → AH (Ag Tryz.prog tb Ir Hp true Tryz.f72 [] (Ai b)) [1, 1, 0, 1, 0] (Ao [(2, VV.bp 0 0), (3, VV.bp 1 0), (32, VV.sl true c.Queue.length 1 fun (i : Nat) => [Aa true (c.Queue.getD i [])]), (33, Ad (↑c.Queue.length : Int)), (34, Ad (0 : Int))] [Ob.box [VV.sl true m.Globals.length 2 fun (i : Nat) => AR (m.Globals.getD i default), VV.sl true m.Init.length 1 fun (i : Nat) => [Ad (m.Init.getD i (0 : Int))], VV.sl true m.Shapes.length 2 fun (i : Nat) => Bq (m.Shapes.getD i default), VV.sl true m.Chans.length 1 fun (i : Nat) => [Ad (m.Chans.getD i (0 : Int))], VV.sl true m.Procs.length 10 fun (i : Nat) => AB (m.Procs.getD i default), Ad m.Claim, VV.sl true m.Exprs.length 12 fun (i : Nat) => Au (m.Exprs.getD i default)], Ob.box [Ad c.Shape, VV.sl true c.Queue.length 1 fun (i : Nat) => [Aa true (c.Queue.getD i [])]]]))) := by kernel_rfl
theorem QA (b : Bool) (m : D.Model) (p : D.Process) : (Ag Tryz.prog tb Ir Bd true Tryz.f73 [] (Ai b)).goal (St.init [] [.agg (Ac m), .agg (Ak p)]) =
    (((bif bif decide (p.Type_ < (0 : Int)) then true else decide (p.Type_ ≥ (↑m.Procs.length : Int)) then true else p.Type_ == m.Claim) = true → leO [] [] ∧ (Ai false).le (Ai b)) ∧ ((bif bif decide (p.Type_ < (0 : Int)) then true else decide (p.Type_ ≥ (↑m.Procs.length : Int)) then true else p.Type_ == m.Claim) = false → ((0 : Int) ≤ p.Type_ ∧ p.Type_ < (↑m.Procs.length : Int)) ∧ ∃ (y : Bool), ((true && (bif bif decide (p.Loc ≥ (0 : Int)) then decide (p.Loc < (↑(m.Procs.getD p.Type_.toNat default).Locs.length : Int)) else false then p.Prio == (m.Procs.getD p.Type_.toNat default).Prio else false) == true) = true → Ae Tryz.prog 71 [] [VV.sl true (m.Procs.getD p.Type_.toNat default).Frame.length 2 fun (i : Nat) => AR ((m.Procs.getD p.Type_.toNat default).Frame.getD i default), VV.sl true p.Frame.length 1 fun (i : Nat) => [Ad (p.Frame.getD i (0 : Int))]] [] (Ai y)) ∧ leO [] [] ∧ (Ai (bif bif bif decide (p.Loc ≥ (0 : Int)) then decide (p.Loc < (↑(m.Procs.getD p.Type_.toNat default).Locs.length : Int)) else false then p.Prio == (m.Procs.getD p.Type_.toNat default).Prio else false then y else false)).le (Ai b))) := by kernel_rfl
theorem Sc (b : Bool) (m : D.Model) (s : D.State) : (Ag Tryz.prog tb Ir Fo true Tryz.f47 [] (Ai b)).goal (St.init [] [.agg (Ac m), .agg (Ig false s)]) =
    (∃ (y : Bool), Ae Tryz.prog 71 [] [VV.sl true m.Globals.length 2 fun (i : Nat) => AR (m.Globals.getD i default), VV.sl true s.Globals.length 1 fun (i : Nat) => [Ad (s.Globals.getD i (0 : Int))]] [] (Ai y) ∧ ((bif bif bif bif bif bif !y then true else decide ((↑s.Chans.length : Int) > (32 : Int)) then true else decide ((↑s.Procs.length : Int) > (16 : Int)) then true else decide (s.Last < (0 : Int)) then true else decide (s.Last ≥ (16 : Int)) then true else decide (s.Alone < (-1 : Int)) then true else decide (s.Alone ≥ (↑s.Procs.length : Int))) = true → leO [] [] ∧ (Ai false).le (Ai b)) ∧ ((bif bif bif bif bif bif !y then true else decide ((↑s.Chans.length : Int) > (32 : Int)) then true else decide ((↑s.Procs.length : Int) > (16 : Int)) then true else decide (s.Last < (0 : Int)) then true else decide (s.Last ≥ (16 : Int)) then true else decide (s.Alone < (-1 : Int)) then true else decide (s.Alone ≥ (↑s.Procs.length : Int))) = false → AH (Ag Tryz.prog tb Ir Fo true Tryz.f47 [] (Ai b)) [1, 1, 0, 1, 0] (Ao [(2, VV.bp 0 0), (3, VV.bp 1 0), (51, VV.sl false s.Chans.length 2 fun (i : Nat) => Ar (s.Chans.getD i default)), (52, Ad (↑s.Chans.length : Int)), (53, Ad (0 : Int))] [Ob.box [VV.sl true m.Globals.length 2 fun (i : Nat) => AR (m.Globals.getD i default), VV.sl true m.Init.length 1 fun (i : Nat) => [Ad (m.Init.getD i (0 : Int))], VV.sl true m.Shapes.length 2 fun (i : Nat) => Bq (m.Shapes.getD i default), VV.sl true m.Chans.length 1 fun (i : Nat) => [Ad (m.Chans.getD i (0 : Int))], VV.sl true m.Procs.length 10 fun (i : Nat) => AB (m.Procs.getD i default), Ad m.Claim, VV.sl true m.Exprs.length 12 fun (i : Nat) => Au (m.Exprs.getD i default)], Ob.box [VV.sl true s.Globals.length 1 fun (i : Nat) => [Ad (s.Globals.getD i (0 : Int))], VV.sl false s.Chans.length 2 fun (i : Nat) => Ar (s.Chans.getD i default), VV.sl false s.Procs.length 4 fun (i : Nat) => Ak (s.Procs.getD i default), Ad s.Last, Ad s.Alone, Ad s.Claim]]))) := by kernel_rfl
theorem Aav (b : Bool) (m : D.Model) : (Ag Tryz.prog tb Ir Bd true Tryz.f46 [] (Ai b)).goal (St.init [] [.agg (Ac m)]) =
    (∃ (y : Int × Int × Int), Ae Tryz.prog 70 [] [VV.agg [VV.sl true m.Globals.length 2 fun (i : Nat) => AR (m.Globals.getD i default), VV.sl true m.Init.length 1 fun (i : Nat) => [Ad (m.Init.getD i (0 : Int))], VV.sl true m.Shapes.length 2 fun (i : Nat) => Bq (m.Shapes.getD i default), VV.sl true m.Chans.length 1 fun (i : Nat) => [Ad (m.Chans.getD i (0 : Int))], VV.sl true m.Procs.length 10 fun (i : Nat) => AB (m.Procs.getD i default), Ad m.Claim, VV.sl true m.Exprs.length 12 fun (i : Nat) => Au (m.Exprs.getD i default)]] [] (VV.tup [Ad y.fst, Ad y.snd.fst, Ad y.snd.snd]) ∧ leO [] [] ∧ (Ai (y.fst == 0)).le (Ai b)) := by kernel_rfl
theorem PQ (r : Int) (m : D.Model) (s : D.State) : (Ag Tryz.prog tb Ir Bd true Tryz.f25 [] (Ad r)).goal (St.init [] [.agg (Ac m), .agg (Ax s)]) =
    (∃ (y : Bool), Ae Tryz.prog 46 [] [VV.agg [VV.sl true m.Globals.length 2 fun (i : Nat) => AR (m.Globals.getD i default), VV.sl true m.Init.length 1 fun (i : Nat) => [Ad (m.Init.getD i (0 : Int))], VV.sl true m.Shapes.length 2 fun (i : Nat) => Bq (m.Shapes.getD i default), VV.sl true m.Chans.length 1 fun (i : Nat) => [Ad (m.Chans.getD i (0 : Int))], VV.sl true m.Procs.length 10 fun (i : Nat) => AB (m.Procs.getD i default), Ad m.Claim, VV.sl true m.Exprs.length 12 fun (i : Nat) => Au (m.Exprs.getD i default)]] [] (Ai y) ∧ ((!y) = true → leO [] [] ∧ (Ad (40 : Int)).le (Ad r)) ∧ ((!y) = false → ∃ (y : Bool), Ae Tryz.prog 47 [] [VV.agg [VV.sl true m.Globals.length 2 fun (i : Nat) => AR (m.Globals.getD i default), VV.sl true m.Init.length 1 fun (i : Nat) => [Ad (m.Init.getD i (0 : Int))], VV.sl true m.Shapes.length 2 fun (i : Nat) => Bq (m.Shapes.getD i default), VV.sl true m.Chans.length 1 fun (i : Nat) => [Ad (m.Chans.getD i (0 : Int))], VV.sl true m.Procs.length 10 fun (i : Nat) => AB (m.Procs.getD i default), Ad m.Claim, VV.sl true m.Exprs.length 12 fun (i : Nat) => Au (m.Exprs.getD i default)], VV.agg [VV.sl true s.Globals.length 1 fun (i : Nat) => [Ad (s.Globals.getD i (0 : Int))], VV.sl true s.Chans.length 2 fun (i : Nat) => Ar (s.Chans.getD i default), VV.sl true s.Procs.length 4 fun (i : Nat) => Ak (s.Procs.getD i default), Ad s.Last, Ad s.Alone, Ad s.Claim]] [] (Ai y) ∧ ((!y) = true → leO [] [] ∧ (Ad (41 : Int)).le (Ad r)) ∧ ((!y) = false → leO [] [] ∧ (Ad (0 : Int)).le (Ad r)))) := by kernel_rfl
theorem R1 (b : Bool) (t : List D.Type) (l : List Int) (k : Int) (J : St → Prop) : ((Ag Tryz.prog tb Ir J9 true Tryz.f71 [] (Ai b)).loop [1, 1, 0, 1, 0] J).goal (Ua t l k) =
    ((decide (k < (↑l.length : Int)) = true → ((0 : Int) ≤ k ∧ k < (↑l.length : Int)) ∧ ((0 : Int) ≤ k ∧ k < (↑t.length : Int)) ∧ ∃ (y : Bool), Ae Tryz.prog 107 [] [VV.agg [Ad (t.getD k.toNat default).Bits, Ai (t.getD k.toNat default).Signed], Ad (l.getD k.toNat (0 : Int))] [] (Ai y) ∧ ((!y) = true → leO [] [] ∧ (Ai false).le (Ai b)) ∧ ((!y) = false → J (Ao [(0, VV.sl true t.length 2 fun (i : Nat) => AR (t.getD i default)), (12, VV.sl true l.length 1 fun (i : Nat) => [Ad (l.getD i (0 : Int))]), (13, Ad (↑l.length : Int)), (14, Ad (IntKind.i64.wrap (k + (1 : Int))))] []))) ∧ (decide (k < (↑l.length : Int)) = false → leO [] [] ∧ (Ai true).le (Ai b))) := by kernel_rfl
theorem O5 (b : Bool) (m : D.Model) (c : D.Chan) (k : Int) (J : St → Prop) : ((Ag Tryz.prog tb Ir Hp true Tryz.f72 [] (Ai b)).loop [1, 1, 0, 1, 0] J).goal (Nh m c k) =
    ((decide (k < (↑c.Queue.length : Int)) = true → ((0 : Int) ≤ k ∧ k < (↑c.Queue.length : Int)) ∧ ((0 : Int) ≤ c.Shape ∧ c.Shape < (↑m.Shapes.length : Int)) ∧ ∃ (y : Bool), Ae Tryz.prog 71 [] [VV.sl true (m.Shapes.getD c.Shape.toNat default).Fields.length 2 fun (i : Nat) => AR ((m.Shapes.getD c.Shape.toNat default).Fields.getD i default), VV.sl true (c.Queue.getD k.toNat []).length 1 fun (i : Nat) => [Ad ((c.Queue.getD k.toNat []).getD i (0 : Int))]] [] (Ai y) ∧ ((!y) = true → leO [] [] ∧ (Ai false).le (Ai b)) ∧ ((!y) = false → J (Ao [(2, VV.bp 0 0), (3, VV.bp 1 0), (32, VV.sl true c.Queue.length 1 fun (i : Nat) => [Aa true (c.Queue.getD i [])]), (33, Ad (↑c.Queue.length : Int)), (34, Ad (IntKind.i64.wrap (k + (1 : Int))))] [Ob.box [VV.sl true m.Globals.length 2 fun (i : Nat) => AR (m.Globals.getD i default), VV.sl true m.Init.length 1 fun (i : Nat) => [Ad (m.Init.getD i (0 : Int))], VV.sl true m.Shapes.length 2 fun (i : Nat) => Bq (m.Shapes.getD i default), VV.sl true m.Chans.length 1 fun (i : Nat) => [Ad (m.Chans.getD i (0 : Int))], VV.sl true m.Procs.length 10 fun (i : Nat) => AB (m.Procs.getD i default), Ad m.Claim, VV.sl true m.Exprs.length 12 fun (i : Nat) => Au (m.Exprs.getD i default)], Ob.box [Ad c.Shape, VV.sl true c.Queue.length 1 fun (i : Nat) => [Aa true (c.Queue.getD i [])]]]))) ∧ (decide (k < (↑c.Queue.length : Int)) = false → leO [] [] ∧ (Ai true).le (Ai b))) := by kernel_rfl
theorem PP (b : Bool) (m : D.Model) (s : D.State) (k : Int) (J : St → Prop) : ((Ag Tryz.prog tb Ir Fo true Tryz.f47 [] (Ai b)).loop [1, 1, 0, 1, 0] J).goal (Uo m s k) =
    ((decide (k < (↑s.Chans.length : Int)) = true → ((0 : Int) ≤ k ∧ k < (↑s.Chans.length : Int)) ∧ ∃ (y : Bool), Ae Tryz.prog 72 [] [VV.agg [VV.sl true m.Globals.length 2 fun (i : Nat) => AR (m.Globals.getD i default), VV.sl true m.Init.length 1 fun (i : Nat) => [Ad (m.Init.getD i (0 : Int))], VV.sl true m.Shapes.length 2 fun (i : Nat) => Bq (m.Shapes.getD i default), VV.sl true m.Chans.length 1 fun (i : Nat) => [Ad (m.Chans.getD i (0 : Int))], VV.sl true m.Procs.length 10 fun (i : Nat) => AB (m.Procs.getD i default), Ad m.Claim, VV.sl true m.Exprs.length 12 fun (i : Nat) => Au (m.Exprs.getD i default)], VV.agg [Ad (s.Chans.getD k.toNat default).Shape, VV.sl true (s.Chans.getD k.toNat default).Queue.length 1 fun (i : Nat) => [Aa true ((s.Chans.getD k.toNat default).Queue.getD i [])]]] [] (Ai y) ∧ ((!y) = true → leO [] [] ∧ (Ai false).le (Ai b)) ∧ ((!y) = false → J (Ao [(2, VV.bp 0 0), (3, VV.bp 1 0), (51, VV.sl false s.Chans.length 2 fun (i : Nat) => Ar (s.Chans.getD i default)), (52, Ad (↑s.Chans.length : Int)), (53, Ad (IntKind.i64.wrap (k + (1 : Int))))] [Ob.box [VV.sl true m.Globals.length 2 fun (i : Nat) => AR (m.Globals.getD i default), VV.sl true m.Init.length 1 fun (i : Nat) => [Ad (m.Init.getD i (0 : Int))], VV.sl true m.Shapes.length 2 fun (i : Nat) => Bq (m.Shapes.getD i default), VV.sl true m.Chans.length 1 fun (i : Nat) => [Ad (m.Chans.getD i (0 : Int))], VV.sl true m.Procs.length 10 fun (i : Nat) => AB (m.Procs.getD i default), Ad m.Claim, VV.sl true m.Exprs.length 12 fun (i : Nat) => Au (m.Exprs.getD i default)], Ob.box [VV.sl true s.Globals.length 1 fun (i : Nat) => [Ad (s.Globals.getD i (0 : Int))], VV.sl false s.Chans.length 2 fun (i : Nat) => Ar (s.Chans.getD i default), VV.sl false s.Procs.length 4 fun (i : Nat) => Ak (s.Procs.getD i default), Ad s.Last, Ad s.Alone, Ad s.Claim]]))) ∧ (decide (k < (↑s.Chans.length : Int)) = false → AH (Ag Tryz.prog tb Ir Fo true Tryz.f47 [] (Ai b)) [1, 1, 1, 0, 1, 0] (Ao [(2, VV.bp 0 0), (3, VV.bp 1 0), (63, VV.sl false s.Procs.length 4 fun (i : Nat) => Ak (s.Procs.getD i default)), (64, Ad (↑s.Procs.length : Int)), (65, Ad (0 : Int))] [Ob.box [VV.sl true m.Globals.length 2 fun (i : Nat) => AR (m.Globals.getD i default), VV.sl true m.Init.length 1 fun (i : Nat) => [Ad (m.Init.getD i (0 : Int))], VV.sl true m.Shapes.length 2 fun (i : Nat) => Bq (m.Shapes.getD i default), VV.sl true m.Chans.length 1 fun (i : Nat) => [Ad (m.Chans.getD i (0 : Int))], VV.sl true m.Procs.length 10 fun (i : Nat) => AB (m.Procs.getD i default), Ad m.Claim, VV.sl true m.Exprs.length 12 fun (i : Nat) => Au (m.Exprs.getD i default)], Ob.box [VV.sl true s.Globals.length 1 fun (i : Nat) => [Ad (s.Globals.getD i (0 : Int))], VV.sl false s.Chans.length 2 fun (i : Nat) => Ar (s.Chans.getD i default), VV.sl false s.Procs.length 4 fun (i : Nat) => Ak (s.Procs.getD i default), Ad s.Last, Ad s.Alone, Ad s.Claim]]))) := by kernel_rfl
theorem PO (b : Bool) (m : D.Model) (s : D.State) (k : Int) (J : St → Prop) : ((Ag Tryz.prog tb Ir Fo true Tryz.f47 [] (Ai b)).loop [1, 1, 1, 0, 1, 0] J).goal (Un m s k) =
    ((decide (k < (↑s.Procs.length : Int)) = true → ((0 : Int) ≤ k ∧ k < (↑s.Procs.length : Int)) ∧ ∃ (y : Bool), Ae Tryz.prog 73 [] [VV.agg [VV.sl true m.Globals.length 2 fun (i : Nat) => AR (m.Globals.getD i default), VV.sl true m.Init.length 1 fun (i : Nat) => [Ad (m.Init.getD i (0 : Int))], VV.sl true m.Shapes.length 2 fun (i : Nat) => Bq (m.Shapes.getD i default), VV.sl true m.Chans.length 1 fun (i : Nat) => [Ad (m.Chans.getD i (0 : Int))], VV.sl true m.Procs.length 10 fun (i : Nat) => AB (m.Procs.getD i default), Ad m.Claim, VV.sl true m.Exprs.length 12 fun (i : Nat) => Au (m.Exprs.getD i default)], VV.agg [Ad (s.Procs.getD k.toNat default).Type_, Ad (s.Procs.getD k.toNat default).Loc, Ad (s.Procs.getD k.toNat default).Prio, VV.sl true (s.Procs.getD k.toNat default).Frame.length 1 fun (i : Nat) => [Ad ((s.Procs.getD k.toNat default).Frame.getD i (0 : Int))]]] [] (Ai y) ∧ ((!y) = true → leO [] [] ∧ (Ai false).le (Ai b)) ∧ ((!y) = false → J (Ao [(2, VV.bp 0 0), (3, VV.bp 1 0), (63, VV.sl false s.Procs.length 4 fun (i : Nat) => Ak (s.Procs.getD i default)), (64, Ad (↑s.Procs.length : Int)), (65, Ad (IntKind.i64.wrap (k + (1 : Int))))] [Ob.box [VV.sl true m.Globals.length 2 fun (i : Nat) => AR (m.Globals.getD i default), VV.sl true m.Init.length 1 fun (i : Nat) => [Ad (m.Init.getD i (0 : Int))], VV.sl true m.Shapes.length 2 fun (i : Nat) => Bq (m.Shapes.getD i default), VV.sl true m.Chans.length 1 fun (i : Nat) => [Ad (m.Chans.getD i (0 : Int))], VV.sl true m.Procs.length 10 fun (i : Nat) => AB (m.Procs.getD i default), Ad m.Claim, VV.sl true m.Exprs.length 12 fun (i : Nat) => Au (m.Exprs.getD i default)], Ob.box [VV.sl true s.Globals.length 1 fun (i : Nat) => [Ad (s.Globals.getD i (0 : Int))], VV.sl false s.Chans.length 2 fun (i : Nat) => Ar (s.Chans.getD i default), VV.sl false s.Procs.length 4 fun (i : Nat) => Ak (s.Procs.getD i default), Ad s.Last, Ad s.Alone, Ad s.Claim]]))) ∧ (decide (k < (↑s.Procs.length : Int)) = false → (decide (m.Claim < (0 : Int)) = true → leO [] [] ∧ (Ai (s.Claim == (-1 : Int))).le (Ai b)) ∧ (decide (m.Claim < (0 : Int)) = false → ((true && decide (s.Claim ≥ (0 : Int)) == true) = true → (0 : Int) ≤ m.Claim ∧ m.Claim < (↑m.Procs.length : Int)) ∧ leO [] [] ∧ (Ai (bif decide (s.Claim ≥ (0 : Int)) then decide (s.Claim < (↑(m.Procs.getD m.Claim.toNat default).Locs.length : Int)) else false)).le (Ai b)))) := by kernel_rfl
end Go.Proofs.YtiaebjpcgjkhoaaGreatDoor
namespace Go.Proofs.YtiaebjpcgjkhoaaGreatDoor
open Go.RowKit
theorem UN {xs ys : List VV} (hl : ys.length = xs.length) (h : ∀ (j : Nat) x y, xs[j]? = some x → ys[j]? = some y → leS x y) : leS (.agg xs) (.agg ys) := by
  intro w E m v hE hv
  obtain ⟨vs, rfl, h1, h2⟩ := hv.agg_inv
  refine .agg (h1.trans hl.symm) fun j y hy => ?_
  have hj : j < xs.length := by rw [← hl]; exact (List.getElem?_eq_some_iff.1 hy).1
  exact h j _ y (List.getElem?_eq_getElem hj) hy w E m _ hE (h2 j _ (List.getElem?_eq_getElem hj))
theorem Bx {k : Nat} {P : Nat → Prop} (hI : ∀ i, i < k → P i) (h : P k) : ∀ i, i < k + 1 → P i := fun i hi => by
  rcases Nat.lt_succ_iff_lt_or_eq.1 hi with h' | rfl
  · exact hI i h'
  · exact h
def Len (n : Nat) : Prop := n ≤ 1099511627776
theorem Io {t : List D.Type} {l : List Int} (hl : Len l.length) : Ae Tryz.prog 71 [] [Aj true t, Aa true l] [] (Ai (BE t l)) := by
  unfold Len at hl
  refine Ah Am An Tryz.func71 (by kernel_rfl) rfl (VF _ t l) ⟨fun h => As ?_, fun h => ?_⟩
  · unfold BE
    have : decide (t.length = l.length) = false := by simp at h; simp; omega
    rw [this, Bool.false_and]
  · have hlen : t.length = l.length := by simp at h; omega
    have e : BE t l = B3 l.length fun i => Cz (t.getD i default) (l.getD i 0) := by unfold BE; rw [show decide (t.length = l.length) = true by simpa using hlen, Bool.true_and]
    rw [e]
    refine AI Am An l.length (fun k => Ua t l k) (fun k => ∀ i, i < k → Cz (t.getD i default) (l.getD i 0) = true) (by kernel_rfl) (by kernel_rfl) (fun i hi => by omega) ?_
    intro k hk hI J next
    refine A9.raw (R1 _ t l k J) ⟨fun hlt => ?_, fun hge => As ?_⟩
    · have hlt' : k < l.length := by have := AQ hlt; omega
      refine ⟨⟨by omega, by omega⟩, ⟨by omega, by omega⟩, Cz (t.getD k default) (l.getD k 0), JZ _ _, fun hy => As ?_, fun hy => next _ hlt' (Bx hI (by simpa using hy)) (Up.of ?_)⟩
      · exact (Bg (f := fun i => Cz (t.getD i default) (l.getD i 0)) hlt' (by simpa using hy)).symm
      · rw [Ap (by omega)]; rfl
    · have hge' : l.length ≤ k := by have := AV hge; omega
      exact (AW.2 fun i hi => hI i (by omega)).symm
structure ZF (c : D.Chan) : Prop where
  q : Len c.Queue.length
  m : ∀ x ∈ c.Queue, Len x.length
theorem O4 {m : D.Model} {c : D.Chan} (hc : ZF c) : Ae Tryz.prog 72 [] [.agg (Ac m), .agg (Ar c)] [] (Ai (Dp m c)) := by
  have hq := hc.q
  unfold Len at hq
  refine Ah Am An Tryz.func72 (by kernel_rfl) rfl (Rk _ m c) ⟨fun h => ?_, fun h => As ?_, fun h => ?_⟩
  · simp at h; omega
  · symm; rw [Bool.eq_false_iff]; intro hcc
    unfold Dp at hcc
    simp only [Bool.and_eq_true, decide_eq_true_eq] at hcc
    have := Cn.1 hcc.1.1
    have hr : (CN m c.Shape).Room = (m.Shapes.getD c.Shape.toNat default).Room := rfl
    rw [hr] at hcc
    generalize (m.Shapes.getD c.Shape.toNat default).Room = rm at h hcc
    simp at h; omega
  · have hs : 0 ≤ c.Shape ∧ c.Shape < m.Shapes.length ∧ (c.Queue.length : Int) ≤ (CN m c.Shape).Room := by
      have hr : (CN m c.Shape).Room = (m.Shapes.getD c.Shape.toNat default).Room := rfl
      rw [hr]
      generalize (m.Shapes.getD c.Shape.toNat default).Room = rm at h ⊢
      simp at h; omega
    have e : Dp m c = B3 c.Queue.length fun i => BE (CN m c.Shape).Fields (c.Queue.getD i []) := by
      unfold Dp
      rw [Cn.2 ⟨hs.1, hs.2.1⟩, show decide ((c.Queue.length : Int) ≤ (CN m c.Shape).Room) = true by simpa using hs.2.2]; rfl
    rw [e]
    refine AI Am An c.Queue.length (fun k => Nh m c k) (fun k => ∀ i, i < k → BE (CN m c.Shape).Fields (c.Queue.getD i []) = true) (by kernel_rfl) (by kernel_rfl) (fun i hi => by omega) ?_
    intro k hk hI J next
    refine A9.raw (O5 _ m c k J) ⟨fun hlt => ?_, fun hge => As ?_⟩
    · have hlt' : k < c.Queue.length := by have := AQ hlt; omega
      refine ⟨⟨by omega, by omega⟩, ⟨hs.1, hs.2.1⟩, BE (CN m c.Shape).Fields (c.Queue.getD k []), Io (hc.m _ (AF hlt')), fun hy => As ?_, fun hy => next _ hlt' (Bx hI (by simpa using hy)) (Up.of ?_)⟩
      · exact (Bg (f := fun i => BE (CN m c.Shape).Fields (c.Queue.getD i [])) hlt' (by simpa using hy)).symm
      · rw [Ap (by omega)]; rfl
    · have hge' : c.Queue.length ≤ k := by have := AV hge; omega
      exact (AW.2 fun i hi => hI i (by omega)).symm
theorem OG {m : D.Model} {p : D.Process} (hp : Len p.Frame.length) : Ae Tryz.prog 73 [] [.agg (Ac m), .agg (Ak p)] [] (Ai (BL m p)) := by
  have hpr : (Bo m p.Type_) = m.Procs.getD p.Type_.toNat default := rfl
  refine Ah Am An Tryz.func73 (by kernel_rfl) rfl (QA _ m p) ⟨fun h => As ?_, fun h => ⟨?_, BE (Bo m p.Type_).Frame p.Frame, fun _ => Io hp, As ?_⟩⟩
  · unfold BL BN
    have : (decide (0 ≤ p.Type_) && decide (p.Type_ < m.Procs.length) && decide (p.Type_ ≠ m.Claim)) = false := by
      rw [Bool.eq_false_iff]; intro hc; simp at hc h; omega
    rw [this]; rfl
  · simp at h; omega
  · unfold BL BN inP
    have : (decide (0 ≤ p.Type_) && decide (p.Type_ < m.Procs.length) && decide (p.Type_ ≠ m.Claim)) = true := by simp at h ⊢; omega
    rw [this, Bool.true_and, ← hpr]
    simp only [ieq, AS, ge_iff_le]
structure Bl (s : D.State) : Prop where
  g : Len s.Globals.length
  c : Len s.Chans.length
  p : Len s.Procs.length
  cs : ∀ c ∈ s.Chans, ZF c
  ps : ∀ p ∈ s.Procs, Len p.Frame.length
theorem N9 {m : D.Model} {s : D.State} (hs : Bl s) (hcl : m.Claim < m.Procs.length) : Ae Tryz.prog 47 [] [.agg (Ac m), .agg (Ig false s)] [] (Ai (Cw m s)) := by
  have hc := hs.c
  have hp := hs.p
  unfold Len at hc hp
  have ht : (bif bif bif bif bif bif !(BE m.Globals s.Globals) then true else decide ((s.Chans.length : Int) > 32) then true else decide ((s.Procs.length : Int) > 16) then true else decide (s.Last < 0) then true else decide (s.Last ≥ 16) then true else decide (s.Alone < (-1 : Int)) then true else decide (s.Alone ≥ (s.Procs.length : Int))) = !(F4 m s) := by
    unfold F4
    cases BE m.Globals s.Globals
    · rfl
    · rw [Bool.eq_iff_iff]; simp; omega
  refine Ah Am An Tryz.func47 (by kernel_rfl) rfl (Sc _ m s) ⟨BE m.Globals s.Globals, Io hs.g, ?_⟩
  rw [ht]
  have e0 : Cw m s = (F4 m s && (B3 s.Chans.length fun i => Dp m (s.Chans.getD i default)) && (B3 s.Procs.length fun i => BL m (s.Procs.getD i default)) && FE m s) := rfl
  generalize Cw m s = b at e0 ⊢
  refine ⟨fun h => As ?_, fun h => ?_⟩
  · rw [show F4 m s = false by simpa using h] at e0; rw [e0]; rfl
  rw [show F4 m s = true by simpa using h, Bool.true_and] at e0
  refine AI Am An s.Chans.length (fun k => Uo m s k) (fun k => ∀ i, i < k → Dp m (s.Chans.getD i default) = true) (by kernel_rfl) (by kernel_rfl) (fun i hi => by omega) ?_
  intro k hk hI J next
  refine A9.raw (PP _ m s k J) ⟨fun hlt => ?_, fun hge => ?_⟩
  · have hlt' : k < s.Chans.length := by have := AQ hlt; omega
    refine ⟨⟨by omega, by omega⟩, Dp m (s.Chans.getD k default), O4 (hs.cs _ (AF hlt')), fun hy => As ?_, fun hy => next _ hlt' (Bx hI (by simpa using hy)) (Up.of ?_)⟩
    · rw [Bg (f := fun i => Dp m (s.Chans.getD i default)) hlt' (by simpa using hy)] at e0
      rw [e0]; rfl
    · rw [Ap (by omega)]; rfl
  have hge' : s.Chans.length ≤ k := by have := AV hge; omega
  rw [(AW (n := s.Chans.length) (f := fun i => Dp m (s.Chans.getD i default))).2 fun i hi => hI i (by omega), Bool.true_and] at e0
  clear hI next
  refine AI Am An s.Procs.length (fun k => Un m s k) (fun k => ∀ i, i < k → BL m (s.Procs.getD i default) = true) (by kernel_rfl) (by kernel_rfl) (fun i hi => by omega) ?_
  intro k hk hI J next
  refine A9.raw (PO _ m s k J) ⟨fun hlt => ?_, fun hge => ?_⟩
  · have hlt' : k < s.Procs.length := by have := AQ hlt; omega
    refine ⟨⟨by omega, by omega⟩, BL m (s.Procs.getD k default), OG (hs.ps _ (AF hlt')), fun hy => As ?_, fun hy => next _ hlt' (Bx hI (by simpa using hy)) (Up.of ?_)⟩
    · rw [Bg (f := fun i => BL m (s.Procs.getD i default)) hlt' (by simpa using hy)] at e0
      rw [e0]; rfl
    · rw [Ap (by omega)]; rfl
  have hge' : s.Procs.length ≤ k := by have := AV hge; omega
  rw [(AW (n := s.Procs.length) (f := fun i => BL m (s.Procs.getD i default))).2 fun i hi => hI i (by omega), Bool.true_and] at e0
  unfold FE at e0
  refine ⟨fun h2 => As ?_, fun h2 => ⟨fun _ => ⟨?_, hcl⟩, As ?_⟩⟩
  · rw [h2, cond_true] at e0; rw [e0, ieq]
  · have := of_decide_eq_false h2; omega
  · rw [h2, cond_false] at e0
    rw [e0, AS]; rfl
theorem PN {m : D.Model} {s : D.State} (hs : Bl s) (hcl : m.Claim < m.Procs.length) : Ae Tryz.prog 47 [] [.agg (Ac m), .agg (Ax s)] [] (Ai (Cw m s)) := by
  refine (N9 hs hcl).frz rfl fun j x y hx hy => ?_
  match j, hx, hy with
  | 0, hx, hy => simp only [List.getElem?_cons_zero, Option.some.injEq] at hx hy; subst hx hy; exact CJ _
  | 1, hx, hy =>
    simp only [List.getElem?_cons_succ, List.getElem?_cons_zero, Option.some.injEq] at hx hy
    subst hx hy
    refine UN rfl fun j x y hx hy => ?_
    match j, hx, hy with
    | 0, hx, hy => simp only [Ax, Ig, List.getElem?_cons_zero, Option.some.injEq] at hx hy; subst hx hy; exact CJ _
    | 1, hx, hy => simp only [Ax, Ig, List.getElem?_cons_succ, List.getElem?_cons_zero, Option.some.injEq] at hx hy; subst hx hy; exact JV
    | 2, hx, hy => simp only [Ax, Ig, List.getElem?_cons_succ, List.getElem?_cons_zero, Option.some.injEq] at hx hy; subst hx hy; exact JV
    | 3, hx, hy => simp only [Ax, Ig, List.getElem?_cons_succ, List.getElem?_cons_zero, Option.some.injEq] at hx hy; subst hx hy; exact CJ _
    | 4, hx, hy => simp only [Ax, Ig, List.getElem?_cons_succ, List.getElem?_cons_zero, Option.some.injEq] at hx hy; subst hx hy; exact CJ _
    | 5, hx, hy => simp only [Ax, Ig, List.getElem?_cons_succ, List.getElem?_cons_zero, Option.some.injEq] at hx hy; subst hx hy; exact CJ _
    | j + 6, hx, hy => simp [Ax] at hx
  | j + 2, hx, hy => simp at hx
theorem YM {m : D.Model} (hw : AN m) : Ae Tryz.prog 46 [] [.agg (Ac m)] [] (Ai (H6 m)) :=
  Ah Am An Tryz.func46 (by kernel_rfl) rfl (Aav _ m) ⟨Hd m, TF hw, As (ieq _ _)⟩
theorem Gf {m : D.Model} {s : D.State} (hw : AN m) (hs : Bl s) (hcl : H6 m = true → m.Claim < m.Procs.length) : Ae Tryz.prog 25 [] [.agg (Ac m), .agg (Ax s)] [] (Ad (CG m s)) := by
  refine Ah Am An Tryz.func25 (by kernel_rfl) rfl (PQ _ m s) ⟨H6 m, YM hw, fun h => BJ ?_, fun h => ⟨Cw m s, PN hs (hcl (by simpa using h)), fun h2 => BJ ?_, fun h2 => BJ ?_⟩⟩
  · unfold CG; rw [show H6 m = false by simpa using h]; rfl
  · unfold CG; rw [show H6 m = true by simpa using h, show Cw m s = false by simpa using h2]; rfl
  · unfold CG; rw [show H6 m = true by simpa using h, show Cw m s = true by simpa using h2]; rfl
theorem Fit.small {s : D.State} (h : Fit s) : Bl s := by
  have hg := h.g
  have hc := h.c
  have hp := h.p
  refine ⟨by unfold Len; omega, by unfold Len; omega, by unfold Len; omega, fun c hc => ⟨by have := (h.q c hc).1; unfold Len; omega, fun x hx => by have := (h.q c hc).2 x hx; unfold Len; omega⟩, fun p hp => by have := h.f p hp; unfold Len; omega⟩
theorem P7 {s : D.State} (h : Lf s) : Bl s := by
  have hg := h.Globals.1
  have hc := h.Chans.1
  have hp := h.Procs.1
  refine ⟨by unfold Len; omega, by unfold Len; omega, by unfold Len; omega, fun c hc => ⟨by have := (h.Chans.2 c hc).Queue.1; unfold Len; omega, fun x hx => by have := ((h.Chans.2 c hc).Queue.2 x hx).1; unfold Len; omega⟩, fun p hp => by have := (h.Procs.2 p hp).Frame.1; unfold Len; omega⟩
theorem IH {m : D.Model} {s : D.State} (h : CG m s = 0) : H6 m = true ∧ Cw m s = true := by
  unfold CG at h
  cases h1 : H6 m <;> cases h2 : Cw m s <;> simp [h1, h2] at h ⊢
end Go.Proofs.YtiaebjpcgjkhoaaGreatDoor
namespace Go.Proofs.YtiaebjpcgjkhoaaGreatDoor
open Go.RowKit
structure BU (w w' : World) (F : Nat → Prop) : Prop where
  os : w'.os = w.os
  tape : w'.tape = w.tape
  output : w'.output = w.output
  size : w.heap.size ≤ w'.heap.size
  block : ∀ k, k < w.heap.size → ¬ F k → w'.heap[k]? = w.heap[k]?
theorem BU.refl (w : World) (F : Nat → Prop) : BU w w F := ⟨rfl, rfl, rfl, Nat.le_refl _, fun _ _ _ => rfl⟩
theorem BU.drew {w w' : World} {F : Nat → Prop} (h : BU w w' F) : BU w w'.drew F := ⟨h.os, h.tape, h.output, h.size, h.block⟩
theorem BU.alloc {w w' : World} {F : Nat → Prop} (h : BU w w' F) (o : Obj) : BU w (w'.alloc o) F :=
  ⟨h.os, h.tape, h.output, Nat.le_trans h.size (by simp), fun k hk hn => (Below.heap_alloc w' o k (Nat.lt_of_lt_of_le hk h.size)).trans (h.block k hk hn)⟩
theorem BU.setCell {w w' : World} {F : Nat → Prop} (h : BU w w' F) {p : Addr} (hp : F p.block ∨ w.heap.size ≤ p.block) (u : Value) : BU w (w'.setCell p u) F :=
  ⟨h.os, h.tape, h.output, by simpa [World.setCell] using h.size, fun k hk hn =>
    (Below.heap_setCell w' p u k (by rintro rfl; rcases hp with hp | hp; exact hn hp; omega)).trans (h.block k hk hn)⟩
theorem BU.grown {w w' w'' : World} {F : Nat → Prop} {row : Option Nat} (h : BU w w' F) (hg : w'.grownBy w'' row) (hr : ∀ k, row = some k → F k ∨ w.heap.size ≤ k) : BU w w'' F :=
  ⟨hg.os.trans h.os, hg.tape.trans h.tape, hg.output.trans h.output, Nat.le_trans h.size hg.size, fun k hk hn =>
    (hg.block k (Nat.lt_of_lt_of_le hk h.size) (fun e => by rcases hr k e.symm with h1 | h1; exact hn h1; omega)).trans (h.block k hk hn)⟩
theorem BU.trans {a b c : World} {F G : Nat → Prop} (h : BU a b F) (k : BU b c G) (hG : ∀ i, G i → F i ∨ a.heap.size ≤ i) : BU a c F :=
  ⟨k.os.trans h.os, k.tape.trans h.tape, k.output.trans h.output, Nat.le_trans h.size k.size, fun i hi hn =>
    (k.block i (Nat.lt_of_lt_of_le hi h.size) (fun hg => by rcases hG i hg with h1 | h1; exact hn h1; omega)).trans (h.block i hi hn)⟩
theorem BU.below {w w' : World} {F : Nat → Prop} {B : Nat} (h : BU w w' F) (hB : B ≤ w.heap.size) (hF : ∀ k, F k → B ≤ k) : Below B w w' :=
  ⟨h.os, h.tape, h.output, h.size, fun k hk => h.block k (Nat.lt_of_lt_of_le hk hB) (fun hf => by have := hF k hf; omega)⟩
theorem BU.of_below {w w' : World} {F : Nat → Prop} (h : Below w.heap.size w w') : BU w w' F :=
  ⟨h.os, h.tape, h.output, h.size, fun k hk _ => h.block k hk⟩
theorem BU.mono {w w' : World} {F G : Nat → Prop} (h : BU w w' F) (hFG : ∀ k, F k → G k ∨ w.heap.size ≤ k) : BU w w' G :=
  ⟨h.os, h.tape, h.output, h.size, fun k hk hn => h.block k hk (fun hf => by rcases hFG k hf with h1 | h1; exact hn h1; omega)⟩
theorem C3 {w w' : World} {base : Nat} {e : TypeId} {size : Nat} {v : Value} {n : Nat} {xs : List Value} (h : w.ownsRow base e size v n xs)
    (hs : ∀ k, v.ownBlock = some k → w'.heap[k]? = w.heap[k]?) : w'.ownsRow base e size v n xs := by
  refine ⟨h.1, ?_⟩
  rcases h.2 with hn | ⟨g, cap, cur, rfl, hb, hg, rest⟩
  · exact .inl hn
  · exact .inr ⟨g, cap, cur, rfl, hb, by rw [hs g rfl]; exact hg, rest⟩
theorem C1 {w : World} {base : Nat} {e : TypeId} {size : Nat} {v : Value} {n : Nat} {xs : List Value} (h : w.ownsRow base e size v n xs) {k : Nat} (hk : v.ownBlock = some k) : ∃ cur, w.heap[k]? = some (.cells cur e (0, 0)) := by
  rcases h.2 with ⟨rfl, _⟩ | ⟨g, cap, cur, rfl, hb, hg, rest⟩
  · simp [Value.ownBlock] at hk
  · simp [Value.ownBlock] at hk; subst hk; exact ⟨cur, hg⟩
theorem C4 {w : World} {b : Nat} {o : Obj} (h : w.heap[b]? = some o) : b < w.heap.size := lt_of_block h
theorem Mn {w : World} {a b : Nat} {c d : Array Value} {s t : TypeId} {f g : Nat × Nat} (ha : w.heap[a]? = some (.cells c s f)) (hb : w.heap[b]? = some (.cells d t g)) (hst : s ≠ t) : a ≠ b := by
  rintro rfl; rw [ha] at hb; simp at hb; exact hst hb.2.1
theorem AG {w : World} {b i : Nat} {cs : Array Value} {t : TypeId} {v : Value} (h : w.heap[b]? = some (.cells cs t (0, 0))) (hi : cs[i]? = some v) : w.cell? ⟨b, i, none⟩ = some v := by
  simp [World.cell?, h, hi]
theorem BC {w : World} {b i : Nat} {cs : Array Value} {t : TypeId} (h : w.heap[b]? = some (.cells cs t (0, 0))) : w.frozen? ⟨b, i, none⟩ = false := by
  simp [World.frozen?, h]
theorem DD {w : World} {b i : Nat} {cs : Array Value} {t : TypeId} (h : w.heap[b]? = some (.cells cs t (0, 0))) (u : Value) : (w.setCell ⟨b, i, none⟩ u).heap[b]? = some (.cells (cs.setIfInBounds i u) t (0, 0)) :=
  heap_setCell_same w b i cs t u h
end Go.Proofs.YtiaebjpcgjkhoaaGreatDoor
namespace Go.Proofs.YtiaebjpcgjkhoaaGreatDoor
open Go.RowKit
theorem Eu {P : Program} {t : TypeId} {z : Value} {s b : Nat} (h : (P.info? t).map (fun i => (i.zero, i.size, i.bytes)) = some (some z, s, b)) : ∃ i, P.info? t = some i ∧ i.zero = some z ∧ i.size = s ∧ i.bytes = b := by
  cases hi : P.info? t with
  | none => rw [hi] at h; cases h
  | some i => rw [hi] at h; simp only [Option.map_some, Option.some.injEq, Prod.mk.injEq] at h; exact ⟨i, rfl, h⟩
theorem QY : (Tryz.prog.info? 2).map (fun i => (i.zero, i.size, i.bytes)) = some (some (.int .i64 0), 1, 8) := by kernel_rfl
theorem Aas {w : World} {n0 : Nat} {e : TypeId} {v : Value} {n : Nat} {xs : List Value} (h : w.ownsRow n0 e 1 v n xs) :
    ∃ ao cap, v = .slice ao n cap ∧ n ≤ cap ∧ cap ≤ maxLen ∧ (0 < n → ∃ g, ao = some ⟨g, 0, none⟩ ∧ n0 ≤ g ∧ g < w.heap.size ∧ ∀ j, j < n → w.cell? ⟨g, j, none⟩ = xs[j]?) := by
  rcases h.2 with ⟨rfl, rfl⟩ | ⟨g, cap, cur, rfl, hb, hg, h1, h2, _⟩
  · exact ⟨none, 0, rfl, Nat.le_refl _, Nat.zero_le _, fun h => by omega⟩
  · exact ⟨_, cap, rfl, h1, h2, fun _ => ⟨g, rfl, hb, C4 hg, fun j hj => h.cellAt j (by omega)⟩⟩
theorem PF {w : World} {E : AU} {m : Option Phi} {n0 : Nat} {v : Value} {xs : List Int} (h : w.ownsRow n0 2 1 v xs.length (xs.map (Value.int .i64))) (hA : ∀ k, E.fz k → k < n0) : V w E m (Aa true xs) v := by
  obtain ⟨ao, cap, rfl, h1, h2, h3⟩ := Aas h
  refine V.sl_mk h1 h2 fun hp => ?_
  obtain ⟨g, rfl, hg, hlt, hc⟩ := h3 hp
  refine ⟨g, 0, rfl, hlt, fun hk => by have := hA g hk; omega, fun i _ => rfl, fun i _ => .int .i64 (xs.getD i 0), fun i j y hi hy => ?_, fun i j y hi hy => ?_⟩
  · match j, hy with
    | 0, _ =>
      have := hc i hi
      simp only [Nat.zero_add, Nat.mul_one, Nat.add_zero]
      rw [this]; simp [List.getD, hi]
    | j + 1, hy => simp at hy
  · match j, hy with
    | 0, hy => simp only [List.getElem?_cons_zero, Option.some.injEq] at hy; subst hy; exact .sc
    | j + 1, hy => simp at hy
set_option maxHeartbeats 1000000 in
theorem KE {w : World} {ao : Option Addr} {cap : Nat} {xs : List Int} (h1 : xs.length ≤ cap) (h2 : cap ≤ maxLen) (hr : xs.length * 8 ≤ 140737488355328) (h3 : 0 < xs.length → ∃ a, ao = some a ∧ ∀ i, i < xs.length → w.cell? (a.add i) = some (.int .i64 (xs.getD i 0))) :
    Calls Tryz.prog 34 #[.slice ao xs.length cap] w fun e w' => ∃ v', e = .returned v' ∧ w'.ownsRow w.heap.size 2 1 v' xs.length (xs.map (Value.int .i64)) ∧ Below w.heap.size w w' := by
  have q22 : ∀ (w : World) (a : Option Addr) (n c n' c' : Nat), (binOp .eql 23 (.slice a n c) (.slice none n' c')).run Tryz.prog w = .ok (.bool a.isNone) w := fun w a n c n' c' => Lib.run_eql_slice_nil w _ _ a n c n' c' Tryz.underlying23
  obtain ⟨ki, khi, khz0, khz1, khz2⟩ := Eu QY
  cases ao with
  | none =>
    have h0 : xs = [] := by
      apply List.eq_nil_of_length_eq_zero
      apply Classical.byContradiction
      intro hp
      obtain ⟨_, e, _⟩ := h3 (by omega)
      cases e
    subst h0
    clear h3
    go_enter Tryz.func34, Tryz.ntmps34
    go_wp2
    go_ret
    exact ⟨_, rfl, World.ownsRow_nil _ _ _ _, Below.refl _ _⟩
  | some a =>
    have hn : ∀ (j : Nat) (u : Value), (xs.map (Value.int .i64))[j]? = some u → w.cell? (a.add j) = some u := by
      intro j u hj
      have hjl : j < xs.length := by have := (List.getElem?_eq_some_iff.1 hj).1; simpa using this
      obtain ⟨a', e, hc⟩ := h3 (by omega)
      simp only [Option.some.injEq] at e
      subst e
      rw [hc j hjl, ← hj]; simp [List.getD, hjl]
    have HN := Lib.hid hn
    clear h3 hn
    have hlen := h2
    unfold maxLen at hlen
    go_enter Tryz.func34, Tryz.ntmps34
    go_wp2_with (at_builtin; refine wpList_append_own _ rfl _ _ 23 rfl w.heap.size 2 ki (.int .i64 0) 1 8 Tryz.underlying23 khi khz0 khz1 khz2 rfl (by decide) _ _ _ rfl (World.ownsRow_made w #[] 0 (Nat.le_refl _) (Nat.zero_le _) (by simp)) a xs.length cap (xs.map (Value.int .i64)) rfl ?qc1 ?qc2 ?qc3 ?qc4 ?qc5 ?qc6 ?_)
    case qc1 => simp
    case qc2 => intro j u hj; have := HN.out j u hj; exact Lib.cell?_alloc_some _ this
    case qc3 => intro u hu; simp at hu; obtain ⟨x, _, rfl⟩ := hu; rfl
    case qc4 => unfold maxLen; omega
    case qc5 => omega
    case qc6 => simp
    intro v' w1 hown hgrow _
    go_wp2
    go_ret
    exact ⟨v', rfl, by simpa using hown, ((Below.refl _ w).alloc (Nat.le_refl _) _).grown hgrow (by simp) (by intro k hk; simp [Value.ownBlock] at hk; omega)⟩
theorem Mg {xs : List Int} (hr : xs.length * 8 ≤ 140737488355328) : Ae Tryz.prog 34 [] [Aa true xs] [] (Aa true xs) := by
  refine Ae.hand ⟨_, Tryz.func34, rfl, by kernel_rfl⟩ fun w E vs hA hL _ _ hs => ?_
  obtain ⟨u1, us1, rfl, v1, hs⟩ := hs.cons_inv
  obtain rfl := hs.nil_inv
  obtain ⟨ao, cap, rfl, h1, h2, h3⟩ := V.sl_inv v1
  refine (KE h1 h2 hr fun hp => ?_).mono ?_
  · obtain ⟨b, off, rfl, _, _, _, u, hc, hv⟩ := h3 hp
    refine ⟨_, rfl, fun i hi => ?_⟩
    have c1 := hc i 0 _ hi rfl
    have c2 := (hv i 0 _ hi rfl).sc_inv
    rw [Addr.add_lit]
    rw [c2] at c1
    simpa using c1
  · rintro e w' ⟨v', rfl, ho, hb⟩
    exact ⟨v', rfl, PF ho hA, hb⟩
end Go.Proofs.YtiaebjpcgjkhoaaGreatDoor
namespace Go.Proofs.YtiaebjpcgjkhoaaGreatDoor
open Go.RowKit
def CD (f : FuncId) : Shp :=
  bif Nat.beq f 51 || Nat.beq f 147 || Nat.beq f 100 || Nat.beq f 91 then VY
  else bif Nat.beq f 39 || Nat.beq f 92 || Nat.beq f 84 || Nat.beq f 116 || Nat.beq f 118 || Nat.beq f 82 || Nat.beq f 83 || Nat.beq f 86 || Nat.beq f 81 || Nat.beq f 117 || Nat.beq f 87 || Nat.beq f 52 || Nat.beq f 120 || Nat.beq f 121 then Ym
  else bif Nat.beq f 80 then Ot
  else bif Nat.beq f 34 || Nat.beq f 35 then Aae else Ir f
end Go.Proofs.YtiaebjpcgjkhoaaGreatDoor
namespace Go.Proofs.YtiaebjpcgjkhoaaGreatDoor
open Go.RowKit
abbrev Di : TypeId := 2
abbrev Fc : TypeId := 83
abbrev Dg : TypeId := 80
abbrev Dw : TypeId := 50
abbrev BG : TypeId := 33
theorem YZ : (Tryz.prog.info? Fc).map (fun i => (i.zero, i.size, i.bytes)) = some (some (.slice none 0 0), 1, 24) := by kernel_rfl
theorem W5 : (Tryz.prog.info? Dg).map (fun i => (i.zero, i.size, i.bytes)) = some (some (.agg #[.int .i64 0, .slice none 0 0]), 2, 32) := by kernel_rfl
theorem W4 : (Tryz.prog.info? Dw).map (fun i => (i.zero, i.size, i.bytes)) = some (some (.agg #[.int .i64 0, .int .i64 0, .int .i64 0, .slice none 0 0]), 4, 48) := by kernel_rfl
abbrev Gz (w : World) (n0 : Nat) (v : Value) (xs : List Int) : Prop := w.ownsRow n0 Di 1 v xs.length (xs.map (Value.int .i64))
structure Ga (w : World) (n0 : Nat) (v : Value) (vs : List Value) (q : List (List Int)) : Prop where
  row : w.ownsRow n0 Fc 1 v q.length vs
  len : vs.length = q.length
  each : ∀ (i : Nat) (u : Value) (m : List Int), vs[i]? = some u → q[i]? = some m → Gz w n0 u m
def D1 : List D.Chan → List Value → List Value
  | c :: cs, q :: qs => .int .i64 c.Shape :: q :: D1 cs qs
  | _, _ => []
def CU : List D.Process → List Value → List Value
  | p :: ps, f :: fs => .int .i64 p.Type_ :: .int .i64 p.Loc :: .int .i64 p.Prio :: f :: CU ps fs
  | _, _ => []
structure EG (w : World) (n0 : Nat) (v : Value) (qs : List Value) (cs : List D.Chan) : Prop where
  row : w.ownsRow n0 Dg 2 v cs.length (D1 cs qs)
  len : qs.length = cs.length
  each : ∀ (i : Nat) (u : Value) (c : D.Chan), qs[i]? = some u → cs[i]? = some c → ∃ vs, Ga w n0 u vs c.Queue
structure DL (w : World) (n0 : Nat) (v : Value) (fs : List Value) (ps : List D.Process) : Prop where
  row : w.ownsRow n0 Dw 4 v ps.length (CU ps fs)
  len : fs.length = ps.length
  each : ∀ (i : Nat) (u : Value) (p : D.Process), fs[i]? = some u → ps[i]? = some p → Gz w n0 u p.Frame
  apart : ∀ (i j : Nat) (u v : Value) (k : Nat), i < j → fs[i]? = some u → fs[j]? = some v → u.ownBlock = some k → v.ownBlock ≠ some k
section
variable {w w' : World} {n0 n1 : Nat}
theorem CH {e : TypeId} {sz : Nat} {v : Value} {n : Nat} {xs : List Value} (h : w.ownsRow n0 e sz v n xs) :
    ∃ ao cap, v = .slice ao n cap ∧ n ≤ cap ∧ cap ≤ maxLen ∧ (0 < n → ∃ g, ao = some ⟨g, 0, none⟩ ∧ n0 ≤ g ∧ g < w.heap.size ∧ ∀ j, j < n * sz → w.cell? ⟨g, j, none⟩ = xs[j]?) := by
  rcases h.2 with ⟨rfl, rfl⟩ | ⟨g, cap, cur, rfl, hb, hg, h1, h2, _⟩
  · exact ⟨none, 0, rfl, Nat.le_refl _, Nat.zero_le _, fun h => by omega⟩
  · exact ⟨_, cap, rfl, h1, h2, fun _ => ⟨g, rfl, hb, C4 hg, fun j hj => h.cellAt j hj⟩⟩
theorem BV {e : TypeId} {sz : Nat} {v : Value} {n : Nat} {xs : List Value} (h : w.ownsRow n0 e sz v n xs) (hb : n1 ≤ n0) : w.ownsRow n1 e sz v n xs :=
  ⟨h.1, h.2.imp id fun ⟨g, cap, cur, e, h1, h2⟩ => ⟨g, cap, cur, e, Nat.le_trans hb h1, h2⟩⟩
abbrev B4 (w w' : World) (n0 : Nat) (ts : List TypeId) : Prop := ∀ (k : Nat) (cur : Array Value) (t : TypeId), n0 ≤ k → k < w.heap.size → w.heap[k]? = some (.cells cur t (0, 0)) → t ∈ ts → w'.heap[k]? = w.heap[k]?
theorem BS {e : TypeId} {sz : Nat} {v : Value} {n : Nat} {xs : List Value} {ts : List TypeId} (h : w.ownsRow n0 e sz v n xs) (hk : B4 w w' n0 ts) (he : e ∈ ts) : w'.ownsRow n0 e sz v n xs :=
  C3 h fun k e1 => by
    obtain ⟨cur, hc⟩ := C1 h e1
    exact hk k cur e (h.lt k e1).1 (h.lt k e1).2 hc he
theorem Ga.kept {v : Value} {vs : List Value} {q : List (List Int)} {ts : List TypeId} (h : Ga w n0 v vs q) (hk : B4 w w' n0 ts) (h1 : Fc ∈ ts) (h2 : Di ∈ ts) : Ga w' n0 v vs q :=
  ⟨BS h.row hk h1, h.len, fun i u m hu hm => BS (h.each i u m hu hm) hk h2⟩
theorem EG.kept {v : Value} {qs : List Value} {cs : List D.Chan} {ts : List TypeId} (h : EG w n0 v qs cs) (hk : B4 w w' n0 ts) (h0 : Dg ∈ ts) (h1 : Fc ∈ ts) (h2 : Di ∈ ts) : EG w' n0 v qs cs :=
  ⟨BS h.row hk h0, h.len, fun i u c hu hc => by obtain ⟨vs, hq⟩ := h.each i u c hu hc; exact ⟨vs, hq.kept hk h1 h2⟩⟩
theorem DL.kept {v : Value} {fs : List Value} {ps : List D.Process} {ts : List TypeId} (h : DL w n0 v fs ps) (hk : B4 w w' n0 ts) (h0 : Dw ∈ ts) (h2 : Di ∈ ts) : DL w' n0 v fs ps :=
  ⟨BS h.row hk h0, h.len, fun i u p hu hp => BS (h.each i u p hu hp) hk h2, h.apart⟩
theorem Ga.base {v : Value} {vs : List Value} {q : List (List Int)} (h : Ga w n0 v vs q) (hb : n1 ≤ n0) : Ga w n1 v vs q :=
  ⟨BV h.row hb, h.len, fun i u m hu hm => BV (h.each i u m hu hm) hb⟩
theorem B4.of {ts : List TypeId} (h : ∀ k, n0 ≤ k → k < w.heap.size → w'.heap[k]? = w.heap[k]?) : B4 w w' n0 ts := fun k _ _ h0 h1 _ _ => h k h0 h1
theorem B4.below {ts : List TypeId} (h : Below w.heap.size w w') : B4 w w' n0 ts := B4.of fun k _ hk => h.block k hk
theorem B4.alloc {ts : List TypeId} (o : Obj) : B4 w (w.alloc o) n0 ts := B4.of fun _ _ hk => Below.heap_alloc _ _ _ hk
theorem B4.grown {e : TypeId} {sz : Nat} {v : Value} {n : Nat} {xs : List Value} {ts : List TypeId} (hg : w.grownBy w' v.ownBlock) (hr : w.ownsRow n1 e sz v n xs) (he : e ∉ ts) : B4 w w' n0 ts := fun k cur t _ h1 hk ht =>
  hg.block k h1 fun e1 => by
    obtain ⟨c2, e2⟩ := C1 hr e1.symm
    exact Mn hk e2 (by rintro rfl; exact he ht) rfl
theorem B4.set {ts : List TypeId} {b i : Nat} {c : Array Value} {t : TypeId} {f : Nat × Nat} {u : Value} (hb : w.heap[b]? = some (.cells c t f)) (ht : t ∉ ts) : B4 w (w.setCell ⟨b, i, none⟩ u) n0 ts := fun k cur t' _ _ hk ht' =>
  Below.heap_setCell _ _ _ _ (by rintro rfl; exact Mn hk hb (by rintro rfl; exact ht ht') rfl)
theorem B4.low {ts : List TypeId} {b i : Nat} {u : Value} (hb : b < n0) : B4 w (w.setCell ⟨b, i, none⟩ u) n0 ts := B4.of fun k h0 _ => Below.heap_setCell _ _ _ _ (by rintro rfl; omega)
theorem B4.trans {w'' : World} {ts : List TypeId} (h : B4 w w' n0 ts) (k : B4 w' w'' n0 ts) (hs : w.heap.size ≤ w'.heap.size) : B4 w w'' n0 ts := fun b cur t h0 h1 hb ht => by
  have e := h b cur t h0 h1 hb ht
  exact (k b cur t h0 (Nat.lt_of_lt_of_le h1 hs) (e.trans hb) ht).trans e
theorem Ga.nil (w : World) (n0 : Nat) : Ga w n0 (.slice none 0 0) [] [] := ⟨World.ownsRow_nil _ _ _ _, rfl, fun i x m h => by simp at h⟩
theorem EG.nil (w : World) (n0 : Nat) : EG w n0 (.slice none 0 0) [] [] := ⟨World.ownsRow_nil _ _ _ _, rfl, fun i x m h => by simp at h⟩
theorem DL.nil (w : World) (n0 : Nat) : DL w n0 (.slice none 0 0) [] [] := ⟨World.ownsRow_nil _ _ _ _, rfl, fun i x m h => by simp at h, fun i j u v k _ h => by simp at h⟩
theorem J4 {α : Type} {R : Value → α → Prop} {vs : List Value} {l : List α} {u : Value} {a : α} (hl : vs.length = l.length) (h : ∀ (i : Nat) x y, vs[i]? = some x → l[i]? = some y → R x y) (h2 : R u a) : ∀ (i : Nat) x y, (vs ++ [u])[i]? = some x → (l ++ [a])[i]? = some y → R x y := by
  intro i x y hx hy
  by_cases hi : i < l.length
  · rw [List.getElem?_append_left (by rw [hl]; exact hi)] at hx
    rw [List.getElem?_append_left hi] at hy
    exact h i x y hx hy
  · have hil : i < l.length + 1 := by have := (List.getElem?_eq_some_iff.1 hy).1; simpa using this
    obtain rfl : i = l.length := by omega
    rw [List.getElem?_append_right (Nat.le_refl _)] at hy
    rw [List.getElem?_append_right (by rw [hl]; exact Nat.le_refl _)] at hx
    simp [hl] at hx hy
    subst hx hy
    exact h2
theorem Ga.more {v v' u : Value} {vs : List Value} {q : List (List Int)} {m : List Int} (h : Ga w n0 v vs q) (hm : Gz w n0 u m)
    (hr : w'.ownsRow n0 Fc 1 v' (q.length + 1) (vs ++ [u])) (hg : w.grownBy w' v.ownBlock) : Ga w' n0 v' (vs ++ [u]) (q ++ [m]) := by
  have hk : B4 w w' n0 [Di] := B4.grown hg h.row (by decide)
  exact ⟨by simpa using hr, by simp [h.len], J4 (R := Gz w' n0) h.len (fun i x l hx hl => BS (h.each i x l hx hl) hk (by simp)) (BS hm hk (by simp))⟩
theorem KG : ∀ {cs : List D.Chan} {qs : List Value} {c : D.Chan} {q : Value}, qs.length = cs.length → D1 (cs ++ [c]) (qs ++ [q]) = D1 cs qs ++ [.int .i64 c.Shape, q]
  | [], [], c, q, _ => rfl
  | d :: cs, r :: qs, c, q, h => by
    have := KG (cs := cs) (qs := qs) (c := c) (q := q) (by simpa using h)
    simp only [List.cons_append, D1, this]
  | [], _ :: _, _, _, h => by simp at h
  | _ :: _, [], _, _, h => by simp at h
theorem KF : ∀ {ps : List D.Process} {fs : List Value} {p : D.Process} {f : Value}, fs.length = ps.length → CU (ps ++ [p]) (fs ++ [f]) = CU ps fs ++ [.int .i64 p.Type_, .int .i64 p.Loc, .int .i64 p.Prio, f]
  | [], [], _, _, _ => rfl
  | d :: ps, r :: fs, p, f, h => by
    have := KF (ps := ps) (fs := fs) (p := p) (f := f) (by simpa using h)
    simp only [List.cons_append, CU, this]
  | [], _ :: _, _, _, h => by simp at h
  | _ :: _, [], _, _, h => by simp at h
theorem EG.more {v v' u : Value} {qs vs : List Value} {cs : List D.Chan} {c : D.Chan} (h : EG w n0 v qs cs) (hq : Ga w n0 u vs c.Queue)
    (hr : w'.ownsRow n0 Dg 2 v' (cs.length + 1) (D1 cs qs ++ [.int .i64 c.Shape, u])) (hg : w.grownBy w' v.ownBlock) : EG w' n0 v' (qs ++ [u]) (cs ++ [c]) := by
  have hk : B4 w w' n0 [Fc, Di] := B4.grown hg h.row (by decide)
  refine ⟨by rw [KG h.len]; simpa using hr, by simp [h.len], J4 (R := fun u c => ∃ vs, Ga w' n0 u vs c.Queue) h.len (fun i x l hx hl => ?_) ⟨vs, hq.kept hk (by simp) (by simp)⟩⟩
  obtain ⟨vs, hv⟩ := h.each i x l hx hl
  exact ⟨vs, hv.kept hk (by simp) (by simp)⟩
theorem DL.more {v v' u : Value} {fs : List Value} {ps : List D.Process} {p : D.Process} (h : DL w n0 v fs ps) (hf : Gz w n0 u p.Frame) (hnew : ∀ (i : Nat) (x : Value) (k : Nat), fs[i]? = some x → x.ownBlock = some k → u.ownBlock ≠ some k)
    (hr : w'.ownsRow n0 Dw 4 v' (ps.length + 1) (CU ps fs ++ [.int .i64 p.Type_, .int .i64 p.Loc, .int .i64 p.Prio, u])) (hg : w.grownBy w' v.ownBlock) : DL w' n0 v' (fs ++ [u]) (ps ++ [p]) := by
  have hk : B4 w w' n0 [Di] := B4.grown hg h.row (by decide)
  refine ⟨by rw [KF h.len]; simpa using hr, by simp [h.len], J4 (R := fun u p => Gz w' n0 u p.Frame) h.len (fun i x l hx hl => BS (h.each i x l hx hl) hk (by simp)) (BS hf hk (by simp)), ?_⟩
  intro i j x y k hij hx hy ex
  have hj : j < fs.length + 1 := by have := (List.getElem?_eq_some_iff.1 hy).1; simpa using this
  rw [List.getElem?_append_left (by omega)] at hx
  by_cases hjl : j < fs.length
  · rw [List.getElem?_append_left hjl] at hy
    exact h.apart i j x y k hij hx hy ex
  · obtain rfl : j = fs.length := by omega
    rw [List.getElem?_append_right (Nat.le_refl _)] at hy
    simp at hy
    subst hy
    exact hnew i x k hx ex
theorem Mk : ∀ {cs : List D.Chan} {qs : List Value} {i : Nat}, qs.length = cs.length → i < cs.length → (D1 cs qs)[i * 2]? = some (.int .i64 (cs.getD i default).Shape) ∧ (D1 cs qs)[i * 2 + 1]? = qs[i]?
  | d :: cs, r :: qs, 0, _, _ => ⟨rfl, rfl⟩
  | d :: cs, r :: qs, i + 1, h, hi => by
    have := Mk (cs := cs) (qs := qs) (i := i) (by simpa using h) (by simpa using hi)
    rw [show (i + 1) * 2 = i * 2 + 2 by omega]
    simpa [D1] using this
  | [], _, _, _, h => by simp at h
  | _ :: _, [], _, h, _ => by simp at h
theorem IJ : ∀ {ps : List D.Process} {fs : List Value} {i : Nat}, fs.length = ps.length → i < ps.length → (CU ps fs)[i * 4]? = some (.int .i64 (ps.getD i default).Type_) ∧ (CU ps fs)[i * 4 + 1]? = some (.int .i64 (ps.getD i default).Loc) ∧ (CU ps fs)[i * 4 + 2]? = some (.int .i64 (ps.getD i default).Prio) ∧ (CU ps fs)[i * 4 + 3]? = fs[i]?
  | d :: ps, r :: fs, 0, _, _ => ⟨rfl, rfl, rfl, rfl⟩
  | d :: ps, r :: fs, i + 1, h, hi => by
    have := IJ (ps := ps) (fs := fs) (i := i) (by simpa using h) (by simpa using hi)
    rw [show (i + 1) * 4 = i * 4 + 4 by omega]
    simpa [CU] using this
  | [], _, _, _, h => by simp at h
  | _ :: _, [], _, h, _ => by simp at h
variable {E : AU} {m : Option Phi}
end
theorem Uy {w : World} {n0 g cap k : Nat} {xs : List Int} (h : Gz w n0 (.slice (some ⟨g, 0, none⟩) xs.length cap) xs) (x : Int) : Gz (w.setCell ⟨g, k, none⟩ (.int .i64 x)) n0 (.slice (some ⟨g, 0, none⟩) (xs.set k x).length cap) (xs.set k x) := by
  refine ⟨by simp, ?_⟩
  rcases h.2 with ⟨e, _⟩ | ⟨g', cap', cur, e, hb, hg, h1, h2, h3, h4⟩
  · simp at e
  · simp at e
    obtain ⟨rfl, rfl⟩ := e
    refine .inr ⟨g, cap, cur.setIfInBounds k (.int .i64 x), by simp, hb, DD hg _, by simpa using h1, h2, by simpa using h3, ?_⟩
    rw [Array.toList_setIfInBounds, List.take_set, List.map_set, List.length_set, h4]
theorem Mh : ∀ {ps : List D.Process} {fs : List Value} {i : Nat} {p' : D.Process}, p'.Type_ = (ps.getD i default).Type_ → p'.Loc = (ps.getD i default).Loc → p'.Prio = (ps.getD i default).Prio → CU (ps.set i p') fs = CU ps fs
  | [], _, _, _, _, _, _ => rfl
  | p :: ps, [], 0, _, _, _, _ => rfl
  | p :: ps, [], i + 1, _, _, _, _ => rfl
  | p :: ps, f :: fs, 0, p', h1, h2, h3 => by
    have e1 : p'.Type_ = p.Type_ := h1
    have e2 : p'.Loc = p.Loc := h2
    have e3 : p'.Prio = p.Prio := h3
    simp only [List.set_cons_zero, CU, e1, e2, e3]
  | p :: ps, f :: fs, i + 1, p', h1, h2, h3 => by
    have := Mh (ps := ps) (fs := fs) (i := i) (p' := p') h1 h2 h3
    simp only [List.set_cons_succ, CU, this]
theorem DL.write {w : World} {n0 g cap k i : Nat} {v : Value} {fs : List Value} {ps : List D.Process} (h : DL w n0 v fs ps) (hi : i < ps.length) (hf : fs[i]? = some (.slice (some ⟨g, 0, none⟩) (ps.getD i default).Frame.length cap)) (x : Int) :
    DL (w.setCell ⟨g, k, none⟩ (.int .i64 x)) n0 v fs (ps.set i { ps.getD i default with Frame := (ps.getD i default).Frame.set k x }) := by
  have hpi : ps[i]? = some (ps.getD i default) := by simp [List.getD, hi]
  have hr := h.each i _ _ hf hpi
  obtain ⟨cur, hblk⟩ := C1 hr (k := g) rfl
  have hk : B4 w (w.setCell ⟨g, k, none⟩ (.int .i64 x)) n0 [Dw] := B4.set hblk (by decide)
  refine ⟨by rw [Mh (p' := { ps.getD i default with Frame := (ps.getD i default).Frame.set k x }) rfl rfl rfl, List.length_set]; exact BS h.row hk (by simp), by simp [h.len], fun j u p hu hp => ?_, h.apart⟩
  by_cases hij : i = j
  · subst hij
    rw [hf] at hu
    simp only [Option.some.injEq] at hu
    subst hu
    rw [List.getElem?_set_self hi] at hp
    simp only [Option.some.injEq] at hp
    subst hp
    have := Uy (k := k) hr x
    simpa using this
  · rw [List.getElem?_set_ne hij] at hp
    refine C3 (h.each j u p hu hp) fun b hb => Below.heap_setCell _ _ _ _ ?_
    rintro rfl
    rcases Nat.lt_or_gt_of_ne hij with hl | hl
    · exact h.apart i j _ _ _ hl hf hu rfl hb
    · exact h.apart j i _ _ _ hl hu hf hb rfl
end Go.Proofs.YtiaebjpcgjkhoaaGreatDoor
namespace Go.Proofs.YtiaebjpcgjkhoaaGreatDoor
open Go.RowKit
def AtL (w : World) (n : Nat) (R : Nat → Nat → Nat → Prop) (v : Value) : Prop :=
  ∃ ao cap, v = .slice ao n cap ∧ n ≤ cap ∧ cap ≤ maxLen ∧ (0 < n → ∃ b off, ao = some ⟨b, off, none⟩ ∧ b < w.heap.size ∧ ∀ i, i < n → R b off i)
def AtI (w : World) (xs : List Int) (v : Value) : Prop := AtL w xs.length (fun b off i => w.cell? ⟨b, off + i, none⟩ = some (.int .i64 (xs.getD i 0))) v
def AtQ (w : World) (q : List (List Int)) (v : Value) : Prop := AtL w q.length (fun b off i => ∃ u, w.cell? ⟨b, off + i, none⟩ = some u ∧ AtI w (q.getD i []) u) v
def AtC (w : World) (cs : List D.Chan) (v : Value) : Prop :=
  AtL w cs.length (fun b off i => ∃ u, w.cell? ⟨b, off + i * 2, none⟩ = some (.int .i64 (cs.getD i default).Shape) ∧ w.cell? ⟨b, off + i * 2 + 1, none⟩ = some u ∧ AtQ w (cs.getD i default).Queue u) v
def AtP (w : World) (ps : List D.Process) (v : Value) : Prop :=
  AtL w ps.length (fun b off i => ∃ u, w.cell? ⟨b, off + i * 4, none⟩ = some (.int .i64 (ps.getD i default).Type_) ∧ w.cell? ⟨b, off + i * 4 + 1, none⟩ = some (.int .i64 (ps.getD i default).Loc) ∧ w.cell? ⟨b, off + i * 4 + 2, none⟩ = some (.int .i64 (ps.getD i default).Prio) ∧ w.cell? ⟨b, off + i * 4 + 3, none⟩ = some u ∧ AtI w (ps.getD i default).Frame u) v
section
variable {w : World} {E : AU} {m : Option Phi} {v : Value} {fz : Bool}
theorem Ab7 {xs : List Int} (h : V w E m (Aa fz xs) v) : AtI w xs v := by
  obtain ⟨ao, cap, rfl, h1, h2, h3⟩ := V.sl_inv h
  refine ⟨ao, cap, rfl, h1, h2, fun hp => ?_⟩
  obtain ⟨b, off, rfl, hb, _, _, u, hc, hv⟩ := h3 hp
  refine ⟨b, off, rfl, hb, fun i hi => ?_⟩
  have c1 := hc i 0 _ hi rfl
  have c2 := (hv i 0 _ hi rfl).sc_inv
  rw [c2] at c1
  simpa using c1
theorem Agw {q : List (List Int)} (h : V w E m (BA fz q) v) : AtQ w q v := by
  obtain ⟨ao, cap, rfl, h1, h2, h3⟩ := V.sl_inv h
  refine ⟨ao, cap, rfl, h1, h2, fun hp => ?_⟩
  obtain ⟨b, off, rfl, hb, _, _, u, hc, hv⟩ := h3 hp
  refine ⟨b, off, rfl, hb, fun i hi => ⟨u i 0, ?_, Ab7 (hv i 0 _ hi rfl)⟩⟩
  have c1 := hc i 0 _ hi rfl
  simpa using c1
theorem Agz {cs : List D.Chan} (h : V w E m (Br fz cs) v) : AtC w cs v := by
  obtain ⟨ao, cap, rfl, h1, h2, h3⟩ := V.sl_inv h
  refine ⟨ao, cap, rfl, h1, h2, fun hp => ?_⟩
  obtain ⟨b, off, rfl, hb, _, _, u, hc, hv⟩ := h3 hp
  refine ⟨b, off, rfl, hb, fun i hi => ⟨u i 1, ?_, ?_, Agw (hv i 1 _ hi rfl)⟩⟩
  · have c1 := hc i 0 _ hi rfl
    have c2 := (hv i 0 _ hi rfl).sc_inv
    rw [c2] at c1
    simpa using c1
  · exact hc i 1 _ hi rfl
theorem Agx {ps : List D.Process} (h : V w E m (A1 fz ps) v) : AtP w ps v := by
  obtain ⟨ao, cap, rfl, h1, h2, h3⟩ := V.sl_inv h
  refine ⟨ao, cap, rfl, h1, h2, fun hp => ?_⟩
  obtain ⟨b, off, rfl, hb, _, _, u, hc, hv⟩ := h3 hp
  refine ⟨b, off, rfl, hb, fun i hi => ⟨u i 3, ?_, ?_, ?_, ?_, Ab7 (hv i 3 _ hi rfl)⟩⟩
  · have c1 := hc i 0 _ hi rfl
    have c2 := (hv i 0 _ hi rfl).sc_inv
    rw [c2] at c1
    simpa using c1
  · have c1 := hc i 1 _ hi rfl
    have c2 := (hv i 1 _ hi rfl).sc_inv
    rw [c2] at c1
    simpa using c1
  · have c1 := hc i 2 _ hi rfl
    have c2 := (hv i 2 _ hi rfl).sc_inv
    rw [c2] at c1
    simpa using c1
  · exact hc i 3 _ hi rfl
end
theorem AtL.map {w w' : World} {n : Nat} {R S : Nat → Nat → Nat → Prop} {v : Value} (h : AtL w n R v) (hs : w.heap.size ≤ w'.heap.size) (hR : ∀ b off i, b < w.heap.size → i < n → R b off i → S b off i) : AtL w' n S v := by
  obtain ⟨ao, cap, rfl, h1, h2, h3⟩ := h
  refine ⟨ao, cap, rfl, h1, h2, fun hp => ?_⟩
  obtain ⟨b, off, rfl, hb, hc⟩ := h3 hp
  exact ⟨b, off, rfl, by omega, fun i hi => hR b off i hb hi (hc i hi)⟩
theorem AtI.below {w w' : World} {xs : List Int} {v : Value} (h : AtI w xs v) (hb : Below w.heap.size w w') : AtI w' xs v :=
  AtL.map h hb.size fun b off i hl _ hc => by rw [hb.cell (p := ⟨b, off + i, none⟩) hl]; exact hc
end Go.Proofs.YtiaebjpcgjkhoaaGreatDoor
namespace Go.Proofs.YtiaebjpcgjkhoaaGreatDoor
open Go.RowKit
section
variable {P : Program} {fn : Func} {R : Ending → World → Prop} {a : Act} {w : World} {p u x : Tmp} {ty t : TypeId} {g : Nat} {cs : Array Value} {fr : Nat × Nat} {d : TypeDesc}
theorem Wr (h : fn.results = #[.cell p ty]) (hp : a.tmps.getD p undef = .pointer (some ⟨g, 0, none⟩)) (hg : w.heap[g]? = some (.cells cs t fr))
    (hu : P.underlying ty = some d) (hd : (match d with | .struct _ | .array _ _ => true | _ => false) = true) (hi : (P.info? ty).map (·.size) = some cs.size) (hf : a.defers = []) (hR : R (.returned (.agg cs)) w) : bodyPost P fn R .ret a w :=
  bodyPost_ret (results_cell_row h _ w g t cs fr d hp hg hu hd hi) hf hR
theorem Jh (h : fn.results = #[.cell p ty, .tmp u]) (tmps : Array Value) (hp : tmps.getD p undef = .pointer (some ⟨g, 0, none⟩)) (hg : w.heap[g]? = some (.cells cs t fr))
    (hu : P.underlying ty = some d) (hd : (match d with | .struct _ | .array _ _ => true | _ => false) = true) (hi : (P.info? ty).map (·.size) = some cs.size) :
    (results fn tmps).run P w = .ok (.tuple #[.agg cs, tmps.getD u undef]) w := by
  have hp' : tmps[p]?.getD undef = .pointer (some ⟨g, 0, none⟩) := by simpa using hp
  simp [results, h, hp', asAddr, run_loadVar_row w g t ty cs fr d hg hu hd hi]
theorem Hy (h : fn.results = #[.cell p ty, .tmp u]) (hp : a.tmps.getD p undef = .pointer (some ⟨g, 0, none⟩)) (hg : w.heap[g]? = some (.cells cs t fr))
    (hu : P.underlying ty = some d) (hd : (match d with | .struct _ | .array _ _ => true | _ => false) = true) (hi : (P.info? ty).map (·.size) = some cs.size) (hf : a.defers = []) (hR : R (.returned (.tuple #[.agg cs, a.tmps.getD u undef])) w) : bodyPost P fn R .ret a w :=
  bodyPost_ret (Jh h _ hp hg hu hd hi) hf hR
end
end Go.Proofs.YtiaebjpcgjkhoaaGreatDoor
namespace Go.Proofs.YtiaebjpcgjkhoaaGreatDoor
open Go.RowKit
section
variable {P : Program} {a : Act} {w : World} {Q : Exit → Act → World → Prop}
theorem Cm {c rest : Code} (l : Nat) (hf : findLabel c l = some rest)
    (h : ∀ J : Act → World → Prop, (∀ a w, rest.wp P (Exit.noGoto Q) a w → J a w) → c.wp P (Exit.jump l J Q) a w) : (Code.scope c).wp P Q a w := by
  refine wp_scope_jumps l (fun a w => rest.wp P (Exit.noGoto Q) a w) (fun _ _ => 0) hf (h _ fun _ _ h => h) ?_
  intro a w hr b k cs
  obtain ⟨e, a1, w1, hq, harr⟩ := hr b k cs
  refine ⟨e, a1, w1, ?_, harr⟩
  cases e with
  | goto l => exact hq.elim
  | normal => exact hq
  | exit _ => exact hq
  | ret => exact hq
  | panic _ => exact hq
  | outgrown => exact hq
@[go_sem] theorem Aa7 (l : Nat) (J : Act → World → Prop) : Exit.jump l J Q .normal a w = Q .normal a w := rfl
@[go_sem] theorem Acb (l : Nat) (J : Act → World → Prop) (id : Nat) : Exit.jump l J Q (.exit id) a w = Q (.exit id) a w := rfl
@[go_sem] theorem AeZ (l : Nat) (J : Act → World → Prop) : Exit.jump l J Q .ret a w = Q .ret a w := rfl
@[go_sem] theorem AbS (l : Nat) (J : Act → World → Prop) (ch : List PanicEntry) : Exit.jump l J Q (.panic ch) a w = Q (.panic ch) a w := rfl
end
end Go.Proofs.YtiaebjpcgjkhoaaGreatDoor
