/-
  Texts, joined: EgH, VjPubl, EgW1, EcQ, EgW2, EgW3, VjPick, EmA, EmH, EmP, CsPlain, CsMsg, Append, CsMade, CsInsert, CsInsert2, CsPut, CsTake, WhP, WhI, WhJ, WhA, WhH, EmW1, WhW1, CsPutW, CsV, WhW2, WhK, ShelfP, PrN, PrB, PrP, PrW, PrX.
-/
import Derived.Test.YtiaebjpcgjkhoaaGreatDoorWkD
import Derived.KernelRfl
import Derived.BigQuiet
import Derived.Deep.QuietTactic
import Derived.Lib.Hide
import Derived.WalkKit
import Derived.BigRegion
import Derived.Deep.RegionLaw
import Derived.Deep.AppendLies
import Derived.Lib.SliceRun
import Derived.Lib.Walk
import Derived.Lib.JoinLaws
import Derived.Lib.AppendZeros
import Derived.Lib.AppendZerosOnto
import Derived.Lib.Overlaps
import Derived.Laws.Externs
import Derived.Laws.IdiomCopy
import Derived.Laws.NewBlocks
import Derived.Deep.RegionHeld3
import Derived.Lib.SlicesDelete
import Derived.RegionTactic
import Derived.Shelf.Strings.Builder1
import Derived.Shelf.Strings.BuilderF
import Derived.Shelf.Strings.BuilderK
import Derived.Shelf.Strconv.Itoa0
import Derived.Shelf.Strconv.Itoa1
import Derived.Shelf.LaysM
import Derived.Shelf.Strconv.Itoa2
import Derived.Shelf.Strconv.Itoa3
import Derived.Shelf.Strconv.Itoa4
import Derived.Lib.ItoaLen
import Derived.Lib.AppendIntMem
import Derived.Lib.SmallJoins
import Derived.Lib.OthersKept
import Derived.Lib.BufferKept
import Derived.Laws.IdiomStrings
namespace Go.Proofs.YtiaebjpcgjkhoaaGreatDoor
open Go.RowKit
set_option maxRecDepth 100000
theorem Zc (hs':List Ob) (r:VV) (s:D.State):(BP Tryz.prog tb IN EY false Tryz.f19 hs' (r)).goal (St.init [] [.agg (An s)]) =
  (∃ (y:List Int),VC 34 [Ad true s.Globals] (Ad true y)/\AA (BP Tryz.prog tb IN EY false Tryz.f19 hs' r) [1,1,1,1,0,1,0] (AB [(1,VV.bp 0 0),(2,VV.bp 1 0),(3,VV.bp 2 0),(19,Bg true s.Chans),(20,Aa (↑s.Chans.length:Int)),(21,Aa 0)] [Ob.box (An s),Ob.box [VV.nl,VV.nl,VV.nl,Aa 0,Aa 0,Aa 0],Ob.box [Ad true y,VV.nl,VV.nl,Aa s.Last,Aa s.Alone,Aa s.Claim]])):=by kernel_rfl
theorem Rl (r:D.State × ByteArray × Int) (e:D.Env) (w:Wy):(fc IN Bl Tryz.f9 [] (.tup [.agg (An r.1),BV r.2.1,Aa r.2.2])).goal (St.init [] [.agg (Af e),.agg (Bu w)]) =
  (∃ (y:Int),VC 15 [VV.agg (Af e)] (Aa y)/\BB (y != 0) (LQ (VV.tup [VV.agg [VV.nl,VV.nl,VV.nl,Aa 0,Aa 0,Aa 0],BV (⟨#[]⟩:ByteArray),Aa y]) (VV.tup [VV.agg (An r.fst),BV r.snd.fst,Aa r.snd.snd])) (∃ (y:List Wy),VC 16 [VV.agg (Af e)] (BF true y)/\∃ (y_1:Bool),VC 17 [BF true y,VV.agg (Bu w)] (Ac y_1)/\BB (!y_1) (LQ (VV.tup [VV.agg [VV.nl,VV.nl,VV.nl,Aa 0,Aa 0,Aa 0],BV (⟨#[]⟩:ByteArray),Aa 42]) (VV.tup [VV.agg (An r.fst),BV r.snd.fst,Aa r.snd.snd])) (BB (w.Err != 0) (LQ (VV.tup [VV.agg [VV.nl,VV.nl,VV.nl,Aa 0,Aa 0,Aa 0],BV (⟨#[]⟩:ByteArray),Aa w.Err]) (VV.tup [VV.agg (An r.fst),BV r.snd.fst,Aa r.snd.snd])) (BB (decide (w.Way<0)) (∃ (y:D.State),VC 18 [VV.agg (Af e)] (VV.agg (An y))/\LQ (VV.tup [VV.agg (An y),BV (⟨#[]⟩:ByteArray),Aa 0]) (VV.tup [VV.agg (An r.fst),BV r.snd.fst,Aa r.snd.snd])) (∃ (y:D.State),Ai Tryz.prog 19 [] [VV.agg (An e.S)] [obC y,obP y] (VV.agg (Bc y (VV.ow 0 0 y.Chans.length) (VV.ow 1 0 y.Procs.length)))/\∃ (y_2:D.Loc),VC 21 [VV.agg (Af e)] (VV.agg (A9 y_2))/\∃ (y_3:D.Trans),VC 20 [VV.agg (A9 y_2),Aa w.Esc,Aa w.Way] (VV.agg (CN y_3))/\∃ (y_4:D.Env × ByteArray × Int),Ai Tryz.prog 22 [Ob.box [AE true e.M.Globals,Ad true e.M.Init,Cj true e.M.Shapes,Ad true e.M.Chans,Cw true e.M.Procs,Aa e.M.Claim,CO true e.M.Exprs,Ad true y.Globals,VV.ow 1 0 y.Chans.length,VV.ow 2 0 y.Procs.length,Aa y.Last,Aa y.Alone,Aa y.Claim,Aa e.Pid,Ac e.Timeout,BG true e.Able],obC y,obP y] [VV.bp 0 0,VV.agg (Ap y_3.S),VV.agg (Bu w)] (hsE y_4.fst) (VV.tup [BV y_4.snd.fst,Aa y_4.snd.snd])/\BB (y_4.snd.snd != 0) (LQ (VV.tup [VV.agg [VV.nl,VV.nl,VV.nl,Aa 0,Aa 0,Aa 0],BV (⟨#[]⟩:ByteArray),Aa y_4.snd.snd]) (VV.tup [VV.agg (An r.fst),BV r.snd.fst,Aa r.snd.snd])) (BB (decide (w.With>=0)) (∃ (y:D.Loc),VC 21 [VV.agg [AE true e.M.Globals,Ad true e.M.Init,Cj true e.M.Shapes,Ad true e.M.Chans,Cw true e.M.Procs,Aa e.M.Claim,CO true e.M.Exprs,Ad true e.S.Globals,Bg true e.S.Chans,AW true e.S.Procs,Aa e.S.Last,Aa e.S.Alone,Aa e.S.Claim,Aa w.With,Ac e.Timeout,BG true e.Able]] (VV.agg (A9 y))/\∃ (y_5:D.Trans),VC 20 [VV.agg (A9 y),Aa w.WithEsc,Aa w.WithWay] (VV.agg (CN y_5))/\inX w.With y_4.fst.S.Procs.length/\inX e.Pid y_4.fst.S.Procs.length/\LQ (VV.tup [VV.agg [Ad true y_4.fst.S.Globals,Bg true y_4.fst.S.Chans,VV.sl true y_4.fst.S.Procs.length 4 fun (j:Nat)=>bif j.beq e.Pid.toNat then bif Nat.beq 1 4 then [Aa y_3.To] else List.take 1 ((fun (j:Nat)=>bif j.beq w.With.toNat then [Aa (y_4.fst.S.Procs.getD w.With.toNat default).Type_,Aa y_5.To,Aa (y_4.fst.S.Procs.getD w.With.toNat default).Prio,Ad true (y_4.fst.S.Procs.getD w.With.toNat default).Frame] else As (y_4.fst.S.Procs.getD j default)) e.Pid.toNat)++[Aa y_3.To]++List.drop 2 ((fun (j:Nat)=>bif j.beq w.With.toNat then [Aa (y_4.fst.S.Procs.getD w.With.toNat default).Type_,Aa y_5.To,Aa (y_4.fst.S.Procs.getD w.With.toNat default).Prio,Ad true (y_4.fst.S.Procs.getD w.With.toNat default).Frame] else As (y_4.fst.S.Procs.getD j default)) e.Pid.toNat) else (fun (j:Nat)=>bif j.beq w.With.toNat then [Aa (y_4.fst.S.Procs.getD w.With.toNat default).Type_,Aa y_5.To,Aa (y_4.fst.S.Procs.getD w.With.toNat default).Prio,Ad true (y_4.fst.S.Procs.getD w.With.toNat default).Frame] else As (y_4.fst.S.Procs.getD j default)) j,Aa e.Pid,Aa y_4.fst.S.Alone,Aa y_4.fst.S.Claim],BV y_4.snd.fst,Aa 0]) (VV.tup [VV.agg (An r.fst),BV r.snd.fst,Aa r.snd.snd])) (inX e.Pid y_4.fst.S.Procs.length/\LQ (VV.tup [VV.agg [Ad true y_4.fst.S.Globals,Bg true y_4.fst.S.Chans,VV.sl true y_4.fst.S.Procs.length 4 fun (j:Nat)=>bif j.beq e.Pid.toNat then [Aa (y_4.fst.S.Procs.getD e.Pid.toNat default).Type_,Aa y_3.To,Aa (y_4.fst.S.Procs.getD e.Pid.toNat default).Prio,Ad true (y_4.fst.S.Procs.getD e.Pid.toNat default).Frame] else As (y_4.fst.S.Procs.getD j default),Aa e.Pid,Aa y_4.fst.S.Alone,Aa y_4.fst.S.Claim],BV y_4.snd.fst,Aa 0]) (VV.tup [VV.agg (An r.fst),BV r.snd.fst,Aa r.snd.snd])))))))):=by kernel_rfl
theorem Zi (l:List Bool) (r:Int) (m:D.Model) (s:D.State):(fc IN J0 Tryz.f13 [] (.tup [BG true l,Aa r])).goal (St.init [] [.agg (Ae m),.agg (An s)]) =
  (∃ (y:Int),VC 25 [VV.agg (Ae m),VV.agg (An s)] (Aa y)/\BB (y != 0) (LQ (VV.tup [VV.nl,Aa y]) (VV.tup [BG true l,Aa r])) (((0:Int)<=(↑s.Procs.length:Int)/\(↑s.Procs.length:Int)<=(↑s.Procs.length:Int)/\(↑s.Procs.length:Int)*(↑1:Int)<=140737488355328)/\AA (fc IN J0 Tryz.f13 [] (VV.tup [BG true l,Aa r])) [1,1,1,0,1,0] (AB [(2,VV.bp 0 0),(3,VV.bp 1 0),(7,VV.ow 2 0 (↑s.Procs.length:Int).toNat),(21,Aa (↑s.Procs.length:Int)),(22,Aa 0)] [Ob.box (Ae m),Ob.box (An s),Ob.arr true 0 (↑s.Procs.length:Int).toNat 1 fun (_:Nat)=>((fc IN J0 Tryz.f13 [] (VV.tup [BG true l,Aa r])).T (4:TypeId)).zero]))):=by kernel_rfl
theorem W7 (b:Bool):(fc IN KU Tryz.f6 [] (Ac b)).goal (St.init [] []) =
  (AA (fc IN KU Tryz.f6 [] (Ac b)) [1,1,1,1] (AB [(1,VV.bp 0 0),(2,VV.bp 4 0),(3,VV.bp 6 0)] [Ob.box [VV.nl,VV.nl,VV.nl,VV.nl,VV.ow 1 0 1,Aa (-1),VV.nl],Ob.arr false 0 1 10 (TM [[BV ByteArray.empty,Aa 0,VV.nl,VV.nl,VV.ow 2 0 2,Aa 0,Aa 1,Aa 1,Aa 1,Aa (-1)]]),Ob.arr false 0 2 7 (TM [[VV.ow 3 0 1,VV.nl,Ac false,Ac false,Ac false,Ac false,Ac false],[VV.nl,VV.nl,Ac false,Ac false,Ac false,Ac false,Ac false]]),Ob.arr true 0 1 9 fun (i:Nat)=>List.take 9 (List.drop (i*9) [Aa 8,Aa (-1),Aa (-1),Aa 0,VV.nl,VV.nl,BV ByteArray.empty,Aa 1,Aa 0]),Ob.box [VV.nl,VV.nl,VV.ow 5 0 1,Aa 0,Aa (-1),Aa (-1)],Ob.arr true 0 1 4 fun (i:Nat)=>List.take 4 (List.drop (i*4) [Aa 0,Aa 0,Aa 1,VV.nl]),Ob.box [VV.nl,VV.nl,VV.nl,VV.nl,VV.ow 1 0 1,Aa (-1),VV.nl,VV.nl,VV.nl,VV.ow 5 0 1,Aa 0,Aa (-1),Aa (-1),Aa 0,Ac false,VV.nl]])):=by kernel_rfl
theorem Qc (y:D.Env) (t:ByteArray) (r:Int) (e:D.Env) (s:D.Stmt) (w:Wy):(BP Tryz.prog tb IN AbF false Tryz.f22 (hsE y) (.tup [BV t,Aa r])).goal (St.init (hsE e) [.bp 0 0,.agg (Ap s),.agg (Bu w)]) =
  (BB (s.Kind==1) (∃ (y_1:Bool),VC 36 [VV.agg (Ae e.M),Aa s.A] (Ac y_1)/\BB y_1 (∃ (y_2:D.Env × Int × Int),Ai Tryz.prog 37 (hsE e) [VV.bp 0 0,Aa s.A] (hsE y_2.fst) (vII y_2.snd)/\leO (hsE y_2.fst) (hsE y)/\(VV.tup [BV (⟨#[]⟩:ByteArray),Aa y_2.snd.snd]).le (VV.tup [BV t,Aa r])) (leO (hsE e) (hsE y)/\(VV.tup [BV (⟨#[]⟩:ByteArray),Aa 0]).le (VV.tup [BV t,Aa r]))) (BB (s.Kind==2) (∃ (y_1:D.Env × Int),Ai Tryz.prog 38 (hsE e) [VV.bp 0 0,VV.agg (Ap s)] (hsE y_1.fst) (Aa y_1.snd)/\leO (hsE y_1.fst) (hsE y)/\(VV.tup [BV (⟨#[]⟩:ByteArray),Aa y_1.snd]).le (VV.tup [BV t,Aa r])) (BB (s.Kind==3) (∃ (y_1:Int × Int),VC 39 [VV.agg (Bk e),Aa s.A] (vII y_1)/\BB (bif y_1.snd==0 then y_1.fst==0 else false) (leO (hsE e) (hsE y)/\(VV.tup [BV (⟨#[]⟩:ByteArray),Aa 50]).le (VV.tup [BV t,Aa r])) (leO (hsE e) (hsE y)/\(VV.tup [BV (⟨#[]⟩:ByteArray),Aa y_1.snd]).le (VV.tup [BV t,Aa r]))) (BB (s.Kind==4) (∃ (y_1:List Int × Int),Ai Tryz.prog 40 [] [VV.agg (Bk e),Ad true s.Args] [Ob.arr true 0 y_1.fst.length 1 (AG y_1.fst)] (VV.tup [VV.ow 0 0 y_1.fst.length,Aa y_1.snd])/\BB (y_1.snd != 0) (leO (hsE e) (hsE y)/\(VV.tup [BV (⟨#[]⟩:ByteArray),Aa y_1.snd]).le (VV.tup [BV t,Aa r])) (∃ (y_2:ByteArray),VC 41 [BV s.Text,Ad false y_1.fst] (BV y_2)/\leO (hsE e) (hsE y)/\(VV.tup [BV y_2,Aa 0]).le (VV.tup [BV t,Aa r]))) (BB (s.Kind==9) ((e.S.Chans.length+1)*32<=140737488355328/\∃ (y_1:D.Env × Int),Ai Tryz.prog 42 [Ob.box (EA e (VV.ow 1 0 (e.S.Chans.length+1)) (VV.ow 2 0 e.S.Procs.length)),Ob.arr true 0 (e.S.Chans.length+1) 2 fun (i:Nat)=>bif i.blt e.S.Chans.length then AF (e.S.Chans.getD i default) else (fun (i:Nat)=>List.take 2 (List.drop (i*2) [Aa s.N,VV.nl])) (i - e.S.Chans.length),obP e.S] [VV.bp 0 0,Aa s.A,Aa (↑(e.S.Chans.length+1):Int)] (hsE y_1.fst) (Aa y_1.snd)/\leO (hsE y_1.fst) (hsE y)/\(VV.tup [BV (⟨#[]⟩:ByteArray),Aa y_1.snd]).le (VV.tup [BV t,Aa r])) (BB (s.Kind==5) (∃ (y_1:D.Env × Int),Ai Tryz.prog 43 (hsE e) [VV.bp 0 0,VV.agg (Ap s),VV.agg (Bu w)] (hsE y_1.fst) (Aa y_1.snd)/\leO (hsE y_1.fst) (hsE y)/\(VV.tup [BV (⟨#[]⟩:ByteArray),Aa y_1.snd]).le (VV.tup [BV t,Aa r])) (BB (s.Kind==6) (∃ (y_1:D.Env × Int),Ai Tryz.prog 44 (hsE e) [VV.bp 0 0,VV.agg (Ap s)] (hsE y_1.fst) (Aa y_1.snd)/\leO (hsE y_1.fst) (hsE y)/\(VV.tup [BV (⟨#[]⟩:ByteArray),Aa y_1.snd]).le (VV.tup [BV t,Aa r])) (leO (hsE e) (hsE y)/\(VV.tup [BV (⟨#[]⟩:ByteArray),Aa 0]).le (VV.tup [BV t,Aa r]))))))))):=by kernel_rfl
theorem Uh (b:Bool) (m:D.Model) (s:D.State) (e:D.Env):((fc IN KU Tryz.f6 [] (Ac b)).cut [1,1,1,1]).goal (Aep m s e) =
  (∃ (y:List Wy × Int),VC 8 [VV.agg (Af e)] (VV.tup [BF true y.fst,Aa y.snd])/\BB ((↑y.fst.length:Int) != 1) (LQ (Ac false) (Ac b)) (inX (0:Int) y.fst.length/\∃ (y_1:D.State × ByteArray × Int),VC 9 [VV.agg (Af e),VV.agg (Bu (y.fst.getD (Int.toNat (0:Int)) default))] (VV.tup [VV.agg (An y_1.fst),BV y_1.snd.fst,Aa y_1.snd.snd])/\BB ((↑y_1.fst.Procs.length:Int) != 1) (LQ (Ac false) (Ac b)) (∃ (y_2:List Bool × Int),VC 13 [VV.agg (Ae m),VV.agg (An s)] (VV.tup [BG true y_2.fst,Aa y_2.snd])/\∃ (y_3:D.State × ByteArray × Int),VC 9 [VV.agg (Af e),VV.agg [Aa 0,Aa 0,Aa 0,Aa 0,Aa 0,Aa 0]] (VV.tup [VV.agg (An y_3.fst),BV y_3.snd.fst,Aa y_3.snd.snd])/\((true&&(y.snd==0)==true)=true->inX (0:Int) y.fst.length)/\((true&&(bif bif y.snd==0 then (y.fst.getD (Int.toNat (0:Int)) default).Esc==(-1:Int)&&((y.fst.getD (Int.toNat (0:Int)) default).Way==0&&((y.fst.getD (Int.toNat (0:Int)) default).With==(-1:Int)&&((y.fst.getD (Int.toNat (0:Int)) default).WithEsc==(-1:Int)&&((y.fst.getD (Int.toNat (0:Int)) default).WithWay==(-1:Int)&&((y.fst.getD (Int.toNat (0:Int)) default).Err==0&&true))))) else false then y_1.snd.snd==0 else false)==true)=true->inX (0:Int) y_1.fst.Procs.length)/\((true&&(bif bif bif bif bif y.snd==0 then (y.fst.getD (Int.toNat (0:Int)) default).Esc==(-1:Int)&&((y.fst.getD (Int.toNat (0:Int)) default).Way==0&&((y.fst.getD (Int.toNat (0:Int)) default).With==(-1:Int)&&((y.fst.getD (Int.toNat (0:Int)) default).WithEsc==(-1:Int)&&((y.fst.getD (Int.toNat (0:Int)) default).WithWay==(-1:Int)&&((y.fst.getD (Int.toNat (0:Int)) default).Err==0&&true))))) else false then y_1.snd.snd==0 else false then (y_1.fst.Procs.getD (Int.toNat (0:Int)) default).Loc==1 else false then y_2.snd==0 else false then (↑y_2.fst.length:Int)==1 else false)==true)=true->inX (0:Int) y_2.fst.length)/\LQ (Ac (bif bif bif bif bif bif bif y.snd==0 then (y.fst.getD (Int.toNat (0:Int)) default).Esc==(-1:Int)&&((y.fst.getD (Int.toNat (0:Int)) default).Way==0&&((y.fst.getD (Int.toNat (0:Int)) default).With==(-1:Int)&&((y.fst.getD (Int.toNat (0:Int)) default).WithEsc==(-1:Int)&&((y.fst.getD (Int.toNat (0:Int)) default).WithWay==(-1:Int)&&((y.fst.getD (Int.toNat (0:Int)) default).Err==0&&true))))) else false then y_1.snd.snd==0 else false then (y_1.fst.Procs.getD (Int.toNat (0:Int)) default).Loc==1 else false then y_2.snd==0 else false then (↑y_2.fst.length:Int)==1 else false then y_2.fst.getD (Int.toNat (0:Int)) false else false then y_3.snd.snd==42 else false)) (Ac b)))):=by kernel_rfl
theorem Vz (l:List Bool) (r:Int) (m:D.Model) (s:D.State) (l':List Bool) (k:Int) (J:St->Prop):((fc IN J0 Tryz.f13 [] (.tup [BG true l,Aa r])).loop [1,1,1,0,1,0] J).goal (X4 m s l' k) =
  (BB (decide (k<(↑s.Procs.length:Int))) (∃ (y:List Wy),VC 16 [VV.agg [AE true m.Globals,Ad true m.Init,Cj true m.Shapes,Ad true m.Chans,Cw true m.Procs,Aa m.Claim,CO true m.Exprs,Ad true s.Globals,Bg true s.Chans,AW true s.Procs,Aa s.Last,Aa s.Alone,Aa s.Claim,Aa k,Ac false,VV.nl]] (BF true y)/\inX k l'.length/\J (AB [(2,VV.bp 0 0),(3,VV.bp 1 0),(7,VV.ow 2 0 l'.length),(21,Aa (↑s.Procs.length:Int)),(22,Aa (IntKind.i64.wrap (k+(1:Int))))] [Ob.box (Ae m),Ob.box (An s),Ob.arr true 0 l'.length 1 fun (j:Nat)=>bif j.beq k.toNat then [Ac (decide ((↑y.length:Int) > 0))] else [Ac (l'.getD j false)]])) (LQ (VV.tup [BG true l',Aa 0]) (VV.tup [BG true l,Aa r]))):=by kernel_rfl
theorem Vv (hs':List Ob) (r:VV) (s:D.State) (cs:List D.Chan) (k:Int) (J:St->Prop):((BP Tryz.prog tb IN EY false Tryz.f19 hs' (r)).loop [1,1,1,1,0,1,0] J).goal (X9 s cs k) =
  (BB (decide (k<(↑s.Chans.length:Int))) (inX k s.Chans.length/\AA ((BP Tryz.prog tb IN EY false Tryz.f19 hs' r).loop [1,1,1,1,0,1,0] J) [1,1,0,0,1,1,0,1,0] (AB [(1,VV.bp 0 0),(2,VV.bp 1 0),(3,VV.bp 2 0),(5,VV.bp 4 0),(6,VV.nl),(19,Bg true s.Chans),(20,Aa (↑s.Chans.length:Int)),(21,Aa k),(26,Bx true (s.Chans.getD k.toNat default).Queue),(27,Aa (↑(s.Chans.getD k.toNat default).Queue.length:Int)),(28,Aa 0)] [Ob.box (An s),Ob.box [VV.nl,VV.nl,VV.nl,Aa 0,Aa 0,Aa 0],Ob.box (Bc s (VV.ow 3 0 cs.length) VV.nl),Ob.arr true 0 cs.length 2 (DK cs),Ob.box (AF (s.Chans.getD k.toNat default))])) (AA (BP Tryz.prog tb IN EY false Tryz.f19 hs' r) [1,1,1,1,1,0,1,0] (AB [(2,VV.bp 0 0),(3,VV.bp 1 0),(49,AW true s.Procs),(50,Aa (↑s.Procs.length:Int)),(51,Aa 0)] [Ob.box [VV.nl,VV.nl,VV.nl,Aa 0,Aa 0,Aa 0],Ob.box (Bc s (VV.ow 2 0 cs.length) VV.nl),Ob.arr true 0 cs.length 2 (DK cs)]))):=by kernel_rfl
theorem Vt (hs':List Ob) (r:VV) (s:D.State) (cs:List D.Chan) (ps:List D.Process) (k:Int) (J:St->Prop):((BP Tryz.prog tb IN EY false Tryz.f19 hs' (r)).loop [1,1,1,1,1,0,1,0] J).goal (X7 s cs ps k) =
  (BB (decide (k<(↑s.Procs.length:Int))) (inX k s.Procs.length/\∃ (y:List Int),VC 34 [Ad true (s.Procs.getD k.toNat default).Frame] (Ad true y)/\(ps.length+1)*48<=140737488355328/\J (AB [(2,VV.bp 0 0),(3,VV.bp 1 0),(49,AW true s.Procs),(50,Aa (↑s.Procs.length:Int)),(51,Aa (IntKind.i64.wrap (k+(1:Int))))] [Ob.box [VV.nl,VV.nl,VV.nl,Aa 0,Aa 0,Aa 0],Ob.box (Bc s (VV.ow 2 0 cs.length) (VV.ow 3 0 (ps.length+1))),Ob.arr true 0 cs.length 2 (DK cs),Ob.arr true 0 (ps.length+1) 4 fun (i:Nat)=>bif i.blt ps.length then As (ps.getD i default) else (fun (i:Nat)=>List.take 4 (List.drop (i*4) [Aa (s.Procs.getD k.toNat default).Type_,Aa (s.Procs.getD k.toNat default).Loc,Aa (s.Procs.getD k.toNat default).Prio,Ad true y])) (i - ps.length)])) (leO [Ob.arr true 0 cs.length 2 (DK cs),Ob.arr true 0 ps.length 4 (HY ps)] hs'/\(VV.agg (Bc s (VV.ow 0 0 cs.length) (VV.ow 1 0 ps.length))).le r)):=by kernel_rfl
theorem Vu (hs':List Ob) (r:VV) (s:D.State) (cs:List D.Chan) (k:Int) (c:D.Chan) (q:List (List Int)) (j:Int) (J J2:St->Prop):(((BP Tryz.prog tb IN EY false Tryz.f19 hs' (r)).loop [1,1,1,1,0,1,0] J).loop [1,1,0,0,1,1,0,1,0] J2).goal (X8 s cs k c q j) =
  (BB (decide (j<(↑c.Queue.length:Int))) (inX j c.Queue.length/\∃ (y:List Int),VC 35 [Ad true (c.Queue.getD j.toNat [])] (Ad true y)/\(q.length+1)*24<=140737488355328/\J2 (AB [(1,VV.bp 0 0),(2,VV.bp 1 0),(3,VV.bp 2 0),(5,VV.bp 4 0),(6,VV.ow 5 0 (q.length+1)),(19,Bg true s.Chans),(20,Aa (↑s.Chans.length:Int)),(21,Aa k),(26,Bx true c.Queue),(27,Aa (↑c.Queue.length:Int)),(28,Aa (IntKind.i64.wrap (j+(1:Int))))] [Ob.box (An s),Ob.box [VV.nl,VV.nl,VV.nl,Aa 0,Aa 0,Aa 0],Ob.box (Bc s (VV.ow 3 0 cs.length) VV.nl),Ob.arr true 0 cs.length 2 (DK cs),Ob.box (AF c),Ob.arr true 0 (q.length+1) 1 fun (i:Nat)=>bif i.blt q.length then [Ad true (q.getD i [])] else (fun (i:Nat)=>List.take 1 (List.drop (i*1) [Ad true y])) (i - q.length)])) ((cs.length+1)*32<=140737488355328/\J (AB [(1,VV.bp 0 0),(2,VV.bp 1 0),(3,VV.bp 2 0),(19,Bg true s.Chans),(20,Aa (↑s.Chans.length:Int)),(21,Aa (IntKind.i64.wrap (k+(1:Int))))] [Ob.box (An s),Ob.box [VV.nl,VV.nl,VV.nl,Aa 0,Aa 0,Aa 0],Ob.box (Bc s (VV.ow 3 0 (cs.length+1)) VV.nl),Ob.arr true 0 (cs.length+1) 2 fun (i:Nat)=>bif i.blt cs.length then AF (cs.getD i default) else (fun (i:Nat)=>(List.map (fun (x:List VV × List Nat)=>x.fst) [([Aa c.Shape,Bx true q],List.flatMap (fun (x:VV × List Nat)=>x.snd) [(Aa c.Shape,[]),(Bx true q,[5])])]).getD i []) (i - cs.length)]))):=by kernel_rfl
end Go.Proofs.YtiaebjpcgjkhoaaGreatDoor
namespace Go.Proofs.YtiaebjpcgjkhoaaGreatDoor
open Go.RowKit
def H6 (ids:List Nat):Nat->List Ob->List Ob
 | _,[]=>[]
 | k,o::l=>(bif ids.any (Nat.beq k) then (match o with
   | .arr _ g _ _ _=>.gone (g+1)
   | .gone g=>.gone (g+1)
   | .box cs=>.box cs) else o)::H6 ids (k+1) l
theorem KF (ids:List Nat):∀ (l:List Ob) (k:Nat),(H6 ids k l).length=l.length
 | [],_=>rfl
 | _::l,k=>by simp only [H6,List.length_cons,KF ids l (k+1)]
theorem QY (ids:List Nat):∀ (l:List Ob) (k j:Nat),j<l.length->(H6 ids k l).getD j (.gone 0)=(bif ids.any (Nat.beq (k+j)) then (match l.getD j (.gone 0) with
   | .arr _ g _ _ _=>.gone (g+1)
   | .gone g=>.gone (g+1)
   | .box cs=>.box cs) else l.getD j (.gone 0))
 | [],_,j,h=>absurd h (Nat.not_lt_zero j)
 | o::l,k,0,_=>rfl
 | o::l,k,j+1,h=>by
  have:=QY ids l (k+1) j (Nat.lt_of_succ_lt_succ h)
  rw [show k+(j+1)=k+1+j by omega]
  exact this
def IR (H:Nat->Ob) (k:Nat):List Ob->Option (List Ob × List Nat)
 | []=>some ([],[])
 | .box cs::l =>
  match Da (FN H k) cs with
  | some r=>match IR H k l with
   | some q=>some (.box (r.map (·.1))::q.1,r.flatMap (·.2)++q.2)
   | none=>none
  | none=>none
 | o::l=>match IR H k l with
  | some q=>some (o::q.1,q.2)
  | none=>none
theorem Mq {H:Nat->Ob} {k:Nat}:∀ {l l':List Ob} {ids:List Nat},IR H k l=some (l',ids)->l'.length=l.length/\∀ j,j<l.length->(l'.getD j (.gone 0)=l.getD j (.gone 0)/\(∀ cs,l.getD j (.gone 0)≠.box cs)) ∨
  ∃ cs r,l.getD j (.gone 0)=.box cs/\l'.getD j (.gone 0)=.box (r.map (·.1))/\Da (FN H k) cs=some r/\∀ p∈r,∀ i∈p.2,i∈ids
 | [],l',ids,h=>by
  simp only [IR,Option.some.injEq,Prod.mk.injEq] at h
  obtain ⟨rfl,rfl⟩:=h
  exact ⟨rfl,fun j hj=>absurd hj (Nat.not_lt_zero j)⟩
 | o::l,l',ids,h=>by
  have other:(∀ cs,o≠.box cs)->(match IR H k l with
    | some q=>some (o::q.1,q.2)
    | none=>none)=some (l',ids)->l'.length=(o::l).length/\∀ j,j<(o::l).length->(l'.getD j (.gone 0)=(o::l).getD j (.gone 0)/\(∀ cs,(o::l).getD j (.gone 0)≠.box cs)) ∨
     ∃ cs r,(o::l).getD j (.gone 0)=.box cs/\l'.getD j (.gone 0)=.box (r.map (·.1))/\Da (FN H k) cs=some r/\∀ p∈r,∀ i∈p.2,i∈ids:=by
   intro hn h
   split at h
   ·rename_i q hq
    simp only [Option.some.injEq,Prod.mk.injEq] at h
    obtain ⟨rfl,rfl⟩:=h
    obtain ⟨e1,e2⟩:=Mq (l':=q.1) (ids:=q.2) hq
    refine ⟨by simp [e1],fun j hj=>?_⟩
    cases j with
    | zero=>exact .inl ⟨rfl,hn⟩
    | succ j=>exact e2 j (Nat.lt_of_succ_lt_succ hj)
   ·cases h
  cases o with
  | box cs =>
   simp only [IR] at h
   split at h
   ·rename_i r hr
    split at h
    ·rename_i q hq
     simp only [Option.some.injEq,Prod.mk.injEq] at h
     obtain ⟨rfl,rfl⟩:=h
     obtain ⟨e1,e2⟩:=Mq (l':=q.1) (ids:=q.2) hq
     refine ⟨by simp [e1],fun j hj=>?_⟩
     cases j with
     | zero=>exact .inr ⟨cs,r,rfl,rfl,hr,fun p hp i hi=>List.mem_append_left _ (List.mem_flatMap.2 ⟨p,hp,hi⟩)⟩
     | succ j =>
      rcases e2 j (Nat.lt_of_succ_lt_succ hj) with h | ⟨cs',r',h1,h2,h3,h4⟩
      ·exact .inl h
      ·exact .inr ⟨cs',r',h1,h2,h3,fun p hp i hi=>List.mem_append_right _ (h4 p hp i hi)⟩
    ·cases h
   ·cases h
  | arr fr g n sz f=>exact other (fun _ h=>by cases h) h
  | gone g=>exact other (fun _ h=>by cases h) h
theorem Cv.pubB {l:List (Nat × VV)} {hs hs':List Ob} {ids:List Nat} (k:Nat) (h:IR (BN hs) k hs=some (hs',ids)):Cv (AB l hs) (AB l (H6 ids 0 hs')):=by
 intro N E φ a w hr
 have hg:=hr.hp.gone (ids:=ids)
 obtain ⟨hlen,hat⟩:=Mq h
 refine ⟨Co ids φ,⟨hr.sz,hr.df,hr.old.ext CW,fun t'=>?_,⟨hg.sub,fun id p e=>?_,hg.inj,hg.free⟩,fun j hj=>?_,fun j hj=>?_⟩,CW⟩
 ·have hv:V w _ _ (Ff t' l) _:=hr.tm t'
  exact hv.ext CW
 ·have h1:=hg.ob id p e
  have hid:id<hs.length:=Classical.byContradiction fun hn=>by
   have:=(CR (ids:=ids)).2 (hr.fr id (Nat.le_of_not_lt hn))
   rw [this] at e;cases e
  have hgo:=QY ids hs' 0 id (by omega)
  rw [Nat.zero_add] at hgo
  show ObV w E (Co ids φ) ((H6 ids 0 hs').getD id (.gone 0)) p
  rw [hgo]
  rcases hat id hid with ⟨e1,hn⟩ | ⟨cs,r,e1,e2,e3,e4⟩
  ·rw [e1];exact h1
  ·rw [e2]
   have hob:∀ q,φ id=some q->ObV w E φ (.box cs) q:=fun q hq=>by
    have:=hr.hp.ob id q hq
    have e1':(AB l hs).H id=.box cs:=e1
    rw [e1'] at this
    exact this
   have hbx:(bif ids.any (Nat.beq id) then Ob.box (r.map (·.1)) else Ob.box (r.map (·.1)))=Ob.box (r.map (·.1)):=by cases ids.any (Nat.beq id)<;>rfl
   show ObV w E (Co ids φ) (bif ids.any (Nat.beq id) then Ob.box (r.map (·.1)) else Ob.box (r.map (·.1))) p
   rw [hbx]
   have hp:∃ q,φ id=some q/\(p=q∨p=So q):=by
    unfold Co at e
    cases hq:ids.any (Nat.beq id) with
    | false=>rw [hq] at e;exact ⟨p,e,.inl rfl⟩
    | true =>
     rw [hq] at e
     simp only [cond_true,Option.map_eq_some_iff] at e
     obtain ⟨q,h1,h2⟩:=e
     exact ⟨q,h1,.inr h2.symm⟩
   obtain ⟨q,hq,hpq⟩:=hp
   have hb:=hob q hq
   cases q with
   | arr=>exact hb.elim
   | box b =>
    have:p=.box b:=by rcases hpq with h | h<;>exact h
    subst this
    obtain ⟨c,ty,k1,k2⟩:=hb
    obtain ⟨o1,o2⟩:=C0 e3
    refine ⟨c,ty,k1,⟨by simp [o1,k2.1],fun j y hy=>?_⟩⟩
    simp only [List.getElem?_map,Option.map_eq_some_iff] at hy
    obtain ⟨z,hz,rfl⟩:=hy
    obtain ⟨x,hx,hf⟩:=o2 j z hz
    exact (V.unhold (LM hr.hp (ids:=ids) k _ _ _ _ (k2.2 j x hx) hf (e4 z (List.mem_of_getElem? hz)))).held
 ·have hj':(H6 ids 0 hs').length<=j:=hj
  rw [KF,hlen] at hj'
  exact CR.2 (hr.fr j hj')
 ·have hj':j<(H6 ids 0 hs').length:=hj
  rw [KF,hlen] at hj'
  exact fun h=>hr.lv j hj' (CR.1 h)
theorem AA.cv {c:Ctx} {rel:List Nat} {st st':St} (h:Cv st st') (k:AA c rel st'):AA c rel st:=Sat.cv h k
def Aa2 (r:VV->VV->Bool):List VV->List VV->Bool
 | [],[]=>true
 | y::ys,x::xs=>r y x&&Aa2 r ys xs
 | _,_=>false
def leF : Nat->VV->VV->Bool
 | 0,_,_=>false
 | _+1,.sc u,.sc v=>Adf u v
 | _+1,.nl,.nl=>true
 | _+1,.nl,.sl _ n _ _=>Nat.beq n 0
 | k+1,.sl z n s f,.sl z' n' s' f'=>(z==z')&&(Nat.beq n n'&&(Nat.beq s s'&&Ce n fun i=>Aa2 (leF k) (f i) (f' i)))
 | k+1,.agg ys,.agg xs=>Aa2 (leF k) ys xs
 | _+1,_,_=>false
theorem NR {r:VV->VV->Bool} (hr:∀ y x,r y x=true->VV.le y x):∀ {ys xs:List VV},Aa2 r ys xs=true->leL ys xs
 | [],[],_=>trivial
 | y::ys,x::xs,h=>by
  simp only [Aa2,Bool.and_eq_true] at h
  exact ⟨hr _ _ h.1,NR hr h.2⟩
 | [],_::_,h=>by cases h
 | _::_,[],h=>by cases h
theorem Xb : ∀ (k:Nat) (y x:VV),leF k y x=true->VV.le y x
 | 0,_,_,h=>by cases h
 | k+1,y,x,h=>by
  unfold leF at h
  split at h
  ·cases h
  ·obtain rfl:=Ade h;exact VV.le_refl _
  ·exact VV.le_refl _
  ·obtain rfl:=Nat.eq_of_beq_eq_true h;exact VV.le_nil
  ·simp only [Bool.and_eq_true,beq_iff_eq] at h
   obtain ⟨rfl,h1,h2,h3⟩:=h
   obtain rfl:=Nat.eq_of_beq_eq_true h1
   exact VV.le_sl (.inl (Nat.eq_of_beq_eq_true h2)) fun i hi=>NR (fun y x h=>Xb _ y x h) (AL.1 h3 i hi)
  ·exact VV.le_agg (NR (fun y x h=>Xb _ y x h) h)
  ·cases h
def Xa (k:Nat):List Ob->List Ob->Bool
 | [],[]=>true
 | .box cs::l,.box cs'::l'=>Aa2 (leF k) cs cs'&&Xa k l l'
 | .gone g::l,.gone g'::l'=>Nat.beq g g'&&Xa k l l'
 | _,_=>false
theorem Sj {k:Nat}:∀ {l l':List Ob},Xa k l l'=true->leO l l'
 | [],[],_=>trivial
 | .box cs::l,.box cs'::l',h=>by
  simp only [Xa,Bool.and_eq_true] at h
  exact ⟨Ob.le_box (NR (fun y x h=>Xb _ y x h) h.1),Sj h.2⟩
 | .gone g::l,.gone g'::l',h=>by
  simp only [Xa,Bool.and_eq_true] at h
  obtain rfl:=Nat.eq_of_beq_eq_true h.1
  exact ⟨Ob.le_refl _,Sj h.2⟩
 | [],_::_,h=>by cases h
 | .box _::_,[],h=>by cases h
 | .box _::_,.arr ..::_,h=>by cases h
 | .box _::_,.gone _::_,h=>by cases h
 | .gone _::_,[],h=>by cases h
 | .gone _::_,.arr ..::_,h=>by cases h
 | .gone _::_,.box _::_,h=>by cases h
 | .arr ..::_,_,h=>by simp [Xa] at h
theorem AA.pubB {c:Ctx} {rel:List Nat} {l:List (Nat × VV)} {hs hs':List Ob} (k n:Nat) (h:(match IR (BN hs) k hs with
  | some q=>Xa n (H6 q.2 0 q.1) hs'
  | none=>false)=true) (kk:AA c rel (AB l hs')):AA c rel (AB l hs):=by
 split at h
 ·rename_i q hq
  exact AA.cv (Cv.pubB (hs':=q.1) (ids:=q.2) k hq) (AA.le (AY _) (Sj h) kk)
 ·cases h
end Go.Proofs.YtiaebjpcgjkhoaaGreatDoor
namespace Go.Proofs.YtiaebjpcgjkhoaaGreatDoor
open Go.RowKit
theorem MF {s:D.State} (hf:Fit s):Ai Tryz.prog 19 [] [.agg (An s)] [obC s,obP s] (.agg (Bc s (.ow 0 0 s.Chans.length) (.ow 1 0 s.Procs.length))):=by
 have hg:=hf.g
 have hc:=hf.c
 have hp:=hf.p
 refine Ag Ak Aj Tryz.func19 (by kernel_rfl) rfl (Zc [obC s,obP s] (.agg (Bc s (.ow 0 0 s.Chans.length) (.ow 1 0 s.Procs.length))) s) ⟨s.Globals,Ps (by omega),?_⟩
 refine Bh Ak Aj (fun g st=>∃ k:Nat,k<=s.Chans.length/\g=s.Chans.length - k/\st=X9 s (s.Chans.take k) k) (by kernel_rfl) (by kernel_rfl) ⟨_,Up.cv (Cv.ownBox 2 1 2 (DK []) rfl rfl) (Up.of ⟨0,Nat.zero_le _,rfl,rfl⟩)⟩ ?_
 rintro g st ⟨k,hk,rfl,rfl⟩
 have hlk:(s.Chans.take k).length=k:=by simp;omega
 refine Bb.raw (Vv _ _ s (s.Chans.take k) k _) ⟨fun hlt=>?_,fun hge=>?_⟩
 ·have hlt':k<s.Chans.length:=by have:=AQ hlt;omega
  have hto:(k:Int).toNat=k:=by omega
  rw [hto]
  have hpush:s.Chans.take (k+1)=s.Chans.take k++[s.Chans.getD k default]:=Ec hlt'
  have hq:=hf.q _ (Au (d:=default) hlt')
  generalize s.Chans.getD k default=c at hpush hq ⊢
  refine ⟨⟨by omega,by omega⟩,?_⟩
  refine AA.own 4 6 1 (Wp []) rfl ?_
  refine Bh Ak Aj (fun g st=>∃ j:Nat,j<=c.Queue.length/\g=c.Queue.length - j/\st=X8 s (s.Chans.take k) k c (c.Queue.take j) j) (by kernel_rfl) (by kernel_rfl) ⟨_,Up.of ⟨0,Nat.zero_le _,rfl,rfl⟩⟩ ?_
  rintro g st ⟨j,hj,rfl,rfl⟩
  have hlj:(c.Queue.take j).length=j:=by simp;omega
  refine Bb.raw (Vu _ _ s (s.Chans.take k) k c (c.Queue.take j) j _ _) ⟨fun hlt2=>?_,fun hge2=>?_⟩
  ·have hlt2':j<c.Queue.length:=by have:=AQ hlt2;omega
   have hto2:(j:Int).toNat=j:=by omega
   rw [hto2]
   have hpush2:c.Queue.take (j+1)=c.Queue.take j++[c.Queue.getD j []]:=Ec hlt2'
   have hm:=hq.2 _ (Au (d:=[]) hlt2')
   refine ⟨⟨by omega,by omega⟩,c.Queue.getD j [],UR (by omega),by rw [hlj];omega,c.Queue.length - (j+1),by omega,?_⟩
   rw [Am (by omega)]
   refine Up.mk (l':=[(1,.bp 0 0),(2,.bp 1 0),(3,.bp 2 0),(5,.bp 4 0),(6,.ow 5 0 (c.Queue.take (j+1)).length),(19,Bg true s.Chans),(20,Aa s.Chans.length),(21,Aa k),(26,Bx true c.Queue),(27,Aa c.Queue.length),(28,Aa ((j+1:Nat):Int))])
    (hs':=[.box (An s),.box P7,.box (Bc s (.ow 3 0 (s.Chans.take k).length) .nl),.arr true 0 (s.Chans.take k).length 2 (DK (s.Chans.take k)),.box (AF c),.arr true 0 (c.Queue.take (j+1)).length 1 (Wp (c.Queue.take (j+1)))]) ?_ ?_ ⟨j+1,by omega,rfl,rfl⟩
   ·rw [hpush2,List.length_append];exact AY _
   ·rw [hpush2,List.length_append]
    refine ⟨Ob.le_refl _,Ob.le_refl _,Ob.le_refl _,Ob.le_refl _,Ob.le_refl _,Ob.le_arr fun i hi=>A2 ?_,trivial⟩
    refine Ca (l:=c.Queue.take j) (r:=[c.Queue.getD j []]) (f:=fun w=>[Ad true w]) (d:=[]) (F:=fun i=>[Ad true ((c.Queue.take j).getD i [])]) (G:=fun i=>List.take 1 (List.drop (i*1) [Ad true (c.Queue.getD j [])])) (fun i hi=>rfl) (fun i hi=>?_) (by simpa using hi)
    obtain rfl:i=0:=by simpa using hi
    rfl
  ·have hge2':c.Queue.length<=j:=by have:=AT hge2;omega
   rw [List.take_of_length_le hge2']
   refine ⟨by rw [hlk];omega,s.Chans.length - (k+1),by omega,?_⟩
   rw [Am (by omega)]
   refine Up.mk (l':=[(1,.bp 0 0),(2,.bp 1 0),(3,.bp 2 0),(19,Bg true s.Chans),(20,Aa s.Chans.length),(21,Aa ((k+1:Nat):Int))])
    (hs':=[.box (An s),.box P7,.box (Bc s (.ow 3 0 (s.Chans.take (k+1)).length) .nl),.arr true 0 (s.Chans.take (k+1)).length 2 (DK (s.Chans.take (k+1)))]) ?_ ?_ ⟨k+1,by omega,rfl,rfl⟩
   ·exact AY _
   ·rw [hpush,List.length_append]
    refine ⟨Ob.le_refl _,Ob.le_refl _,Ob.le_refl _,Ob.le_arr fun i hi=>A2 ?_,trivial⟩
    exact Ca (l:=s.Chans.take k) (r:=[c]) (f:=AF) (d:=default) (F:=fun i=>AF ((s.Chans.take k).getD i default)) (G:=fun i=>[AF c].getD i []) (fun i hi=>rfl) (fun i hi=>by
     obtain rfl:i=0:=by simpa using hi
     rfl) (by simpa using hi)
 ·have hge':s.Chans.length<=k:=by have:=AT hge;omega
  rw [List.take_of_length_le hge']
  refine Bh Ak Aj (fun g st=>∃ k:Nat,k<=s.Procs.length/\g=s.Procs.length - k/\st=X7 s s.Chans (s.Procs.take k) k) (by kernel_rfl) (by kernel_rfl) ⟨_,Up.cv (Cv.ownBox 1 2 4 (HY []) rfl rfl) (Up.of ⟨0,Nat.zero_le _,rfl,rfl⟩)⟩ ?_
  rintro g st ⟨k,hk,rfl,rfl⟩
  have hlk:(s.Procs.take k).length=k:=by simp;omega
  refine Bb.raw (Vt _ _ s s.Chans (s.Procs.take k) k _) ⟨fun hlt=>?_,fun hge=>?_⟩
  ·have hlt':k<s.Procs.length:=by have:=AQ hlt;omega
   have hto:(k:Int).toNat=k:=by omega
   rw [hto]
   have hpush:s.Procs.take (k+1)=s.Procs.take k++[s.Procs.getD k default]:=Ec hlt'
   have hq:=hf.f _ (Au (d:=default) hlt')
   generalize s.Procs.getD k default=p at hpush hq ⊢
   refine ⟨⟨by omega,by omega⟩,p.Frame,Ps (by omega),by rw [hlk];omega,s.Procs.length - (k+1),by omega,?_⟩
   rw [Am (by omega)]
   refine Up.mk (l':=[(2,.bp 0 0),(3,.bp 1 0),(49,AW true s.Procs),(50,Aa s.Procs.length),(51,Aa ((k+1:Nat):Int))])
    (hs':=[.box P7,.box (Bc s (.ow 2 0 s.Chans.length) (.ow 3 0 (s.Procs.take (k+1)).length)),.arr true 0 s.Chans.length 2 (DK s.Chans),.arr true 0 (s.Procs.take (k+1)).length 4 (HY (s.Procs.take (k+1)))]) ?_ ?_ ⟨k+1,by omega,rfl,rfl⟩
   ·exact AY _
   ·rw [hpush,List.length_append]
    refine ⟨Ob.le_refl _,Ob.le_refl _,Ob.le_refl _,Ob.le_arr fun i hi=>A2 ?_,trivial⟩
    exact Ca (l:=s.Procs.take k) (r:=[p]) (f:=As) (d:=default) (F:=fun i=>As ((s.Procs.take k).getD i default)) (G:=fun i=>List.take 4 (List.drop (i*4) (As p))) (fun i hi=>rfl) (fun i hi=>by
     obtain rfl:i=0:=by simpa using hi
     rfl) (by simpa using hi)
  ·have hge2:s.Procs.length<=k:=by have:=AT hge;omega
   rw [List.take_of_length_le hge2]
   exact ⟨⟨Ob.le_refl _,Ob.le_refl _,trivial⟩,VV.le_refl _⟩
theorem Xy {e:D.Env} {s:D.Stmt} {w:Wy} (hk:s.Kind=7∨s.Kind=8):Ai Tryz.prog 22 (hsE e) [.bp 0 0,.agg (Ap s),.agg (Bu w)] (hsE e) (.tup [BV ⟨#[]⟩,Aa 0]):=by
 refine Ag Ak Aj Tryz.func22 (by kernel_rfl) rfl (Qc e ⟨#[]⟩ 0 e s w) ?_
 have n:∀ {k:Int} {p:Prop},k≠7->k≠8->(s.Kind==k)=true->p:=fun h1 h2 h=>by
  have:=eq_of_beq h;omega
 exact ⟨n (by decide) (by decide),fun _=>⟨n (by decide) (by decide),fun _=>⟨n (by decide) (by decide),fun _=>⟨n (by decide) (by decide),fun _=>⟨n (by decide) (by decide),fun _=>⟨n (by decide) (by decide),fun _=>⟨n (by decide) (by decide),fun _=>⟨⟨Ob.le_refl _,Ob.le_refl _,Ob.le_refl _,trivial⟩,VV.le_refl _⟩⟩⟩⟩⟩⟩⟩⟩
end Go.Proofs.YtiaebjpcgjkhoaaGreatDoor
namespace Go.Proofs.YtiaebjpcgjkhoaaGreatDoor
open Go.RowKit
def Bw (l:D.Loc) (esc:Int):List D.Trans:=bif decide (esc<0) then l.Out else l.Esc.getD esc.toNat []
theorem T8 : ∀ {r:List (List D.Trans)} {k:Nat} {i:Int} {ws:List D.Trans},(i,ws)∈UM k r->∃ j:Nat,i=((k+j:Nat):Int)/\r[j]?=some ws
 | [],k,i,ws,h=>by cases h
 | w::r,k,i,ws,h=>by
  rcases List.mem_cons.1 h with h | h
  ·simp only [Prod.mk.injEq] at h
   obtain ⟨rfl,rfl⟩:=h
   exact ⟨0,by omega,rfl⟩
  ·obtain ⟨j,hj,hw⟩:=T8 h
   exact ⟨j+1,by omega,by simpa using hw⟩
theorem Hd {l:D.Loc} {i:Int} {ws:List D.Trans} (h:(i,ws)∈ET l):Bw l i=ws/\-1<=i/\i<l.Esc.length/\(ws=l.Out∨ws∈l.Esc):=by
 rcases List.mem_append.1 h with h | h
 ·obtain ⟨j,rfl,hj⟩:=T8 h
  obtain ⟨hlt,rfl⟩:=List.getElem?_eq_some_iff.1 hj
  refine ⟨?_,by omega,by omega,.inr (List.getElem_mem _)⟩
  unfold Bw
  rw [decide_eq_false (by omega),cond_false]
  simp [List.getD,hlt]
 ·simp only [List.mem_singleton,Prod.mk.injEq] at h
  obtain ⟨rfl,rfl⟩:=h
  exact ⟨rfl,by omega,by omega,.inl rfl⟩
section
variable {e : D.Env} {mt:Int->List Int->List Pn} {ws:List D.Trans} {self:Bool}
theorem Aci {s:D.Stmt} (h:(CX e mt s self).is=false):(CX e mt s self).wth=[]:=by
 unfold CX at h ⊢
 split
 ·cases DE e s.A<;>rfl
 ·rename_i n1
  rw [if_neg n1] at h
  split
  ·cases DE e s.B<;>rfl
  ·rename_i n2
   rw [if_neg n2] at h
   split
   ·rfl
   ·rename_i n3
    rw [if_neg n3] at h
    split
    ·rename_i n4
     rw [if_pos n4] at h
     unfold HH at h ⊢
     cases c1:decide ((AC e s.A).2≠0) with
     | true=>rfl
     | false =>
     rw [c1,cond_false] at h
     rw [cond_false]
     cases c2:decide ((A8 e (AC e s.A).1).length≠s.Args.length) with
     | true=>rfl
     | false =>
     rw [c2,cond_false] at h
     rw [cond_false]
     cases c3:decide (0<(BC e.M (Cl e (AC e s.A).1).Shape).Room) with
     | true=>rfl
     | false =>
     rw [c3,cond_false] at h
     rw [cond_false]
     cases c4:self with
     | true=>rfl
     | false =>
     rw [c4,cond_false] at h
     rw [cond_false]
     cases c5:decide ((Ax e s).2.2≠0) with
     | true=>rfl
     | false =>
     rw [c5,cond_false] at h
     rw [cond_false]
     exact List.eq_nil_of_length_eq_zero (Nat.eq_zero_of_not_pos (of_decide_eq_false h))
    split
    ·rfl
    split<;>rfl
theorem ZJ {s:D.Stmt} (h:s.Kind=7):CX e mt s self=⟨false,0,[]⟩:=by
 unfold CX
 rw [if_neg (by omega),if_neg (by omega),if_neg (by omega),if_neg (by omega),if_neg (by omega),if_pos h]
theorem Tn : ∀ {n:Nat},E9 e mt ws self n=false->∀ j,j<n->(CX e mt (ws.getD j default).S self).is=false
 | 0,_,j,hj=>absurd hj (Nat.not_lt_zero j)
 | n+1,h,j,hj=>by
  unfold E9 at h
  rw [Bool.or_eq_false_iff] at h
  rcases Nat.lt_succ_iff_lt_or_eq.1 hj with h' | rfl
  ·exact Tn h.1 j h'
  ·exact h.2
def Afo (x:Ab):Prop:=x.is=true∨x.wth≠[]
theorem AdT {j:Nat} (hk:(ws.getD j default).S.Kind=7) (h:Afo (Fi e mt ws self j)):E9 e mt ws self ws.length=false:=by
 unfold Fi at h
 rw [ZJ hk,show decide ((ws.getD j default).S.Kind=7)=true by simpa using hk] at h
 cases hs:E9 e mt ws self ws.length with
 | false=>rfl
 | true =>
  rw [hs] at h
  rcases h with h | h
  ·cases h
  ·exact absurd rfl h
theorem AdS {j:Nat} (hj:j<ws.length) (hs:E9 e mt ws self ws.length=false) (h:Afo (Fi e mt ws self j)):(ws.getD j default).S.Kind=7:=by
 refine Classical.byContradiction fun hn=>?_
 have his:=Tn hs j hj
 have hw:=Aci his
 unfold Fi at h
 rw [show decide ((ws.getD j default).S.Kind=7)=false by simpa using hn] at h
 rcases h with h | h
 ·have h':(CX e mt (ws.getD j default).S self).is=true:=h
  rw [his] at h';cases h'
 ·exact h hw
theorem AaT {i:Int} {k:Nat} {x:Ab} {w:Wy} (h:w∈F6 i k x):w.Esc=i/\w.Way=k/\Afo x:=by
 rcases List.mem_append.1 h with h | h
 ·cases c:(x.is&&decide (x.wth.length=0)) with
  | false=>rw [c] at h;cases h
  | true =>
   rw [c] at h
   obtain rfl:=List.mem_singleton.1 h
   simp only [Bool.and_eq_true] at c
   exact ⟨rfl,rfl,.inl c.1⟩
 ·obtain ⟨p,hp,rfl⟩:=List.mem_map.1 h
  refine ⟨rfl,rfl,.inr ?_⟩
  intro hn;rw [hn] at hp;cases hp
theorem Pb {i:Int}:∀ {l:List Ab} {k:Nat} {w:Wy},w∈CT i k l->∃ (j:Nat) (x:Ab),l[j]?=some x/\w.Esc=i/\w.Way=((k+j:Nat):Int)/\Afo x
 | [],k,w,h=>by cases h
 | x::r,k,w,h=>by
  rcases List.mem_append.1 (show w∈F6 i k x++CT i (k+1) r from h) with h | h
  ·obtain ⟨h1,h2,h3⟩:=AaT h
   exact ⟨0,x,rfl,h1,h2,h3⟩
  ·obtain ⟨j,y,h1,h2,h3,h4⟩:=Pb h
   exact ⟨j+1,y,h1,h2,by rw [h3];congr 1;omega,h4⟩
theorem SA {j:Nat} {x:Ab} (h:(Cx e mt ws self)[j]?=some x):j<ws.length/\x=Fi e mt ws self j:=by
 unfold Cx at h
 simp only [List.getElem?_map,Option.map_eq_some_iff] at h
 obtain ⟨a,ha,rfl⟩:=h
 obtain ⟨h1,h2⟩:=List.getElem?_eq_some_iff.1 ha
 simp at h1 h2
 subst h2
 exact ⟨h1,rfl⟩
theorem Na : ∀ {r:List (Int × List D.Trans)},Fc e r=[]∨∃ i ws,(i,ws)∈r/\Fc e r=CT i 0 (Cx e (Bm e) ws false)
 | []=>.inl rfl
 | (i,ws)::r=>by
  have hq:Fc e ((i,ws)::r)=bif decide (0<(CT i 0 (Cx e (Bm e) ws false)).length) then CT i 0 (Cx e (Bm e) ws false) else Fc e r:=rfl
  rw [hq]
  cases decide (0<(CT i 0 (Cx e (Bm e) ws false)).length) with
  | true=>exact .inr ⟨i,ws,List.mem_cons_self,rfl⟩
  | false =>
   rcases Na (r:=r) with h | ⟨i',ws',h1,h2⟩
   ·exact .inl h
   ·exact .inr ⟨i',ws',List.mem_cons_of_mem _ h1,h2⟩
theorem GJ : A5 e=[]∨(∃ er,A5 e=[Kc er])∨∃ i ws,(i,ws)∈ET (Ct e)/\A5 e=CT i 0 (Cx e (Bm e) ws false):=by
 unfold A5
 cases decide ((Dp e e.Pid).Loc=(DF e).Final) with
 | true =>
  cases decide (e.Pid=(e.S.Procs.length:Int) - 1) with
  | true=>exact .inr (.inl ⟨0,rfl⟩)
  | false=>exact .inl rfl
 | false =>
  cases decide ((Bf e).2≠0) with
  | true=>exact .inr (.inl ⟨_,rfl⟩)
  | false =>
   cases (Bf e).1 with
   | false=>exact .inl rfl
   | true =>
    rcases Na (e:=e) (r:=ET (Ct e)) with h | h
    ·exact .inl h
    ·exact .inr (.inr h)
theorem Oa {w:Wy} (hw:w∈A5 e) :
  (w.Way<0->(A5 e).length=1)/\(0<=w.Way->-1<=w.Esc/\w.Esc<(Ct e).Esc.length/\∀ w'∈A5 e,w'.Esc=w.Esc/\0<=w'.Way/\w'.Way<(Bw (Ct e) w.Esc).length /\
   (((Bw (Ct e) w.Esc).getD w.Way.toNat default).S.Kind=7->((Bw (Ct e) w.Esc).getD w'.Way.toNat default).S.Kind=7)):=by
 rcases GJ (e:=e) with h | ⟨er,h⟩ | ⟨i,ws,hi,h⟩
 ·rw [h] at hw;cases hw
 ·rw [h] at hw
  obtain rfl:=List.mem_singleton.1 hw
  exact ⟨fun _=>by rw [h]<;>rfl,fun h0=>by unfold Kc at h0;simp at h0⟩
 ·rw [h] at hw ⊢
  obtain ⟨hl,h1,h2,_⟩:=Hd hi
  obtain ⟨j,x,a1,a2,a3,a4⟩:=Pb hw
  obtain ⟨b1,rfl⟩:=SA a1
  refine ⟨fun hn=>by rw [a3] at hn;omega,fun _=>⟨by omega,by omega,fun w' hw'=>?_⟩⟩
  obtain ⟨j',x',c1,c2,c3,c4⟩:=Pb hw'
  obtain ⟨d1,rfl⟩:=SA c1
  rw [a2,hl]
  refine ⟨c2,by rw [c3];omega,by rw [c3];omega,fun hk=>?_⟩
  rw [show w.Way.toNat=j by rw [a3];omega] at hk
  rw [show w'.Way.toNat=j' by rw [c3];omega]
  exact AdS d1 (AdT hk a4) c4
end
end Go.Proofs.YtiaebjpcgjkhoaaGreatDoor
namespace Go.Proofs.YtiaebjpcgjkhoaaGreatDoor
open Go.RowKit
section
variable {e : D.Env}
theorem S1 {i:Int}:∀ {l:List Ab} {k:Nat},(∀ x∈l,x.wth.length<=16384)->(CT i k l).length<=l.length*16385
 | [],_,_=>Nat.zero_le _
 | x::r,k,h=>by
  rw [Qj,List.length_append,List.length_cons,Nat.succ_mul]
  have h1:=S1 (i:=i) (k:=k+1) fun y hy=>h y (List.mem_cons_of_mem _ hy)
  have h2:(F6 i k x).length<=16385:=by
   have hx:=h x List.mem_cons_self
   unfold F6
   rw [List.length_append,List.length_map]
   cases (x.is&&decide (x.wth.length=0))
   ·simp;omega
   ·simp;omega
  omega
theorem JJ (h:CH e):(A5 e).length<=16778240:=by
 rcases GJ (e:=e) with h' | ⟨er,h'⟩ | ⟨i,ws,hi,h'⟩
 ·rw [h'];simp
 ·rw [h'];simp
 ·rw [h']
  obtain ⟨_,_,_,hm⟩:=Hd hi
  have hws:=(h.ws (ws:=ws) (by rcases hm with rfl | hm;exact List.mem_cons_self;exact List.mem_cons_of_mem _ hm)).len
  have h1:=S1 (i:=i) (k:=0) (l:=Cx e (Bm e) ws false) (UV h)
  have h2:(Cx e (Bm e) ws false).length=ws.length:=by simp [Cx]
  rw [h2] at h1
  have:=Nat.mul_le_mul_right 16385 hws
  omega
end
end Go.Proofs.YtiaebjpcgjkhoaaGreatDoor
namespace Go.Proofs.YtiaebjpcgjkhoaaGreatDoor
open Go.RowKit
section
variable {e : D.Env} {w:Wy}
def Rg : D.State:=⟨[],[],[],0,0,0⟩
theorem Pf {c:Int}:VV.le (.tup [.agg [.nl,.nl,.nl,Aa 0,Aa 0,Aa 0],BV ⟨#[]⟩,Aa c]) (.tup [.agg (An Rg),BV ⟨#[]⟩,Aa c]) :=
 VV.le_tup ⟨VV.le_agg ⟨VV.le_nil,VV.le_nil,VV.le_nil,VV.le_refl _,VV.le_refl _,VV.le_refl _,trivial⟩,VV.le_refl _,VV.le_refl _,trivial⟩
theorem AeX (h:CH e) (h0:Ee e=0) (hn:w ∉ A5 e):Ai Tryz.prog 9 [] [.agg (Af e),.agg (Bu w)] [] (.tup [.agg (An Rg),BV ⟨#[]⟩,Aa 42]):=by
 have hl:=JJ h
 refine Ag Ak Aj Tryz.func9 (by kernel_rfl) rfl (Rl (Rg,⟨#[]⟩,42) e w) ⟨Ee e,KY h.ok.wf h.small,fun h1=>?_,fun _=>⟨A5 e,E5 h,decide (w∈A5 e),Iz (by omega),fun _=>⟨trivial,Pf⟩,fun h2=>?_⟩⟩
 ·rw [h0] at h1;cases h1
 ·rw [decide_eq_false hn] at h2;cases h2
theorem LB {l:List D.Process} {t j:Nat} {p:D.Process} (hj:j<l.length):(bif j.beq t then As p else As (l.getD j default))=As ((l.set t p).getD j default):=by
 cases hq:j.beq t with
 | true =>
  have:=Nat.eq_of_beq_eq_true hq;subst this
  simp [List.getD,hj]
 | false =>
  have hne:t≠j:=by rintro rfl;simp at hq
  simp [List.getD,hne]
def Mu (e:D.Env) (to:Int):D.State:={ e.S with Procs:=e.S.Procs.set e.Pid.toNat { Dp e e.Pid with Loc:=to },Last:=e.Pid }
theorem Adr (h:CH e) (h0:Ee e=0) (hin:w∈A5 e) (herr:w.Err=0) (h1:0<=w.Way) (h2:w.With<0) (hk:((Bw (Ct e) w.Esc).getD w.Way.toNat default).S.Kind=7∨((Bw (Ct e) w.Esc).getD w.Way.toNat default).S.Kind=8) :
  Ai Tryz.prog 9 [] [.agg (Af e),.agg (Bu w)] [] (.tup [.agg (An (Mu e ((Bw (Ct e) w.Esc).getD w.Way.toNat default).To)),BV ⟨#[]⟩,Aa 0]):=by
 have hl:=JJ h
 obtain ⟨_,law⟩:=Oa hin
 obtain ⟨e1,e2,law⟩:=law h1
 obtain ⟨_,_,l3,_⟩:=law w hin
 have hlist:(bif decide (w.Esc<0) then (Ct e).Out else (Ct e).Esc.getD w.Esc.toNat [])=Bw (Ct e) w.Esc:=rfl
 have hway:=P8 (l:=Ct e) (esc:=w.Esc) (i:=w.Way) (fun hn=>⟨h1,by
   have hx:Bw (Ct e) w.Esc=(Ct e).Out:=by unfold Bw;rw [decide_eq_true hn]<;>rfl
   rw [hx] at l3;exact l3⟩) (fun hn=>⟨e2,h1,by
   have hx:Bw (Ct e) w.Esc=(Ct e).Esc.getD w.Esc.toNat []:=by unfold Bw;rw [decide_eq_false (by omega)]<;>rfl
   rw [hx] at l3;exact l3⟩)
 rw [hlist] at hway
 generalize (Bw (Ct e) w.Esc).getD w.Way.toNat default=t at hk hway ⊢
 have hcopy:=MF h.ok.fit
 have hdoes:=Xy (e:=e) (w:=w) hk
 have hpid:=h.ok.pid
 have hp0:=h.p0
 refine Ag Ak Aj Tryz.func9 (by kernel_rfl) rfl (Rl (Mu e t.To,⟨#[]⟩,0) e w) ⟨Ee e,KY h.ok.wf h.small,fun h1=>?_,fun _=>⟨A5 e,E5 h,decide (w∈A5 e),Iz (by omega),fun hb=>?_,fun _=>⟨fun hb=>?_,fun _=>⟨fun hb=>?_,fun _ =>
  ⟨e.S,hcopy,Ct e,GW h,t,hway,(e,⟨#[]⟩,0),hdoes,fun hb=>?_,fun _=>⟨fun hb=>?_,fun _=>⟨⟨hp0,hpid.2⟩,trivial,VV.le_tup ⟨VV.le_agg ⟨VV.le_refl _,VV.le_refl _,?_,VV.le_refl _,VV.le_refl _,VV.le_refl _,trivial⟩,VV.le_refl _,VV.le_refl _,trivial⟩⟩⟩⟩⟩⟩⟩⟩
 ·rw [h0] at h1;cases h1
 ·rw [decide_eq_true hin] at hb;cases hb
 ·rw [herr] at hb;cases hb
 ·have:=of_decide_eq_true hb;omega
 ·cases hb
 ·have:=of_decide_eq_true hb;omega
 ·have hlen:e.S.Procs.length=(Mu e t.To).Procs.length:=by simp [Mu]
  show VV.le (.sl true e.S.Procs.length 4 _) (.sl true (Mu e t.To).Procs.length 4 _)
  rw [← hlen]
  refine VV.le_sl (.inl rfl) fun j hj=>A2 ?_
  exact LB (t:=e.Pid.toNat) (p:={ Dp e e.Pid with Loc:=t.To }) hj
def AdM (m:D.Model) (s:D.State) (k:Int):D.Env:=⟨m,s,k,false,[]⟩
def AfD (m:D.Model) (s:D.State) (k:Nat):Bool:=decide (((A5 (AdM m s k)).length:Int) > 0)
def EI (m:D.Model) (s:D.State) (k:Nat):List Bool:=(List.range s.Procs.length).map fun i=>bif Nat.blt i k then AfD m s i else false
theorem E0 {m:D.Model} {s:D.State} {k:Nat}:(EI m s k).length=s.Procs.length:=by simp [EI]
theorem PK {m:D.Model} {s:D.State} {k j:Nat} (hj:j<s.Procs.length):(EI m s k).getD j false=bif Nat.blt j k then AfD m s j else false:=by
 simp [EI,List.getD,hj]
theorem AbG {m:D.Model} {s:D.State} (hw:Ay m) (hs:A4 s) (hc:CY m s=0):Ai Tryz.prog 13 [] [.agg (Ae m),.agg (An s)] [] (.tup [BG true (EI m s s.Procs.length),Aa 0]):=by
 obtain ⟨hm,hf⟩:=KJ hc
 have hfit:=Sq hm hf
 have hp:=hfit.p
 have hpid:∀ k:Nat,k<s.Procs.length->CH (AdM m s k):=fun k hk=>⟨⟨hf,hm,hw,by show -1<=(k:Int);omega,by show (k:Int)<s.Procs.length;omega⟩,by show 0<=(k:Int);omega⟩
 refine Ag Ak Aj Tryz.func13 (by kernel_rfl) rfl (Zi (EI m s s.Procs.length) 0 m s) ⟨CY m s,Hv hw hs (fun h=>(Ky h).clp),fun h1=>?_,fun _=>⟨⟨by omega,by omega,by omega⟩,?_⟩⟩
 ·rw [hc] at h1;cases h1
 have hn0:((s.Procs.length:Int).toNat)=(EI m s 0).length:=by rw [E0];omega
 rw [hn0]
 refine AA.le (l':=[(2,.bp 0 0),(3,.bp 1 0),(7,.ow 2 0 (EI m s 0).length),(21,Aa s.Procs.length),(22,Aa 0)]) (hs':=[.box (Ae m),.box (An s),.arr true 0 (EI m s 0).length 1 (Ep (EI m s 0))]) (AY _) ⟨Ob.le_refl _,Ob.le_refl _,Ob.le_arr fun i hi=>A2 ?_,trivial⟩ ?_
 ·rw [E0] at hi
  show _=[Ac ((EI m s 0).getD i false)]
  rw [PK hi]<;>rfl
 refine AD Ak Aj s.Procs.length (fun k=>X4 m s (EI m s k) k) (fun _=>True) (by kernel_rfl) (by kernel_rfl) trivial ?_
 intro k hk _ J next
 refine Bb.raw (Vz _ 0 m s (EI m s k) k J) ⟨fun hlt=>?_,fun hge=>?_⟩
 ·have hlt':k<s.Procs.length:=by have:=AQ hlt;omega
  have hto:(k:Int).toNat=k:=by omega
  rw [hto]
  refine ⟨A5 (AdM m s k),(E5 (hpid k hlt')).le trivial ⟨VV.le_agg ⟨VV.le_refl _,VV.le_refl _,VV.le_refl _,VV.le_refl _,VV.le_refl _,VV.le_refl _,VV.le_refl _,VV.le_refl _,VV.le_refl _,VV.le_refl _,VV.le_refl _,VV.le_refl _,VV.le_refl _,VV.le_refl _,VV.le_refl _,VV.le_nil,trivial⟩,trivial⟩ trivial (VV.le_refl _),⟨by omega,by rw [E0];omega⟩,next _ hlt' trivial ?_⟩
  rw [Am (by omega)]
  refine Up.mk (l':=[(2,.bp 0 0),(3,.bp 1 0),(7,.ow 2 0 (EI m s (k+1)).length),(21,Aa s.Procs.length),(22,Aa ((k+1:Nat):Int))]) (hs':=[.box (Ae m),.box (An s),.arr true 0 (EI m s (k+1)).length 1 (Ep (EI m s (k+1)))]) ?_ ?_ rfl
  ·rw [E0,E0];exact AY _
  ·rw [E0,E0]
   refine ⟨Ob.le_refl _,Ob.le_refl _,Ob.le_arr fun i hi=>A2 ?_,trivial⟩
   show _=[Ac ((EI m s (k+1)).getD i false)]
   rw [PK (k:=k+1) hi]
   cases hq:i.beq k with
   | true =>
    have:=Nat.eq_of_beq_eq_true hq;subst this
    rw [cond_true,L7 (Nat.lt_succ_self _)]<;>rfl
   | false =>
    rw [cond_false,PK (k:=k) hi]
    have hne:i≠k:=by rintro rfl;simp at hq
    rcases Nat.lt_or_ge i k with h | h
    ·rw [L7 h,L7 (by omega)]<;>rfl
    ·rw [NV h,NV (by omega)]<;>rfl
 ·have hge':k=s.Procs.length:=by have:=AT hge;omega
  subst hge'
  exact ⟨trivial,VV.le_refl _⟩
end
def Qw : D.Model:=⟨[],[],[],[],[⟨ByteArray.empty,0,[],[],[⟨[⟨⟨8,-1,-1,0,[],[],ByteArray.empty⟩,1,0⟩],[],false,false,false,false,false⟩,⟨[],[],false,false,false,false,false⟩],0,1,1,1,-1⟩],-1,[]⟩
def OO : D.State:=⟨[],[],[⟨0,0,1,[]⟩],0,-1,-1⟩
def J9 : D.Env:=⟨Qw,OO,0,false,[]⟩
theorem N6 : Ay Qw where
 Globals:=⟨by decide,by intro y hy;cases hy⟩
 Init:=⟨by decide,by intro y hy;cases hy⟩
 Shapes:=⟨by decide,by intro y hy;cases hy⟩
 Chans:=⟨by decide,by intro y hy;cases hy⟩
 Procs:=⟨by decide,by
  intro y hy;obtain rfl:=List.mem_singleton.1 hy
  refine { Name:=by decide,Params:=rfl,Frame:=⟨by decide,by intro y hy;cases hy⟩,Init:=⟨by decide,by intro y hy;cases hy⟩,Locs:=⟨by decide,fun y hy=>?_⟩,Start:=rfl,Final:=rfl,Active:=rfl,Prio:=rfl,Provided:=rfl }
  rcases List.mem_cons.1 hy with rfl | hy
  ·exact { Out:=⟨by decide,by intro y hy;obtain rfl:=List.mem_singleton.1 hy;exact ⟨⟨rfl,rfl,rfl,rfl,⟨by decide,by intro y hy;cases hy⟩,⟨by decide,by intro y hy;cases hy⟩,by decide⟩,rfl,rfl⟩⟩,Esc:=⟨by decide,by intro y hy;cases hy⟩,Atomic:=trivial,Dstep:=trivial,End:=trivial,Accept:=trivial,Progress:=trivial }
  ·obtain rfl:=List.mem_singleton.1 hy
   exact { Out:=⟨by decide,by intro y hy;cases hy⟩,Esc:=⟨by decide,by intro y hy;cases hy⟩,Atomic:=trivial,Dstep:=trivial,End:=trivial,Accept:=trivial,Progress:=trivial }⟩
 Claim:=rfl
 Exprs:=⟨by decide,by intro y hy;cases hy⟩
theorem M4 : A4 OO:=Fit.small ⟨by decide,by decide,fun c hc=>(by cases hc),by decide,fun p hp=>(by obtain rfl:=List.mem_singleton.1 hp;decide)⟩
theorem Sw : Ee J9=0:=by kernel_rfl
theorem Aeo : CY Qw OO=0:=by kernel_rfl
def QJ : Wy:=⟨-1,0,-1,-1,-1,0⟩
theorem Qh : A5 J9=[QJ]:=by kernel_rfl
theorem VB : IB J9=([QJ],0):=by kernel_rfl
theorem AbH : EI Qw OO OO.Procs.length=[true]:=by kernel_rfl
theorem V4 : Ai Tryz.prog 6 [] [] [] (Ac true):=by
 have hP:CH J9:=MD N6 Sw
 refine Ag Ak Aj Tryz.func6 (by kernel_rfl) rfl (W7 true) ?_
 refine AA.pubB 8 8 (hs':=[.box (Ae Qw),.gone 1,.gone 1,.gone 1,.box (An OO),.gone 1,.box (Af J9)]) (by kernel_rfl) ?_
 have hw1:=N3 (e:=J9) N6 M4
 rw [VB] at hw1
 have hin:QJ∈A5 J9:=by rw [Qh];exact List.mem_singleton.2 rfl
 have hg1:=Adr hP Sw hin rfl (by decide) (by decide) (.inr (by kernel_rfl))
 rw [show ((Bw (Ct J9) QJ.Esc).getD QJ.Way.toNat default).To=1 by kernel_rfl] at hg1
 have hab:=AbG N6 M4 Aeo
 rw [AbH] at hab
 have hg2:=AeX (w:=⟨0,0,0,0,0,0⟩) hP Sw (by rw [Qh];decide)
 exact EC Ak Aj (by kernel_rfl) (Uh true Qw OO J9) ⟨([QJ],0),hw1,fun h=>(by cases h),fun _=>⟨by decide,(Mu J9 1,⟨#[]⟩,0),hg1,fun h=>(by cases h),fun _=>⟨([true],0),hab,(Rg,⟨#[]⟩,42),hg2,fun _=>by decide,fun _=>by decide,fun _=>by decide,Ao (by kernel_rfl)⟩⟩⟩
end Go.Proofs.YtiaebjpcgjkhoaaGreatDoor
namespace Go.Proofs.YtiaebjpcgjkhoaaGreatDoor
open Go.RowKit
def G9 (is:List Nat) (φ:Phi):Phi:=fun j=>(is[j]?).bind φ
def T0 (is:List Nat) (hs:List Ob):List Ob:=is.map fun i=>TQ false (idx is) (fun _ g=>some g) (fun g=>g) (BN hs i)
theorem Wz (p:Pl):EF (fun g=>g) p=p:=by cases p<;>rfl
theorem Ai.pick {P:Program} {f:FuncId} {hs hs1:List Ob} {xs:List VV} {r:VV} (is:List Nat) (h:Ai P f hs xs hs1 r) (hok:Gh hs1.length is=true)
  (hl:∀ j,j<hs.length->is[j]?=some j∨((∀ cs,BN hs j≠.box cs)/\∃ i,is[j]?=some i/\∀ cs,BN hs1 i≠.box cs)) :
  Ai P f hs xs (T0 is hs1) (LJ false (idx is) (fun _ g=>some g) 8 r):=by
 refine ⟨h.callable,fun w E φ vs hz hH hφ hs0=>(h.call w E φ vs hz hH hφ hs0).mono ?_⟩
 rintro e w' ⟨v,φ',rfl,h1,h2,h3,h4⟩
 have hsub:∀ k,Own (G9 is φ') k->Own φ' k:=by
  rintro k ⟨j,hb⟩
  obtain ⟨p,hp,hpb⟩:=AI.1 hb
  unfold G9 at hp
  cases hq:is[j]? with
  | none=>rw [hq] at hp;cases hp
  | some i=>rw [hq] at hp;exact ⟨i,AI.2 ⟨p,hp,hpb⟩⟩
 have hrel:Re false (idx is) (fun _ g=>some g) (E.up φ') φ' (E.up (G9 is φ')) (G9 is φ'):=by
  refine ⟨fun k hk=>hk.imp id (hsub k),fun _ k hk=>hk.imp id (hsub k),fun id i b hi hb=>?_,fun id i gen g c len hd hi hg hph hle=>?_⟩
  ·unfold G9;rw [Dv hi];exact hb
  ·obtain rfl:=Option.some.inj hg
   refine ⟨c,?_,hle,fun e=>e⟩
   unfold G9;rw [Dv hi];exact hph
 have hat:∀ j i,is[j]?=some i->G9 is φ' j=φ' i:=fun j i hj=>by unfold G9;rw [hj];rfl
 refine ⟨v,G9 is φ',rfl,⟨h1.sub,fun j p e=>?_,fun i j k hi hj=>?_,fun k hk=>h1.free k (hsub k hk)⟩,⟨h2.os,h2.tape,h2.output,h2.size,h2.block,fun k hk=>h2.new k (hsub k hk),fun id p hid e=>?_⟩,fun j=>?_,FM hrel 8 _ _ h4⟩
 ·cases hq:is[j]? with
  | none=>unfold G9 at e;rw [hq] at e;cases e
  | some i =>
   rw [hat j i hq] at e
   have:=LI (og:=fun g=>g) hrel (h1.ob i p e)
   rw [Wz] at this
   have e1:BN (T0 is hs1) j=TQ false (idx is) (fun _ g=>some g) (fun g=>g) (BN hs1 i):=by
    unfold T0 BN
    rw [List.getD_eq_getElem?_getD,List.getElem?_map,hq];rfl
   rw [e1];exact this
 ·have toOld:∀ j k,Blk (G9 is φ') j k->∃ i,is[j]?=some i/\Blk φ' i k:=by
   intro j k hb
   obtain ⟨p,hp,hpb⟩:=AI.1 hb
   unfold G9 at hp
   cases hq:is[j]? with
   | none=>rw [hq] at hp;cases hp
   | some i=>rw [hq] at hp;exact ⟨i,rfl,AI.2 ⟨p,hp,hpb⟩⟩
  obtain ⟨a,ha,hab⟩:=toOld i k hi
  obtain ⟨b,hb,hbb⟩:=toOld j k hj
  obtain rfl:=h1.inj a b k hab hbb
  have e1:=KD hok i a ha
  have e2:=KD hok j a hb
  rw [e1] at e2
  exact Option.some.inj e2
 ·rcases hl id hid with hi | ⟨n1,i,hi,n2⟩
  ·obtain ⟨p',e1,e2⟩:=h2.kind id p hid e
   exact ⟨p',by rw [hat id id hi];exact e1,e2⟩
  ·have hlt:i<hs1.length:=by
    have:=(h3 i)
    exact Classical.byContradiction fun hn=>by
     have hj:=Fe hok _ _ hi
     exact hn hj
   obtain ⟨q,hq⟩:∃ q,φ' i=some q:=Option.ne_none_iff_exists'.1 ((h3 i).2 hlt)
   refine ⟨q,by rw [hat id i hi];exact hq,?_⟩
   have o1:=hH.ob id p e
   have o2:=h1.ob i q hq
   cases p with
   | box b =>
    exfalso
    generalize hx:BN hs id=x at o1 n1
    cases x with
    | box cs=>exact n1 cs rfl
    | arr=>exact o1.elim
    | gone=>exact o1.elim
   | arr c n hd =>
    cases q with
    | arr c' n' hd'=>exact ⟨c',n',hd',rfl⟩
    | box b =>
     exfalso
     generalize hx:BN hs1 i=x at o2 n2
     cases x with
     | box cs=>exact n2 cs rfl
     | arr=>exact o2.elim
     | gone=>exact o2.elim
 ·have hlen:(T0 is hs1).length=is.length:=by simp [T0]
  rw [hlen]
  constructor
  ·intro hn
   refine Classical.byContradiction fun hge=>hn ?_
   unfold G9
   rw [List.getElem?_eq_none (by omega)];rfl
  ·intro hlt
   have hj:is[j]?=some is[j]:=List.getElem?_eq_getElem hlt
   rw [hat j _ hj]
   exact (h3 _).2 (Fe hok _ _ hj)
end Go.Proofs.YtiaebjpcgjkhoaaGreatDoor
namespace Go.Proofs.YtiaebjpcgjkhoaaGreatDoor
open Go.RowKit
def Acq : Shp:={ α:=D.State × Int,enc:=fun y=>([obC y.1,obP y.1],.tup [.agg (Bc y.1 (.ow 0 0 y.1.Chans.length) (.ow 1 0 y.1.Procs.length)),Aa y.2]) }
def AfV : Shp:={ α:=D.Chan × Int,enc:=fun y=>([],.tup [.agg (AF y.1),Aa y.2]) }
def Tr (f:FuncId):Shp:=bif Nat.beq f 63 then Acq else bif Nat.beq f 64 then Acs else bif Nat.beq f 66 then AfV else IN f
def KP : Ann:={ base:=3,keep:=fun
  | [0,1,0,1]=>[0,2,4,11,12,13]
  | _=>[] }
def JA (e:D.Env) (s:D.Stmt) (m:List Int) (k:Int):St:=AB [(0,.bp 0 0),(2,Ad true m),(4,.bp 3 0),(11,Ad true s.Args),(12,Aa s.Args.length),(13,Aa k)] (hsE e++[.box (Ap s)])
end Go.Proofs.YtiaebjpcgjkhoaaGreatDoor
namespace Go.Proofs.YtiaebjpcgjkhoaaGreatDoor
open Go.RowKit
set_option maxRecDepth 100000
theorem NX (hs':List Ob) (r:Int) (e:D.Env) (x v:Int):(BP Tryz.prog tb Tr AbF false Tryz.f42 hs' (Aa r)).goal (St.init (hsE e) [.bp 0 0,Aa x,Aa v]) =
  (∃ (y:D.State × Int),Ai Tryz.prog 63 [] [VV.agg (Bk e),Aa x,Aa v] [obC y.fst,obP y.fst] (VV.tup [VV.agg (Bc y.fst (VV.ow 0 0 y.fst.Chans.length) (VV.ow 1 0 y.fst.Procs.length)),Aa y.snd])/\BB (y.snd==0) (leO [Ob.box [AE true e.M.Globals,Ad true e.M.Init,Cj true e.M.Shapes,Ad true e.M.Chans,Cw true e.M.Procs,Aa e.M.Claim,CO true e.M.Exprs,Ad true y.fst.Globals,VV.ow 3 0 y.fst.Chans.length,VV.ow 4 0 y.fst.Procs.length,Aa y.fst.Last,Aa y.fst.Alone,Aa y.fst.Claim,Aa e.Pid,Ac e.Timeout,BG true e.Able],obC e.S,obP e.S,obC y.fst,obP y.fst] hs'/\(Aa y.snd).le (Aa r)) (leO (hsE e) hs'/\(Aa y.snd).le (Aa r))):=by kernel_rfl
theorem Vq (y:D.Env) (r:Int) (e:D.Env) (s:D.Stmt) (m:List Int):(BP Tryz.prog tb Tr KP false Tryz.f65 (hsE y) (Aa r)).goal (St.init (hsE e) [.bp 0 0,.agg (Ap s),Ad true m]) =
  (AA (BP Tryz.prog tb Tr KP false Tryz.f65 (hsE y) (Aa r)) [1,0,1,0] (JA e s m (0:Int))):=by kernel_rfl
theorem SR (y:D.Env) (r:Int) (e:D.Env) (s:D.Stmt) (m:List Int) (k:Int) (J:St->Prop):((BP Tryz.prog tb Tr KP false Tryz.f65 (hsE y) (Aa r)).loop [1,0,1,0] J).goal (JA e s m k) =
  (BB (decide (k<(↑s.Args.length:Int))) (inX k s.Args.length/\inX k s.Match.length/\BB (s.Match.getD k.toNat 0 != 0) (J (JA e s m (IntKind.i64.wrap (k+(1:Int))))) (inX k m.length/\∃ (y_1:D.Env × Int),Ai Tryz.prog 42 (hsE e) [VV.bp 0 0,Aa (s.Args.getD k.toNat 0),Aa (m.getD k.toNat 0)] (hsE y_1.fst) (Aa y_1.snd)/\BB (y_1.snd != 0) (leO (hsE y_1.fst) (hsE y)/\(Aa y_1.snd).le (Aa r)) (J (JA y_1.fst s m (IntKind.i64.wrap (k+(1:Int))))))) (leO (hsE e) (hsE y)/\(Aa 0).le (Aa r))):=by kernel_rfl
theorem YT (hs':List Ob) (r:Int) (e:D.Env) (s:D.Stmt) (w:Wy):(BP Tryz.prog tb Tr AbF false Tryz.f43 hs' (Aa r)).goal (St.init (hsE e) [.bp 0 0,.agg (Ap s),.agg (Bu w)]) =
  (∃ (y:Int × List Int × Int),VC 64 [VV.agg (Bk e),VV.agg (Ap s)] (VV.tup [Aa y.fst,Ad true y.snd.fst,Aa y.snd.snd])/\BB (y.snd.snd != 0) (leO (hsE e) hs'/\(Aa y.snd.snd).le (Aa r)) (BB (decide (w.With>=0)) (∃ (y_1:D.Loc),VC 21 [VV.agg [AE true e.M.Globals,Ad true e.M.Init,Cj true e.M.Shapes,Ad true e.M.Chans,Cw true e.M.Procs,Aa e.M.Claim,CO true e.M.Exprs,Ad true e.S.Globals,Bg false e.S.Chans,AW false e.S.Procs,Aa e.S.Last,Aa e.S.Alone,Aa e.S.Claim,Aa w.With,Ac e.Timeout,BG true e.Able]] (VV.agg (A9 y_1))/\∃ (y_2:D.Trans),VC 20 [VV.agg (A9 y_1),Aa w.WithEsc,Aa w.WithWay] (VV.agg (CN y_2))/\∃ (y_3:D.Env × Int),Ai Tryz.prog 65 [Ob.box [AE true e.M.Globals,Ad true e.M.Init,Cj true e.M.Shapes,Ad true e.M.Chans,Cw true e.M.Procs,Aa e.M.Claim,CO true e.M.Exprs,Ad true e.S.Globals,VV.ow 1 0 e.S.Chans.length,VV.ow 2 0 e.S.Procs.length,Aa e.S.Last,Aa e.S.Alone,Aa e.S.Claim,Aa w.With,Ac e.Timeout,BG true e.Able],obC e.S,obP e.S] [VV.bp 0 0,VV.agg (Ap y_2.S),Ad true y.snd.fst] (hsE y_3.fst) (Aa y_3.snd)/\leO [Ob.box [AE true e.M.Globals,Ad true e.M.Init,Cj true e.M.Shapes,Ad true e.M.Chans,Cw true e.M.Procs,Aa e.M.Claim,CO true e.M.Exprs,Ad true y_3.fst.S.Globals,VV.ow 1 0 y_3.fst.S.Chans.length,VV.ow 2 0 y_3.fst.S.Procs.length,Aa y_3.fst.S.Last,Aa y_3.fst.S.Alone,Aa y_3.fst.S.Claim,Aa e.Pid,Ac e.Timeout,BG true e.Able],obC y_3.fst.S,obP y_3.fst.S] hs'/\(Aa y_3.snd).le (Aa r)) (inX (IntKind.i64.wrap (y.fst - (1:Int))) e.S.Chans.length/\inX (e.S.Chans.getD (IntKind.i64.wrap (y.fst - (1:Int))).toNat default).Shape e.M.Shapes.length/\∃ (y_1:D.Chan × Int),VC 66 [VV.agg (Df (e.M.Shapes.getD (e.S.Chans.getD (IntKind.i64.wrap (y.fst - (1:Int))).toNat default).Shape.toNat default)),VV.agg (AF (e.S.Chans.getD (IntKind.i64.wrap (y.fst - (1:Int))).toNat default)),Ad true y.snd.fst,Ac (s.N==1)] (VV.tup [VV.agg (AF y_1.fst),Aa y_1.snd])/\inX (IntKind.i64.wrap (y.fst - (1:Int))) e.S.Chans.length/\leO [Ob.box (EA e (VV.ow 1 0 e.S.Chans.length) (VV.ow 2 0 e.S.Procs.length)),Ob.arr true 0 e.S.Chans.length 2 fun (j:Nat)=>bif j.beq (IntKind.i64.wrap (y.fst - (1:Int))).toNat then AF y_1.fst else AF (e.S.Chans.getD j default),obP e.S] hs'/\(Aa y_1.snd).le (Aa r)))):=by kernel_rfl
theorem Y7 (l:D.Loc) (e:D.Env):(fc Tr Bl Tryz.f21 [] (.agg (A9 l))).goal (St.init [] [.agg (Bk e)]) =
  (inX e.Pid e.S.Procs.length/\inX (e.S.Procs.getD e.Pid.toNat default).Type_ e.M.Procs.length/\inX (e.S.Procs.getD e.Pid.toNat default).Loc (e.M.Procs.getD (e.S.Procs.getD e.Pid.toNat default).Type_.toNat default).Locs.length/\LQ (VV.agg (A9 ((e.M.Procs.getD (e.S.Procs.getD e.Pid.toNat default).Type_.toNat default).Locs.getD (e.S.Procs.getD e.Pid.toNat default).Loc.toNat default))) (VV.agg (A9 l))):=by kernel_rfl
end Go.Proofs.YtiaebjpcgjkhoaaGreatDoor
namespace Go.Proofs.YtiaebjpcgjkhoaaGreatDoor
open Go.RowKit
def stE (e:D.Env) (x v:Int):D.Env:=bif decide ((AV e x v).2=0) then { e with S:=(AV e x v).1 } else e
def FC (m mt:List Int):Nat->List Int->D.Env->D.Env × Int
 | _,[],e=>(e,0)
 | k,x::r,e=>bif decide (mt.getD k 0≠0) then FC m mt (k+1) r e
   else bif decide ((AV e x (m.getD k 0)).2≠0) then (e,(AV e x (m.getD k 0)).2) else FC m mt (k+1) r (stE e x (m.getD k 0))
def Dc (e:D.Env) (s:D.Stmt) (m:List Int):D.Env × Int:=FC m s.Match 0 s.Args e
structure No (e e':D.Env):Prop where
 M:e'.M=e.M
 pid:e'.Pid=e.Pid
 t:e'.Timeout=e.Timeout
 a:e'.Able=e.Able
 chans:e'.S.Chans=e.S.Chans
 procs:e'.S.Procs.length=e.S.Procs.length
theorem No.refl (e:D.Env):No e e:=⟨rfl,rfl,rfl,rfl,rfl,rfl⟩
theorem No.trans {a b c:D.Env} (h:No a b) (k:No b c):No a c:=⟨k.M.trans h.M,k.pid.trans h.pid,k.t.trans h.t,k.a.trans h.a,k.chans.trans h.chans,k.procs.trans h.procs⟩
theorem ZU (m:D.Model) (s:D.State) (who k v:Int):(Nl m s who k v).Chans=s.Chans/\(Nl m s who k v).Procs.length=s.Procs.length:=by
 unfold Nl
 cases decide (who<0) with
 | true=>exact ⟨rfl,rfl⟩
 | false=>exact ⟨rfl,by simp [setO]⟩
theorem VU {e:D.Env} {x v:Int} (h:(AV e x v).2=0):(AV e x v).1.Chans=e.S.Chans/\(AV e x v).1.Procs.length=e.S.Procs.length:=by
 unfold AV at h ⊢
 cases c1:decide (CA e x≠0) with
 | true =>
  rw [c1,cond_true] at h
  exact absurd h (of_decide_eq_true c1)
 | false =>
  rw [c1,cond_false] at h
  rw [cond_false]
  cases c2:decide ((BH e (EO e) (Ar e.M x)).2.2≠0) with
  | true =>
   rw [c2,cond_true] at h
   exact absurd h (of_decide_eq_true c2)
  | false=>rw [cond_false];exact ZU _ _ _ _ _
theorem OJ (e:D.Env) (x v:Int):No e (stE e x v):=by
 unfold stE
 cases c:decide ((AV e x v).2=0) with
 | true =>
  obtain ⟨h1,h2⟩:=VU (of_decide_eq_true c)
  exact ⟨rfl,rfl,rfl,rfl,h1,h2⟩
 | false=>exact No.refl e
theorem I1 (m mt:List Int):∀ (l:List Int) (k:Nat) (e:D.Env),No e (FC m mt k l e).1
 | [],_,e=>No.refl e
 | x::r,k,e=>by
  unfold FC
  cases decide (mt.getD k 0≠0) with
  | true=>exact I1 m mt r (k+1) e
  | false =>
   rw [cond_false]
   cases decide ((AV e x (m.getD k 0)).2≠0) with
   | true=>exact No.refl e
   | false=>exact (OJ e x _).trans (I1 m mt r (k+1) _)
theorem QD {e:D.Env} {c:Int} {m:List Int} {i:Int} {p:Pn}:∀ {ws:List D.Trans} {k:Nat},p∈CE e c m i k ws->p.pid=e.Pid/\p.esc=i/\∃ j:Nat,p.way=((k+j:Nat):Int)/\j<ws.length/\F7 e (ws.getD j default).S c m=true
 | [],_,h=>by cases h
 | t::r,k,h=>by
  rcases List.mem_append.1 (show p∈(bif F7 e t.S c m then [(⟨e.Pid,i,k⟩:Pn)] else [])++CE e c m i (k+1) r from h) with h | h
  ·cases q:F7 e t.S c m with
   | false=>rw [q] at h;cases h
   | true =>
    rw [q] at h
    obtain rfl:=List.mem_singleton.1 h
    exact ⟨rfl,rfl,0,rfl,Nat.succ_pos _,q⟩
  ·obtain ⟨h1,h2,j,h3,h4,h5⟩:=QD h
   exact ⟨h1,h2,j+1,by rw [h3];congr 1;omega,Nat.succ_lt_succ h4,h5⟩
theorem QB {e:D.Env} {c:Int} {m:List Int} {p:Pn}:∀ {l:List (Int × List D.Trans)},p∈G7 e c m l->∃ i ws,(i,ws)∈l/\p∈CE e c m i 0 ws
 | [],h=>by cases h
 | (i,ws)::r,h=>by
  have hq:G7 e c m ((i,ws)::r)=bif decide (0<(CE e c m i 0 ws).length)||isSome (Cx e LS ws true) then CE e c m i 0 ws else G7 e c m r:=rfl
  rw [hq] at h
  cases c1:(decide (0<(CE e c m i 0 ws).length)||isSome (Cx e LS ws true)) with
  | true=>rw [c1] at h;exact ⟨i,ws,List.mem_cons_self,h⟩
  | false =>
   rw [c1] at h
   obtain ⟨i',ws',h1,h2⟩:=QB h
   exact ⟨i',ws',List.mem_cons_of_mem _ h1,h2⟩
theorem Aar {e:D.Env} {c:Int} {m:List Int} {p:Pn} (h:p∈Ge e c m):p.pid=e.Pid/\-1<=p.esc/\p.esc<(Ct e).Esc.length/\0<=p.way/\p.way<(Bw (Ct e) p.esc).length /\
  ((Bw (Ct e) p.esc).getD p.way.toNat default).S.Kind=6/\((Bw (Ct e) p.esc).getD p.way.toNat default).S.Args.length=m.length:=by
 unfold Ge at h
 cases c1:(!(Bf e).1||decide ((Bf e).2≠0)) with
 | true=>rw [c1] at h;cases h
 | false =>
  rw [c1,cond_false] at h
  obtain ⟨i,ws,hi,hp⟩:=QB h
  obtain ⟨e1,e2,j,e3,e4,e5⟩:=QD hp
  obtain ⟨l1,l2,l3,_⟩:=Hd hi
  rw [e2,l1]
  refine ⟨e1,l2,l3,by rw [e3];omega,by rw [e3];omega,?_⟩
  rw [show p.way.toNat=j by rw [e3];omega]
  unfold F7 at e5
  cases c2:(decide ((ws.getD j default).S.Kind≠6)||(decide (1<(ws.getD j default).S.N)||decide ((ws.getD j default).S.Args.length≠m.length))) with
  | true=>rw [c2] at e5;cases e5
  | false =>
   simp only [Bool.or_eq_false_iff,decide_eq_false_iff_not,ne_eq,Decidable.not_not] at c2
   exact ⟨c2.1,c2.2.2⟩
theorem Pc {e:D.Env} {c:Int} {m:List Int} {p:Pn}:∀ {n:Nat},p∈DD e c m n->∃ q:Nat,q<n/\(q:Int)≠e.Pid/\p∈Ge (CI e q) c m
 | 0,h=>by cases h
 | n+1,h=>by
  rcases List.mem_append.1 (show p∈DD e c m n++(bif decide ((n:Int)≠e.Pid) then Ge (CI e n) c m else []) from h) with h | h
  ·obtain ⟨q,h1,h2⟩:=Pc h
   exact ⟨q,by omega,h2⟩
  ·cases c1:decide ((n:Int)≠e.Pid) with
   | true=>rw [c1] at h;exact ⟨n,Nat.lt_succ_self _,of_decide_eq_true c1,h⟩
   | false=>rw [c1] at h;cases h
theorem U5 {ev:Evl}:∀ {l out:List Int},(Iw ev out l).2=0->(Iw ev out l).1.length=out.length+l.length
 | [],out,_=>rfl
 | x::l,out,h=>by
  have hq:Iw ev out (x::l)=bif decide ((ev x).2≠0) then ([],(ev x).2) else Iw ev (out++[(ev x).1]) l:=rfl
  rw [hq] at h ⊢
  cases c:decide ((ev x).2≠0) with
  | true=>rw [c] at h;exact absurd h (of_decide_eq_true c)
  | false =>
   rw [c,cond_false] at h
   rw [cond_false,U5 h]
   simp;omega
theorem IW {e:D.Env} {s:D.Stmt} (h:(Ax e s).2.2=0):(Ax e s).2.1.length=s.Args.length:=by
 unfold Ax at h ⊢
 cases c1:decide ((AC e s.A).2≠0) with
 | true=>rw [c1] at h;exact absurd h (of_decide_eq_true c1)
 | false =>
  rw [c1,cond_false] at h
  rw [cond_false]
  cases c2:decide ((A8 e (AC e s.A).1).length≠s.Args.length) with
  | true=>rw [c2] at h;cases h
  | false =>
   rw [c2,cond_false] at h
   rw [cond_false]
   cases c3:decide ((B8 e s.Args).2≠0) with
   | true=>rw [c3] at h;exact absurd h (of_decide_eq_true c3)
   | false =>
    rw [cond_false]
    have h0:(B8 e s.Args).2=0:=by simpa using c3
    have:=U5 (ev:=Ba e) (l:=s.Args) (out:=[]) h0
    rw [List.length_nil,Nat.zero_add] at this
    show (Nm _ _).length=_
    unfold Nm
    rw [List.length_map,List.length_range]
    exact this
theorem ZI {e:D.Env} {mt:Int->List Int->List Pn} {s:D.Stmt} {self:Bool} {p:Pn} (h:p∈(CX e mt s self).wth):s.Kind=5/\(Ax e s).2.2=0/\p∈mt (AC e s.A).1 (Ax e s).2.1:=by
 have no:∀ {q:Prop},p∈([]:List Pn)->q:=fun h=>by cases h
 unfold CX at h
 split at h
 ·cases q:DE e s.A<;>rw [q] at h<;>exact no h
 split at h
 ·cases q:DE e s.B<;>rw [q] at h<;>exact no h
 split at h
 ·exact no h
 split at h
 ·rename_i hk
  refine ⟨hk,?_⟩
  unfold HH at h
  cases c1:decide ((AC e s.A).2≠0) with
  | true=>rw [c1] at h;exact no h
  | false =>
  rw [c1,cond_false] at h
  cases c2:decide ((A8 e (AC e s.A).1).length≠s.Args.length) with
  | true=>rw [c2] at h;exact no h
  | false =>
  rw [c2,cond_false] at h
  cases c3:decide (0<(BC e.M (Cl e (AC e s.A).1).Shape).Room) with
  | true=>rw [c3] at h;exact no h
  | false =>
  rw [c3,cond_false] at h
  cases c4:self with
  | true=>rw [c4] at h;exact no h
  | false =>
  rw [c4,cond_false] at h
  cases c5:decide ((Ax e s).2.2≠0) with
  | true=>rw [c5] at h;exact no h
  | false =>
  rw [c5,cond_false] at h
  exact ⟨by simpa using c5,h⟩
 split at h
 ·exact no h
 split at h<;>exact no h
theorem Ac9 {e:D.Env} {w:Wy} (hw:w∈A5 e) :
  (w.With<0->w.WithEsc=-1/\w.WithWay=-1) /\
  (0<=w.With->0<=w.Way/\w.With≠e.Pid/\w.With<e.S.Procs.length/\((Bw (Ct e) w.Esc).getD w.Way.toNat default).S.Kind=5/\-1<=w.WithEsc/\w.WithEsc<(Ct (CI e w.With)).Esc.length/\0<=w.WithWay /\
   w.WithWay<(Bw (Ct (CI e w.With)) w.WithEsc).length/\((Bw (Ct (CI e w.With)) w.WithEsc).getD w.WithWay.toNat default).S.Kind=6 /\
   ((Bw (Ct e) w.Esc).getD w.Way.toNat default).S.Args.length=((Bw (Ct (CI e w.With)) w.WithEsc).getD w.WithWay.toNat default).S.Args.length):=by
 rcases GJ (e:=e) with h | ⟨er,h⟩ | ⟨i,ws,hi,h⟩
 ·rw [h] at hw;cases hw
 ·rw [h] at hw
  obtain rfl:=List.mem_singleton.1 hw
  exact ⟨fun _=>⟨rfl,rfl⟩,fun h0=>by unfold Kc at h0;simp at h0⟩
 ·rw [h] at hw
  obtain ⟨hl,h1,h2,_⟩:=Hd hi
  have key:∀ {l:List Ab} {k:Nat},w∈CT i k l->∃ (j:Nat) (x:Ab),l[j]?=some x/\w∈F6 i (k+j) x:=by
   intro l
   induction l with
   | nil=>intro k h;cases h
   | cons x r ih =>
    intro k h
    rcases List.mem_append.1 (show w∈F6 i k x++CT i (k+1) r from h) with h | h
    ·exact ⟨0,x,rfl,h⟩
    ·obtain ⟨j,y,a,b⟩:=ih h
     exact ⟨j+1,y,a,by rw [show k+(j+1)=k+1+j by omega];exact b⟩
  obtain ⟨j,x,a1,a2⟩:=key hw
  obtain ⟨b1,rfl⟩:=SA a1
  rw [Nat.zero_add] at a2
  rcases List.mem_append.1 a2 with a2 | a2
  ·cases c:((Fi e (Bm e) ws false j).is&&decide ((Fi e (Bm e) ws false j).wth.length=0)) with
   | false=>rw [c] at a2;cases a2
   | true =>
    rw [c] at a2
    obtain rfl:=List.mem_singleton.1 a2
    exact ⟨fun _=>⟨rfl,rfl⟩,fun h0=>absurd (show (0:Int)<=-1 from h0) (by decide)⟩
  ·obtain ⟨p,hp,rfl⟩:=List.mem_map.1 a2
   have hwth:(Fi e (Bm e) ws false j).wth=(CX e (Bm e) (ws.getD j default).S false).wth:=by
    unfold Fi
    cases (decide ((ws.getD j default).S.Kind=7)&&!(E9 e (Bm e) ws false ws.length))<;>rfl
   rw [hwth] at hp
   obtain ⟨s1,s2,s3⟩:=ZI hp
   obtain ⟨q,q1,q2,q3⟩:=Pc (show p∈DD e _ _ e.S.Procs.length from s3)
   obtain ⟨r1,r2,r3,r4,r5,r6,r7⟩:=Aar q3
   have r1':p.pid=q:=r1
   have hat:CI e p.pid=CI e q:=by rw [r1']
   refine ⟨fun h0=>?_,fun _=>?_⟩
   ·have h0':p.pid<0:=h0
    rw [r1'] at h0';omega
   ·show 0<=(j:Int)/\p.pid≠e.Pid/\p.pid<e.S.Procs.length/\((Bw (Ct e) i).getD (j:Int).toNat default).S.Kind=5/\-1<=p.esc/\p.esc<(Ct (CI e p.pid)).Esc.length/\0<=p.way/\p.way<(Bw (Ct (CI e p.pid)) p.esc).length /\
     ((Bw (Ct (CI e p.pid)) p.esc).getD p.way.toNat default).S.Kind=6/\((Bw (Ct e) i).getD (j:Int).toNat default).S.Args.length=((Bw (Ct (CI e p.pid)) p.esc).getD p.way.toNat default).S.Args.length
    rw [hat,hl,show ((j:Nat):Int).toNat=j by omega]
    exact ⟨by omega,by rw [r1'];exact q2,by rw [r1'];omega,s1,r2,r3,r4,r5,r6,by rw [r7,IW s2]⟩
end Go.Proofs.YtiaebjpcgjkhoaaGreatDoor
namespace Go.Proofs.YtiaebjpcgjkhoaaGreatDoor.Ch
def Ew : List Int->List Int->Bool
 | a::aa,b::bs=>if a=b then Ew aa bs else decide (a<b)
 | [],_::_=>true
 | _,[]=>false
theorem Kz : ∀ (n:Nat) (xs ys:List Int),n<=xs.length->n<=ys.length->(∀ j,j<n->xs.getD j 0=ys.getD j 0)->Ew xs ys=Ew (xs.drop n) (ys.drop n)
 | 0,_,_,_,_,_=>rfl
 | n+1,a::aa,b::bs,h1,h2,h=>by
  have h0:=h 0 (by omega)
  simp only [List.getD_cons_zero] at h0
  subst h0
  rw [Ew,if_pos rfl,List.drop_succ_cons,List.drop_succ_cons]
  exact Kz n aa bs (by simpa using h1) (by simpa using h2) fun j hj=>by simpa using h (j+1) (by omega)
 | n+1,[],_,h1,_,_=>by simp at h1
 | n+1,_::_,[],_,h2,_=>by simp at h2
theorem NT {α:Type} [Inhabited α] (xs:List α) (n:Nat) (d:α) (h:n<xs.length):xs.drop n=xs.getD n d::xs.drop (n+1):=by
 rw [List.drop_eq_getElem_cons h];simp [List.getD,h]
theorem Si (n:Nat) (xs ys:List Int) (h1:n<xs.length) (h2:n<ys.length) (h:∀ j,j<n->xs.getD j 0=ys.getD j 0) (hne:xs.getD n 0≠ys.getD n 0):Ew xs ys=decide (xs.getD n 0<ys.getD n 0):=by
 rw [Kz n xs ys (by omega) (by omega) h,NT xs n 0 h1,NT ys n 0 h2,Ew,if_neg hne]
theorem QR (n:Nat) (xs ys:List Int) (h1:n<=xs.length) (h2:n<=ys.length) (h3:n=xs.length∨n=ys.length) (h:∀ j,j<n->xs.getD j 0=ys.getD j 0):Ew xs ys=decide (xs.length<ys.length):=by
 rw [Kz n xs ys h1 h2 h]
 by_cases hx:n=xs.length
 ·rw [hx,List.drop_length]
  by_cases hy:xs.length<ys.length
  ·rw [NT ys _ 0 hy,Ew];simp [hy]
  ·rw [List.drop_eq_nil_of_le (by omega),Ew];simp [hy]
 ·have hy:n=ys.length:=by omega
  subst hy
  rw [List.drop_length,NT xs _ 0 (by omega),Ew];simp;omega
def DM (x:List Int):List (List Int)->Nat
 | []=>0
 | y::q=>if Ew x y then 0 else DM x q+1
theorem Q1 (x:List Int):∀ q,DM x q<=q.length
 | []=>Nat.le_refl _
 | y::q=>by
  unfold DM
  have:=Q1 x q
  split<;>simp;omega
theorem Pj (x:List Int):∀ (q:List (List Int)) (k:Nat) (y:List Int),q[k]?=some y->(∀ j y',j<k->q[j]?=some y'->Ew x y'=false)->Ew x y=true->DM x q=k
 | [],k,y,h,_,_=>by simp at h
 | z::q,0,y,h,_,h2=>by
  simp at h;subst h
  simp [DM,h2]
 | z::q,k+1,y,h,h1,h2=>by
  have h0:=h1 0 z (by omega) rfl
  rw [DM,h0]
  simp only [Bool.false_eq_true,if_false]
  rw [Pj x q k y (by simpa using h) (fun j y' hj hy=>h1 (j+1) y' (by omega) (by simpa using hy)) h2]
theorem Ng (x:List Int):∀ (q:List (List Int)),(∀ (j:Nat) (y':List Int),q[j]?=some y'->Ew x y'=false)->DM x q=q.length
 | [],_=>rfl
 | z::q,h=>by
  rw [DM,h 0 z rfl]
  simp only [Bool.false_eq_true,if_false]
  rw [Ng x q fun j y' hy=>h (j+1) y' (by simpa using hy)];rfl
def H5 (x:List Int) (q:List (List Int)):Int:=if DM x q<q.length then DM x q else -1
end Go.Proofs.YtiaebjpcgjkhoaaGreatDoor.Ch
namespace Go.Proofs.YtiaebjpcgjkhoaaGreatDoor.Ch
open Go.RowKit
def pM : Pkg (List Int):=Pkg.slice 1 8 (Pkg.int .i64)
def pQ : Pkg (List (List Int)):=Pkg.slice 1 24 pM
theorem Lh : Pkg.Stays pM:=Pkg.stays_slice (Pkg.stays_int _)
theorem X3 : Pkg.Stays pQ:=Pkg.stays_slice Lh
set_option maxHeartbeats 400000 in
theorem W8 {w:World} {va vb:Value} {xs ys:List Int} (ha:Is pM w [va] xs) (hb:Is pM w [vb] ys) :
  Calls Tryz.prog 97 #[va,vb] w fun e w'=>e=.returned (.bool (Ew xs ys))/\∃ n,w'=w.drewN n:=by
 obtain ⟨ao,ca,rfl,ha1,ha2,_,ha3⟩:=JN ha
 obtain ⟨bo,cb,rfl,hb1,hb2,_,hb3⟩:=JN hb
 clear ha hb
 unfold maxLen at ha2 hb2
 go_enter Tryz.func97,Tryz.ntmps97
 go_wp2
 go_step3
 go_wp2
 refine wp_label ?_
 rename_i K hK
 refine hK _ _ ?_
 clear hK K
 go_wp2
 go_loopw [5] (fun i wr=>∃ k:Nat,k<=xs.length/\k<=ys.length/\i=.int .i64 k/\(∀ j,j<k->xs.getD j 0=ys.getD j 0)/\∃ n,wr=w.drewN n) (fun i _=>xs.length - (intOf i).toNat)
 case atStart=>exact ⟨0,Nat.zero_le _,Nat.zero_le _,rfl,fun j h=>by omega,0,rfl⟩
 case round =>
  obtain ⟨k,hk1,hk2,rfl,hs,nq,rfl⟩:=hrel
  by_cases hx:k<xs.length
  ·by_cases hy:k<ys.length
   ·obtain ⟨b,off,rfl,hbl,hc⟩:=ha3 (by omega)
    obtain ⟨b',off',rfl,hbl',hc'⟩:=hb3 (by omega)
    have c1:=hc k hx
    have c2:=hc' k hy
    by_cases he:xs.getD k 0=ys.getD k 0
    ·have HS:Hid (∀ j,j<k+1->xs.getD j 0=ys.getD j 0):=fun j hj=>by
      by_cases e:j=k
      ·subst e;exact he
      ·exact hs j (by omega)
     rw [← he] at c2
     clear hs hc hc' ha3 hb3 he
     generalize xs.getD k 0=z at *
     go_wp2
     go_quiet (fail)
     go_wp2
     go_roundw
     case rel=>exact ⟨k+1,by omega,by omega,by go_num,HS.out,_,rfl⟩
     case measure=>simp [intOf];omega
    ·have HL:=Lib.hid (Si k xs ys hx hy hs he)
     have hne:(xs.getD k 0 != ys.getD k 0)=true:=by simpa using he
     clear hs hc hc' ha3 hb3 he
     generalize xs.getD k 0=z at *
     generalize ys.getD k 0=z' at *
     go_wp2
     go_quiet (fail)
     go_wp2
     go_quiet (fail)
     go_wp2
     rw [Exit.noGoto_ret]
     go_ret
     exact ⟨by rw [HL.out];rfl,_,World.drewN_drewN _ _ _⟩
   ·have HL:=Lib.hid (QR k xs ys hk1 hk2 (.inr (by omega)) hs)
    clear hs ha3 hb3
    go_wp2
    rw [Exit.noGoto_ret]
    go_ret
    exact ⟨by rw [HL.out];rfl,_,rfl⟩
  ·have HL:=Lib.hid (QR k xs ys hk1 hk2 (.inl (by omega)) hs)
   clear hs ha3 hb3
   go_wp2
   rw [Exit.noGoto_ret]
   go_ret
   exact ⟨by rw [HL.out];rfl,_,rfl⟩
def typeP (t:D.Type):Bool:=decide (1<=t.Bits)&&decide (t.Bits<=32)&&(!t.Signed||decide (t.Bits=16)||decide (t.Bits=32))
def tyV (t:D.Type):Value:=.agg #[.int .i64 t.Bits,.bool t.Signed]
theorem AcO {a b:Bool} (h:a=b):Ending.returned (.bool a)=.returned (.bool b):=by rw [h]
set_option maxHeartbeats 400000 in
theorem Ux (t:D.Type) (w:World) :
  Calls Tryz.prog 93 #[tyV t] w fun e w'=>e=.returned (.bool (typeP t))/\Below w.heap.size w w':=by
 obtain ⟨b,s⟩:=t
 unfold tyV
 go_enter Tryz.func93,Tryz.ntmps93
 go_wp2
 all_goals
  go_ret
  refine ⟨AcO ?_,D6 _ _⟩
  first
   | (simp [typeP, *];done)
   | (rw [Bool.eq_iff_iff];simp [typeP, *];done)
   | (rw [Bool.eq_iff_iff];simp [typeP, *];omega)
end Go.Proofs.YtiaebjpcgjkhoaaGreatDoor.Ch
namespace Go.Proofs.YtiaebjpcgjkhoaaGreatDoor
open Go.RowKit
section
variable {P : Program} (w:World)
theorem XG (base:Nat) (t ty e:TypeId) (i:TypeInfo) (z:Value) (size bytes:Nat) (ht:P.underlying t=some (.slice e)) (hi:P.info? e=some i) (hz:i.zero=some z)
  (hsize:i.size=size) (hby:i.bytes=bytes) (v:Value) (n:Nat) (xs:List Value) (hown:w.ownsRow base e size v n xs)
  (a:Addr) (m c:Nat) (news:List Value) (hl:news.length=m*size) (hnews:∀ j u,news[j]?=some u->w.cell? (a.add j)=some u) (h1:∀ u∈news,u.oneCell'=true)
  (h63:n+m<=maxLen) (hbytes:(n+m)*bytes<=140737488355328)
  (v':Value) (w':World) (hrun:(Builtin.append_ #[t,t] ty #[v,.slice (some a) m c]).run P w=.ok v' w') :
  v'.ownBlock=v.ownBlock∨v'.ownBlock=some w.heap.size:=by
 subst hsize
 subst hby
 have hsmall:n+m<=9223372036854775807:=by simp only [maxLen] at h63;omega
 rcases hown.2 with ⟨rfl,rfl⟩ | ⟨g,cap,cur,rfl,_,hg,hnc,hcm,hcs,_⟩
 ·by_cases hm:m=0
  ·subst hm
   have hr:(Builtin.append_ #[t,t] ty #[.slice none 0 0,.slice (some a) 0 c]).run P w=.ok (.slice none 0 0) w:=by
    have hn:news=[]:=List.eq_nil_of_length_eq_zero (by simpa using hl)
    subst hn
    simp [Builtin.append_,run_underlying ht,sizeOf,typeInfo,hi,Builtin.lenOf,Builtin.firstCells,loadCells,loadCellsFrom]
   rw [hr] at hrun
   simp only [Result.ok.injEq] at hrun
   exact .inl (by rw [← hrun.1])
  ·have hr:=run_append_nil (P:=P) w t ty e i z ht hi hz a m c news hl hnews (by omega) (by omega) (by have hb:=hbytes;simp only [Nat.zero_add] at hb;omega)
   rw [hr] at hrun
   simp only [Result.ok.injEq] at hrun
   exact .inr (by rw [← hrun.1];rfl)
 ·by_cases hroom:n+m<=cap
  ·have hfit:n*i.size+news.length<=cur.size:=by rw [hl,hcs,← Nat.add_mul];exact Nat.mul_le_mul_right _ hroom
   have hr:=run_append_room (P:=P) w t ty e i ht hi g n cap cur hg a m c news hl hnews h1 hroom hfit
   rw [hr] at hrun
   simp only [Result.ok.injEq] at hrun
   exact .inl (by rw [← hrun.1];rfl)
  ·have holds:∀ j u,xs[j]?=some u->w.cell? ((⟨g,0,none⟩:Addr).add j)=some u:=hown.cells (g:=g) rfl
   have hr:=run_append_grow (P:=P) w t ty e i z ht hi hz ⟨g,0,none⟩ n cap xs hown.1 holds a m c news hl hnews (by omega) (by omega) (growslice_fits (by omega) hbytes)
   rw [hr] at hrun
   simp only [Result.ok.injEq] at hrun
   exact .inr (by rw [← hrun.1];rfl)
theorem N5 {ops:Array Oper} {rest:List Oper} {o:Oper} {a:Act} {Q:Exit->Act->World->Prop} (hgd:o.guard=none) (s x:Operand) (t:TypeId)
  (ho:o.op=.call { callee:=.builtin .append,args:=#[s,x],argTypes:=#[t,t] })
  (base:Nat) (e:TypeId) (i:TypeInfo) (z:Value) (size bytes:Nat) (ht:P.underlying t=some (.slice e)) (hi:P.info? e=some i) (hz:i.zero=some z)
  (hsize:i.size=size) (hby:i.bytes=bytes) (hzs:z.cells.size=size) (hsz:0<size)
  (v:Value) (n:Nat) (xs:List Value) (hs:a.eval s=v) (hown:w.ownsRow base e size v n xs)
  (ad:Addr) (m c:Nat) (news:List Value) (hx:a.eval x=.slice (some ad) m c) (hl:news.length=m*size) (hnews:∀ j u,news[j]?=some u->w.cell? (ad.add j)=some u) (h1:∀ u∈news,u.oneCell'=true)
  (h63:n+m<=maxLen) (hbytes:(n+m)*bytes<=140737488355328) (hbase:base<=w.heap.size)
  (h:∀ v' w',w'.ownsRow base e size v' (n+m) (xs++news)->w.grownBy w' v.ownBlock->(v'.ownBlock=v.ownBlock∨v'.ownBlock=some w.heap.size)->wpList P ops Q rest (a.put o.dst v') w'):wpList P ops Q (o::rest) a w:=by
 refine wpList_plain hgd fun K hK=>?_
 obtain ⟨v',w',hr,h2,h3,_⟩:=run_append_own (P:=P) w base t o.type e i z size bytes ht hi hz hsize hby hzs hsz v n xs hown ad m c news hl hnews h1 h63 hbytes hbase
 have h4:=XG w base t o.type e i z size bytes ht hi hz hsize hby v n xs hown ad m c news hl hnews h1 h63 hbytes v' w' hr
 unfold Oper.wp execOp
 simp only [ho,resolve,invoke,builtin,Sem.run_bind,Sem.run_pure,Result.andThen_ok,List.map_toArray,List.map_cons,List.map_nil,hs,hx,hr]
 exact hK _ _ (h v' w' h2 h3 h4)
end
end Go.Proofs.YtiaebjpcgjkhoaaGreatDoor
namespace Go.Proofs.YtiaebjpcgjkhoaaGreatDoor.Ch
open Go.RowKit
theorem Cc {P:Program} {t:TypeId} {z:Value} {s b:Nat} (h:(P.info? t).map (fun i=>(i.zero,i.size,i.bytes))=some (some z,s,b)):∃ i,P.info? t=some i/\i.zero=some z/\i.size=s/\i.bytes=b:=by
 cases hi:P.info? t with
 | none=>rw [hi] at h;cases h
 | some i=>rw [hi] at h;simp only [Option.map_some,Option.some.injEq,Prod.mk.injEq] at h;exact ⟨i,rfl,h⟩
theorem I0 : (Tryz.prog.info? 2).map (fun i=>(i.zero,i.size,i.bytes))=some (some (.int .i64 0),1,8):=by kernel_rfl
theorem Gn : (Tryz.prog.info? 83).map (fun i=>(i.zero,i.size,i.bytes))=some (some (.slice none 0 0),1,24):=by kernel_rfl
structure Fo (w:World) (n0:Nat) (v:Value) (xs:List Int):Prop where
 row:w.ownsRow n0 2 1 v xs.length (xs.map (Value.int .i64))
 wf:∀ i,i<xs.length->(Lit.int .i64 (xs.getD i 0)).wf=true
structure BR (w:World) (n0:Nat) (v:Value) (vs:List Value) (q:List (List Int)):Prop where
 row:w.ownsRow n0 83 1 v q.length vs
 len:vs.length=q.length
 each:∀ (i:Nat) (u:Value) (m:List Int),vs[i]?=some u->q[i]?=some m->Fo w n0 u m
theorem Fo.same {w w':World} {n0:Nat} {v:Value} {xs:List Int} (h:Fo w n0 v xs) (hs:∀ k,v.ownBlock=some k->w'.heap[k]?=w.heap[k]?):Fo w' n0 v xs :=
 ⟨Cy h.row hs,h.wf⟩
theorem Fo.base {w:World} {n0 n1:Nat} {v:Value} {xs:List Int} (h:Fo w n0 v xs) (hb:n1<=n0):Fo w n1 v xs :=
 ⟨⟨h.row.1,h.row.2.imp id fun ⟨g,cap,cur,e,h1,h2⟩=>⟨g,cap,cur,e,Nat.le_trans hb h1,h2⟩⟩,h.wf⟩
theorem DR {w:World} {n0:Nat} {e:TypeId} {v:Value} {n:Nat} {xs:List Value} (h:w.ownsRow n0 e 1 v n xs) :
  ∃ ao cap,v=.slice ao n cap/\n<=cap/\cap<=maxLen/\(0<n->∃ g,ao=some ⟨g,0,none⟩/\n0<=g/\g<w.heap.size/\∀ j,j<n->w.cell? ⟨g,j,none⟩=xs[j]?):=by
 rcases h.2 with ⟨rfl,rfl⟩ | ⟨g,cap,cur,rfl,hb,hg,h1,h2,_⟩
 ·exact ⟨none,0,rfl,Nat.le_refl _,Nat.zero_le _,fun h=>by omega⟩
 ·exact ⟨_,cap,rfl,h1,h2,fun _=>⟨g,rfl,hb,BQ hg,fun j hj=>h.cellAt j (by omega)⟩⟩
theorem Fo.is {w:World} {n0:Nat} {v:Value} {xs:List Int} (h:Fo w n0 v xs):Is pM w [v] xs:=by
 obtain ⟨ao,cap,rfl,h1,h2,h3⟩:=DR h.row
 refine ⟨ao,cap,rfl,h1,h2,fun hp=>?_⟩
 obtain ⟨g,rfl,hb,hg,hc⟩:=h3 hp
 refine ⟨g,0,rfl,hg,fun i x hx=>⟨[.int .i64 x],rfl,fun k hk=>?_,rfl,?_⟩⟩
 ·obtain rfl:k=0:=by omega
  have hi:i<xs.length:=(List.getElem?_eq_some_iff.1 hx).1
  have:=hc i hi
  rw [List.getElem?_map,hx] at this
  simpa using this
 ·obtain ⟨hi,rfl⟩:=List.getElem?_eq_some_iff.1 hx
  have:=h.wf i hi
  simpa [List.getD,hi] using this
theorem BR.is {w:World} {n0:Nat} {v:Value} {vs:List Value} {q:List (List Int)} (h:BR w n0 v vs q):Is pQ w [v] q:=by
 obtain ⟨ao,cap,rfl,h1,h2,h3⟩:=DR h.row
 refine ⟨ao,cap,rfl,h1,h2,fun hp=>?_⟩
 obtain ⟨g,rfl,hb,hg,hc⟩:=h3 hp
 refine ⟨g,0,rfl,hg,fun i x hx=>?_⟩
 have hi:i<q.length:=(List.getElem?_eq_some_iff.1 hx).1
 have hv:i<vs.length:=by rw [h.len];exact hi
 refine ⟨[vs[i]],rfl,fun k hk=>?_,(h.each i vs[i] x (by simp [hv]) hx).is⟩
 obtain rfl:k=0:=by omega
 have:=hc i hi
 simpa [hv] using this
theorem BR.same {w w':World} {n0:Nat} {v:Value} {vs:List Value} {q:List (List Int)} (h:BR w n0 v vs q) (hs:∀ k,n0<=k->k<w.heap.size->w'.heap[k]?=w.heap[k]?):BR w' n0 v vs q :=
 ⟨Cy h.row fun k hk=>hs k (h.row.lt k hk).1 (h.row.lt k hk).2,h.len,fun i u m hu hm=>(h.each i u m hu hm).same fun _ hk=>hs _ ((h.each i u m hu hm).row.lt _ hk).1 ((h.each i u m hu hm).row.lt _ hk).2⟩
theorem Xe {w:World} {b off:Nat} {xs:List Int} (hc:∀ i,i<xs.length->w.cell? ⟨b,off+i,none⟩=some (.int .i64 (xs.getD i 0))) :
  ∀ (j:Nat) (u:Value),(xs.map (Value.int .i64))[j]?=some u->w.cell? ((⟨b,off,none⟩:Addr).add j)=some u:=by
 intro j u hj
 rw [List.getElem?_map] at hj
 obtain ⟨x,hx,rfl⟩:=Option.map_eq_some_iff.1 hj
 obtain ⟨hi,rfl⟩:=List.getElem?_eq_some_iff.1 hx
 rw [Addr.add_lit,hc j hi];simp [List.getD,hi]
set_option maxHeartbeats 1000000 in
theorem Fh {w:World} {v:Value} {xs:List Int} (h:Is pM w [v] xs) (hr:xs.length*8<=140737488355328) :
  Calls Tryz.prog 35 #[v] w fun e w'=>∃ v',e=.returned v'/\Fo w' w.heap.size v' xs/\Below w.heap.size w w':=by
 obtain ⟨ao,cap,rfl,h1,h2,hw,h3⟩:=JN h
 have q22:∀ (w:World) (a:Option Addr) (n c n' c':Nat),(binOp .eql 83 (.slice a n c) (.slice none n' c')).run Tryz.prog w=.ok (.bool a.isNone) w:=fun w a n c n' c'=>Lib.run_eql_slice_nil w _ _ a n c n' c' Tryz.underlying83
 obtain ⟨ki,khi,khz0,khz1,khz2⟩:=Cc I0
 cases ao with
 | none =>
  have h0:xs=[]:=by
   apply List.eq_nil_of_length_eq_zero
   apply Classical.byContradiction
   intro hp
   obtain ⟨_,_,e,_⟩:=h3 (by omega)
   cases e
  subst h0
  clear h3
  go_enter Tryz.func35,Tryz.ntmps35
  go_wp2
  go_ret
  exact ⟨_,rfl,⟨World.ownsRow_nil _ _ _ _,fun i hi=>by simp at hi⟩,Below.refl _ _⟩
 | some a =>
  have hn:∀ (j:Nat) (u:Value),(xs.map (Value.int .i64))[j]?=some u->w.cell? (a.add j)=some u:=by
   intro j u hj
   have hp:0<xs.length:=by have:=(List.getElem?_eq_some_iff.1 hj).1;simp at this;omega
   obtain ⟨b,off,e,_,hc⟩:=h3 hp
   simp only [Option.some.injEq] at e
   subst e
   exact Xe hc j u hj
  have HN:=Lib.hid hn
  clear h3 hn h
  have hlen:=h2
  unfold maxLen at hlen
  go_enter Tryz.func35,Tryz.ntmps35
  go_wp2_with (at_builtin;refine wpList_append_own _ rfl _ _ 83 rfl w.heap.size 2 ki (.int .i64 0) 1 8 Tryz.underlying83 khi khz0 khz1 khz2 rfl (by decide) _ _ _ rfl (World.ownsRow_made w #[] 0 (Nat.le_refl _) (Nat.zero_le _) (by simp)) a xs.length cap (xs.map (Value.int .i64)) rfl ?qc1 ?qc2 ?qc3 ?qc4 ?qc5 ?qc6 ?_)
  case qc1=>simp
  case qc2=>intro j u hj;have:=HN.out j u hj;exact Lib.cell?_alloc_some _ this
  case qc3=>intro u hu;simp at hu;obtain ⟨x,_,rfl⟩:=hu;rfl
  case qc4=>unfold maxLen;omega
  case qc5=>omega
  case qc6=>simp
  intro v' w1 hown hgrow _
  go_wp2
  go_ret
  exact ⟨v',rfl,⟨by simpa using hown,hw⟩,((Below.refl _ w).alloc (Nat.le_refl _) _).grown hgrow (by simp) (by intro k hk;simp [Value.ownBlock] at hk;omega)⟩
def Small (q:List (List Int)):Prop:=q.length*24<=140737488355328/\∀ m∈q,m.length*8<=140737488355328
theorem FS {α:Type} {q:List α} {k:Nat} {m:α} (h:q[k]?=some m):q.take (k+1)=q.take k++[m]:=by
 obtain ⟨hk,rfl⟩:=List.getElem?_eq_some_iff.1 h
 rw [List.take_succ_eq_append_getElem hk]
theorem BR.more {w w':World} {n0:Nat} {v v' u:Value} {vs:List Value} {q:List (List Int)} {m:List Int} (h:BR w n0 v vs q) (hm:Fo w n0 u m)
  (hr:w'.ownsRow n0 83 1 v' (q.length+1) (vs++[u])) (hg:w.grownBy w' v.ownBlock):BR w' n0 v' (vs++[u]) (q++[m]):=by
 have sep:∀ (x:Value) (l:List Int),Fo w n0 x l->Fo w' n0 x l:=fun x l hx=>hx.same fun k hk=>hg.block k (hx.row.lt k hk).2 fun e=>by
  obtain ⟨c1,e1⟩:=AU hx.row hk
  obtain ⟨c2,e2⟩:=AU h.row e.symm
  exact DN e1 e2 (by decide) rfl
 refine ⟨by simpa using hr,by simp [h.len],fun i x l hx hl=>?_⟩
 by_cases hi:i<q.length
 ·rw [List.getElem?_append_left (by rw [h.len];exact hi)] at hx
  rw [List.getElem?_append_left hi] at hl
  exact sep x l (h.each i x l hx hl)
 ·have hil:i<q.length+1:=by have:=(List.getElem?_eq_some_iff.1 hl).1;simpa using this
  obtain rfl:i=q.length:=by omega
  rw [List.getElem?_append_right (Nat.le_refl _)] at hl
  rw [List.getElem?_append_right (by rw [h.len];exact Nat.le_refl _)] at hx
  simp [h.len] at hx hl
  subst hx hl
  exact sep _ _ hm
theorem BR.set {w:World} {n0 B i:Nat} {v:Value} {vs:List Value} {q:List (List Int)} {c:Array Value} {t:TypeId} {f:Nat × Nat} (h:BR w n0 v vs q) (hB:w.heap[B]?=some (.cells c t f))
  (h1:83≠t) (h2:2≠t) (u:Value):BR (w.setCell ⟨B,i,none⟩ u) n0 v vs q :=
 ⟨Cy h.row fun k hk=>Below.heap_setCell _ _ _ _ (by rintro rfl;obtain ⟨cur,hcur⟩:=AU h.row hk;exact DN hcur hB h1 rfl),h.len,fun j x m hx hm=>(h.each j x m hx hm).same fun k hk =>
  Below.heap_setCell _ _ _ _ (by rintro rfl;obtain ⟨cur,hcur⟩:=AU (h.each j x m hx hm).row hk;exact DN hcur hB h2 rfl)⟩
theorem BR.alloc {w:World} {n0:Nat} {v:Value} {vs:List Value} {q:List (List Int)} (h:BR w n0 v vs q) (o:Obj):BR (w.alloc o) n0 v vs q :=
 h.same fun _ _ hk=>Below.heap_alloc _ _ _ hk
theorem Fo.alloc {w:World} {n0:Nat} {v:Value} {m:List Int} (h:Fo w n0 v m) (o:Obj):Fo (w.alloc o) n0 v m :=
 h.same fun _ hk=>Below.heap_alloc _ _ _ (h.row.lt _ hk).2
theorem BR.nil (w:World) (n0:Nat):BR w n0 (.slice none 0 0) [] []:=⟨World.ownsRow_nil _ _ _ _,rfl,fun i x m h=>by simp at h⟩
set_option maxRecDepth 100000 in
set_option maxHeartbeats 1000000 in
theorem L6 {w:World} {qv:Value} {q:List (List Int)} (sh:Int) (h:Is pQ w [qv] q) (hr:Small q) :
    Calls Tryz.prog 94 #[.agg #[.int .i64 sh,qv]] w fun e w'=>∃ ov vs,e=.returned (.agg #[.int .i64 sh,ov])/\BR w' w.heap.size ov vs q/\Below w.heap.size w w':=by
  obtain ⟨ao,cap,rfl,h1,h2,h3⟩:=FY h
  obtain ⟨ki,khi,khz0,khz1,khz2⟩:=Cc Gn
  have hlen:=h2
  unfold maxLen at hlen
  obtain ⟨hr1,hr2⟩:=hr
  go_enter Tryz.func94,Tryz.ntmps94
  go_wp2
  go_loopw [12] (fun i wr=>∃ k:Nat,k<=q.length/\i=.int .i64 k/\∃ ov vs,wr.heap[w.heap.size+1]?=some (.cells #[.int .i64 0,.slice none 0 0] 80 (0,0))/\wr.heap[w.heap.size+2]?=some (.cells #[.int .i64 sh,ov] 80 (0,0))/\BR wr w.heap.size ov vs (q.take k)/\Below w.heap.size w wr) (fun i _=>q.length - (intOf i).toNat)
  case atStart =>
    refine ⟨0,Nat.zero_le _,rfl,.slice none 0 0,[],?_,?_,by simpa using BR.nil _ _,?_⟩
    · have:=heap_alloc_new (w.alloc (.cells #[.int .i64 sh,.slice ao q.length cap] 80)) (.cells #[.int .i64 0,.slice none 0 0] 80)
      rw [Below.heap_alloc _ _ _ (by simp)]
      simpa using this
    · have:=heap_alloc_new ((w.alloc (.cells #[.int .i64 sh,.slice ao q.length cap] 80)).alloc (.cells #[.int .i64 0,.slice none 0 0] 80)) (.cells #[.int .i64 sh,.slice none 0 0] 80)
      simpa using this
    · exact (((Below.refl _ w).alloc (Nat.le_refl _) _).alloc (by simp) _).alloc (by simp;omega) _
  case round =>
    obtain ⟨k,hk,rfl,ov,vs,hres,hblk,hown,hb⟩:=hrel
    by_cases hlt:k<q.length
    · obtain ⟨b,off,rfl,hbl,hc⟩:=h3 (by omega)
      obtain ⟨u,hu,hm⟩:=hc k q[k] (by simp [hlt])
      rw [← hb.cell (p:=⟨b,off+k,none⟩) hbl] at hu
      have hm':=hm.below Lh hb
      have hml:=hr2 q[k] (by simp)
      have hc1:wr.cell? ⟨w.heap.size+2,1,none⟩=some ov:=Ah hblk rfl
      have hf1:wr.frozen? ⟨w.heap.size+2,1,none⟩=false:=Aw hblk
      have hsz:=BQ hblk
      have hkl:(q.take k).length=k:=by simp;omega
      have HQ:Hid (q[k]?=some q[k]):=by unfold Hid;simp [hlt]
      clear hr2 hc h3 h
      generalize q[k]=m at *
      go_wp2
      go_region_law (first
        | (go_simp;go_at_call 35;refine (Fh (hm'.drewN Lh _) hml).mono ?_;rintro e w2 ⟨v',rfl,hm2,hb2⟩
           obtain ⟨ao',cap',rfl,_⟩:=DR hm2.row
           obtain ⟨hc2,hf2⟩:=AdZ hb2
           have hown2:BR w2 w.heap.size ov vs (q.take k):=hown.same fun _ _ hk=>hb2.block _ hk
           have hs2:=hb2.size
           simp at hs2
           have hblk2:w2.heap[w.heap.size+2]?=some (.cells #[.int .i64 sh,ov] 80 (0,0)):=(hb2.block _ hsz).trans hblk
           have c2:w2.cell? ⟨w.heap.size+2,1,none⟩=some ov:=Ah hblk2 rfl
           have hs3:=BQ hblk2
           have c3:=Lib.cell?_alloc_some (.cells #[.slice ao' m.length cap'] 83) c2)
        | (refine step_append_lies _ rfl (.tmp 17) (.tmp 20) 78 rfl w.heap.size 83 ki (.slice none 0 0) 1 24 Tryz.underlying78 khi khz0 khz1 khz2 rfl (by decide) ov k vs (by simp [Act.eval]) (by have:=hown2.row.alloc (.cells #[.slice ao' m.length cap'] 83);rwa [hkl] at this) ⟨w2.heap.size,0,none⟩ 1 1 [.slice ao' m.length cap'] (by simp [Act.eval]) rfl (cell_one_new _ _ _) (by intro u hu;simp at hu;subst hu;rfl) (by decide) (by unfold maxLen;omega) (by omega) (by simp;omega) _ rfl ?_
           intro g cap3 w3 hown3 hgrow3 hat3 hlt3
           have hblk3:w3.heap[w.heap.size+2]?=some (.cells #[.int .i64 sh,ov] 80 (0,0)):=by
             rw [hgrow3.block _ (by simp;omega) (fun e=>by obtain ⟨cur,hcur⟩:=AU hown2.row e.symm;exact DN hcur hblk2 (by decide) rfl),Below.heap_alloc _ _ _ (BQ hblk2)];exact hblk2
           have e0:w3.cell? ⟨w.heap.size+2,1,none⟩=some ov:=Ah hblk3 rfl
           have e1:w3.frozen? ⟨w.heap.size+2,1,none⟩=false:=Aw hblk3))
      all_goals
        have HO:Hid (BR (w3.setCell ⟨w.heap.size+2,1,none⟩ (.slice (some ⟨g,0,none⟩) (k+1) cap3)) w.heap.size (.slice (some ⟨g,0,none⟩) (k+1) cap3) (vs++[.slice ao' m.length cap']) (q.take (k+1))):=by
          unfold Hid
          rw [FS HQ.out]
          exact ((hown2.alloc _).more ((hm2.base hb.size).alloc _) (by rw [hkl];exact hown3) hgrow3).set hblk3 (by decide) (by decide) _
        have HB:Hid (Below w.heap.size w (w3.setCell ⟨w.heap.size+2,1,none⟩ (.slice (some ⟨g,0,none⟩) (k+1) cap3))) :=
          ((((below_drewN hb 1).trans (hb2.mono hb.size)).alloc (Nat.le_trans hb.size hs2) _).grown hgrow3 (by simp;have:=hb.size;omega) (fun k hk=>(hown2.row.lt k hk).1)).setCell (by simp) _
        have HK:Hid ((w3.setCell ⟨w.heap.size+2,1,none⟩ (.slice (some ⟨g,0,none⟩) (k+1) cap3)).heap[w.heap.size+2]?=some (.cells #[.int .i64 sh,.slice (some ⟨g,0,none⟩) (k+1) cap3] 80 (0,0))):=by
          unfold Hid;rw [A3 hblk3];rfl
        have HR:Hid ((w3.setCell ⟨w.heap.size+2,1,none⟩ (.slice (some ⟨g,0,none⟩) (k+1) cap3)).heap[w.heap.size+1]?=some (.cells #[.int .i64 0,.slice none 0 0] 80 (0,0))):=by
          unfold Hid
          have hres2:w2.heap[w.heap.size+1]?=_:=(hb2.block _ (BQ hres)).trans hres
          rw [Below.heap_setCell _ _ _ _ (by simp),hgrow3.block _ (by simp;omega) (fun e=>by obtain ⟨cur,hcur⟩:=AU hown2.row e.symm;exact DN hcur hres2 (by decide) rfl),Below.heap_alloc _ _ _ (BQ hres2)];exact hres2
        clear hgrow3 hown3 hown2 hm2 hb2 hc2 hf2 hat3 e0 hblk3
        go_wp2
        go_roundw
        case rel=>exact ⟨k+1,by omega,by go_num,_,_,HR.out,HK.out,HO.out,HB.out⟩
        case measure=>simp [intOf];omega
    · obtain rfl:k=q.length:=by omega
      have hc0:wr.cell? ⟨w.heap.size+2,0,none⟩=some (.int .i64 sh):=Ah hblk rfl
      have hc1:wr.cell? ⟨w.heap.size+2,1,none⟩=some ov:=Ah hblk rfl
      have hsz:=BQ hblk
      have r0:wr.cell? ⟨w.heap.size+1,0,none⟩=some (.int .i64 0):=Ah hres rfl
      have r1:wr.cell? ⟨w.heap.size+1,1,none⟩=some (.slice none 0 0):=Ah hres rfl
      have f0:wr.frozen? ⟨w.heap.size+1,0,none⟩=false:=Aw hres
      have f1:wr.frozen? ⟨w.heap.size+1,1,none⟩=false:=Aw hres
      obtain ⟨ao',cap',rfl,_⟩:=DR hown.row
      rw [List.take_length] at hown
      go_wp2
      have hres':((wr.setCell ⟨w.heap.size+1,0,none⟩ (.int .i64 sh)).setCell ⟨w.heap.size+1,1,none⟩ (.slice ao' q.length cap')).heap[w.heap.size+1]?=some (.cells #[.int .i64 sh,.slice ao' q.length cap'] 80 (0,0)):=by
        rw [A3 (A3 hres _)];rfl
      refine QA rfl rfl hres' Tryz.underlying80 rfl (by kernel_rfl) rfl ⟨_,vs,rfl,?_,?_⟩
      · exact (hown.set hres (by decide) (by decide) _).set (A3 hres _) (by decide) (by decide) _
      · exact (hb.setCell (by simp) _).setCell (by simp) _
end Go.Proofs.YtiaebjpcgjkhoaaGreatDoor.Ch
namespace Go.Proofs.YtiaebjpcgjkhoaaGreatDoor.Ch
open Go.RowKit Go.Lib
section
variable {P : Program}
theorem Rm (w:World) {o:Oper} {a:Act} {K:Act->World->Prop} {Q:Exit->Act->World->Prop} (d s:Operand) (t t':TypeId)
  (ho:o.op=.call { callee:=.builtin .copy,args:=#[d,s],argTypes:=#[t,t'] }) (v u:Value) (hd:a.eval d=v) (hs:a.eval s=u) {v':Value} {w':World}
  (hr:(Builtin.copy_ #[t,t'] o.type #[v,u]).run P w=.ok v' w') (h:K (a.put o.dst v') w'):o.wp P a w K Q:=by
 unfold Oper.wp execOp
 simp only [ho,resolve,invoke,builtin,Sem.run_bind,Sem.run_pure,Result.andThen_ok,List.map_toArray,List.map_cons,List.map_nil,hd,hs,hr]
 exact h
theorem EL (w:World) {ops:Array Oper} {rest:List Oper} {o:Oper} {a:Act} {Q:Exit->Act->World->Prop} (hgd:o.guard=none) (d s:Operand) (t t':TypeId)
  (ho:o.op=.call { callee:=.builtin .copy,args:=#[d,s],argTypes:=#[t,t'] }) (v u:Value) (hd:a.eval d=v) (hs:a.eval s=u) {v':Value} {w':World}
  (hr:(Builtin.copy_ #[t,t'] o.type #[v,u]).run P w=.ok v' w') (h:wpList P ops Q rest (a.put o.dst v') w'):wpList P ops Q (o::rest) a w :=
 wpList_plain hgd fun _ hK=>Rm w d s t t' ho v u hd hs hr (hK _ _ h)
theorem IJ {ops:Array Oper} {o:Oper} {a:Act} {w:World} {K:Act->World->Prop} {Q:Exit->Act->World->Prop} {E:Prop}
  (hg:o.guard=none) (d x:Operand) (dT sT:TypeId) (hop:o.op=Op.call { callee:=Callee.builtin Builtin.copy,args:=#[d,x],argTypes:=#[dT,sT] })
  (v u:Value) (hd:a.eval d=v) (hx:a.eval x=u) {v':Value} {w':World} (hr:(Builtin.copy_ #[dT,sT] o.type #[v,u]).run P w=.ok v' w') (hK:K (a.put o.dst v') w') :
  if Region.wanted o (yielded ops a.tmps)=true then Oper.wp P o a w K Q else E:=by
 have hw:Region.wanted o (yielded ops a.tmps)=true:=by simp [Region.wanted,hg]
 rw [if_pos hw]
 unfold Oper.wp
 simp [execOp,hop,resolve,invoke,builtin,hd,hx,hr,Result.andThen]
 exact hK
theorem Kg (b:Nat):∀ (vs:List Value) (o:Nat) (w:World),(w.setCells b o vs).drew=w.drew.setCells b o vs
 | [],_,_=>rfl
 | v::r,o,w=>by rw [World.setCells,World.setCells,Kg b r];rfl
theorem FA (b:Nat) (vs:List Value) (o:Nat) (w:World) (h:∀ j,j<vs.length->(w.cell? ⟨b,o+j,none⟩).isSome=true) (k:Nat) (hk:(w.cell? ⟨b,k,none⟩).isSome=true):((w.setCells b o vs).cell? ⟨b,k,none⟩).isSome=true:=by
 by_cases hin:o<=k/\k<o+vs.length
 ·have:=World.cell?_setCells_in b vs o w h (k - o) (by omega)
  rw [show o+(k - o)=k by omega] at this
  rw [this];rfl
 ·rw [World.cell?_setCells_out b vs o w ⟨b,k,none⟩ (fun _ _=>by show k<o∨o+vs.length<=k;omega)]
  exact hk
end
set_option maxHeartbeats 4000000 in
set_option maxRecDepth 100000 in
theorem Sm (b off n c i vb voff m vc:Nat) (cs vs:List Value) (w:World) (hi:i<n) (hm:0<m) (hroom:n+m<=c) (hc63:c<=9223372036854775807) (hvb:vb≠b)
  (hcl:cs.length=n) (hvl:vs.length=m)
  (hcs:∀ j v,cs[j]?=some v->w.cell? ⟨b,off+j,none⟩=some v) (hsp:∀ j,j<n+m->(w.cell? ⟨b,off+j,none⟩).isSome=true) (hfz:∀ j,j<n+m->w.frozen? ⟨b,off+j,none⟩=false)
  (hvs:∀ j v,vs[j]?=some v->w.cell? ⟨vb,voff+j,none⟩=some v) (h1c:∀ v∈cs,v.oneCell'=true) (h1v:∀ v∈vs,v.oneCell'=true)
  (tA tB:TypeId) (kA kB:Nat) (hsa:w.shape? vb=some (tA,kA)) (hsb:w.shape? b=some (tB,kB)) (hkB:kB≠0) (hfa:w.frozen? ⟨vb,voff,none⟩=false) (hfe:w.frozen? ⟨vb,kA,none⟩=false) :
  Calls Tryz.prog 98 #[.slice (some ⟨b,off,none⟩) n c,.int .i64 i,.slice (some ⟨vb,voff,none⟩) m vc] w fun e w' =>
   e=.returned (.slice (some ⟨b,off,none⟩) (n+m) c)/\w'=(w.drew.setCells b (off+(i+m)) (cs.drop i)).setCells b (off+i) vs:=by
 have hz1:¬ ((m:Int)=0):=by omega
 have hz2:¬ ((i:Int)=(n:Int)):=by omega
 have hsz:(Tryz.prog.info? 83).map (·.size)=some 1:=by
  obtain ⟨i0,hi0,h0,h1,h2⟩:=Cc Gn
  rw [hi0];simp [h1]
 have hov:∀ lb cb,(callFunc 127 #[.slice (some ⟨vb,voff,none⟩) m vc,.slice (some ⟨b,off+(i+m),none⟩) lb cb]).run Tryz.prog w=.ok (.value (.bool false)) w:=fun lb cb=>by
  rw [run_callFunc_extern Tryz.func127 (by kernel_rfl) (by kernel_rfl) (by kernel_rfl) (e:=Extern.SlicesOverlaps.overlaps #[78,78] #[4]) (by kernel_rfl),
   Lib.run_overlaps_apart w 78 4 83 Tryz.underlying78 1 Tryz.sizeOf83 ⟨vb,voff,none⟩ ⟨b,off+(i+m),none⟩ m vc lb cb hvb tA tB kA kB hsa hsb hkB hfa hfe]
  rfl
 have hdl:(cs.drop i).length=n - i:=by rw [List.length_drop,hcl]
 have hw1:IntKind.i64.wrap ((i:Int)+(m:Int))=(i:Int)+(m:Int):=by rw [IntKind.wrap_i64];omega
 have hb1:(0:Int)<=(i:Int)+(m:Int):=by omega
 have hin:i<=n:=by omega
 have htn:((i:Int)+(m:Int)).toNat=i+m:=by omega
 have hb2:¬ (c=i+m):=by omega
 have hb3:(i:Int)<=(n:Int)+(m:Int):=by omega
 have hb4:¬ (c=i):=by omega
 have hcp1:∀ ty dc sc,(Builtin.copy_ #[78,78] ty #[.slice (some ⟨b,off+(i+m),none⟩) (n+m - (i+m)) dc,.slice (some ⟨b,off+i,none⟩) (n+m - i) sc]).run Tryz.prog w.drew=.ok (goInt (cs.drop i).length) (w.drew.setCells b (off+(i+m)) (cs.drop i)):=fun ty dc sc =>
  run_copy_cells w.drew _ _ ty 83 b (off+(i+m)) (n+m - (i+m)) dc ⟨b,off+i,none⟩ (n+m - i) sc (cs.drop i) Tryz.underlying78 hsz (by rw [hdl];simp only [Nat.min_def];split<;>omega)
   (fun j v hj=>by rw [Addr.add_lit,Nat.add_assoc];exact hcs (i+j) v (by rwa [List.getElem?_drop] at hj))
   (fun j hj=>by rw [Nat.add_assoc];exact hsp _ (by omega)) (fun j hj=>by rw [Nat.add_assoc];exact hfz _ (by omega)) (fun v hv=>h1c v (List.mem_of_mem_drop hv))
 obtain ⟨W1,hW1⟩:∃ W1,W1=w.drew.setCells b (off+(i+m)) (cs.drop i):=⟨_,rfl⟩
 have hsp1:∀ k,k<n+m->(W1.cell? ⟨b,off+k,none⟩).isSome=true:=fun k hk=>by
  rw [hW1]
  exact FA b _ _ _ (fun j hj=>by rw [Nat.add_assoc];exact hsp _ (by omega)) _ (hsp k hk)
 have hcp2:∀ (W:World),(∀ x,W.cell? x=W1.cell? x)->(∀ x,W.frozen? x=W1.frozen? x)->∀ ty dc,(Builtin.copy_ #[78,78] ty #[.slice (some ⟨b,off+i,none⟩) (n+m - i) dc,.slice (some ⟨vb,voff,none⟩) m vc]).run Tryz.prog W=.ok (goInt vs.length) (W.setCells b (off+i) vs):=fun W hWc hWf ty dc =>
  run_copy_cells W _ _ ty 83 b (off+i) (n+m - i) dc ⟨vb,voff,none⟩ m vc vs Tryz.underlying78 hsz (by rw [hvl];simp only [Nat.min_def];split<;>omega)
   (fun j v hj=>by
    rw [Addr.add_lit,hWc,hW1,World.cell?_setCells_out b _ _ _ _ (fun h _=>absurd h hvb)]
    exact hvs j v hj)
   (fun j hj=>by rw [hWc,Nat.add_assoc];exact hsp1 _ (by omega)) (fun j hj=>by rw [hWf,hW1,World.frozen?_setCells,Nat.add_assoc];exact hfz _ (by omega)) h1v
 rw [← hW1] at hcp1
 go_enter Tryz.func98,Tryz.ntmps98
 go_wp2_with (simp only [hov])
 go_region_law (refine IJ rfl _ _ 78 78 rfl _ _ (by simp [Act.eval,Act.put]) (by simp [Act.eval,Act.put]) (hcp1 _ _ _) ?_)
 go_wp2_with (at_builtin;refine EL _ rfl _ _ 78 78 rfl _ _ rfl rfl (hcp2 _ (fun _=>rfl) (fun _=>rfl) _ _) ?_)
 go_ret
 first | exact ⟨rfl,rfl⟩ | exact ⟨rfl,by rw [hW1]⟩
set_option maxHeartbeats 4000000 in
set_option maxRecDepth 100000 in
theorem Uq (b off n c i vb voff m vc:Nat) (cs vs:List Value) (w:World) (hi:i<n) (hm:0<m) (hnc:n<=c) (hroom:c<n+m) (hbig:(n+m)*24<=140737488355328)
  (hcl:cs.length=n) (hvl:vs.length=m)
  (hcs:∀ j v,cs[j]?=some v->w.cell? ⟨b,off+j,none⟩=some v)
  (hvs:∀ j v,vs[j]?=some v->w.cell? ⟨vb,voff+j,none⟩=some v) (h1c:∀ v∈cs,v.oneCell'=true) (h1v:∀ v∈vs,v.oneCell'=true) :
  Calls Tryz.prog 98 #[.slice (some ⟨b,off,none⟩) n c,.int .i64 i,.slice (some ⟨vb,voff,none⟩) m vc] w fun e w' =>
   e=.returned (.slice (some ⟨w.heap.size,0,none⟩) (n+m) (grownCap w (n+m) c 83)) /\
   w'=(((w.alloc (.cells ((cs.take i).toArray++Builtin.zeroCells (Value.slice none 0 0).cells (n+m - i)++Builtin.zeroCells (Value.slice none 0 0).cells (grownCap w (n+m) c 83 - (n+m))) 83)).drew.setCells w.heap.size i vs).drew).setCells w.heap.size (i+m) (cs.drop i):=by
 obtain ⟨i0,hi0,hz0,hzs,hzb⟩:=Cc Gn
 have hz1:¬ ((m:Int)=0):=by omega
 have hz2:¬ ((i:Int)=(n:Int)):=by omega
 have hz3:(c:Int)<(n:Int)+(m:Int):=by omega
 have hsz:(Tryz.prog.info? 83).map (·.size)=some 1:=by rw [hi0];simp [hzs]
 have hbw:b<w.heap.size:=block_lt_of_cell (hcs 0 _ (List.getElem?_eq_getElem (by omega)))
 have hvw:vb<w.heap.size:=block_lt_of_cell (hvs 0 _ (List.getElem?_eq_getElem (by omega)))
 have hkk:(n:Int)+(m:Int) - (i:Int)=((n+m - i:Nat):Int):=by omega
 have hik:i+(n+m - i)=n+m:=by omega
 have hold:(Builtin.firstCells i0.size i (.slice (some ⟨b,off,none⟩) i c)).run Tryz.prog w.drew=.ok (cs.take i).toArray w.drew:=by
  rw [hzs]
  exact run_firstCells_some w.drew 1 i ⟨b,off,none⟩ i c (cs.take i) (by rw [List.length_take];omega) (fun j v hj=>by
   rw [Addr.add_lit]
   rw [List.getElem?_take] at hj
   split at hj
   ·exact hcs j v hj
   ·cases hj)
 have hrz:∀ ty,(Builtin.append_ #[78,3] ty #[.slice (some ⟨b,off,none⟩) i c,.int .i64 ((n:Int)+(m:Int) - (i:Int))]).run Tryz.prog w =
   .ok (.slice (some ⟨w.heap.size,0,none⟩) (n+m) (grownCap w (n+m) c 83)) (w.drew.alloc (.cells ((cs.take i).toArray++Builtin.zeroCells (Value.slice none 0 0).cells (n+m - i)++Builtin.zeroCells (Value.slice none 0 0).cells (grownCap w (n+m) c 83 - (n+m))) 83)):=fun ty=>by
  have h:=Lib.run_append_grow_zeros w 78 3 ty 83 i0 _ .i64 .i64 Tryz.underlying78 Tryz.underlying3 hi0 hz0 (some ⟨b,off,none⟩) i c (cs.take i) hold (n+m - i) (by omega) (by omega) (by omega) (by omega) (by rw [hzb];omega) (by rw [hzb,hik];exact growslice_fits hroom hbig)
  rw [hik] at h
  rw [hkk]
  exact h
 obtain ⟨G,hG⟩:∃ G,G=grownCap w (n+m) c 83:=⟨_,rfl⟩
 obtain ⟨ROW,hROW⟩:∃ ROW:Array Value,ROW=(cs.take i).toArray++Builtin.zeroCells (Value.slice none 0 0).cells (n+m - i)++Builtin.zeroCells (Value.slice none 0 0).cells (G - (n+m)):=⟨_,rfl⟩
 rw [← hG] at hrz ⊢
 rw [← hROW] at hrz ⊢
 have hRl:n+m<=ROW.size:=by
  rw [hROW]
  simp [Builtin.zeroCells,Value.cells]
  omega
 obtain ⟨W1,hW1⟩:∃ W1,W1=w.drew.alloc (.cells ROW 83):=⟨_,rfl⟩
 rw [← hW1] at hrz
 have hN:∀ j,j<n+m->(W1.cell? ⟨w.heap.size,j,none⟩).isSome=true:=fun j hj=>by
  rw [hW1,World.cell?_alloc_at (w:=w.drew) ROW _ w.heap.size j rfl,Array.getElem?_eq_getElem (by omega)];rfl
 have hNf:∀ j,W1.frozen? ⟨w.heap.size,j,none⟩=false:=fun j=>by rw [hW1];exact World.frozen?_alloc_at (w:=w.drew) ROW _ w.heap.size j rfl
 have hOb:∀ j v,w.cell? ⟨b,j,none⟩=some v->W1.cell? ⟨b,j,none⟩=some v:=fun j v h=>by rw [hW1,World.cell?_alloc_past (w:=w.drew) _ b j hbw];exact h
 have hOv:∀ j v,w.cell? ⟨vb,j,none⟩=some v->W1.cell? ⟨vb,j,none⟩=some v:=fun j v h=>by rw [hW1,World.cell?_alloc_past (w:=w.drew) _ vb j hvw];exact h
 have hcpA:∀ (W:World),(∀ x,W.cell? x=W1.cell? x)->(∀ x,W.frozen? x=W1.frozen? x)->∀ ty dc,(Builtin.copy_ #[78,78] ty #[.slice (some ⟨w.heap.size,i,none⟩) (n+m - i) dc,.slice (some ⟨vb,voff,none⟩) m vc]).run Tryz.prog W=.ok (goInt vs.length) (W.setCells w.heap.size i vs):=fun W hWc hWf ty dc =>
  run_copy_cells W _ _ ty 83 w.heap.size i (n+m - i) dc ⟨vb,voff,none⟩ m vc vs Tryz.underlying78 hsz (by rw [hvl];simp only [Nat.min_def];split<;>omega)
   (fun j v hj=>by rw [Addr.add_lit,hWc];exact hOv _ v (hvs j v hj))
   (fun j hj=>by rw [hWc];exact hN _ (by omega)) (fun j hj=>by rw [hWf];exact hNf _) h1v
 have hGn:n+m<=G:=by rw [hG];exact grownCap_ge w _ _ _
 have hG63:G<=9223372036854775807:=by
  have:=grownCap_le_maxLen w (n+m) c 83 (by unfold maxLen;omega)
  rw [← hG] at this
  unfold maxLen at this
  omega
 have hGi:¬ (G=i):=by omega
 have hGim:¬ (G=i+m):=by omega
 have hci:¬ (c=i):=by omega
 have hbN:b≠w.heap.size:=by omega
 have hdl:(cs.drop i).length=n - i:=by rw [List.length_drop,hcl]
 have hcpB:∀ (W:World),(∀ x,W.cell? x=(W1.setCells w.heap.size i vs).cell? x)->(∀ x,W.frozen? x=(W1.setCells w.heap.size i vs).frozen? x)->∀ ty dc sc,(Builtin.copy_ #[78,78] ty #[.slice (some ⟨w.heap.size,i+m,none⟩) (n+m - (i+m)) dc,.slice (some ⟨b,off+i,none⟩) (n - i) sc]).run Tryz.prog W=.ok (goInt (cs.drop i).length) (W.setCells w.heap.size (i+m) (cs.drop i)):=fun W hWc hWf ty dc sc =>
  run_copy_cells W _ _ ty 83 w.heap.size (i+m) (n+m - (i+m)) dc ⟨b,off+i,none⟩ (n - i) sc (cs.drop i) Tryz.underlying78 hsz (by rw [hdl];simp only [Nat.min_def];split<;>omega)
   (fun j v hj=>by
    rw [Addr.add_lit,hWc,World.cell?_setCells_out _ _ _ _ _ (fun h _=>absurd h hbN),Nat.add_assoc]
    exact hOb _ v (hcs (i+j) v (by rwa [List.getElem?_drop] at hj)))
   (fun j hj=>by rw [hWc];exact FA _ _ _ _ (fun t ht=>hN _ (by omega)) _ (hN _ (by omega)))
   (fun j hj=>by rw [hWf,World.frozen?_setCells];exact hNf _) (fun v hv=>h1c v (List.mem_of_mem_drop hv))
 subst hW1
 have hE1:∀ x,((w.alloc (.cells ROW 83)).drew).cell? x=(w.drew.alloc (.cells ROW 83)).cell? x:=fun x=>rfl
 have hE2:∀ x,((w.alloc (.cells ROW 83)).drew).frozen? x=(w.drew.alloc (.cells ROW 83)).frozen? x:=fun x=>rfl
 have hF1:∀ x,(((w.alloc (.cells ROW 83)).drew.setCells w.heap.size i vs).drew).cell? x=((w.drew.alloc (.cells ROW 83)).setCells w.heap.size i vs).cell? x:=fun x=>rfl
 have hF2:∀ x,(((w.alloc (.cells ROW 83)).drew.setCells w.heap.size i vs).drew).frozen? x=((w.drew.alloc (.cells ROW 83)).setCells w.heap.size i vs).frozen? x:=fun x=>rfl
 have hw1:IntKind.i64.wrap ((i:Int)+(m:Int))=(i:Int)+(m:Int):=by rw [IntKind.wrap_i64];omega
 have hb1:(0:Int)<=(i:Int)+(m:Int):=by omega
 have hin:i<=n:=by omega
 have htn:((i:Int)+(m:Int)).toNat=i+m:=by omega
 have hb3:(i:Int)<=(n:Int):=by omega
 clear hkk hik hold hROW hG hRl
 go_enter Tryz.func98,Tryz.ntmps98
 go_wp2_with (first
  | (at_builtin;refine Lib.wpList_append_run _ rfl _ _ _ _ rfl _ _ rfl rfl _ _ (hrz _) ?_)
  | (at_builtin;refine EL _ rfl _ _ 78 78 rfl _ _ rfl rfl (hcpA _ hE1 hE2 _ _) ?_)
  | (at_builtin;refine EL _ rfl _ _ 78 78 rfl _ _ rfl rfl (hcpB _ (fun _=>rfl) (fun _=>rfl) _ _ _) ?_))
 go_region_law (refine IJ rfl _ _ 78 78 rfl (.slice (some ⟨w.heap.size,i+m,none⟩) (n+m - (i+m)) (G - (i+m))) (.slice (some ⟨b,off+i,none⟩) (n - i) (c - i)) (by simp [Act.eval,Act.put]) (by simp [Act.eval,Act.put]) (hcpB _ hF1 hF2 3 (G - (i+m)) (c - i)) ?_)
 go_wp2
 go_ret
 exact ⟨rfl,rfl⟩
end Go.Proofs.YtiaebjpcgjkhoaaGreatDoor.Ch
namespace Go.Proofs.YtiaebjpcgjkhoaaGreatDoor.Ch
open Go.RowKit
theorem ER {w:World} {n0 g cap n:Nat} {e:TypeId} {cur:Array Value} {xs:List Value} (hg:w.heap[g]?=some (.cells cur e (0,0))) (hb:n0<=g) (hn:n<=cap) (hm:cap<=maxLen) (hs:cur.size=cap) (hl:xs.length=n)
  (hc:∀ j,j<n->w.cell? ⟨g,j,none⟩=xs[j]?):w.ownsRow n0 e 1 (.slice (some ⟨g,0,none⟩) n cap) n xs:=by
 refine ⟨by simpa using hl,.inr ⟨g,cap,cur,rfl,hb,hg,hn,hm,by simpa using hs,?_⟩⟩
 apply List.ext_getElem?
 intro j
 rw [List.getElem?_take]
 by_cases hj:j<n
 ·rw [if_pos (by omega),← hc j hj]
  simp [World.cell?,hg]
 ·rw [if_neg (by omega),List.getElem?_eq_none (by omega)]
theorem Dn {g:Nat} {t:TypeId}:∀ (vs:List Value) (o:Nat) (w:World) (cur:Array Value),w.heap[g]?=some (.cells cur t (0,0))->∃ cur',(w.setCells g o vs).heap[g]?=some (.cells cur' t (0,0))/\cur'.size=cur.size
 | [],_,_,cur,h=>⟨cur,h,rfl⟩
 | v::r,o,w,cur,h=>by
  obtain ⟨c',h1,h2⟩:=Dn r (o+1) (w.setCell ⟨g,o,none⟩ v) _ (heap_setCell_same w g o cur t v h)
  exact ⟨c',h1,by simpa using h2⟩
theorem Fa {g o j:Nat} {vs:List Value} {w:World} (h:∀ j,j<vs.length->(w.cell? ⟨g,o+j,none⟩).isSome=true) (h1:o<=j) (h2:j<o+vs.length):(w.setCells g o vs).cell? ⟨g,j,none⟩=vs[j - o]?:=by
 have:=World.cell?_setCells_in g vs o w h (j - o) (by omega)
 rw [show o+(j - o)=j by omega] at this
 rw [this,List.getElem?_eq_getElem (by omega)]
theorem CZ {g o j:Nat} {vs:List Value} {w:World} (h:j<o∨o+vs.length<=j):(w.setCells g o vs).cell? ⟨g,j,none⟩=w.cell? ⟨g,j,none⟩ :=
 World.cell?_setCells_out g vs o w _ fun _ _=>h
theorem Ka {g o k:Nat} {vs:List Value} {w:World} (h:∀ j,j<vs.length->(w.cell? ⟨g,o+j,none⟩).isSome=true) (hk:(w.cell? ⟨g,k,none⟩).isSome=true):((w.setCells g o vs).cell? ⟨g,k,none⟩).isSome=true :=
 FA g vs o w h k hk
theorem Dm {g k:Nat} (hk:k≠g):∀ (vs:List Value) (o:Nat) (w:World),(w.setCells g o vs).heap[k]?=w.heap[k]?
 | [],_,_=>rfl
 | v::r,o,w=>by rw [World.setCells,Dm hk r,Below.heap_setCell _ _ _ _ hk]
theorem C5 : ∀ (vs:List Value) (o g:Nat) (w:World),(w.setCells g o vs).os=w.os/\(w.setCells g o vs).tape=w.tape/\(w.setCells g o vs).output=w.output/\(w.setCells g o vs).heap.size=w.heap.size
 | [],_,_,_=>⟨rfl,rfl,rfl,rfl⟩
 | v::r,o,g,w=>by
  obtain ⟨h1,h2,h3,h4⟩:=C5 r (o+1) g (w.setCell ⟨g,o,none⟩ v)
  exact ⟨h1,h2,h3,h4.trans (by simp [World.setCell])⟩
def putAt {α:Type} (l:List α) (i:Nat) (x:α):List α:=l.take i++x::l.drop i
theorem FW {α:Type} {l:List α} {i:Nat} {x:α} (h:i<=l.length):(putAt l i x).length=l.length+1:=by
 unfold putAt;simp;omega
theorem O0 {α:Type} {l:List α} {i j:Nat} {x:α} (h:i<=l.length) (hj:j<i):(putAt l i x)[j]?=l[j]?:=by
 unfold putAt
 rw [List.getElem?_append_left (by simp;omega),List.getElem?_take,if_pos hj]
theorem O2 {α:Type} {l:List α} {i:Nat} {x:α} (h:i<=l.length):(putAt l i x)[i]?=some x:=by
 unfold putAt
 rw [List.getElem?_append_right (by simp;omega)]
 simp [show i - min i l.length=0 by omega]
theorem O1 {α:Type} {l:List α} {i j:Nat} {x:α} (h:i<=l.length) (hj:i<j):(putAt l i x)[j]?=l[j - 1]?:=by
 unfold putAt
 rw [List.getElem?_append_right (by simp;omega),List.length_take,show min i l.length=i by omega,show j - i=(j - 1 - i)+1 by omega,List.getElem?_cons_succ,List.getElem?_drop]
 congr 1;omega
theorem Aay {α:Type} (l:List α) (x:α):putAt l l.length x=l++[x]:=by simp [putAt]
theorem TW {w:World} {g i n:Nat} {vs:List Value} {xv:Value} (hl:vs.length=n) (hi:i<n) (hsp:∀ j,j<n+1->(w.cell? ⟨g,j,none⟩).isSome=true) (hlo:∀ j,j<i->w.cell? ⟨g,j,none⟩=vs[j]?) (j:Nat) (hj:j<n+1) :
  ((w.setCells g (i+1) (vs.drop i)).setCells g i [xv]).cell? ⟨g,j,none⟩=(putAt vs i xv)[j]?:=by
 have hd:(vs.drop i).length=n - i:=by simp [hl]
 have h0:∀ k,k<(vs.drop i).length->(w.cell? ⟨g,i+1+k,none⟩).isSome=true:=fun k hk=>hsp _ (by omega)
 rcases Nat.lt_trichotomy j i with h | h | h
 ·rw [CZ (.inl h),CZ (.inl (by omega)),hlo j h,O0 (by omega) h]
 ·subst h
  rw [Fa (fun k hk=>by simp at hk;subst hk;exact Ka h0 (hsp _ (by omega))) (Nat.le_refl _) (by simp),O2 (by omega)];simp
 ·rw [CZ (.inr (by simp;omega)),Fa h0 (by omega) (by omega),O1 (by omega) h,List.getElem?_drop]
  congr 1;omega
theorem R0 {w:World} {g i n:Nat} {vs:List Value} {xv:Value} (hl:vs.length=n) (hi:i<n) (hsp:∀ j,j<n+1->(w.cell? ⟨g,j,none⟩).isSome=true) (hlo:∀ j,j<i->w.cell? ⟨g,j,none⟩=vs[j]?) (j:Nat) (hj:j<n+1) :
  ((w.setCells g i [xv]).setCells g (i+1) (vs.drop i)).cell? ⟨g,j,none⟩=(putAt vs i xv)[j]?:=by
 have hd:(vs.drop i).length=n - i:=by simp [hl]
 have h1:∀ k,k<[xv].length->(w.cell? ⟨g,i+k,none⟩).isSome=true:=fun k hk=>hsp _ (by simp at hk;omega)
 have h0:∀ k,k<(vs.drop i).length->((w.setCells g i [xv]).cell? ⟨g,i+1+k,none⟩).isSome=true:=fun k hk=>Ka h1 (hsp _ (by omega))
 rcases Nat.lt_trichotomy j i with h | h | h
 ·rw [CZ (.inl (by omega)),CZ (.inl h),hlo j h,O0 (by omega) h]
 ·subst h
  rw [CZ (.inl (by omega)),Fa h1 (Nat.le_refl _) (by simp),O2 (by omega)];simp
 ·rw [Fa h0 (by omega) (by omega),O1 (by omega) h,List.getElem?_drop]
  congr 1;omega
theorem BR.putAt {w w':World} {n0 i:Nat} {v v' u:Value} {vs:List Value} {q:List (List Int)} {m:List Int} (h:BR w n0 v vs q) (hm:Fo w n0 u m) (hi:i<=q.length)
  (hr:w'.ownsRow n0 83 1 v' (q.length+1) (putAt vs i u)) (ht:∀ k,k<w.heap.size->v.ownBlock≠some k->w'.heap[k]?=w.heap[k]?):BR w' n0 v' (putAt vs i u) (putAt q i m):=by
 have hl:=h.len
 have sep:∀ (x:Value) (l:List Int),Fo w n0 x l->Fo w' n0 x l:=fun x l hx=>hx.same fun k hk=>ht k (hx.row.lt k hk).2 fun e=>by
  obtain ⟨c1,e1⟩:=AU hx.row hk
  obtain ⟨c2,e2⟩:=AU h.row e
  exact DN e1 e2 (by decide) rfl
 refine ⟨by rw [FW hi];exact hr,by rw [FW hi,FW (by omega),hl],fun j x l hx hl'=>?_⟩
 rcases Nat.lt_trichotomy j i with hj | hj | hj
 ·rw [O0 (by omega) hj] at hx hl'
  exact sep x l (h.each j x l hx hl')
 ·subst hj
  rw [O2 (by omega)] at hx hl'
  cases hx;cases hl'
  exact sep _ _ hm
 ·rw [O1 (by omega) hj] at hx hl'
  exact sep x l (h.each _ x l hx hl')
theorem Fw {w:World} {n0 n:Nat} {e:TypeId} {v:Value} {xs:List Value} (h:w.ownsRow n0 e 1 v n xs):v.oneCell'=true:=by
 rcases h.2 with ⟨rfl,_⟩ | ⟨g,cap,cur,rfl,_⟩<;>rfl
set_option maxHeartbeats 1000000 in
set_option maxRecDepth 100000 in
theorem Sn {w:World} {n0 V:Nat} {qv xv:Value} {vs:List Value} {q:List (List Int)} {x:List Int} (i:Nat) (hq:BR w n0 qv vs q) (hV:w.heap[V]?=some (.cells #[xv] 83 (0,0))) (hne:qv.ownBlock≠some V)
  (hx:Fo w n0 xv x) (hi:i<=q.length) (hbig:(q.length+1)*24<=140737488355328) (hn0:n0<=w.heap.size) :
  Calls Tryz.prog 98 #[qv,.int .i64 i,.slice (some ⟨V,0,none⟩) 1 1] w fun e w' =>
   ∃ v',e=.returned v'/\BR w' n0 v' (putAt vs i xv) (putAt q i x)/\BI w w' (fun k=>qv.ownBlock=some k):=by
 have hxv:=Fw hx.row
 have hV0:w.cell? ⟨V,0,none⟩=some xv:=Ah hV rfl
 have hlen:=hq.len
 by_cases hin:i=q.length
 ·subst hin
  obtain ⟨ki,khi,khz0,khz1,khz2⟩:=Cc Gn
  obtain ⟨ao,cap,rfl,hcl,_⟩:=DR hq.row
  rcases Nat.eq_or_lt_of_le hcl with rfl | hcl
  all_goals
   go_enter Tryz.func98,Tryz.ntmps98
   go_wp2_with (at_builtin;refine N5 _ rfl (.tmp 23) (.tmp 24) 78 rfl n0 83 ki (.slice none 0 0) 1 24 Tryz.underlying78 khi khz0 khz1 khz2 rfl (by decide) _ q.length vs rfl hq.row ⟨V,0,none⟩ 1 1 [xv] rfl rfl ?k1 ?k2 ?k3 ?k4 hn0 ?kK)
   case k1 =>
    intro j u hj
    obtain rfl:j=0:=by have:=(List.getElem?_eq_some_iff.1 hj).1;simpa using this
    simp at hj;subst hj;exact hV0
   case k2=>intro u hu;simp at hu;subst hu;exact hxv
   case k3=>unfold maxLen;omega
   case k4=>omega
   case kK =>
    intro kv w2 hown2 hgrow2 _
    have HQ:Hid (BR w2 n0 kv (putAt vs q.length xv) (putAt q q.length x)) :=
     hq.putAt hx (Nat.le_refl _) (by rw [show putAt vs q.length xv=vs++[xv] by rw [← hlen];exact Aay _ _];exact hown2) fun k hk hne=>hgrow2.block k hk fun e=>hne e.symm
    have HT:Hid (BI w w2 (fun k=>(Value.slice ao q.length _).ownBlock=some k)):=(BI.refl w _).grown hgrow2 fun k hk=>.inl hk
    clear hgrow2 hown2
    go_wp2
    go_ret
    exact ⟨_,rfl,HQ.out,HT.out⟩
 ·have hlt:i<q.length:=by omega
  rcases hq.row.2 with ⟨rfl,h0⟩ | ⟨g,cap,cur,rfl,hb,hg,h1,h2,h3,h4⟩
  ·omega
  ·have hcs:∀ (j:Nat) (v:Value),vs[j]?=some v->w.cell? ⟨g,0+j,none⟩=some v:=by
    intro j v hj
    have:=hq.row.cellAt j (by have:=(List.getElem?_eq_some_iff.1 hj).1;omega)
    rw [Nat.zero_add,this,hj]
   have hvs:∀ (j:Nat) (v:Value),[xv][j]?=some v->w.cell? ⟨V,0+j,none⟩=some v:=by
    intro j v hj
    obtain rfl:j=0:=by have:=(List.getElem?_eq_some_iff.1 hj).1;simpa using this
    simp at hj;subst hj
    exact hV0
   have h1c:∀ v∈vs,v.oneCell'=true:=by
    intro v hv
    obtain ⟨j,hj,rfl⟩:=List.getElem_of_mem hv
    exact Fw (hq.each j vs[j] q[j] (by simp [hj]) (by simp [show j<q.length by omega])).row
   have h1v:∀ v∈[xv],v.oneCell'=true:=by intro v hv;simp at hv;subst hv;exact hxv
   have hgV:V≠g:=by rintro rfl;exact hne rfl
   have hm2:=h2
   unfold maxLen at hm2
   by_cases hroom:q.length+1<=cap
   ·refine (Sm g 0 q.length cap i V 0 1 1 vs [xv] w hlt (by omega) hroom (by omega) hgV hlen rfl hcs (fun j hj=>?_) (fun j _=>by rw [Nat.zero_add];exact Aw hg) hvs h1c h1v _ _ 1 cur.size (by simp [World.shape?,hV];rfl) (by simp [World.shape?,hg];rfl) (by omega) (Aw hV) (Aw hV)).mono ?_
    ·rw [Nat.zero_add,Ah hg (by rw [Array.getElem?_eq_getElem (by omega)])];rfl
    ·rintro e w' ⟨rfl,rfl⟩
     rw [Nat.zero_add,Nat.zero_add]
     obtain ⟨c1,e1,z1⟩:=Dn (vs.drop i) (i+1) w.drew cur hg
     obtain ⟨c2,e2,z2⟩:=Dn [xv] i _ c1 e1
     obtain ⟨s1,s2,s3,s4⟩:=C5 (vs.drop i) (i+1) g w.drew
     obtain ⟨s5,s6,s7,s8⟩:=C5 [xv] i g (w.drew.setCells g (i+1) (vs.drop i))
     have far:∀ k,k≠g->((w.drew.setCells g (i+1) (vs.drop i)).setCells g i [xv]).heap[k]?=w.heap[k]?:=fun k hk=>by rw [Dm hk,Dm hk];rfl
     refine ⟨_,rfl,hq.putAt hx hi (ER e2 hb hroom h2 (by omega) (by rw [FW (by omega),hlen]) fun j hj=>TW hlen hlt (fun k hk=>?_) (fun k hk=>?_) j hj) fun k _ hne=>far k fun e=>hne (by rw [e];rfl),
      ⟨s5.trans s1,s6.trans s2,s7.trans s3,by rw [s8,s4];exact Nat.le_refl _,fun k _ hne=>far k fun e=>hne (by rw [e];rfl)⟩⟩
     ·show (w.cell? _).isSome=true
      rw [Ah hg (by rw [Array.getElem?_eq_getElem (by omega)])];rfl
     ·show w.cell? _=_
      exact hq.row.cellAt k (by omega)
   ·refine (Uq g 0 q.length cap i V 0 1 1 vs [xv] w hlt (by omega) h1 (by omega) hbig hlen rfl hcs hvs h1c h1v).mono ?_
    rintro e w' ⟨rfl,rfl⟩
    generalize hROW:(vs.take i).toArray++Builtin.zeroCells (Value.slice none 0 0).cells (q.length+1 - i)++Builtin.zeroCells (Value.slice none 0 0).cells (grownCap w (q.length+1) cap 83 - (q.length+1))=ROW
    have hge:=grownCap_ge w (q.length+1) cap 83
    have hle:=grownCap_le_maxLen w (q.length+1) cap 83 (by unfold maxLen;omega)
    have hsz:ROW.size=grownCap w (q.length+1) cap 83:=by rw [← hROW];simp [Builtin.zeroCells,Value.cells];omega
    have hlo:∀ k,k<i->ROW[k]?=vs[k]?:=fun k hk=>by
     rw [← hROW,Array.append_assoc,Array.getElem?_append_left (by simp;omega)];simp [hk]
    generalize grownCap w (q.length+1) cap 83=G at *
    obtain ⟨W1,hW1⟩:∃ W1,W1=(w.alloc (.cells ROW 83)).drew:=⟨_,rfl⟩
    rw [← hW1]
    have hN:W1.heap[w.heap.size]?=some (.cells ROW 83 (0,0)):=by rw [hW1];exact heap_alloc_new w _
    have e0:(W1.setCells w.heap.size i [xv]).drew.setCells w.heap.size (i+1) (vs.drop i)=((W1.setCells w.heap.size i [xv]).setCells w.heap.size (i+1) (vs.drop i)).drew:=(Kg _ _ _ _).symm
    rw [e0]
    obtain ⟨c1,e1,z1⟩:=Dn [xv] i W1 ROW hN
    obtain ⟨c2,e2,z2⟩:=Dn (vs.drop i) (i+1) _ c1 e1
    obtain ⟨s1,s2,s3,s4⟩:=C5 [xv] i w.heap.size W1
    obtain ⟨s5,s6,s7,s8⟩:=C5 (vs.drop i) (i+1) w.heap.size (W1.setCells w.heap.size i [xv])
    have far:∀ k,k<w.heap.size->((W1.setCells w.heap.size i [xv]).setCells w.heap.size (i+1) (vs.drop i)).heap[k]?=w.heap[k]?:=fun k hk=>by
     rw [Dm (by omega),Dm (by omega),hW1];exact Below.heap_alloc _ _ _ hk
    refine ⟨_,rfl,hq.putAt hx hi (ER (w:=((W1.setCells w.heap.size i [xv]).setCells w.heap.size (i+1) (vs.drop i)).drew) e2 hn0 hge hle (by omega) (by rw [FW (by omega),hlen]) fun j hj=>R0 hlen hlt (fun k hk=>?_) (fun k hk=>?_) j hj) fun k hk _=>far k hk,
     ⟨?_,?_,?_,?_,fun k hk _=>far k hk⟩⟩
    ·rw [Ah hN (by rw [Array.getElem?_eq_getElem (by omega)])];rfl
    ·have:ROW[k]?=some ROW[k]:=by rw [Array.getElem?_eq_getElem (by omega)]
     rw [Ah hN this,← this];exact hlo k hk
    ·exact (s5.trans s1).trans (by rw [hW1];rfl)
    ·exact (s6.trans s2).trans (by rw [hW1];rfl)
    ·exact (s7.trans s3).trans (by rw [hW1];rfl)
    ·show w.heap.size<=(World.heap _).size
     have:W1.heap.size=w.heap.size+1:=by rw [hW1];simp
     show w.heap.size<=((W1.setCells w.heap.size i [xv]).setCells w.heap.size (i+1) (vs.drop i)).heap.size
     rw [s8,s4];omega
end Go.Proofs.YtiaebjpcgjkhoaaGreatDoor.Ch
namespace Go.Proofs.YtiaebjpcgjkhoaaGreatDoor.Ch
open Go.RowKit
set_option maxHeartbeats 1000000 in
theorem WJ {w:World} {yv xv:Value} {x y:List Int} {X:Nat} (hy:Is pM w [yv] y) (hX:w.cell? ⟨X,0,none⟩=some xv) (hx:Is pM w [xv] x) :
  Calls Tryz.prog 96 #[yv,.pointer (some ⟨X,0,none⟩)] w fun e w'=>e=.returned (.bool (Ew x y))/\∃ n,w'=w.drewN n:=by
 have HC:=W8 hx hy
 obtain ⟨ao,ca,rfl,_⟩:=JN hx
 obtain ⟨bo,cb,rfl,_⟩:=JN hy
 go_enter Tryz.func96,Tryz.ntmps96
 go_wp2_with fail
 refine HC.mono ?_;rintro e w1 ⟨rfl,nq,rfl⟩
 go_wp2
 go_ret
 exact ⟨rfl,_,rfl⟩
set_option maxHeartbeats 1000000 in
theorem Ur {w:World} {qv xv:Value} {x:List Int} {q:List (List Int)} {X:Nat} (hq:Is pQ w [qv] q) (hX:w.cell? ⟨X,0,none⟩=some xv) (hx:Is pM w [xv] x) :
  Calls Tryz.prog 95 #[qv,.func (.func 96) #[] #[.pointer (some ⟨X,0,none⟩)]] w fun e w'=>e=.returned (.int .i64 (H5 x q))/\∃ n,w'=w.drewN n:=by
 obtain ⟨ao,cap,rfl,h1,h2,h3⟩:=FY hq
 clear hq
 unfold maxLen at h2
 go_enter Tryz.func95,Tryz.ntmps95
 go_wp2
 go_loopw [8] (fun i wr=>∃ k:Nat,k<=q.length/\i=.int .i64 k/\(∀ j y,j<k->q[j]?=some y->Ew x y=false)/\∃ n,wr=w.drewN n) (fun i _=>q.length - (intOf i).toNat)
 case atStart=>exact ⟨0,Nat.zero_le _,rfl,fun j y h=>by omega,0,rfl⟩
 case round =>
  obtain ⟨k,hk,rfl,hs,nq,rfl⟩:=hrel
  by_cases hlt:k<q.length
  ·obtain ⟨b,off,rfl,hbl,hc⟩:=h3 (by omega)
   obtain ⟨u,hu,hm⟩:=hc k q[k] (by simp [hlt])
   have HQ:q[k]?=some q[k]:=by simp [hlt]
   have HC:=WJ (hm.drewN Lh nq) (X:=X) hX (hx.drewN Lh nq)
   cases hl:Ew x q[k] with
   | true =>
    have HI:Hid (H5 x q=k):=by unfold Hid H5;rw [Pj x q k _ HQ hs hl,if_pos hlt]
    rw [hl] at HC
    clear hs hc h3 hl HQ
    generalize q[k]=m at *
    go_wp2_with (go_at_call 96;refine HC.mono ?_;rintro e w1 ⟨rfl,n1,rfl⟩)
    go_ret
    exact ⟨by rw [HI.out];rfl,_,rfl⟩
   | false =>
    have HS:Hid (∀ j y,j<k+1->q[j]?=some y->Ew x y=false):=by
     intro j y hj hy
     by_cases e:j=k
     ·subst e;rw [HQ] at hy;cases hy;exact hl
     ·exact hs j y (by omega) hy
    rw [hl] at HC
    clear hs hc h3 hl HQ
    generalize q[k]=m at *
    go_wp2_with (go_at_call 96;refine HC.mono ?_;rintro e w1 ⟨rfl,n1,rfl⟩)
    go_roundw
    case rel=>exact ⟨k+1,by omega,by go_num,HS.out,_,rfl⟩
    case measure=>simp [intOf];omega
  ·obtain rfl:k=q.length:=by omega
   have HI:Hid (H5 x q=-1):=by unfold Hid H5;rw [Ng x q fun j y hy=>hs j y (List.getElem?_eq_some_iff.1 hy).1 hy,if_neg (by omega)]
   clear hs h3
   go_wp2
   go_ret
   exact ⟨by rw [HI.out];rfl,_,rfl⟩
def fitM (fs:List D.Type) (m:List Int):List Int:=List.zipWith (fun t v=>DS t.Bits t.Signed v) fs m
def putE (room:Int) (fs:List D.Type) (q:List (List Int)) (m:List Int):Int :=
 if m.length≠fs.length then 42 else if fs.all typeP=false then 42 else if room<=q.length then 45 else 0
def putX (fs:List D.Type) (q:List (List Int)) (m:List Int) (sorted:Bool):List (List Int):=putAt q (if sorted then DM (fitM fs m) q else q.length) (fitM fs m)
theorem YQ (n:Nat):(madeCells #[Value.int .i64 0] n).toList=List.replicate n (Value.int .i64 0):=toList_madeCells_one (.int .i64 0) n
def putSh (room:Int) (fs:List D.Type) (q:List (List Int)) (m:List Int) (sh:Int):Int:=if putE room fs q m=0 then sh else 0
def putQ (room:Int) (fs:List D.Type) (q:List (List Int)) (m:List Int) (sorted:Bool):List (List Int):=if putE room fs q m=0 then putX fs q m sorted else []
theorem Mp {room sh:Int} {fs:List D.Type} {q:List (List Int)} {m:List Int} {e:Int} (h:putE room fs q m=e) (he:e≠0):putSh room fs q m sh=0:=by unfold putSh;rw [h,if_neg he]
theorem OZ {room:Int} {fs:List D.Type} {q:List (List Int)} {m:List Int} {sorted:Bool} {e:Int} (h:putE room fs q m=e) (he:e≠0):putQ room fs q m sorted=[]:=by unfold putQ;rw [h,if_neg he]
def GK (fs:List D.Type) (m:List Int) (k:Nat):List Int:=(fitM fs m).take k++List.replicate (m.length - k) 0
theorem fitM_len {fs:List D.Type} {m:List Int} (h:m.length=fs.length):(fitM fs m).length=m.length:=by simp [fitM,h]
theorem Q0 {fs:List D.Type} {m:List Int} {k:Nat} (h:m.length=fs.length) (hk:k<=m.length):(GK fs m k).length=m.length:=by
 simp [GK,fitM_len h];omega
theorem Abf {fs:List D.Type} {m:List Int} (h:m.length=fs.length):GK fs m m.length=fitM fs m:=by
 simp [GK];rw [← fitM_len h,List.take_length]
theorem Abe {fs:List D.Type} {m:List Int} {k:Nat} (h:m.length=fs.length) (hk:k<m.length) (t:D.Type) (ht:fs[k]?=some t) :
  (GK fs m k).set k (DS t.Bits t.Signed (m.getD k 0))=GK fs m (k+1):=by
 have hl:=fitM_len h
 have he:(fitM fs m)[k]?=some (DS t.Bits t.Signed (m.getD k 0)):=by
  simp [fitM,List.getElem?_zipWith,ht,List.getD,hk]
 unfold GK
 rw [List.set_append_right _ _ (by simp;omega),FS he,show m.length - k=(m.length - (k+1))+1 by omega,List.replicate_succ]
 simp [show k - min k (fitM fs m).length=0 by omega]
theorem AgA (b v:Int) (s:Bool):(Lit.int .i64 (DS b s v)).wf=true:=by
 rw [AbV]
 unfold DS
 split
 ·rename_i hb
  have hp:=AcY b hb.1 hb.2
  have e1:=Int.emod_nonneg (v+2 ^ b.toNat / 2) (show (2:Int) ^ b.toNat≠0 by omega)
  have e2:=Int.emod_lt_of_pos (v+2 ^ b.toNat / 2) (show (0:Int)<2 ^ b.toNat by omega)
  have e3:=Int.emod_nonneg v (show (2:Int) ^ b.toNat≠0 by omega)
  have e4:=Int.emod_lt_of_pos v (show (0:Int)<2 ^ b.toNat by omega)
  split<;>omega
 ·omega
structure PF (w wr:World) (room sh:Int) (fv qv:Value) (X L:Nat) (ys:List Int):Prop where
 b0:wr.heap[w.heap.size]?=some (.cells #[.int .i64 room,fv] 82 (0,0))
 b1:wr.heap[w.heap.size+1]?=some (.cells #[.int .i64 sh,qv] 80 (0,0))
 b2:wr.heap[w.heap.size+2]?=some (.cells #[.int .i64 0,.slice none 0 0] 80 (0,0))
 b4:wr.heap[X]?=some (.cells #[.slice (some ⟨w.heap.size+3,0,none⟩) L L] 83 (0,0))
 x:Fo wr w.heap.size (.slice (some ⟨w.heap.size+3,0,none⟩) L L) ys
 len:ys.length=L
 below:Below w.heap.size w wr
section
variable {w wr w2:World} {room sh:Int} {fv qv:Value} {X L:Nat} {ys:List Int}
theorem PF.lt (h:PF w wr room sh fv qv X L ys):w.heap.size+2<wr.heap.size/\X<wr.heap.size:=⟨BQ h.b2,BQ h.b4⟩
theorem PF.nx (h:PF w wr room sh fv qv X L ys) (k:Nat) (hk:(Value.slice (some ⟨w.heap.size+3,0,none⟩) L L).ownBlock=some k):X≠k:=by
 rintro rfl;obtain ⟨c,hc⟩:=AU h.x.row hk;exact DN h.b4 hc (by decide) rfl
theorem PF.kept (h:PF w wr room sh fv qv X L ys) (hb:Below wr.heap.size wr w2):PF w w2 room sh fv qv X L ys :=
 have hl:=h.lt
 ⟨(hb.block _ (by omega)).trans h.b0,(hb.block _ (by omega)).trans h.b1,(hb.block _ (by omega)).trans h.b2,(hb.block _ (by omega)).trans h.b4,h.x.same fun k hk=>hb.block k (h.x.row.lt k hk).2,h.len,h.below.trans (hb.mono h.below.size)⟩
theorem PF.cell (h:PF w wr room sh fv qv X L ys) {k:Nat} (hk:k<L):wr.cell? ⟨w.heap.size+3,k,none⟩=some (.int .i64 (ys.getD k 0)):=by
 have hrow:=h.x.row
 rw [h.len] at hrow
 have:=h.len
 rw [hrow.cellAt k (by omega)];simp [List.getD,show k<ys.length by omega]
theorem PF.free (h:PF w wr room sh fv qv X L ys) (k:Nat):wr.frozen? ⟨w.heap.size+3,k,none⟩=false:=by
 have hrow:=h.x.row
 rw [h.len] at hrow
 exact hrow.frozenAt k
theorem PF.set (h:PF w wr room sh fv qv X L ys) {k:Nat} {n:Int} (hn:(Lit.int .i64 n).wf=true) (hk:k<L):PF w (wr.setCell ⟨w.heap.size+3,k,none⟩ (.int .i64 n)) room sh fv qv X L (ys.set k n):=by
 have hrow:=h.x.row
 rw [h.len] at hrow
 have hst:=hrow.stored k (.int .i64 n)
 refine ⟨?_,?_,?_,?_,⟨?_,fun i hi=>?_⟩,by rw [List.length_set];exact h.len,h.below.setCell (by simp) _⟩
 ·rw [Below.heap_setCell _ _ _ _ (by simp)];exact h.b0
 ·rw [Below.heap_setCell _ _ _ _ (by simp)];exact h.b1
 ·rw [Below.heap_setCell _ _ _ _ (by simp)];exact h.b2
 ·rw [Below.heap_setCell _ _ _ _ (h.nx (w.heap.size+3) rfl)];exact h.b4
 ·rw [List.length_set,h.len,List.map_set];exact hst.1
 ·rw [List.length_set] at hi
  by_cases e:i=k
  ·subst e;simp [List.getD,hi];exact hn
  ·have:=h.x.wf i hi
   simpa [List.getD,List.getElem?_set_ne (Ne.symm e)] using this
end
theorem BR.base {w:World} {n0 n1:Nat} {v:Value} {vs:List Value} {q:List (List Int)} (h:BR w n0 v vs q) (hb:n1<=n0):BR w n1 v vs q :=
 ⟨⟨h.row.1,h.row.2.imp id fun ⟨g,cap,cur,e,h1,h2⟩=>⟨g,cap,cur,e,Nat.le_trans hb h1,h2⟩⟩,h.len,fun i u m hu hm=>(h.each i u m hu hm).base hb⟩
theorem Yh {w wO:World} {room sh:Int} {fv qv ov:Value} {vs:List Value} {X L O:Nat} {x:List Int} {q:List (List Int)} (hp:PF w wO room sh fv qv X L x) (hown:BR wO w.heap.size ov vs q)
  (hO:wO.heap[O]?=some (.cells #[.int .i64 sh,ov] 80 (0,0))) (i V:Nat) (hV:wO.heap.size=V) (hi:i<=q.length) (hbig:(q.length+1)*24<=140737488355328) :
  Calls Tryz.prog 98 #[ov,.int .i64 i,.slice (some ⟨V,0,none⟩) 1 1] (wO.alloc (.cells #[.slice (some ⟨w.heap.size+3,0,none⟩) L L] 83)) fun e w' =>
   ∃ ao cap vs',e=.returned (.slice ao (q.length+1) cap)/\BR w' w.heap.size (.slice ao (q.length+1) cap) vs' (putAt q i x)/\w'.heap[O]?=some (.cells #[.int .i64 sh,ov] 80 (0,0)) /\
    w'.heap[w.heap.size+2]?=some (.cells #[.int .i64 0,.slice none 0 0] 80 (0,0))/\Below w.heap.size w w':=by
 subst hV
 have hsz:=hp.below.size
 have hlt:=hp.lt
 have hOl:=BQ hO
 refine (Sn i (hown.alloc _) (heap_alloc_new wO _) (fun e=>by have:=(hown.row.lt _ e).2;omega) (hp.x.alloc _) hi hbig (by simp;omega)).mono ?_
 rintro e w' ⟨v',rfl,hq',ht⟩
 obtain ⟨ao,cap,rfl,_⟩:=DR hq'.row
 rw [FW hi] at hq' ⊢
 have far:∀ (k:Nat) (c:Array Value) (t:TypeId),wO.heap[k]?=some (.cells c t (0,0))->t≠83->w'.heap[k]?=some (.cells c t (0,0)):=fun k c t hk hne=>by
  have hkl:=BQ hk
  rw [ht.block k (by simp;omega) (fun e=>by obtain ⟨cur,hcur⟩:=AU hown.row e;exact DN hk hcur hne rfl),Below.heap_alloc _ _ _ hkl];exact hk
 refine ⟨ao,cap,_,rfl,hq',far O _ _ hO (by decide),far _ _ _ hp.b2 (by decide),?_⟩
 exact (hp.below.alloc hsz _).trans (ht.below (by simp;omega) fun k hk=>(hown.row.lt k hk).1)
theorem Adl {w:World} {v:Value} {fs:List D.Type} (h:Is (Pkg.slice 2 16 GS) w [v] fs) :
  ∃ ao cap,v=.slice ao fs.length cap/\fs.length<=cap/\cap<=maxLen/\(0<fs.length->∃ b off,ao=some ⟨b,off,none⟩/\b<w.heap.size /\
   ∀ i t,fs[i]?=some t->w.cell? ⟨b,off+i*2,none⟩=some (.int .i64 t.Bits)/\w.cell? ⟨b,off+i*2+1,none⟩=some (.bool t.Signed)):=by
 obtain ⟨ao,cap,e,h1,h2,h3⟩:=Pi h
 refine ⟨ao,cap,e,h1,h2,fun hp=>?_⟩
 obtain ⟨b,off,e2,hb,hel⟩:=h3 hp
 refine ⟨b,off,e2,hb,fun i t ht=>?_⟩
 obtain ⟨es,_,h5,h6⟩:=hel i t ht
 simp only [GS,Adk,Uo,Sl,Yv] at h6
 obtain ⟨_,rfl,_,_,rfl,rfl⟩:=h6
 exact ⟨by have:=h5 0 (by omega);exact this,by have:=h5 1 (by omega);exact this⟩
end Go.Proofs.YtiaebjpcgjkhoaaGreatDoor.Ch
namespace Go.Proofs.YtiaebjpcgjkhoaaGreatDoor.Ch
open Go.RowKit Go.Lib
def cutAt {α:Type} (l:List α) (i:Nat):List α:=l.take i++l.drop (i+1)
theorem JT {α:Type} {l:List α} {i:Nat} (h:i<l.length):(cutAt l i).length=l.length - 1:=by
 unfold cutAt;simp;omega
theorem UP {α:Type} {l:List α} {i j:Nat} (h:i<l.length) (hj:j<i):(cutAt l i)[j]?=l[j]?:=by
 unfold cutAt
 rw [List.getElem?_append_left (by simp;omega),List.getElem?_take,if_pos hj]
theorem UQ {α:Type} {l:List α} {i j:Nat} (h:i<l.length) (hj:i<=j):(cutAt l i)[j]?=l[j+1]?:=by
 unfold cutAt
 rw [List.getElem?_append_right (by simp;omega),List.length_take,List.getElem?_drop]
 congr 1;omega
theorem BR.cutAt {w w':World} {n0 i:Nat} {v v':Value} {vs:List Value} {q:List (List Int)} (h:BR w n0 v vs q) (hi:i<q.length)
  (hr:w'.ownsRow n0 83 1 v' (q.length - 1) (cutAt vs i)) (ht:∀ k,k<w.heap.size->v.ownBlock≠some k->w'.heap[k]?=w.heap[k]?):BR w' n0 v' (cutAt vs i) (cutAt q i):=by
 have hl:=h.len
 have sep:∀ (x:Value) (l:List Int),Fo w n0 x l->Fo w' n0 x l:=fun x l hx=>hx.same fun k hk=>ht k (hx.row.lt k hk).2 fun e=>by
  obtain ⟨c1,e1⟩:=AU hx.row hk
  obtain ⟨c2,e2⟩:=AU h.row e
  exact DN e1 e2 (by decide) rfl
 refine ⟨by rw [JT hi];exact hr,by rw [JT hi,JT (by omega),hl],fun j x l hx hl'=>?_⟩
 by_cases hj:j<i
 ·rw [UP (by omega) hj] at hx hl'
  exact sep x l (h.each j x l hx hl')
 ·rw [UQ (by omega) (by omega)] at hx hl'
  exact sep x l (h.each _ x l hx hl')
set_option maxHeartbeats 1000000 in
set_option maxRecDepth 100000 in
theorem Sr {w:World} {n0:Nat} {qv:Value} {vs:List Value} {q:List (List Int)} (i:Nat) (hq:BR w n0 qv vs q) (hi:i<q.length) :
  Calls Tryz.prog 101 #[qv,.int .i64 i,.int .i64 ((i:Int)+1)] w fun e w' =>
   ∃ ao cap vs',e=.returned (.slice ao (q.length - 1:Nat) cap)/\BR w' n0 (.slice ao (q.length - 1:Nat) cap) vs' (cutAt q i)/\BI w w' (fun k=>qv.ownBlock=some k):=by
 have hlen:=hq.len
 obtain ⟨ki,khi,khz0,khz1,khz2⟩:=Cc Gn
 rcases hq.row.2 with ⟨rfl,h0⟩ | ⟨g,cap,cur,rfl,hb,hg,h1,h2,h3,h4⟩
 ·omega
 have hm2:=h2
 unfold maxLen at hm2
 have hcell:∀ j,j<cap->(w.cell? ⟨g,j,none⟩).isSome=true:=fun j hj=>by
  rw [Ah hg (by rw [Array.getElem?_eq_getElem (by omega)])];rfl
 obtain ⟨news,hnews⟩:∃ news,news=vs.drop (i+1):=⟨_,rfl⟩
 have hnl:news.length=q.length - (i+1):=by rw [hnews];simp [hlen]
 obtain ⟨A,hA,hsrc⟩:∃ A:Addr,(if cap=i+1 then some (⟨g,0,none⟩:Addr) else some ⟨g,i+1,none⟩)=some A/\Hid (∀ (t:Nat) (u:Value),news[t]?=some u->w.drew.cell? (A.add t)=some u):=by
  by_cases h:cap=i+1
  ·refine ⟨⟨g,0,none⟩,by simp [h],fun t u hu=>?_⟩
   have:=(List.getElem?_eq_some_iff.1 hu).1
   omega
  ·refine ⟨⟨g,i+1,none⟩,by simp [h],fun t u hu=>?_⟩
   have ht:=(List.getElem?_eq_some_iff.1 hu).1
   rw [hnews,List.getElem?_drop] at hu
   rw [Addr.add_lit]
   have:=hq.row.cellAt (i+1+t) (by omega)
   rw [hu] at this;exact this
 have s1:Hid (news.length=(q.length - (i+1))*1):=by rw [Nat.mul_one];exact hnl
 have s2:Hid (∀ u∈news,u.oneCell'=true):=by
  intro u hu
  rw [hnews] at hu
  obtain ⟨j,hj,rfl⟩:=List.getElem_of_mem (List.mem_of_mem_drop hu)
  exact Fw (hq.each j vs[j] q[j] (by simp [hj]) (by simp [show j<q.length by omega])).row
 have s3:Hid (∀ t,t<news.length->(w.drew.cell? ⟨g,0+i*1+t,none⟩).isSome=true/\w.drew.frozen? ⟨g,0+i*1+t,none⟩=false):=by
  intro t ht
  exact ⟨hcell _ (by omega),Aw hg⟩
 obtain ⟨W1,hW1⟩:∃ W1,W1=w.drew.setCells g (0+i*1) news:=⟨_,rfl⟩
 obtain ⟨c1,e1,z1⟩:=Dn news (0+i*1) w.drew cur hg
 rw [← hW1] at e1
 have hcl:∀ ty,(Builtin.clear_ #[78] ty #[.slice (some ⟨g,i+(q.length - (i+1)),none⟩) (q.length - (i+(q.length - (i+1)))) (cap - (i+(q.length - (i+1))))]).run Tryz.prog W1=.ok (.tuple #[]) (W1.setCells g (i+(q.length - (i+1))) (List.replicate (q.length - (i+(q.length - (i+1)))) (.slice none 0 0))) :=
  fun ty=>Lib.run_clear_slice W1 _ _ ty _ Tryz.underlying78 Tryz.zeroValue83 rfl rfl g (i+(q.length - (i+1))) _ _ (by omega) (fun t ht=>by rw [Ah e1 (by rw [Array.getElem?_eq_getElem (by omega)])];rfl) (fun t ht=>Aw e1)
 have hic:i<=cap:=by omega
 have hjc:i+1<=cap:=by omega
 have hj0:(0:Int)<=(i:Int)+1:=by omega
 have hjn:(i:Int)+1<=(q.length:Int):=by omega
 have hW:Hid (W1=w.drew.setCells g (0+i*1) news):=hW1
 have HF:Hid (∃ ao cap' vs',(Value.slice (some ⟨g,0,none⟩) (i+(q.length - (i+1))) cap)=.slice ao (q.length - 1:Nat) cap'/\BR (W1.setCells g (i+(q.length - (i+1))) (List.replicate (q.length - (i+(q.length - (i+1)))) (.slice none 0 0))) n0 (.slice ao (q.length - 1:Nat) cap') vs' (cutAt q i)/\BI w (W1.setCells g (i+(q.length - (i+1))) (List.replicate (q.length - (i+(q.length - (i+1)))) (.slice none 0 0))) (fun k=>(Value.slice (some ⟨g,0,none⟩) q.length cap).ownBlock=some k)):=by
  have n1:i+(q.length - (i+1))=q.length - 1:=by omega
  rw [n1,show q.length - (q.length - 1)=1 by omega]
  obtain ⟨c2,e2,z2⟩:=Dn (List.replicate 1 (Value.slice none 0 0)) (q.length - 1) W1 c1 e1
  have far:∀ k,k≠g->(W1.setCells g (q.length - 1) (List.replicate 1 (Value.slice none 0 0))).heap[k]?=w.heap[k]?:=fun k hk=>by rw [Dm hk,hW1,Dm hk];rfl
  obtain ⟨s1,s2,s3,s4⟩:=C5 news (0+i*1) g w.drew
  obtain ⟨s5,s6,s7,s8⟩:=C5 (List.replicate 1 (Value.slice none 0 0)) (q.length - 1) g W1
  rw [← hW1] at s1 s2 s3 s4
  refine ⟨_,_,cutAt vs i,rfl,hq.cutAt hi (ER e2 hb (by omega) h2 (by omega) (by rw [JT (by omega),hlen]) fun j hj=>?_) fun k _ hne=>far k fun e=>hne (by rw [e];rfl),
   ⟨s5.trans s1,s6.trans s2,s7.trans s3,by rw [s8,s4];exact Nat.le_refl _,fun k _ hne=>far k fun e=>hne (by rw [e];rfl)⟩⟩
  rw [CZ (.inl hj),hW1]
  by_cases hji:j<i
  ·rw [CZ (.inl (by omega)),UP (by omega) hji]
   exact hq.row.cellAt j (by omega)
  ·rw [Fa (w:=w.drew) (o:=0+i*1) (vs:=news) (fun k hk=>hcell (0+i*1+k) (by omega)) (by omega) (by omega),UQ (by omega) (by omega),hnews,List.getElem?_drop]
   congr 1;omega
 clear hW1 e1 hcell
 go_enter Tryz.func101,Tryz.ntmps101
 go_wp2_with fail
 go_region_law (refine step_append_room rfl (.tmp 22) (.tmp 25) 78 rfl 83 ki 1 Tryz.underlying78 khi khz1 g 0 i cap (by simp [Act.eval,Act.put]) A (q.length - (i+1)) (cap - (i+1)) news (by simp [Act.eval,Act.put]) s1.out hsrc.out s2.out (by omega) s3.out ?_;rw [← hW.out])
 go_wp2
 go_ret
 obtain ⟨ao,cap',vs',e,h5,h6⟩:=HF.out
 exact ⟨ao,cap',vs',by rw [← e];rfl,h5,h6⟩
theorem BR.base' {w:World} {n0 n1:Nat} {v:Value} {vs:List Value} {q:List (List Int)} (h:BR w n0 v vs q) (hb:n1<=n0):BR w n1 v vs q :=
 ⟨⟨h.row.1,h.row.2.imp id fun ⟨g,cap,cur,e,h1,h2⟩=>⟨g,cap,cur,e,Nat.le_trans hb h1,h2⟩⟩,h.len,fun i u m hu hm=>(h.each i u m hu hm).base hb⟩
set_option maxRecDepth 100000 in
set_option maxHeartbeats 1000000 in
theorem ZC {w:World} {qv:Value} {q:List (List Int)} (sh n:Int) (hq:Is pQ w [qv] q) (hn:n<0∨(q.length:Int)<=n) :
  Calls Tryz.prog 68 #[.agg #[.int .i64 sh,qv],.int .i64 n] w fun e w'=>e=.returned (.tuple #[.agg #[.int .i64 0,.slice none 0 0],.slice none 0 0,.int .i64 46])/\Below w.heap.size w w':=by
 obtain ⟨qo,qc,rfl,_⟩:=FY hq
 have hres:((w.alloc (.cells #[.int .i64 sh,.slice qo q.length qc] 80)).alloc (.cells #[.int .i64 0,.slice none 0 0] 80)).heap[w.heap.size+1]?=some (.cells #[.int .i64 0,.slice none 0 0] 80 (0,0)):=by
  have:=heap_alloc_new (w.alloc (.cells #[.int .i64 sh,.slice qo q.length qc] 80)) (.cells #[.int .i64 0,.slice none 0 0] 80)
  simpa using this
 have hb:Below w.heap.size w ((w.alloc (.cells #[.int .i64 sh,.slice qo q.length qc] 80)).alloc (.cells #[.int .i64 0,.slice none 0 0] 80)):=((Below.refl _ w).alloc (Nat.le_refl _) _).alloc (by simp) _
 rcases hn with hn | hn
 ·go_enter Tryz.func68,Tryz.ntmps68
  go_wp2
  exact Mo rfl rfl hres Tryz.underlying80 rfl (by kernel_rfl) rfl ⟨rfl,hb⟩
 ·have hd:decide (n<0)=false:=by simp;omega
  go_enter Tryz.func68,Tryz.ntmps68
  go_wp2
  exact Mo rfl rfl hres Tryz.underlying80 rfl (by kernel_rfl) rfl ⟨rfl,hb⟩
set_option maxRecDepth 100000 in
set_option maxHeartbeats 1000000 in
theorem VR {w:World} {qv:Value} {q:List (List Int)} (sh:Int) (n:Nat) (hq:Is pQ w [qv] q) (hsm:Small q) (hn:n<q.length) :
  Calls Tryz.prog 68 #[.agg #[.int .i64 sh,qv],.int .i64 n] w fun e w'=>∃ ov vs mv,e=.returned (.tuple #[.agg #[.int .i64 sh,ov],mv,.int .i64 0]) /\
   BR w' w.heap.size ov vs (cutAt q n)/\Fo w' w.heap.size mv (q.getD n [])/\Below w.heap.size w w':=by
 obtain ⟨qo,qc,rfl,_⟩:=FY hq
 generalize hw0:(w.alloc (.cells #[.int .i64 sh,.slice qo q.length qc] 80)).alloc (.cells #[.int .i64 0,.slice none 0 0] 80)=w0
 have hb0:Below w.heap.size w w0:=by rw [← hw0];exact ((Below.refl _ w).alloc (Nat.le_refl _) _).alloc (by simp) _
 have hres0:w0.heap[w.heap.size+1]?=some (.cells #[.int .i64 0,.slice none 0 0] 80 (0,0)):=by
  have:=heap_alloc_new (w.alloc (.cells #[.int .i64 sh,.slice qo q.length qc] 80)) (.cells #[.int .i64 0,.slice none 0 0] 80)
  rw [← hw0];simpa using this
 have HC:=L6 sh (hq.below X3 hb0) hsm
 rw [← hw0] at HC
 have HW:=Lib.hid hw0
 clear hw0
 have hnd:(n:Int)<(q.length:Int):=by omega
 have hql:=hsm.1
 obtain ⟨mm,hmm⟩:∃ mm,mm=q.getD n []:=⟨_,rfl⟩
 rw [← hmm]
 have HMM:=Lib.hid hmm
 clear hmm
 go_enter Tryz.func68,Tryz.ntmps68
 go_wp2_with fail
 (with_reducible refine HC.mono ?_);rintro e w2 ⟨ov,vs,rfl,hown2,hb2⟩
 rw [HW.out] at hown2 hb2
 obtain ⟨oo,oc,rfl,_,_,h3⟩:=DR hown2.row
 obtain ⟨g,rfl,hg1,hg2,hg3⟩:=h3 (by omega)
 have hvn:n<vs.length:=by rw [hown2.len];exact hn
 have hmv:=hown2.each n vs[n] mm (by simp [hvn]) (by rw [HMM.out];simp [List.getD,hn])
 obtain ⟨mo,mc,hme,_⟩:=DR hmv.row
 have hmc:=hg3 n hn
 rw [List.getElem?_eq_getElem hvn,hme] at hmc
 rw [hme] at hmv
 have hg2':=hg2
 have hs0:w.heap.size<=w0.heap.size:=hb0.size
 have hs2:w0.heap.size<=w2.heap.size:=hb2.size
 have hres2:w2.heap[w.heap.size+1]?=_:=(hb2.block _ (BQ hres0)).trans hres0
 have hl2:=BQ hres2
 have hn1:w.heap.size+1≠w2.heap.size:=by omega
 have hn2:w2.heap.size≠w.heap.size+1:=fun e=>hn1 e.symm
 have HD:=Sr n ((hown2.base' hs0).alloc (.cells #[.int .i64 sh,.slice (some ⟨g,0,none⟩) q.length oc] 80)) hn
 clear hme h3 hg3
 go_wp2_with fail
 (with_reducible refine HD.mono ?_);rintro e w4 ⟨ao,cap,vs',rfl,hq4,ht4⟩
 have hO4:w4.heap[w2.heap.size]?=some (.cells #[.int .i64 sh,.slice (some ⟨g,0,none⟩) q.length oc] 80 (0,0)):=by
  rw [ht4.block _ (by simp) (by simp [Value.ownBlock];omega)];exact heap_alloc_new _ _
 have hr4:w4.heap[w.heap.size+1]?=some (.cells #[.int .i64 0,.slice none 0 0] 80 (0,0)):=by
  rw [ht4.block _ (by simp;omega) (by intro e;obtain ⟨cur,hcur⟩:=AU hown2.row e;exact DN hres2 hcur (by decide) rfl),Below.heap_alloc _ _ _ hl2];exact hres2
 have hm4:Fo w4 w.heap.size (.slice mo mm.length mc) mm:=(hmv.base hs0).same fun k hk=>by
  have hkl:=(hmv.row.lt k hk).2
  rw [ht4.block _ (by simp;omega) (by intro e;obtain ⟨cur,hcur⟩:=AU hown2.row e;obtain ⟨cur',hcur'⟩:=AU hmv.row hk;exact DN hcur' hcur (by decide) rfl),Below.heap_alloc _ _ _ hkl]
 have hb4:Below w.heap.size w w4:=((hb0.trans (hb2.mono hs0)).alloc (by omega) _).trans (ht4.below (by simp;omega) fun k hk=>Nat.le_trans hs0 (hown2.row.lt k hk).1)
 have cO0:w4.cell? ⟨w2.heap.size,0,none⟩=some (.int .i64 sh):=Ah hO4 rfl
 have cO1:w4.cell? ⟨w2.heap.size,1,none⟩=some (.slice (some ⟨g,0,none⟩) q.length oc):=Ah hO4 rfl
 have fO1:w4.frozen? ⟨w2.heap.size,1,none⟩=false:=Aw hO4
 have r0:w4.cell? ⟨w.heap.size+1,0,none⟩=some (.int .i64 0):=Ah hr4 rfl
 have r1:w4.cell? ⟨w.heap.size+1,1,none⟩=some (.slice none 0 0):=Ah hr4 rfl
 have f0:w4.frozen? ⟨w.heap.size+1,0,none⟩=false:=Aw hr4
 have f1:w4.frozen? ⟨w.heap.size+1,1,none⟩=false:=Aw hr4
 clear hown2 hmv ht4 hmc
 go_wp2
 have hr5:(w4.setCell ⟨w2.heap.size,1,none⟩ (.slice ao (q.length - 1) cap)).heap[w.heap.size+1]?=_:=(Below.heap_setCell _ _ _ _ hn1).trans hr4
 have hres:(((w4.setCell ⟨w2.heap.size,1,none⟩ (.slice ao (q.length - 1) cap)).setCell ⟨w.heap.size+1,0,none⟩ (.int .i64 sh)).setCell ⟨w.heap.size+1,1,none⟩ (.slice ao (q.length - 1) cap)).heap[w.heap.size+1]?=some (.cells #[.int .i64 sh,.slice ao (q.length - 1) cap] 80 (0,0)):=by
  rw [A3 (A3 hr5 _)];rfl
 refine Mo rfl rfl hres Tryz.underlying80 rfl (by kernel_rfl) rfl ⟨.slice ao (q.length - 1) cap,vs',.slice mo mm.length mc,rfl,?_,?_,?_⟩
 ·exact ((hq4.set hO4 (by decide) (by decide) _).set hr5 (by decide) (by decide) _).set (A3 hr5 _) (by decide) (by decide) _
 ·refine hm4.same fun k hk=>?_
  have e:∀ {B:Nat} {c:Array Value},w4.heap[B]?=some (.cells c 80 (0,0))->k≠B:=fun hB e=>by
   subst e;obtain ⟨cur,hcur⟩:=AU hm4.row hk;exact DN hcur hB (by decide) rfl
  rw [Below.heap_setCell _ _ _ _ (e hr4),Below.heap_setCell _ _ _ _ (e hr4),Below.heap_setCell _ _ _ _ (e hO4)]
 ·exact ((hb4.setCell (p:=⟨w2.heap.size,1,none⟩) (by simp;omega) _).setCell (p:=⟨w.heap.size+1,0,none⟩) (Nat.le_add_right _ _) _).setCell (p:=⟨w.heap.size+1,1,none⟩) (Nat.le_add_right _ _) _
end Go.Proofs.YtiaebjpcgjkhoaaGreatDoor.Ch
namespace Go.Proofs.YtiaebjpcgjkhoaaGreatDoor
open Go.RowKit
def KN (f:List D.Type) (args init:List Int) (k:Nat):List Int:=(List.range init.length).map fun i=>if i<k then H7 (f.getD i default) (args.getD i 0) else init.getD i 0
def KM (m:D.Model) (typ:Int) (args:List Int):D.Process:=⟨typ,(AK m typ).Start,(AK m typ).Prio,KN (AK m typ).Frame args (AK m typ).Init args.length⟩
def Ac6 : D.Process:=⟨0,0,0,[]⟩
def Ga (m:D.Model) (typ:Int) (args:List Int):D.Process × Int :=
 bif !FO m then (Ac6,40)
 else bif decide (typ<0)||(decide ((m.Procs.length:Int)<=typ)||(decide (typ=m.Claim)||decide ((args.length:Int)≠(AK m typ).Params))) then (Ac6,42)
 else (KM m typ args,0)
def Nj (e:D.Env) (p:D.Process):D.Env:={ e with S:={ e.S with Procs:=e.S.Procs++[p] } }
def BY (e:D.Env) (x:Int):D.Env × Int × Int :=
 bif decide ((B8 e (Ar e.M x).Args).2≠0) then (e,0,(B8 e (Ar e.M x).Args).2)
 else bif decide ((Ga e.M (Ar e.M x).N (B8 e (Ar e.M x).Args).1).2≠0) then (e,0,(Ga e.M (Ar e.M x).N (B8 e (Ar e.M x).Args).1).2)
 else (Nj e (Ga e.M (Ar e.M x).N (B8 e (Ar e.M x).Args).1).1,e.S.Procs.length,0)
def CD (e:D.Env) (x v:Int):D.Env × Int:=(stE e x v,(AV e x v).2)
def Io (e:D.Env) (s:D.Stmt):D.Env × Int :=
 bif DE e s.B then (bif decide ((BY e s.B).2.2≠0) then ((BY e s.B).1,(BY e s.B).2.2) else CD (BY e s.B).1 s.A (BY e s.B).2.1)
 else bif decide ((Ba e s.B).2≠0) then (e,(Ba e s.B).2) else CD e s.A (Ba e s.B).1
def Ip (e:D.Env) (c:Int) (k:D.Chan):D.Env:={ e with S:={ e.S with Chans:=e.S.Chans.set (c - 1).toNat k } }
def DW (k:D.Chan) (n:Int):D.Chan × List Int × Int :=
 bif decide (n<0)||decide ((k.Queue.length:Int)<=n) then (⟨0,[]⟩,[],46) else (⟨k.Shape,Ch.cutAt k.Queue n.toNat⟩,k.Queue.getD n.toNat [],0)
def Fv (e:D.Env) (s:D.Stmt):D.Env × Int :=
 bif decide ((A6 e s).2.2≠0) then (e,(A6 e s).2.2)
 else bif decide ((DW (Cl e (A6 e s).1) (A6 e s).2.1).2.2≠0) then (e,(DW (Cl e (A6 e s).1) (A6 e s).2.1).2.2)
 else Dc (bif decide (s.N<2) then Ip e (A6 e s).1 (DW (Cl e (A6 e s).1) (A6 e s).2.1).1 else e) s (DW (Cl e (A6 e s).1) (A6 e s).2.1).2.1
def PV (m:D.Model) (k:D.Chan) (l:List Int) (sorted:Bool):D.Chan × Int :=
 (⟨Ch.putSh (BC m k.Shape).Room (BC m k.Shape).Fields k.Queue l k.Shape,Ch.putQ (BC m k.Shape).Room (BC m k.Shape).Fields k.Queue l sorted⟩,Ch.putE (BC m k.Shape).Room (BC m k.Shape).Fields k.Queue l)
def AcB (e:D.Env) (s:D.Stmt):D.Env × Int :=
 (Ip e (Ax e s).1 (PV e.M (Cl e (Ax e s).1) (Ax e s).2.1 (decide (s.N=1))).1,(PV e.M (Cl e (Ax e s).1) (Ax e s).2.1 (decide (s.N=1))).2)
def C4 (e:D.Env) (w:Wy):D.Trans:=(Bw (Ct e) w.Esc).getD w.Way.toNat default
def GM (e:D.Env) (w:Wy):D.Trans:=(Bw (Ct (CI e w.With)) w.WithEsc).getD w.WithWay.toNat default
def Iq (e:D.Env) (s:D.Stmt) (w:Wy):D.Env × Int :=
 bif decide ((Ax e s).2.2≠0) then (e,(Ax e s).2.2)
 else bif decide (0<=w.With) then ({ e with S:=(Dc (CI e w.With) (GM e w).S (Ax e s).2.1).1.S },(Dc (CI e w.With) (GM e w).S (Ax e s).2.1).2)
 else AcB e s
def GC (e:D.Env) (n:Int):D.Env:={ e with S:={ e.S with Chans:=e.S.Chans++[⟨n,[]⟩] } }
def JY (e:D.Env) (s:D.Stmt):Int:=bif decide ((Ba e s.A).2=0)&&decide ((Ba e s.A).1=0) then 50 else (Ba e s.A).2
def Dw (pr:ByteArray->List Int->ByteArray) (e:D.Env) (s:D.Stmt) (w:Wy):D.Env × ByteArray × Int :=
 if s.Kind=1 then (bif DE e s.A then ((BY e s.A).1,⟨#[]⟩,(BY e s.A).2.2) else (e,⟨#[]⟩,0))
 else if s.Kind=2 then ((Io e s).1,⟨#[]⟩,(Io e s).2)
 else if s.Kind=3 then (e,⟨#[]⟩,JY e s)
 else if s.Kind=4 then (e,bif decide ((B8 e s.Args).2≠0) then ⟨#[]⟩ else pr s.Text (B8 e s.Args).1,(B8 e s.Args).2)
 else if s.Kind=9 then ((CD (GC e s.N) s.A (e.S.Chans.length+1:Nat)).1,⟨#[]⟩,(CD (GC e s.N) s.A (e.S.Chans.length+1:Nat)).2)
 else if s.Kind=5 then ((Iq e s w).1,⟨#[]⟩,(Iq e s w).2)
 else if s.Kind=6 then ((Fv e s).1,⟨#[]⟩,(Fv e s).2)
 else (e,⟨#[]⟩,0)
def DV (l:List D.Process) (k to:Int):List D.Process:=l.set k.toNat { l.getD k.toNat default with Loc:=to }
def Ke (e:D.Env) (w:Wy) (s:D.State):D.State :=
 { s with Procs:=DV (bif decide (0<=w.With) then DV s.Procs w.With (GM e w).To else s.Procs) e.Pid (C4 e w).To,Last:=e.Pid }
def Abo (e:D.Env):D.State:={ e.S with Procs:=e.S.Procs.take e.Pid.toNat,Last:=e.Pid,Alone:=bif decide (e.Pid<=e.S.Alone) then -1 else e.S.Alone }
def XJ : D.State:=⟨[],[],[],0,0,0⟩
def goE (pr:ByteArray->List Int->ByteArray) (e:D.Env) (w:Wy):D.State × ByteArray × Int :=
 bif decide (w.Err≠0) then (XJ,⟨#[]⟩,w.Err) else bif decide (w.Way<0) then (Abo e,⟨#[]⟩,0)
 else bif decide ((Dw pr e (C4 e w).S w).2.2≠0) then (XJ,⟨#[]⟩,(Dw pr e (C4 e w).S w).2.2)
 else (Ke e w (Dw pr e (C4 e w).S w).1.S,(Dw pr e (C4 e w).S w).2.1,0)
end Go.Proofs.YtiaebjpcgjkhoaaGreatDoor
namespace Go.Proofs.YtiaebjpcgjkhoaaGreatDoor
open Go.RowKit
structure Eg (m:D.Model) (s:D.State):Prop where
 g:AX m.Globals s.Globals=true
 cl:s.Chans.length<=32
 pl:s.Procs.length<=16
 l:0<=s.Last/\s.Last<16
 a:-1<=s.Alone/\s.Alone<s.Procs.length
 c:∀ c∈s.Chans,CC m c=true
 p:∀ p∈s.Procs,AP m p=true
 k:FQ m s=true
theorem Ez {m:D.Model} {s:D.State}:Cu m s=true ↔ Eg m s:=by
 unfold Cu Gp
 simp only [Bool.and_eq_true,decide_eq_true_eq]
 rw [Ck (d:=default) (f:=fun c=>CC m c),Ck (d:=default) (f:=fun p=>AP m p)]
 exact ⟨fun ⟨⟨⟨⟨⟨⟨⟨⟨⟨h1,h2⟩,h3⟩,h4⟩,h5⟩,h6⟩,h7⟩,h8⟩,h9⟩,h10⟩=>⟨h1,h2,h3,⟨h4,h5⟩,⟨h6,h7⟩,h8,h9,h10⟩,
  fun h=>⟨⟨⟨⟨⟨⟨⟨⟨⟨h.g,h.cl⟩,h.pl⟩,h.l.1⟩,h.l.2⟩,h.a.1⟩,h.a.2⟩,h.c⟩,h.p⟩,h.k⟩⟩
structure Fq (b:Int->Prop) (s t:D.State):Prop where
 last:t.Last=s.Last
 alone:t.Alone=s.Alone
 claim:t.Claim=s.Claim
 len:s.Procs.length<=t.Procs.length
 old:∀ i:Nat,i<s.Procs.length->(t.Procs.getD i default).Type_=(s.Procs.getD i default).Type_/\(t.Procs.getD i default).Loc=(s.Procs.getD i default).Loc/\(¬ b i->(t.Procs.getD i default).Frame=(s.Procs.getD i default).Frame)
theorem Fq.refl {b:Int->Prop} {s:D.State}:Fq b s s:=⟨rfl,rfl,rfl,Nat.le_refl _,fun _ _=>⟨rfl,rfl,fun _=>rfl⟩⟩
theorem Fq.trans {b:Int->Prop} {s t u:D.State} (h:Fq b s t) (k:Fq b t u):Fq b s u :=
 ⟨k.last.trans h.last,k.alone.trans h.alone,k.claim.trans h.claim,Nat.le_trans h.len k.len,fun i hi=>by
  obtain ⟨a1,a2,a3⟩:=h.old i hi
  obtain ⟨b1,b2,b3⟩:=k.old i (Nat.lt_of_lt_of_le hi h.len)
  exact ⟨b1.trans a1,b2.trans a2,fun hb=>(b3 hb).trans (a3 hb)⟩⟩
theorem Fq.less {b c:Int->Prop} {s t:D.State} (h:Fq b s t) (hb:∀ i,b i->c i):Fq c s t :=
 ⟨h.last,h.alone,h.claim,h.len,fun i hi=>⟨(h.old i hi).1,(h.old i hi).2.1,fun hn=>(h.old i hi).2.2 fun hbi=>hn (hb _ hbi)⟩⟩
theorem LY {α:Type} {l:List α} {t j:Nat} {p d:α}:(l.set t p).getD j d=if t=j/\j<l.length then p else l.getD j d:=by
 simp only [List.getD_eq_getElem?_getD,List.getElem?_set]
 by_cases h:t=j
 ·subst h
  by_cases h2:t<l.length<;>simp [h2]
 ·simp [h]
theorem L2 {t:D.Type} {v:Int} (h:D3 t=true):Ci t (H7 t v)=true:=by
 have h0:=h
 unfold D3 at h
 simp only [Bool.and_eq_true,decide_eq_true_eq] at h
 obtain ⟨h1,h2,h3⟩:=h
 unfold Ci H7 DS
 rw [h0,if_pos ⟨h1,h2⟩,Bool.true_and]
 cases hs:t.Signed with
 | true =>
  rw [hs] at h3
  simp at h3
  rcases h3 with h3 | h3<;>rw [h3]<;>simp<;>omega
 | false =>
  have hp:(0:Int)<2 ^ t.Bits.toNat:=Int.pow_pos (by decide)
  have:=Int.emod_nonneg v (Int.ne_of_gt hp)
  have:=Int.emod_lt_of_pos v hp
  simp;omega
theorem Tb {t:D.Type} {v:Int} (h:Ci t v=true):D3 t=true:=by
 unfold Ci at h
 simp only [Bool.and_eq_true] at h
 exact h.1
theorem Zw {t:List D.Type} {l:List Int} {k:Nat} (h:AX t l=true) (hk:k<l.length):Ci (t.getD k default) (l.getD k 0)=true:=by
 unfold AX at h
 simp only [Bool.and_eq_true,decide_eq_true_eq] at h
 exact AL.1 h.2 k hk
theorem Ld {t:List D.Type} {l:List Int} (hl:t.length=l.length) (h:∀ k,k<l.length->Ci (t.getD k default) (l.getD k 0)=true):AX t l=true:=by
 unfold AX
 simp only [Bool.and_eq_true,decide_eq_true_eq]
 exact ⟨hl,AL.2 h⟩
theorem Qo {t:List D.Type} {l:List Int} (h:AX t l=true) (k:Nat) (v:Int):AX t (l.set k (H7 (t.getD k default) v))=true:=by
 have hl:=Ea h
 refine Ld (by simp [hl]) fun i hi=>?_
 rw [List.length_set] at hi
 have hx:=Zw h hi
 rw [LY]
 split
 ·rename_i hk
  obtain ⟨rfl,_⟩:=hk
  exact L2 (Tb hx)
 ·exact hx
section
variable {m : D.Model} {s:D.State}
theorem Eg.setP (h:Eg m s) {l:List D.Process} (hl:l.length=s.Procs.length) (hp:∀ p∈l,AP m p=true):Eg m { s with Procs:=l } :=
 ⟨h.g,h.cl,by show l.length<=16;rw [hl];exact h.pl,h.l,⟨h.a.1,by show s.Alone<(l.length:Int);rw [hl];exact h.a.2⟩,h.c,hp,h.k⟩
theorem Eg.addP (h:Eg m s) {p:D.Process} (hl:s.Procs.length<16) (hp:AP m p=true):Eg m { s with Procs:=s.Procs++[p] }:=by
 refine ⟨h.g,h.cl,by show (s.Procs++[p]).length<=16;simp;omega,h.l,⟨h.a.1,?_⟩,h.c,fun q hq=>?_,h.k⟩
 ·have:=h.a.2
  show s.Alone<((s.Procs++[p]).length:Int)
  simp;omega
 ·rcases List.mem_append.1 hq with hq | hq
  ·exact h.p _ hq
  ·obtain rfl:=List.mem_singleton.1 hq;exact hp
theorem Eg.setC (h:Eg m s) {k:Nat} {c:D.Chan} (hc:CC m c=true):Eg m { s with Chans:=s.Chans.set k c } :=
 ⟨h.g,by show (s.Chans.set k c).length<=32;rw [List.length_set];exact h.cl,h.pl,h.l,h.a,fun x hx=>(E3 hx).elim (h.c x) fun e=>by rw [e];exact hc,h.p,h.k⟩
theorem WN {p:D.Process} {f:List Int} (h:AP m p=true) (hf:AX (AK m p.Type_).Frame f=true):AP m { p with Frame:=f }=true:=by
 unfold AP at h ⊢
 simp only [Bool.and_eq_true] at h ⊢
 exact ⟨h.1,hf⟩
theorem AcW {p:D.Process} {to:Int} (h:AP m p=true) (ht:inP (AK m p.Type_).Locs.length to=true):AP m { p with Loc:=to }=true:=by
 unfold AP at h ⊢
 simp only [Bool.and_eq_true] at h ⊢
 exact ⟨⟨⟨h.1.1.1,ht⟩,h.1.2⟩,h.2⟩
theorem Agr {l:List D.Process} {i:Nat} (h:i<l.length):l.getD i default∈l:=Au h
theorem Eg.put (h:Eg m s) {who k v:Int} (hi:0<=who->who<s.Procs.length):Eg m (Nl m s who k v):=by
 unfold Nl
 cases c:decide (who<0) with
 | true=>exact ⟨Qo h.g _ _,h.cl,h.pl,h.l,h.a,h.c,h.p,h.k⟩
 | false =>
  have h0:0<=who:=by have:=of_decide_eq_false c;omega
  have hw:=hi h0
  refine h.setP (List.length_set ..) fun p hp=>?_
  rcases E3 hp with hp | rfl
  ·exact h.p _ hp
  ·have hq:=h.p _ (Agr (i:=who.toNat) (by omega))
   exact WN hq (Qo (D4 hq).2.2.2.1 _ _)
theorem Aa3 {who k v:Int} {b:Int->Prop} (hb:0<=who->b who):Fq b s (Nl m s who k v):=by
 unfold Nl
 cases c:decide (who<0) with
 | true=>exact ⟨rfl,rfl,rfl,Nat.le_refl _,fun _ _=>⟨rfl,rfl,fun _=>rfl⟩⟩
 | false =>
  have h0:0<=who:=by have:=of_decide_eq_false c;omega
  refine ⟨rfl,rfl,rfl,by show s.Procs.length<=(s.Procs.set _ _).length;rw [List.length_set];exact Nat.le_refl _,fun i hi=>?_⟩
  show ((s.Procs.set who.toNat (Acz m (s.Procs.getD who.toNat default) k v)).getD i default).Type_=_/\((s.Procs.set who.toNat (Acz m (s.Procs.getD who.toNat default) k v)).getD i default).Loc=_/\(_->((s.Procs.set who.toNat (Acz m (s.Procs.getD who.toNat default) k v)).getD i default).Frame=_)
  rw [LY]
  split
  ·rename_i hk
   obtain ⟨rfl,_⟩:=hk
   exact ⟨rfl,rfl,fun hn=>absurd (by rw [Int.toNat_of_nonneg h0];exact hb h0) hn⟩
  ·exact ⟨rfl,rfl,fun _=>rfl⟩
end
theorem Acl {e:D.Env} {ev:Evl} {x:D.Expr} (hs:x.V.Scope≠2) (h0:0<=x.V.Scope/\x.V.Scope<=2) (h:0<=(BH e ev x).1) (h2:(BH e ev x).2.2=0):(BH e ev x).1=e.Pid:=by
 unfold BH at h h2 ⊢
 cases c0:decide (x.Op≠2) with
 | true=>rw [c0,cond_true] at h2;simp at h2
 | false =>
 rw [c0,cond_false] at h h2
 rw [cond_false]
 cases c1:decide ((C8 e ev x.V).2≠0) with
 | true=>rw [c1,cond_true] at h2;exact absurd h2 (of_decide_eq_true c1)
 | false =>
 rw [c1,cond_false] at h h2
 rw [cond_false]
 cases c2:decide ((Fg ev x.V.Slot x.V.Dims).2≠0) with
 | true=>rw [c2,cond_true] at h2;exact absurd h2 (of_decide_eq_true c2)
 | false =>
 rw [c2,cond_false] at h
 rw [cond_false]
 show (C8 e ev x.V).1=e.Pid
 have h:0<=(C8 e ev x.V).1:=h
 unfold C8 at h c1 ⊢
 cases d1:decide (x.V.Scope=0) with
 | true =>
  rw [d1,cond_true] at h c1
  cases d2:decide ((e.S.Globals.length:Int)<CK x.V) with
  | true=>rw [d2,cond_true] at c1;simp at c1
  | false=>rw [d2,cond_false] at h;exact absurd h (by decide)
 | false =>
  rw [d1,cond_false] at h c1
  rw [cond_false]
  have hs1:x.V.Scope=1:=by have:=of_decide_eq_false d1;omega
  rw [decide_eq_true hs1,cond_true] at c1 ⊢
  cases d2:(decide (e.Pid<0)||decide (((Dp e e.Pid).Frame.length:Int)<CK x.V)) with
  | true=>rw [d2,cond_true] at c1;simp at c1
  | false=>rfl
theorem Qu {e:D.Env} {x v:Int} (hw:Ay e.M) (hs:(Ar e.M x).V.Scope≠2) (h:(AV e x v).2=0):Eg e.M e.S/\Eg e.M (AV e x v).1/\Fq (fun i=>i=e.Pid) e.S (AV e x v).1:=by
 unfold AV at h ⊢
 cases c1:decide (CA e x≠0) with
 | true=>rw [c1,cond_true] at h;exact absurd h (of_decide_eq_true c1)
 | false =>
 rw [c1,cond_false] at h
 rw [cond_false]
 obtain ⟨hE,h0,h1⟩:=H8 (x:=x) hw (by simpa using c1)
 cases c2:decide ((BH e (EO e) (Ar e.M x)).2.2≠0) with
 | true=>rw [c2,cond_true] at h;exact absurd h (of_decide_eq_true c2)
 | false =>
 rw [cond_false]
 have hz:(BH e (EO e) (Ar e.M x)).2.2=0:=by simpa using c2
 have hin:=JD hE h0 h1 hz
 have hf:=Ez.1 hE.fits
 have hop:(Ar e.M x).Op=2:=by
  unfold BH at hz
  cases c0:decide ((Ar e.M x).Op≠2) with
  | true=>rw [c0,cond_true] at hz;simp at hz
  | false=>simpa using c0
 exact ⟨hf,hf.put fun hp=>(hin.own hp).1,Aa3 fun hp=>Acl hs (Kn ((AdB hE h0 h1).var hop)).scope hp hz⟩
end Go.Proofs.YtiaebjpcgjkhoaaGreatDoor
namespace Go.Proofs.YtiaebjpcgjkhoaaGreatDoor
open Go.RowKit
structure PO (b:Int->Prop) (e f:D.Env) (er:Int):Prop where
 M:f.M=e.M
 pid:f.Pid=e.Pid
 keep:Fq b e.S f.S
 more:f.S.Procs.length<=e.S.Procs.length+1
 fits:er=0->Eg e.M f.S
section
variable {e : D.Env} {b:Int->Prop}
theorem PO.none {er:Int} (h:Eg e.M e.S):PO b e e er:=⟨rfl,rfl,Fq.refl,Nat.le_succ _,fun _=>h⟩
theorem PO.bad {er:Int} (h:er≠0):PO b e e er:=⟨rfl,rfl,Fq.refl,Nat.le_succ _,fun h'=>absurd h' h⟩
theorem Hu {x v:Int} (hw:Ay e.M) (hs:(Ar e.M x).V.Scope≠2) :
  Fq (fun i=>i=e.Pid) e.S (CD e x v).1.S/\(CD e x v).1.S.Procs.length=e.S.Procs.length/\(CD e x v).1.M=e.M/\(CD e x v).1.Pid=e.Pid/\((CD e x v).2=0->Eg e.M (CD e x v).1.S):=by
 show Fq _ e.S (stE e x v).S/\(stE e x v).S.Procs.length=e.S.Procs.length/\(stE e x v).M=e.M/\(stE e x v).Pid=e.Pid/\((AV e x v).2=0->Eg e.M (stE e x v).S)
 have hl:=OJ e x v
 refine ⟨?_,hl.procs,hl.M,hl.pid,fun h=>?_⟩
 ·unfold stE
  cases c:decide ((AV e x v).2=0) with
  | true=>exact (Qu hw hs (of_decide_eq_true c)).2.2
  | false=>exact Fq.refl
 ·unfold stE
  rw [decide_eq_true h]
  exact (Qu hw hs h).2.1
theorem MA (m mt:List Int):∀ (l:List Int) (k:Nat) (e:D.Env),Ay e.M->(∀ j,j<l.length->mt.getD (k+j) 0=0->(Ar e.M (l.getD j 0)).V.Scope≠2) ->
  Fq (fun i=>i=e.Pid) e.S (FC m mt k l e).1.S/\((FC m mt k l e).2=0->Eg e.M e.S->Eg e.M (FC m mt k l e).1.S)
 | [],k,e,hw,_=>⟨Fq.refl,fun _ h=>h⟩
 | x::r,k,e,hw,ht=>by
  have hr:∀ j,j<r.length->mt.getD (k+1+j) 0=0->(Ar e.M (r.getD j 0)).V.Scope≠2:=fun j hj h=>by
   have:=ht (j+1) (Nat.succ_lt_succ hj) (by rw [show k+(j+1)=k+1+j by omega];exact h)
   simpa [List.getD] using this
  unfold FC
  cases c1:decide (mt.getD k 0≠0) with
  | true=>exact MA m mt r (k+1) e hw hr
  | false =>
   rw [cond_false]
   have h0:=ht 0 (Nat.succ_pos _) (by rw [Nat.add_zero];simpa using c1)
   obtain ⟨k1,k2,k3,k4,k5⟩:=Hu (v:=m.getD k 0) hw (show (Ar e.M x).V.Scope≠2 from h0)
   have k3:(stE e x (m.getD k 0)).M=e.M:=k3
   have k4:(stE e x (m.getD k 0)).Pid=e.Pid:=k4
   cases c2:decide ((AV e x (m.getD k 0)).2≠0) with
   | true=>exact ⟨Fq.refl,fun h=>absurd h (of_decide_eq_true c2)⟩
   | false =>
    rw [cond_false]
    obtain ⟨g1,g2⟩:=MA m mt r (k+1) (stE e x (m.getD k 0)) (by rw [k3];exact hw) (by rw [k3];exact hr)
    rw [k4] at g1
    rw [k3] at g2
    exact ⟨Fq.trans k1 g1,fun h _=>g2 h (k5 (show (AV e x (m.getD k 0)).2=0 by simpa using c2))⟩
def U7 (m:D.Model) (s:D.Stmt):Prop:=∀ j,j<s.Args.length->s.Match.getD j 0=0->(Ar m (s.Args.getD j 0)).V.Scope≠2
theorem KE {s:D.Stmt} {m:List Int} (hw:Ay e.M) (ht:U7 e.M s) :
  Fq (fun i=>i=e.Pid) e.S (Dc e s m).1.S/\((Dc e s m).2=0->Eg e.M e.S->Eg e.M (Dc e s m).1.S)/\No e (Dc e s m).1:=by
 obtain ⟨h1,h2⟩:=MA m s.Match s.Args 0 e hw (fun j hj h=>ht j hj (by rwa [Nat.zero_add] at h))
 exact ⟨h1,h2,I1 m s.Match s.Args 0 e⟩
theorem Ht {m:D.Model} {a:Int} (h:Bn m a=true):(Ar m a).V.Scope≠2:=by
 unfold Bn at h
 simp only [Bool.and_eq_true,decide_eq_true_eq] at h
 exact h.2
theorem FH.t2 {m:D.Model} {s:D.Stmt} (h:FH m s) (hk:s.Kind=2):(Ar m s.A).V.Scope≠2:=by
 have:=h.st
 unfold Aq at this
 rw [if_neg (by omega),if_pos hk] at this
 simp only [Bool.and_eq_true] at this
 exact Ht this.1.1
theorem FH.t9 {m:D.Model} {s:D.Stmt} (h:FH m s) (hk:s.Kind=9):(Ar m s.A).V.Scope≠2:=by
 have:=h.st
 unfold Aq at this
 rw [if_neg (by omega),if_neg (by omega),if_neg (by omega),if_neg (by omega),if_neg (by omega),if_neg (by omega),if_pos hk] at this
 simp only [Bool.and_eq_true] at this
 exact Ht this.1.1.1.1
theorem FH.t6 {m:D.Model} {s:D.Stmt} (h:FH m s) (hk:s.Kind=6):U7 m s:=by
 have h6:=h.k6 hk
 have:=h.st
 unfold Aq at this
 rw [if_neg (by omega),if_neg (by omega),if_neg (by omega),if_neg (by omega),if_pos hk] at this
 simp only [Bool.and_eq_true] at this
 have:=this.1.1.1.2
 unfold Ft at this
 simp only [Bool.and_eq_true] at this
 intro j hj hm
 have:=AL.1 this.2 j (by omega)
 rw [decide_eq_true hm] at this
 exact Ht (by simpa using this)
theorem AdY {m:D.Model} {typ:Int} {args:List Int} (hm:FO m=true) (h0:0<=typ/\typ<m.Procs.length) (hc:typ≠m.Claim):AP m (KM m typ args)=true:=by
 obtain ⟨_,h2,_⟩:=Dy hm
 obtain ⟨f1,f2⟩:=F4 h2 typ.toNat (by omega)
 have f1:DZ (AK m typ)=true:=f1
 have f2:EU (AK m typ)=true:=f2
 unfold DZ at f1
 unfold EU at f2
 simp only [Bool.and_eq_true,decide_eq_true_eq] at f1 f2
 have hi:=f1.1.1.1.1.1.1.2
 have ht:∀ i,i<(AK m typ).Frame.length->Ci ((AK m typ).Frame.getD i default) ((AK m typ).Init.getD i 0)=true:=Jc (by have:=f1.1.1.1.1.1.1.1.2;unfold DB at *;omega)
 unfold AP BO KM
 simp only [Bool.and_eq_true,decide_eq_true_eq]
 have hl:(KN (AK m typ).Frame args (AK m typ).Init args.length).length=(AK m typ).Init.length:=by simp [KN]
 refine ⟨⟨⟨⟨⟨h0.1,h0.2⟩,hc⟩,f2.1.1.2⟩,trivial⟩,Ld (by rw [hl];omega) fun k hk=>?_⟩
 rw [hl] at hk
 have hx:=ht k (by omega)
 have:(KN (AK m typ).Frame args (AK m typ).Init args.length).getD k 0=if k<args.length then H7 ((AK m typ).Frame.getD k default) (args.getD k 0) else (AK m typ).Init.getD k 0:=by simp [KN,List.getD,hk]
 rw [this]
 split
 ·exact L2 (Tb hx)
 ·exact hx
theorem AeD {m:D.Model} {typ:Int} {args:List Int} (h:(Ga m typ args).2=0):AP m (Ga m typ args).1=true:=by
 unfold Ga at h ⊢
 cases c1:FO m with
 | false=>rw [c1] at h;exact absurd (show (40:Int)=0 from h) (by decide)
 | true =>
  rw [c1] at h
  rw [Bool.not_true,cond_false] at h ⊢
  cases c2:(decide (typ<0)||(decide ((m.Procs.length:Int)<=typ)||(decide (typ=m.Claim)||decide ((args.length:Int)≠(AK m typ).Params)))) with
  | true=>rw [c2] at h;exact absurd (show (42:Int)=0 from h) (by decide)
  | false =>
   simp only [Bool.or_eq_false_iff,decide_eq_false_iff_not] at c2
   exact AdY c1 ⟨by omega,by omega⟩ c2.2.2.1
theorem Un {p:D.Process}:Fq b e.S (Nj e p).S:=by
 refine ⟨rfl,rfl,rfl,by show _<=(e.S.Procs++[p]).length;simp,fun i hi=>?_⟩
 have:(e.S.Procs++[p]).getD i default=e.S.Procs.getD i default:=by simp [List.getD,List.getElem?_append_left hi]
 show ((e.S.Procs++[p]).getD i default).Type_=_/\((e.S.Procs++[p]).getD i default).Loc=_/\(_->((e.S.Procs++[p]).getD i default).Frame=_)
 rw [this]
 exact ⟨rfl,rfl,fun _=>rfl⟩
theorem Jb {x:Int}:((BY e x).1=e/\(BY e x).2.2≠0)∨(∃ p,(BY e x).1=Nj e p/\(BY e x).2.2=0/\AP e.M p=true):=by
 unfold BY
 cases c1:decide ((B8 e (Ar e.M x).Args).2≠0) with
 | true=>exact .inl ⟨rfl,of_decide_eq_true c1⟩
 | false =>
  rw [cond_false]
  cases c2:decide ((Ga e.M (Ar e.M x).N (B8 e (Ar e.M x).Args).1).2≠0) with
  | true=>exact .inl ⟨rfl,of_decide_eq_true c2⟩
  | false=>exact .inr ⟨_,rfl,rfl,AeD (by simpa using c2)⟩
theorem AbA {x:Int} (h:Eg e.M e.S) (hr:e.S.Procs.length<16):PO b e (BY e x).1 (BY e x).2.2:=by
 rcases Jb (e:=e) (x:=x) with ⟨h1,h2⟩ | ⟨p,h1,h2,h3⟩
 ·rw [h1];exact .bad h2
 ·rw [h1]
  exact ⟨rfl,rfl,Un,by show (e.S.Procs++[p]).length<=_;simp,fun _=>h.addP hr h3⟩
theorem Acx {s:D.Stmt} (hw:Ay e.M) (_:Eg e.M e.S) (hs:(Ar e.M s.A).V.Scope≠2):PO (fun i=>i=e.Pid) e (Io e s).1 (Io e s).2:=by
 unfold Io
 cases c0:DE e s.B with
 | true =>
  rw [cond_true]
  rcases Jb (e:=e) (x:=s.B) with ⟨h1,h2⟩ | ⟨p,h1,h2,h3⟩
  ·rw [decide_eq_true h2,cond_true,h1];exact .bad h2
  ·rw [decide_eq_false (fun hn=>hn h2),cond_false,h1]
   obtain ⟨k1,k2,k3,k4,k5⟩:=Hu (e:=Nj e p) (x:=s.A) (v:=(BY e s.B).2.1) hw hs
   exact ⟨k3,k4,Un.trans k1,by rw [k2];show (e.S.Procs++[p]).length<=_;simp,k5⟩
 | false =>
  rw [cond_false]
  cases c1:decide ((Ba e s.B).2≠0) with
  | true=>exact .bad (of_decide_eq_true c1)
  | false =>
   obtain ⟨k1,k2,k3,k4,k5⟩:=Hu (e:=e) (x:=s.A) (v:=(Ba e s.B).1) hw hs
   exact ⟨k3,k4,k1,by rw [cond_false,k2];omega,k5⟩
theorem Ph {c:Int} {k:D.Chan}:Fq b e.S (Ip e c k).S:=⟨rfl,rfl,rfl,Nat.le_refl _,fun _ _=>⟨rfl,rfl,fun _=>rfl⟩⟩
theorem XZ {m:D.Model} {k:D.Chan} {n:Int} (h:CC m k=true) (h0:(DW k n).2.2=0):CC m (DW k n).1=true:=by
 unfold DW at h0 ⊢
 cases c:(decide (n<0)||decide ((k.Queue.length:Int)<=n)) with
 | true=>rw [c] at h0;exact absurd (show (46:Int)=0 from h0) (by decide)
 | false =>
  rw [cond_false]
  obtain ⟨⟨a1,a2⟩,a3,a4⟩:=EW h
  have hsub:∀ x∈Ch.cutAt k.Queue n.toNat,x∈k.Queue:=fun x hx=>(List.mem_append.1 hx).elim List.mem_of_mem_take List.mem_of_mem_drop
  have hlen:(Ch.cutAt k.Queue n.toNat).length<=k.Queue.length:=by unfold Ch.cutAt;simp;omega
  unfold CC
  simp only [Bool.and_eq_true,decide_eq_true_eq]
  exact ⟨⟨Cz.2 ⟨a1,a2⟩,by show ((Ch.cutAt k.Queue n.toNat).length:Int)<=_;omega⟩,(Ck (d:=[]) (f:=fun x=>AX (BC m k.Shape).Fields x)).2 fun x hx=>a4 x (hsub x hx)⟩
theorem Agk {m:D.Model} {k:D.Chan} {l:List Int} {sorted:Bool} (h:CC m k=true) (h0:(PV m k l sorted).2=0):CC m (PV m k l sorted).1=true:=by
 have h0:Ch.putE (BC m k.Shape).Room (BC m k.Shape).Fields k.Queue l=0:=h0
 unfold PV Ch.putSh Ch.putQ
 rw [h0,if_pos rfl,if_pos rfl]
 obtain ⟨⟨a1,a2⟩,a3,a4⟩:=EW h
 unfold Ch.putE at h0
 split at h0
 ·cases h0
 split at h0
 ·cases h0
 split at h0
 ·cases h0
 rename_i g1 g2 g3
 have g1:l.length=(BC m k.Shape).Fields.length:=Classical.not_not.1 g1
 have g2:(BC m k.Shape).Fields.all Ch.typeP=true:=by simpa using g2
 have hmem:∀ x∈Ch.putX (BC m k.Shape).Fields k.Queue l sorted,x∈k.Queue∨x=Ch.fitM (BC m k.Shape).Fields l:=fun x hx=>by
  rcases List.mem_append.1 hx with hx | hx
  ·exact .inl (List.mem_of_mem_take hx)
  ·rcases List.mem_cons.1 hx with hx | hx
   ·exact .inr hx
   ·exact .inl (List.mem_of_mem_drop hx)
 have hlen:(Ch.putX (BC m k.Shape).Fields k.Queue l sorted).length<=k.Queue.length+1:=by unfold Ch.putX Ch.putAt;simp;omega
 have hfit:AX (BC m k.Shape).Fields (Ch.fitM (BC m k.Shape).Fields l)=true:=by
  have hl:(Ch.fitM (BC m k.Shape).Fields l).length=l.length:=Ch.fitM_len g1
  refine Ld (by omega) fun j hj=>?_
  rw [hl] at hj
  have hj2:j<(BC m k.Shape).Fields.length:=by omega
  have e1:(Ch.fitM (BC m k.Shape).Fields l).getD j 0=H7 ((BC m k.Shape).Fields.getD j default) (l.getD j 0):=by
   have hj3:j<(Ch.fitM (BC m k.Shape).Fields l).length:=by omega
   have e2:(Ch.fitM (BC m k.Shape).Fields l).getD j 0=(Ch.fitM (BC m k.Shape).Fields l)[j]:=by simp [List.getD,hj3]
   have e3:(BC m k.Shape).Fields.getD j default=(BC m k.Shape).Fields[j]:=by simp [List.getD,hj2]
   have e4:l.getD j 0=l[j]:=by simp [List.getD,hj]
   rw [e2,e3,e4]
   simp [Ch.fitM,H7]
  rw [e1]
  refine L2 ?_
  have:=List.all_eq_true.1 g2 _ (Au (d:=default) hj2)
  unfold Ch.typeP at this
  unfold D3
  simp only [Bool.and_eq_true,Bool.or_eq_true] at this ⊢
  exact ⟨this.1.1,this.1.2,this.2.elim (fun h=>h.elim .inl fun h=>.inr (.inl h)) fun h=>.inr (.inr h)⟩
 unfold CC
 simp only [Bool.and_eq_true,decide_eq_true_eq]
 refine ⟨⟨Cz.2 ⟨a1,a2⟩,by show ((Ch.putX _ _ _ _).length:Int)<=(BC m k.Shape).Room;omega⟩,(Ck (d:=[]) (f:=fun x=>AX (BC m k.Shape).Fields x)).2 fun x hx=>?_⟩
 rcases hmem x hx with h | h
 ·exact a4 x h
 ·rw [h];exact hfit
theorem NW (hf:Eg e.M e.S) {n:Int} (h:Afp e n):CC e.M (Cl e n)=true:=hf.c _ (Au (by have:=h.lo;have:=h.hi;omega))
theorem Uz {s:D.Stmt} (hw:Ay e.M) (h:(A6 e s).2.2=0):Afp e (A6 e s).1/\(A8 e (A6 e s).1).length=s.Args.length:=by
 unfold A6 at h ⊢
 cases d1:decide ((AC e s.A).2≠0) with
 | true=>rw [d1,cond_true] at h;exact absurd h (of_decide_eq_true d1)
 | false =>
 rw [d1,cond_false] at h
 rw [cond_false]
 cases d2:decide ((A8 e (AC e s.A).1).length≠s.Args.length) with
 | true=>rw [d2] at h;exact absurd (show (49:Int)=0 from h) (by decide)
 | false =>
 rw [d2,cond_false] at h
 rw [cond_false]
 cases d3:decide ((CP e s).2≠0) with
 | true=>rw [d3,cond_true] at h;exact absurd h (of_decide_eq_true d3)
 | false=>exact ⟨I5 hw (by simpa using d1),by simpa using d2⟩
theorem Aaq {s:D.Stmt} (hw:Ay e.M) (h:Eg e.M e.S) (ht:U7 e.M s):PO (fun i=>i=e.Pid) e (Fv e s).1 (Fv e s).2:=by
 unfold Fv
 cases c1:decide ((A6 e s).2.2≠0) with
 | true=>exact .bad (of_decide_eq_true c1)
 | false =>
 rw [cond_false]
 cases c2:decide ((DW (Cl e (A6 e s).1) (A6 e s).2.1).2.2≠0) with
 | true=>exact .bad (of_decide_eq_true c2)
 | false =>
 rw [cond_false]
 have hin:=(Uz hw (show (A6 e s).2.2=0 by simpa using c1)).1
 have hk:=XZ (NW h hin) (by simpa using c2)
 generalize DW (Cl e (A6 e s).1) (A6 e s).2.1=t at hk
 cases decide (s.N<2) with
 | true =>
  rw [cond_true]
  obtain ⟨g1,g2,g3⟩:=KE (e:=Ip e (A6 e s).1 t.1) (s:=s) (m:=t.2.1) hw ht
  exact ⟨g3.M,g3.pid,Ph.trans g1,by rw [g3.procs];exact Nat.le_succ _,fun h0=>g2 h0 (h.setC hk)⟩
 | false =>
  rw [cond_false]
  obtain ⟨g1,g2,g3⟩:=KE (e:=e) (s:=s) (m:=t.2.1) hw ht
  exact ⟨g3.M,g3.pid,g1,by rw [g3.procs];exact Nat.le_succ _,fun h0=>g2 h0 h⟩
theorem Pa {s:D.Stmt} (hw:Ay e.M) (h:(Ax e s).2.2=0):Afp e (Ax e s).1/\AX (A8 e (Ax e s).1) (Ax e s).2.1=true:=by
 unfold Ax at h ⊢
 cases d1:decide ((AC e s.A).2≠0) with
 | true=>rw [d1,cond_true] at h;exact absurd h (of_decide_eq_true d1)
 | false =>
 rw [d1,cond_false] at h
 rw [cond_false]
 cases d2:decide ((A8 e (AC e s.A).1).length≠s.Args.length) with
 | true=>rw [d2] at h;exact absurd (show (49:Int)=0 from h) (by decide)
 | false =>
 rw [d2,cond_false] at h
 rw [cond_false]
 cases d3:decide ((B8 e s.Args).2≠0) with
 | true=>rw [d3,cond_true] at h;exact absurd h (of_decide_eq_true d3)
 | false =>
  have hin:=I5 hw (show (AC e s.A).2=0 by simpa using d1)
  refine ⟨hin,?_⟩
  show AX (A8 e (AC e s.A).1) (Nm (A8 e (AC e s.A).1) (B8 e s.Args).1)=true
  have hsh:=hin.sh
  have ht:=hin.ok.tab.shape (Cl e (AC e s.A).1).Shape.toNat (by omega)
  have hl:=PJ (show (B8 e s.Args).2=0 by simpa using d3)
  have hf:(A8 e (AC e s.A).1).length=s.Args.length:=by simpa using d2
  unfold CJ at ht
  simp only [Bool.and_eq_true,decide_eq_true_eq] at ht
  have ht:=AL.1 ht.2
  change ∀ i,i<(A8 e (AC e s.A).1).length->D3 ((A8 e (AC e s.A).1).getD i default)=true at ht
  have hL:(Nm (A8 e (AC e s.A).1) (B8 e s.Args).1).length=(B8 e s.Args).1.length:=by simp [Nm]
  refine Ld (by omega) fun k hk=>?_
  rw [hL] at hk
  have:(Nm (A8 e (AC e s.A).1) (B8 e s.Args).1).getD k 0=H7 ((A8 e (AC e s.A).1).getD k default) ((B8 e s.Args).1.getD k 0):=by simp [Nm,List.getD,hk]
  rw [this]
  exact L2 (ht k (by omega))
theorem AcA {s:D.Stmt} {w:Wy} (hw:Ay e.M) (h:Eg e.M e.S) (ht:0<=w.With->U7 e.M (GM e w).S):PO (fun i=>i=e.Pid∨i=w.With) e (Iq e s w).1 (Iq e s w).2:=by
 unfold Iq
 cases c1:decide ((Ax e s).2.2≠0) with
 | true=>exact .bad (of_decide_eq_true c1)
 | false =>
 rw [cond_false]
 cases c2:decide (0<=w.With) with
 | true =>
  rw [cond_true]
  obtain ⟨g1,g2,g3⟩:=KE (e:=CI e w.With) (s:=(GM e w).S) (m:=(Ax e s).2.1) hw (ht (of_decide_eq_true c2))
  exact ⟨rfl,rfl,g1.less fun i hi=>.inr hi,by show (Dc (CI e w.With) _ _).1.S.Procs.length<=_;rw [g3.procs];exact Nat.le_succ _,fun h0=>g2 h0 h⟩
 | false =>
  rw [cond_false]
  have hin:=(Pa hw (show (Ax e s).2.2=0 by simpa using c1)).1
  exact ⟨rfl,rfl,Ph,Nat.le_succ _,fun h0=>h.setC (Agk (NW h hin) h0)⟩
theorem UN {pr:ByteArray->List Int->ByteArray} {s:D.Stmt} {w:Wy} (hw:Ay e.M) (h:Eg e.M e.S) (hs:FH e.M s) (hr:s.Kind=1->DE e s.A=true->e.S.Procs.length<16) (ht:0<=w.With->U7 e.M (GM e w).S) :
  PO (fun i=>i=e.Pid∨i=w.With) e (Dw pr e s w).1 (Dw pr e s w).2.2:=by
 have up:∀ {f:D.Env} {er:Int},PO (fun i=>i=e.Pid) e f er->PO (fun i=>i=e.Pid∨i=w.With) e f er:=fun g=>⟨g.M,g.pid,g.keep.less fun i hi=>.inl hi,g.more,g.fits⟩
 unfold Dw
 split
 ·rename_i hk
  cases c:DE e s.A with
  | true=>exact AbA h (hr hk c)
  | false=>exact .none h
 split
 ·rename_i hk;exact up (Acx hw h (hs.t2 hk))
 split
 ·exact .none h
 split
 ·exact .none h
 split
 ·rename_i hk
  obtain ⟨k1,k2,k3,k4,k5⟩:=Hu (e:=GC e s.N) (x:=s.A) (v:=(e.S.Chans.length+1:Nat)) hw (hs.t9 hk)
  have k0:Fq (fun i=>i=e.Pid) e.S (GC e s.N).S:=⟨rfl,rfl,rfl,Nat.le_refl _,fun _ _=>⟨rfl,rfl,fun _=>rfl⟩⟩
  exact up ⟨k3,k4,Fq.trans k0 k1,by show (CD (GC e s.N) s.A _).1.S.Procs.length<=_;rw [k2];exact Nat.le_succ _,k5⟩
 split
 ·exact AcA hw h ht
 split
 ·rename_i hk;exact up (Aaq hw h (hs.t6 hk))
 exact .none h
end
end Go.Proofs.YtiaebjpcgjkhoaaGreatDoor
namespace Go.Proofs.YtiaebjpcgjkhoaaGreatDoor
open Go.RowKit
def Aes : Shp:={ α:=List Int,enc:=fun y=>([.arr true 0 y.length 1 (AG y)],.ow 0 0 y.length) }
def Ag1 : Shp:={ α:=D.Process,enc:=fun y=>([],.agg (As y)) }
def AfW : Shp:={ α:=D.Process × Int,enc:=fun y=>([],.tup [.agg (As y.1),Aa y.2]) }
def Aeq : Shp:={ α:=D.Chan × List Int × Int,enc:=fun y=>([],.tup [.agg (AF y.1),Ad true y.2.1,Aa y.2.2]) }
def PS (f:FuncId):Shp:=bif Nat.beq f 50 then AfW else bif Nat.beq f 79 then Ag1 else bif Nat.beq f 68 then Aeq else Tr f
def Af5 (f:FuncId):Shp:=bif Nat.beq f 34 then Aes else Tr f
def PE : Ann:={ keep:=fun
  | [0,1,0,1,1,1]=>[6,7,8,25,26,27]
  | _=>[] }
def GA : Ann:={ keep:=fun
  | [0,1,0,1,1,1,1,1]=>[1,3,5,7]
  | [0,1,1,1,1,1,0,0,1,0,0,1,0,1,1,1,1,1]=>[1,3,5,7,8,12]
  | _=>[] }
def RF (m:D.Model) (typ:Int) (args l:List Int) (k:Int):St:=AB [(6,.bp 0 0),(7,.bp 1 0),(8,.bp 2 0),(25,Ad false args),(26,Aa args.length),(27,Aa k)] [.box [Aa 0,Aa 0,Aa 0,.nl],.box (AZ (AK m typ)),.box [Aa typ,Aa (AK m typ).Start,Aa (AK m typ).Prio,.ow 3 0 l.length],.arr true 0 l.length 1 (AG l)]
def Hx (e:D.Env) (up:Bool) (l:List Wy) (i:Int) (s:D.State) (k:Int):St:=AB [(1,.bp 0 0),(3,Ac up),(5,BF true l),(7,Aa i),(8,.bp 1 0),(12,Aa k)] [.box (Af e),.box (An s)]
end Go.Proofs.YtiaebjpcgjkhoaaGreatDoor
namespace Go.Proofs.YtiaebjpcgjkhoaaGreatDoor
open Go.RowKit
set_option maxRecDepth 100000
theorem AcC (p:D.Process) (m:D.Model) (typ:Int) (args:List Int):(fc Af5 PE Tryz.f79 [] (.agg (As p))).goal (St.init [] [.agg (Ae m),Aa typ,Ad false args]) =
  (inX typ m.Procs.length/\∃ (y:List Int),Ai Tryz.prog 34 [] [Ad true (m.Procs.getD typ.toNat default).Init] [Ob.arr true 0 y.length 1 (AG y)] (VV.ow 0 0 y.length)/\AA (fc Af5 PE Tryz.f79 [] (VV.agg (As p))) [1,1,1,0,1,0] (AB [(6,VV.bp 0 0),(7,VV.bp 1 0),(8,VV.bp 2 0),(25,Ad false args),(26,Aa (↑args.length:Int)),(27,Aa 0)] [Ob.box [Aa 0,Aa 0,Aa 0,VV.nl],Ob.box (AZ (m.Procs.getD typ.toNat default)),Ob.box [Aa typ,Aa (m.Procs.getD typ.toNat default).Start,Aa (m.Procs.getD typ.toNat default).Prio,VV.ow 3 0 y.length],Ob.arr true 0 y.length 1 (AG y)])):=by kernel_rfl
theorem W6 (b:Bool) (e:D.Env):(fc PS GA Tryz.f3 [] (Ac b)).goal (St.init [] [.agg (Af e)]) =
  (∃ (y:Bool),VC 6 [] (Ac y)/\∃ (y_1:Int),VC 7 [VV.agg (Af e)] (Aa y_1)/\BB (y_1 != 0) (LQ (Ac y) (Ac b)) (∃ (y_2:List Wy × Int),VC 8 [VV.agg (Af e)] (VV.tup [BF true y_2.fst,Aa y_2.snd])/\AA (fc PS GA Tryz.f3 [] (Ac b)) [1,1,1,1,1,0,1,0] (Hz e y y_2.fst (0:Int)))):=by kernel_rfl
theorem AcI (p:D.Process) (r:Int) (m:D.Model) (typ:Int) (args:List Int):(fc PS Bl Tryz.f50 [] (.tup [.agg (As p),Aa r])).goal (St.init [] [.agg (Ae m),Aa typ,Ad false args]) =
  (∃ (y:Bool),VC 46 [VV.agg (Ae m)] (Ac y)/\BB (!y) (LQ (VV.tup [VV.agg [Aa 0,Aa 0,Aa 0,VV.nl],Aa 40]) (VV.tup [VV.agg (As p),Aa r])) (((true&&(bif bif decide (typ<0) then true else decide (typ>=(↑m.Procs.length:Int)) then true else typ==m.Claim)==false)=true->inX typ m.Procs.length)/\BB (bif bif bif decide (typ<0) then true else decide (typ>=(↑m.Procs.length:Int)) then true else typ==m.Claim then true else (↑args.length:Int) != (m.Procs.getD typ.toNat default).Params) (LQ (VV.tup [VV.agg [Aa 0,Aa 0,Aa 0,VV.nl],Aa 42]) (VV.tup [VV.agg (As p),Aa r])) (∃ (y:D.Process),VC 79 [VV.agg (Ae m),Aa typ,Ad false args] (VV.agg (As y))/\LQ (VV.tup [VV.agg (As y),Aa 0]) (VV.tup [VV.agg (As p),Aa r])))):=by kernel_rfl
theorem Vy (hs':List Ob) (v r:Int) (e:D.Env) (x:Int):(BP Tryz.prog tb PS AbF false Tryz.f37 hs' (.tup [Aa v,Aa r])).goal (St.init (hsE e) [.bp 0 0,Aa x]) =
  (inX x e.M.Exprs.length/\∃ (y:List Int × Int),Ai Tryz.prog 40 [] [VV.agg (Bk e),Ad true (e.M.Exprs.getD x.toNat default).Args] [Ob.arr true 0 y.fst.length 1 (AG y.fst)] (VV.tup [VV.ow 0 0 y.fst.length,Aa y.snd])/\BB (y.snd != 0) (leO (hsE e) hs'/\(VV.tup [Aa 0,Aa y.snd]).le (VV.tup [Aa v,Aa r])) (∃ (y_1:D.Process × Int),VC 50 [VV.agg (Ae e.M),Aa (e.M.Exprs.getD x.toNat default).N,Ad false y.fst] (VV.tup [VV.agg (As y_1.fst),Aa y_1.snd])/\BB (y_1.snd != 0) (leO (hsE e) hs'/\(VV.tup [Aa 0,Aa y_1.snd]).le (VV.tup [Aa v,Aa r])) ((e.S.Procs.length+1)*48<=140737488355328/\leO [Ob.box (EA e (VV.ow 1 0 e.S.Chans.length) (VV.ow 2 0 (e.S.Procs.length+1))),obC e.S,Ob.arr true 0 (e.S.Procs.length+1) 4 fun (i:Nat)=>bif i.blt e.S.Procs.length then As (e.S.Procs.getD i default) else (fun (i:Nat)=>List.take 4 (List.drop (i*4) (As y_1.fst))) (i - e.S.Procs.length)] hs'/\(VV.tup [Aa (IntKind.i64.wrap ((↑(e.S.Procs.length+1):Int) - (1:Int))),Aa 0]).le (VV.tup [Aa v,Aa r])))):=by kernel_rfl
theorem YS (hs':List Ob) (r:Int) (e:D.Env) (s:D.Stmt):(BP Tryz.prog tb PS AbF false Tryz.f38 hs' (Aa r)).goal (St.init (hsE e) [.bp 0 0,.agg (Ap s)]) =
  (∃ (y:Bool),VC 36 [VV.agg (Ae e.M),Aa s.B] (Ac y)/\BB y (∃ (y:D.Env × Int × Int),Ai Tryz.prog 37 (hsE e) [VV.bp 0 0,Aa s.B] (hsE y.fst) (vII y.snd)/\BB (y.snd.snd != 0) (leO (hsE y.fst) hs'/\(Aa y.snd.snd).le (Aa r)) (∃ (y_1:D.Env × Int),Ai Tryz.prog 42 (hsE y.fst) [VV.bp 0 0,Aa s.A,Aa y.snd.fst] (hsE y_1.fst) (Aa y_1.snd)/\leO (hsE y_1.fst) hs'/\(Aa y_1.snd).le (Aa r))) (∃ (y:Int × Int),VC 39 [VV.agg (Bk e),Aa s.B] (vII y)/\BB (y.snd != 0) (leO (hsE e) hs'/\(Aa y.snd).le (Aa r)) (∃ (y_1:D.Env × Int),Ai Tryz.prog 42 (hsE e) [VV.bp 0 0,Aa s.A,Aa y.fst] (hsE y_1.fst) (Aa y_1.snd)/\leO (hsE y_1.fst) hs'/\(Aa y_1.snd).le (Aa r)))):=by kernel_rfl
theorem Vg (hs':List Ob) (r:Int) (e:D.Env) (s:D.Stmt):(BP Tryz.prog tb PS AbF false Tryz.f44 hs' (Aa r)).goal (St.init (hsE e) [.bp 0 0,.agg (Ap s)]) =
  (∃ (y:Int × Int × Int),VC 67 [VV.agg (Bk e),VV.agg (Ap s)] (Lb y)/\BB (y.snd.snd != 0) (leO (hsE e) hs'/\(Aa y.snd.snd).le (Aa r)) (inX (IntKind.i64.wrap (y.fst - (1:Int))) e.S.Chans.length/\∃ (y_1:D.Chan × List Int × Int),VC 68 [VV.agg (AF (e.S.Chans.getD (IntKind.i64.wrap (y.fst - (1:Int))).toNat default)),Aa y.snd.fst] (VV.tup [VV.agg (AF y_1.fst),Ad true y_1.snd.fst,Aa y_1.snd.snd])/\BB (y_1.snd.snd != 0) (leO (hsE e) hs'/\(Aa y_1.snd.snd).le (Aa r)) (BB (decide (s.N<2)) (inX (IntKind.i64.wrap (y.fst - (1:Int))) e.S.Chans.length/\∃ (y_2:D.Env × Int),Ai Tryz.prog 65 [Ob.box (EA e (VV.ow 1 0 e.S.Chans.length) (VV.ow 2 0 e.S.Procs.length)),Ob.arr true 0 e.S.Chans.length 2 fun (j:Nat)=>bif j.beq (IntKind.i64.wrap (y.fst - (1:Int))).toNat then AF y_1.fst else AF (e.S.Chans.getD j default),obP e.S] [VV.bp 0 0,VV.agg (Ap s),Ad true y_1.snd.fst] (hsE y_2.fst) (Aa y_2.snd)/\leO (hsE y_2.fst) hs'/\(Aa y_2.snd).le (Aa r)) (∃ (y:D.Env × Int),Ai Tryz.prog 65 (hsE e) [VV.bp 0 0,VV.agg (Ap s),Ad true y_1.snd.fst] (hsE y.fst) (Aa y.snd)/\leO (hsE y.fst) hs'/\(Aa y.snd).le (Aa r))))):=by kernel_rfl
theorem Zb (s:D.State) (e:D.Env):(fc PS Bl Tryz.f18 [] (.agg (An s))).goal (St.init [] [.agg (Af e)]) =
  (∃ (y:D.State),Ai Tryz.prog 19 [] [VV.agg (An e.S)] [obC y,obP y] (VV.agg (Bc y (VV.ow 0 0 y.Chans.length) (VV.ow 1 0 y.Procs.length)))/\((0:Int)<=e.Pid/\e.Pid<=(↑y.Procs.length:Int))/\BB (decide (y.Alone>=(↑e.Pid.toNat:Int))) (LQ (VV.agg [Ad true y.Globals,Bg true y.Chans,VV.sl true e.Pid.toNat 4 (HY y.Procs),Aa e.Pid,Aa (-1),Aa y.Claim]) (VV.agg (An s))) (LQ (VV.agg [Ad true y.Globals,Bg true y.Chans,VV.sl true e.Pid.toNat 4 (HY y.Procs),Aa e.Pid,Aa y.Alone,Aa y.Claim]) (VV.agg (An s)))):=by kernel_rfl
theorem ZX (p:D.Process) (m:D.Model) (typ:Int) (args l:List Int) (k:Int) (J:St->Prop):((fc Af5 PE Tryz.f79 [] (.agg (As p))).loop [1,1,1,0,1,0] J).goal (RF m typ args l k) =
  (BB (decide (k<(↑args.length:Int))) (inX k args.length/\inX k (AK m typ).Frame.length/\∃ (y:Int),VC 91 [VV.agg (BU ((AK m typ).Frame.getD k.toNat default)),Aa (args.getD k.toNat 0)] (Aa y)/\inX k l.length/\J (AB [(6,VV.bp 0 0),(7,VV.bp 1 0),(8,VV.bp 2 0),(25,Ad false args),(26,Aa (↑args.length:Int)),(27,Aa (IntKind.i64.wrap (k+(1:Int))))] [Ob.box [Aa 0,Aa 0,Aa 0,VV.nl],Ob.box (AZ (AK m typ)),Ob.box [Aa typ,Aa (AK m typ).Start,Aa (AK m typ).Prio,VV.ow 3 0 l.length],Ob.arr true 0 l.length 1 fun (j:Nat)=>bif j.beq k.toNat then [Aa y] else [Aa (l.getD j 0)]])) (LQ (VV.agg [Aa typ,Aa (AK m typ).Start,Aa (AK m typ).Prio,Ad true l]) (VV.agg (As p)))):=by kernel_rfl
theorem Ug (b:Bool) (e:D.Env) (up:Bool) (l:List Wy) (i:Int) (J:St->Prop):((fc PS GA Tryz.f3 [] (Ac b)).loop [1,1,1,1,1,0,1,0] J).goal (Hz e up l i) =
  (BB (decide (i<(↑l.length:Int))) (inX i l.length/\∃ (y:D.State × ByteArray × Int),VC 9 [VV.agg (Af e),VV.agg (Bu (l.getD i.toNat default))] (VV.tup [VV.agg (An y.fst),BV y.snd.fst,Aa y.snd.snd])/\BB (y.snd.snd != 0) (J (Hz e up l (IntKind.i64.wrap (i+(1:Int))))) (∃ (y_1:Bool),VC 10 [VV.agg (Ae e.M),VV.agg (An y.fst)] (Ac y_1)/\BB (bif bif bif bif !y_1 then true else y.fst.Last != e.Pid then true else decide ((↑y.fst.Procs.length:Int)<IntKind.i64.wrap ((↑e.S.Procs.length:Int) - (1:Int))) then true else decide ((↑y.fst.Procs.length:Int) > IntKind.i64.wrap ((↑e.S.Procs.length:Int)+(1:Int))) then true else y.fst.Claim != e.S.Claim) (LQ (Ac false) (Ac b)) (AA ((fc PS GA Tryz.f3 [] (Ac b)).loop [1,1,1,1,1,0,1,0] J) [1,0,0,1,1,1,1,1,0] (Hx e up l i y.fst (0:Int))))) (LQ (Ac up) (Ac b))):=by kernel_rfl
theorem Uf (b:Bool) (e:D.Env) (up:Bool) (l:List Wy) (i:Int) (s:D.State) (k:Int) (J J2:St->Prop):(((fc PS GA Tryz.f3 [] (Ac b)).loop [1,1,1,1,1,0,1,0] J).loop [1,0,0,1,1,1,1,1,0] J2).goal (Hx e up l i s k) =
  (BB (bif decide (k<(↑s.Procs.length:Int)) then decide (k<(↑e.S.Procs.length:Int)) else false) (((true&&(k==e.Pid)==false)=true->inX i l.length)/\BB (bif k==e.Pid then true else k==(l.getD i.toNat default).With) (J2 (Hx e up l i s (IntKind.i64.wrap (k+(1:Int))))) (inX k s.Procs.length/\inX k e.S.Procs.length/\∃ (y:Bool),VC 11 [Ad true (s.Procs.getD k.toNat default).Frame,Ad true (e.S.Procs.getD k.toNat default).Frame] (Ac y)/\((true&&(!y)==false)=true->inX k s.Procs.length)/\((true&&(!y)==false)=true->inX k e.S.Procs.length)/\((true&&(bif !y then true else (s.Procs.getD k.toNat default).Loc != (e.S.Procs.getD k.toNat default).Loc)==false)=true->inX k s.Procs.length)/\((true&&(bif !y then true else (s.Procs.getD k.toNat default).Loc != (e.S.Procs.getD k.toNat default).Loc)==false)=true->inX k e.S.Procs.length)/\BB (bif bif !y then true else (s.Procs.getD k.toNat default).Loc != (e.S.Procs.getD k.toNat default).Loc then true else (s.Procs.getD k.toNat default).Type_ != (e.S.Procs.getD k.toNat default).Type_) (LQ (Ac false) (Ac b)) (J2 (Hx e up l i s (IntKind.i64.wrap (k+(1:Int))))))) (J (Hz e up l (IntKind.i64.wrap (i+(1:Int)))))):=by kernel_rfl
end Go.Proofs.YtiaebjpcgjkhoaaGreatDoor
namespace Go.Proofs.YtiaebjpcgjkhoaaGreatDoor
open Go.RowKit
theorem Yq {s:D.State} {cs:List VV} (h:obC s=.box cs):False:=by unfold obC at h;cases h
theorem Yp {s:D.State} {cs:List VV} (h:obP s=.box cs):False:=by unfold obP at h;cases h
section
variable {e : D.Env}
theorem MW (hw:Ay e.M) (hs:A4 e.S) (x v:Int):Ai Tryz.prog 42 (hsE e) [.bp 0 0,Aa x,Aa v] (hsE (stE e x v)) (Aa (AV e x v).2):=by
 have hst:=OC hw hs x v
 unfold stE
 cases c:decide ((AV e x v).2=0) with
 | true =>
  have h0:((AV e x v).2==0)=true:=by rw [ieq];exact c
  have h:=Ag (Q:=_) Ak Aj Tryz.func42 (by kernel_rfl) rfl (NX [.box (EA { e with S:=(AV e x v).1 } (.ow 3 0 (AV e x v).1.Chans.length) (.ow 4 0 (AV e x v).1.Procs.length)),obC e.S,obP e.S,obC (AV e x v).1,obP (AV e x v).1] (AV e x v).2 e x v)
   ⟨AV e x v,hst,fun _=>⟨⟨Ob.le_refl _,Ob.le_refl _,Ob.le_refl _,Ob.le_refl _,Ob.le_refl _,trivial⟩,VV.le_refl _⟩,fun h=>by rw [h0] at h;cases h⟩
  exact h.pick [0,3,4] rfl fun j hj=>by
   match j,hj with
   | 0,_=>exact .inl rfl
   | 1,_=>exact .inr ⟨fun cs h=>Yq h,3,rfl,fun cs h=>Yq h⟩
   | 2,_=>exact .inr ⟨fun cs h=>Yp h,4,rfl,fun cs h=>Yp h⟩
   | j+3,hj=>exact absurd hj (by simp [hsE])
 | false =>
  have h0:((AV e x v).2==0)=false:=by rw [ieq];exact c
  exact Ag Ak Aj Tryz.func42 (by kernel_rfl) rfl (NX (hsE e) (AV e x v).2 e x v)
   ⟨AV e x v,hst,(fun h=>by rw [h0] at h;cases h),fun _=>⟨⟨Ob.le_refl _,Ob.le_refl _,Ob.le_refl _,trivial⟩,VV.le_refl _⟩⟩
theorem ZL (hw:Ay e.M) (hs:A4 e.S) (x v:Int):Ay (stE e x v).M/\A4 (stE e x v).S:=by
 refine ⟨by rw [(OJ e x v).M];exact hw,?_⟩
 unfold stE
 cases decide ((AV e x v).2=0) with
 | true=>exact (VY hw v).small
 | false=>exact hs
theorem Iy {s:D.Stmt} {m:List Int} (hw:Ay e.M) (hs:A4 e.S) (hl:s.Args.length<=1048576) (h1:s.Args.length<=s.Match.length) (h2:s.Args.length<=m.length) :
  Ai Tryz.prog 65 (hsE e) [.bp 0 0,.agg (Ap s),Ad true m] (hsE (Dc e s m).1) (Aa (Dc e s m).2):=by
 refine Ag Ak Aj Tryz.func65 (by kernel_rfl) rfl (Vq (Dc e s m).1 (Dc e s m).2 e s m) ?_
 change AA _ _ (JA e s m 0)
 refine Bh Ak Aj (fun g st=>∃ (k:Nat) (f:D.Env),k<=s.Args.length/\g=s.Args.length - k/\Ay f.M/\A4 f.S/\FC m s.Match k (s.Args.drop k) f=Dc e s m/\st=JA f s m k) (by kernel_rfl) (by kernel_rfl) ⟨_,Up.of ⟨0,e,Nat.zero_le _,rfl,hw,hs,rfl,rfl⟩⟩ ?_
 rintro g st ⟨k,f,hk,rfl,hwf,hsf,hq,rfl⟩
 generalize Dc e s m=R at hq ⊢
 refine Bb.raw (SR R.1 R.2 f s m k _) ⟨fun hlt=>?_,fun hge=>?_⟩
 ·have hlt':k<s.Args.length:=by have:=AQ hlt;omega
  have hto:(k:Int).toNat=k:=by omega
  rw [hto]
  rw [B4 (d:=0) hlt'] at hq
  unfold FC at hq
  refine ⟨⟨by omega,by omega⟩,⟨by omega,by omega⟩,fun hy=>?_,fun hy=>⟨⟨by omega,by omega⟩,(stE f (s.Args.getD k 0) (m.getD k 0),(AV f (s.Args.getD k 0) (m.getD k 0)).2),MW hwf hsf _ _,fun hz=>?_,fun hz=>?_⟩⟩
  ·rw [AJ] at hy
   rw [hy,cond_true] at hq
   rw [Am (by omega)]
   exact ⟨s.Args.length - (k+1),by omega,Up.of ⟨k+1,f,by omega,rfl,hwf,hsf,hq,rfl⟩⟩
  ·rw [AJ] at hy hz
   rw [hy,cond_false,hz,cond_true] at hq
   subst hq
   have hst:stE f (s.Args.getD k 0) (m.getD k 0)=f:=by
    unfold stE
    rw [decide_eq_false (of_decide_eq_true hz)]<;>rfl
   rw [hst]
   exact ⟨⟨Ob.le_refl _,Ob.le_refl _,Ob.le_refl _,trivial⟩,VV.le_refl _⟩
  ·rw [AJ] at hy hz
   rw [hy,cond_false,hz,cond_false] at hq
   rw [Am (by omega)]
   obtain ⟨a,b⟩:=ZL hwf hsf (s.Args.getD k 0) (m.getD k 0)
   exact ⟨s.Args.length - (k+1),by omega,Up.of ⟨k+1,_,by omega,rfl,a,b,hq,rfl⟩⟩
 ·have hge':s.Args.length<=k:=by have:=AT hge;omega
  rw [List.drop_of_length_le hge'] at hq
  unfold FC at hq
  subst hq
  exact ⟨⟨Ob.le_refl _,Ob.le_refl _,Ob.le_refl _,trivial⟩,VV.le_refl _⟩
end
end Go.Proofs.YtiaebjpcgjkhoaaGreatDoor
namespace Go.Proofs.YtiaebjpcgjkhoaaGreatDoor
open Go.RowKit
theorem US {xs:List Int} (hr:xs.length*8<=140737488355328):Ai Tryz.prog 34 [] [Ad true xs] [.arr true 0 xs.length 1 (AG xs)] (.ow 0 0 xs.length):=by
 refine Ai.handN ⟨_,Tryz.func34,rfl,by kernel_rfl⟩ fun w E vs hA hL _ hbr hs=>?_
 obtain ⟨u1,us1,rfl,v1,hs⟩:=hs.cons_inv
 obtain rfl:=hs.nil_inv
 obtain ⟨ao,cap,rfl,h1,h2,h3⟩:=V.sl_inv v1
 refine (Fh h1 h2 hr fun hp=>?_).mono ?_
 ·obtain ⟨b,off,rfl,_,_,_,u,hc,hv⟩:=h3 hp
  refine ⟨_,rfl,fun i hi=>?_⟩
  have c1:=hc i 0 _ hi rfl
  have c2:=(hv i 0 _ hi rfl).sc_inv
  rw [Addr.add_lit]
  rw [c2] at c1
  simpa using c1
 ·rintro e w' ⟨v',rfl,ho,hb⟩
  obtain ⟨hd,c1,c2,c3⟩:=RV ho (fun u hu=>by
   obtain ⟨x,_,rfl⟩:=List.mem_map.1 hu
   rfl)
  have hat:addP EG 0 [Pl.arr 0 xs.length hd] 0=some (.arr 0 xs.length hd):=Dr (nx:=0) (i:=0) rfl
  refine ⟨v',[Pl.arr 0 xs.length hd],rfl,DO.one (Room.one hb fun k hk=>?_) ⟨rfl,rfl,c3 E _ _ (fun _ _=>rfl) fun i j x hi hx=>?_⟩,.ow hat (Nat.le_refl _) c1 fun _=>⟨rfl,Nat.le_refl _⟩⟩
  ·obtain ⟨cap',hk⟩:=hk
   exact (c2 k cap' hk).2.1
  ·match j,hx with
   | 0,hx =>
    obtain rfl:=Option.some.inj hx
    have:(xs.map (Value.int .i64)).getD (i*1+0) undef=.int .i64 (xs.getD i 0):=by simp [List.getD,hi]
    rw [this];exact .sc
   | j+1,hx=>simp [AG] at hx
theorem U2 {f:List D.Type} {args l:List Int} {k:Nat}:(KN f args l k).length=l.length:=by simp [KN]
theorem SE {f:List D.Type} {args l:List Int} {k i:Nat} (hi:i<l.length):(KN f args l k).getD i 0=if i<k then H7 (f.getD i default) (args.getD i 0) else l.getD i 0:=by simp [KN,List.getD,hi]
theorem AbB {f:List D.Type} {args l:List Int}:KN f args l 0=l:=by
 apply List.ext_getElem (by simp [KN])
 intro i h1 h2
 simp [KN,List.getD,h2]
theorem ZW {m:D.Model} {typ:Int} {args:List Int} (hw:Ay m) (h0:0<=typ/\typ<m.Procs.length) (_:args.length<=1048576) (h1:args.length<=(AK m typ).Frame.length) (h2:args.length<=(AK m typ).Init.length) :
  Ai Tryz.prog 79 [] [.agg (Ae m),Aa typ,Ad false args] [] (.agg (As (KM m typ args))):=by
 have hp:=hw.Procs.2 _ (Au (d:=default) (show typ.toNat<m.Procs.length by omega))
 have hi:(AK m typ).Init.length<=1048576:=hp.Init.1
 generalize hq:KM m typ args=r
 refine Ag Ak Aj Tryz.func79 (by kernel_rfl) rfl (AcC r m typ args) ⟨h0,(AK m typ).Init,US (by show (AK m typ).Init.length*8<=_;omega),?_⟩
 change AA _ _ (RF m typ args (AK m typ).Init 0)
 refine Bh Ak Aj (fun g st=>∃ k:Nat,k<=args.length/\g=args.length - k/\st=RF m typ args (KN (AK m typ).Frame args (AK m typ).Init k) k) (by kernel_rfl) (by kernel_rfl) ⟨_,Up.of ⟨0,Nat.zero_le _,rfl,by rw [AbB]<;>rfl⟩⟩ ?_
 rintro g st ⟨k,hk,rfl,rfl⟩
 generalize hL:(AK m typ).Init=l at *
 generalize hF:(AK m typ).Frame=f at *
 refine Bb.raw (ZX r m typ args (KN f args l k) k _) ⟨fun hlt=>?_,fun hge=>?_⟩
 ·have hlt':k<args.length:=by have:=AQ hlt;omega
  have hto:(k:Int).toNat=k:=by omega
  rw [hto,hF,U2]
  refine ⟨by omega,by omega,H7 (f.getD k default) (args.getD k 0),UB _ _,by omega,args.length - (k+1),by omega,Up.mk (hs':=[.box [Aa 0,Aa 0,Aa 0,.nl],.box (AZ (AK m typ)),.box [Aa typ,Aa (AK m typ).Start,Aa (AK m typ).Prio,.ow 3 0 l.length],.arr true 0 l.length 1 (AG (KN f args l (k+1)))]) (AY _) ⟨Ob.le_refl _,Ob.le_refl _,Ob.le_refl _,Ob.le_arr fun i hi=>A2 ?_,trivial⟩ ⟨k+1,by omega,rfl,?_⟩⟩
  ·by_cases hik:i=k
   ·subst hik
    simp only [Nat.beq_refl,cond_true]
    unfold AG
    rw [SE hi,if_pos (Nat.lt_succ_self _)]<;>rfl
   ·have hb:Nat.beq i k=false:=by
     cases hq:Nat.beq i k with
     | true=>exact absurd (Nat.eq_of_beq_eq_true hq) hik
     | false=>rfl
    simp only [hb,cond_false]
    unfold AG
    rw [SE hi,SE hi]
    by_cases h:i<k
    ·rw [if_pos h,if_pos (by omega)]<;>rfl
    ·rw [if_neg h,if_neg (by omega)]<;>rfl
  ·rw [Am (by omega)]
   unfold RF
   rw [U2]<;>rfl
 ·have hge':k=args.length:=by have:=AT hge;omega
  subst hge'
  subst hq
  refine ⟨trivial,VV.le_eq ?_⟩
  unfold KM
  rw [hL,hF]<;>rfl
theorem Z6 {m:D.Model} {typ:Int} {args:List Int} (hw:Ay m) (ha:args.length<=1048576):Ai Tryz.prog 50 [] [.agg (Ae m),Aa typ,Ad false args] [] (.tup [.agg (As (Ga m typ args).1),Aa (Ga m typ args).2]):=by
 have hq:Ga m typ args=bif !FO m then (Ac6,40)
   else bif decide (typ<0)||(decide ((m.Procs.length:Int)<=typ)||(decide (typ=m.Claim)||decide ((args.length:Int)≠(AK m typ).Params))) then (Ac6,42) else (KM m typ args,0):=rfl
 have hn:∀ c:Int,VV.le (.tup [.agg [Aa 0,Aa 0,Aa 0,.nl],Aa c]) (.tup [.agg (As Ac6),Aa c]):=fun c=>VV.le_tup ⟨VV.le_agg ⟨VV.le_refl _,VV.le_refl _,VV.le_refl _,VV.le_nil,trivial⟩,VV.le_refl _,trivial⟩
 generalize Ga m typ args=r at hq
 have e1:(bif bif bif decide (typ<(0:Int)) then true else decide (typ>=(m.Procs.length:Int)) then true else typ==m.Claim then true else (args.length:Int) != (m.Procs.getD typ.toNat default).Params)=(decide (typ<0)||(decide ((m.Procs.length:Int)<=typ)||(decide (typ=m.Claim)||decide ((args.length:Int)≠(AK m typ).Params)))):=by
  rw [Bool.eq_iff_iff];simp [AK,or_assoc]
 refine Ag Ak Aj Tryz.func50 (by kernel_rfl) rfl (AcI r.1 r.2 m typ args) ⟨FO m,Ua hw,fun h=>?_,fun h=>⟨fun h2=>?_,fun h2=>?_,fun h2=>?_⟩⟩
 ·rw [h,cond_true] at hq;subst hq;exact ⟨trivial,hn 40⟩
 ·simp at h2;omega
 ·rw [e1] at h2
  rw [h,cond_false,h2,cond_true] at hq;subst hq;exact ⟨trivial,hn 42⟩
 ·rw [e1] at h2
  rw [h,cond_false,h2,cond_false] at hq;subst hq
  simp only [Bool.or_eq_false_iff,decide_eq_false_iff_not] at h2
  have hm:FO m=true:=by simpa using h
  have h0:0<=typ/\typ<m.Procs.length:=⟨by omega,by omega⟩
  obtain ⟨f1,_⟩:=F4 (Dy hm).2.1 typ.toNat (by omega)
  have f1:DZ (AK m typ)=true:=f1
  unfold DZ at f1
  simp only [Bool.and_eq_true,decide_eq_true_eq] at f1
  have a1:=f1.1.1.1.1.1.1.1.2
  have a2:=f1.1.1.1.1.2
  exact ⟨_,ZW hw h0 ha (by omega) (by omega),trivial,VV.le_refl _⟩
end Go.Proofs.YtiaebjpcgjkhoaaGreatDoor
namespace Go.Proofs.YtiaebjpcgjkhoaaGreatDoor.Ch
open Go.RowKit
set_option maxRecDepth 100000 in
set_option maxHeartbeats 2000000 in
theorem Aaw {w:World} {fv qv mv:Value} {fs:List D.Type} {q:List (List Int)} {m:List Int} (room sh:Int) (sorted:Bool) (hfs:Is (Pkg.slice 2 16 GS) w [fv] fs) (hq:Is pQ w [qv] q) (hm:Is pM w [mv] m)
  (hsm:Small q) (hq1:(q.length+1)*24<=140737488355328) (hm8:m.length*8<=140737488355328) :
  Calls Tryz.prog 66 #[.agg #[.int .i64 room,fv],.agg #[.int .i64 sh,qv],mv,.bool sorted] w fun e w' =>
   (∃ ov vs,e=.returned (.tuple #[.agg #[.int .i64 (putSh room fs q m sh),ov],.int .i64 (putE room fs q m)])/\BR w' w.heap.size ov vs (putQ room fs q m sorted))/\Below w.heap.size w w':=by
 obtain ⟨mo,mc,rfl,hm1,hm2,hmw,hm3⟩:=JN hm
 obtain ⟨fo,fc,rfl,hf1,hf2,hf3⟩:=Adl hfs
 obtain ⟨qo,qc,rfl,hqa,hqb,hqc⟩:=FY hq
 obtain ⟨ki,khi,khz0,khz1,khz2⟩:=Cc I0
 have hm2':=hm2
 have hf2':=hf2
 have hqb':=hqb
 unfold maxLen at hm2' hf2' hqb'
 by_cases hl:m.length=fs.length
 ·have hne:((m.length:Int) != (fs.length:Int))=false:=by simp [hl]
  have HL:=Lib.hid hl
  have hle1:=Nat.le_of_eq hl
  have hle2:=Nat.le_of_eq hl.symm
  clear hl
  go_enter Tryz.func66,Tryz.ntmps66
  go_wp2_with (at_make;refine wpList_make_full _ rfl (.tmp 24) (.tmp 24) 83 rfl w.heap.size 2 ki (.int .i64 0) 1 Tryz.underlying83 khi khz0 khz1 .i64 .i64 _ _ m.length rfl rfl ?hL ?hC ?b2 ?b3 ?b4 ?hK)
  case hL=>omega
  case hC=>omega
  case b2=>rw [khz2];omega
  case b3=>unfold maxLen;omega
  case b4=>simp;omega
  case hK =>
   intro w1 hown1 hgrow1
   have P0:PF w (w1.alloc (.cells #[.slice (some ⟨w.heap.size+3,0,none⟩) m.length m.length] 83)) room sh (.slice fo fs.length fc) (.slice qo q.length qc) w1.heap.size m.length (GK fs m 0):=by
    have hs1:=hgrow1.size
    simp at hs1
    refine ⟨?_,?_,?_,heap_alloc_new _ _,⟨?_,fun i hi=>?_⟩,Q0 HL.out (Nat.zero_le _),?_⟩
    ·rw [Below.heap_alloc _ _ _ (by omega),hgrow1.block _ (by simp;omega) (by simp)]
     rw [Below.heap_alloc _ _ _ (by simp;omega),Below.heap_alloc _ _ _ (by simp)]
     exact heap_alloc_new _ _
    ·rw [Below.heap_alloc _ _ _ (by omega),hgrow1.block _ (by simp) (by simp)]
     rw [Below.heap_alloc _ _ _ (by simp)]
     have:=heap_alloc_new (w.alloc (.cells #[.int .i64 room,.slice fo fs.length fc] 82)) (.cells #[.int .i64 sh,.slice qo q.length qc] 80)
     simpa using this
    ·rw [Below.heap_alloc _ _ _ (by omega),hgrow1.block _ (by simp) (by simp)]
     have:=heap_alloc_new ((w.alloc (.cells #[.int .i64 room,.slice fo fs.length fc] 82)).alloc (.cells #[.int .i64 sh,.slice qo q.length qc] 80)) (.cells #[.int .i64 0,.slice none 0 0] 80)
     simpa using this
    ·have hz:(GK fs m 0).map (Value.int .i64)=(madeCells #[Value.int .i64 0] m.length).toList:=by rw [YQ];simp [GK]
     rw [hz,Q0 HL.out (Nat.zero_le _)]
     exact hown1.alloc _
    ·have:(GK fs m 0).getD i 0=0:=by simp [GK,List.getD,List.getElem?_replicate];split<;>rfl
     rw [this];rfl
    ·exact (((((Below.refl _ w).alloc (Nat.le_refl _) _).alloc (by simp) _).alloc (by simp;omega) _).grown hgrow1 (by simp;omega) (by simp)).alloc (by omega) _
   clear hown1 hgrow1
   have c0:=Ah P0.b0 (i:=1) rfl
   go_wp2
   go_loopw [29] (fun i wr=>∃ k:Nat,k<=m.length/\i=.int .i64 k/\(∀ j t,j<k->fs[j]?=some t->typeP t=true)/\PF w wr room sh (.slice fo fs.length fc) (.slice qo q.length qc) w1.heap.size m.length (GK fs m k)) (fun i _=>m.length - (intOf i).toNat)
   case atStart=>exact ⟨0,Nat.zero_le _,rfl,fun j t h=>by omega,P0⟩
   case round =>
    obtain ⟨k,hk,rfl,hty,hp⟩:=hrel
    by_cases hlt:k<m.length
    ·obtain ⟨mb,moff,rfl,hmb,hmc⟩:=hm3 (by omega)
     obtain ⟨fb,foff,rfl,hfb,hfc⟩:=hf3 (by omega)
     have ht:fs[k]?=some fs[k]:=by simp [show k<fs.length by omega]
     obtain ⟨hc0,hc1⟩:=hfc k _ ht
     have hm0:=hmc k hlt
     have hset:=Abe HL.out hlt _ ht
     have hwf:=AgA fs[k].Bits (m.getD k 0) fs[k].Signed
     rw [← hp.below.cell (p:=⟨fb,foff+k*2,none⟩) hfb] at hc0
     rw [← hp.below.cell (p:=⟨fb,foff+k*2+1,none⟩) hfb] at hc1
     have hsz:=hp.below.size
     obtain ⟨hlt2,hltX⟩:=hp.lt
     have HT:=Lib.hid ht
     have HSET:=Lib.hid hset
     clear hmc hfc hm hm3 hf3 ht hset hqc hfs hq
     generalize fs[k]=t at *
     generalize m.getD k 0=z at *
     obtain ⟨tb,ts⟩:=t
     have hA:Below wr.heap.size wr (wr.alloc (.cells #[.int .i64 tb,.bool ts] 114)):=D6 _ _
     have HG:=Ux ⟨tb,ts⟩ (wr.alloc (.cells #[.int .i64 tb,.bool ts] 114))
     unfold tyV at HG
     by_cases hgt:typeP ⟨tb,ts⟩=true
     ·rw [hgt] at HG
      have HTY:Hid (∀ j t,j<k+1->fs[j]?=some t->typeP t=true):=by
       intro j t hj he
       by_cases e:j=k
       ·subst e;rw [HT.out] at he;cases he;exact hgt
       ·exact hty j t (by omega) he
      clear hty
      go_wp2_with fail
      refine HG.mono ?_;rintro e w2 ⟨rfl,hb2⟩
      have hp2:=(hp.kept hA).kept hb2
      have hT2:w2.heap[wr.heap.size]?=some (.cells #[.int .i64 tb,.bool ts] 114 (0,0)):=(hb2.block _ (by simp)).trans (heap_alloc_new _ _)
      have mc2:w2.cell? ⟨mb,moff+k,none⟩=some (.int .i64 z):=(hp2.below.cell (p:=⟨mb,moff+k,none⟩) hmb).trans hm0
      have t0:w2.cell? ⟨wr.heap.size,0,none⟩=some (.int .i64 tb):=Ah hT2 rfl
      have t1:w2.cell? ⟨wr.heap.size,1,none⟩=some (.bool ts):=Ah hT2 rfl
      have x0:w2.cell? ⟨w1.heap.size,0,none⟩=some (.slice (some ⟨w.heap.size+3,0,none⟩) m.length m.length):=Ah hp2.b4 rfl
      have hT3:=BQ hT2
      have hX3:=BQ hp2.b4
      have hm3':mb<w2.heap.size:=by have:=hb2.size;simp at this;omega
      go_wp2
      go_region_with (go_at_call 91;(with_reducible refine (Aeh _ _ _ _).mono ?_);rintro e w3 ⟨rfl,hb3⟩;obtain ⟨hc3,hf3⟩:=AdZ hb3;have hp3:=hp2.kept (w2:=w3) ⟨hb3.os,hb3.tape,hb3.output,hb3.size,hb3.block⟩;have x3:=hp3.cell hlt;have f3:=hp3.free k;have x03:=Ah hp3.b4 (i:=0) rfl;have HP:Hid (PF w (w3.setCell ⟨w.heap.size+3,k,none⟩ (.int .i64 (DS tb ts z))) room sh (.slice (some ⟨fb,foff,none⟩) fs.length fc) (.slice qo q.length qc) w1.heap.size m.length (GK fs m (k+1))):=(by have:=hp3.set hwf hlt;rw [HSET.out] at this;exact this))
      all_goals
       go_wp2
       go_roundw
       case rel=>exact ⟨k+1,by omega,by go_num,HTY.out,HP.out⟩
       case measure=>simp [intOf];omega
     ·have HE:Hid (putE room fs q m=42):=by
       unfold Hid putE
       rw [if_neg (by simp [HL.out]),if_pos]
       simp only [List.all_eq_false]
       exact ⟨_,List.mem_iff_getElem?.2 ⟨k,HT.out⟩,hgt⟩
      rw [Bool.eq_false_iff.2 hgt] at HG
      clear hty
      go_wp2_with fail
      refine HG.mono ?_;rintro e w2 ⟨rfl,hb2⟩
      have hp2:=(hp.kept hA).kept hb2
      have r0:w2.cell? ⟨w.heap.size+2,0,none⟩=some (.int .i64 0):=Ah hp2.b2 rfl
      have r1:w2.cell? ⟨w.heap.size+2,1,none⟩=some (.slice none 0 0):=Ah hp2.b2 rfl
      have f0:w2.frozen? ⟨w.heap.size+2,0,none⟩=false:=Aw hp2.b2
      have f1:w2.frozen? ⟨w.heap.size+2,1,none⟩=false:=Aw hp2.b2
      go_wp2
      have hres:((w2.setCell ⟨w.heap.size+2,0,none⟩ (.int .i64 0)).setCell ⟨w.heap.size+2,1,none⟩ (.slice none 0 0)).heap[w.heap.size+2]?=some (.cells #[.int .i64 0,.slice none 0 0] 80 (0,0)):=by
       rw [A3 (A3 hp2.b2 _)];rfl
      refine Dx rfl rfl hres Tryz.underlying80 rfl (by kernel_rfl) rfl ⟨⟨.slice none 0 0,[],?_,?_⟩,?_⟩
      ·rw [HE.out,Mp HE.out (by decide)];rfl
      ·rw [OZ HE.out (by decide)];exact BR.nil _ _
      ·exact (hp2.below.setCell (p:=⟨w.heap.size+2,0,none⟩) (Nat.le_add_right _ _) _).setCell (p:=⟨w.heap.size+2,1,none⟩) (Nat.le_add_right _ _) _
    ·obtain rfl:k=m.length:=by omega
     rw [Abf HL.out] at hp
     have b0:wr.cell? ⟨w.heap.size,0,none⟩=some (.int .i64 room):=Ah hp.b0 rfl
     have b1:wr.cell? ⟨w.heap.size+1,0,none⟩=some (.int .i64 sh):=Ah hp.b1 rfl
     have b2:wr.cell? ⟨w.heap.size+1,1,none⟩=some (.slice qo q.length qc):=Ah hp.b1 rfl
     have hall:fs.all typeP=true:=by
      rw [List.all_eq_true]
      intro t ht
      obtain ⟨j,hj⟩:=List.mem_iff_getElem?.1 ht
      exact hty j t (by have:=(List.getElem?_eq_some_iff.1 hj).1;omega) hj
     clear hty hm3 hf3
     by_cases hroom:room<=q.length
     ·have HE:Hid (putE room fs q m=45):=by
       unfold Hid putE
       rw [if_neg (by simp [HL.out]),if_neg (by simp [hall]),if_pos hroom]
      have r0:wr.cell? ⟨w.heap.size+2,0,none⟩=some (.int .i64 0):=Ah hp.b2 rfl
      have r1:wr.cell? ⟨w.heap.size+2,1,none⟩=some (.slice none 0 0):=Ah hp.b2 rfl
      have f0:wr.frozen? ⟨w.heap.size+2,0,none⟩=false:=Aw hp.b2
      have f1:wr.frozen? ⟨w.heap.size+2,1,none⟩=false:=Aw hp.b2
      go_wp2
      have hres:((wr.setCell ⟨w.heap.size+2,0,none⟩ (.int .i64 0)).setCell ⟨w.heap.size+2,1,none⟩ (.slice none 0 0)).heap[w.heap.size+2]?=some (.cells #[.int .i64 0,.slice none 0 0] 80 (0,0)):=by
       rw [A3 (A3 hp.b2 _)];rfl
      refine Dx rfl rfl hres Tryz.underlying80 rfl (by kernel_rfl) rfl ⟨⟨.slice none 0 0,[],?_,?_⟩,?_⟩
      ·rw [HE.out,Mp HE.out (by decide)];rfl
      ·rw [OZ HE.out (by decide)];exact BR.nil _ _
      ·exact (hp.below.setCell (p:=⟨w.heap.size+2,0,none⟩) (Nat.le_add_right _ _) _).setCell (p:=⟨w.heap.size+2,1,none⟩) (Nat.le_add_right _ _) _
     ·have HE:Hid (putE room fs q m=0):=by
       unfold Hid putE
       rw [if_neg (by simp [HL.out]),if_neg (by simp [hall]),if_neg hroom]
      have HC:=L6 sh (hq.below X3 hp.below) hsm
      go_wp2_with fail
      refine HC.mono ?_;rintro e w2 ⟨ov,vs,rfl,hown2,hb2⟩
      obtain ⟨oo,oc,rfl,_⟩:=DR hown2.row
      have hpO:=(hp.kept hb2).kept (D6 _ (.cells #[.int .i64 sh,.slice oo q.length oc] 80))
      have hOO:(w2.alloc (.cells #[.int .i64 sh,.slice oo q.length oc] 80)).heap[w2.heap.size]?=_:=heap_alloc_new _ _
      have hownO:=(hown2.base hp.below.size).alloc (.cells #[.int .i64 sh,.slice oo q.length oc] 80)
      have xO:(w2.alloc (.cells #[.int .i64 sh,.slice oo q.length oc] 80)).cell? ⟨w1.heap.size,0,none⟩=some (.slice (some ⟨w.heap.size+3,0,none⟩) m.length m.length):=Ah hpO.b4 rfl
      have HX:=Ur hownO.is xO hpO.x.is
      have hn1:w.heap.size+2≠w2.heap.size:=by have h1:=hb2.size;have h2:=hp.lt;omega
      have hn2:w2.heap.size≠w.heap.size+2:=fun e=>hn1 e.symm
      have hn3:w.heap.size<=w2.heap.size:=by have h1:=hb2.size;have h2:=hp.lt;omega
      have HSH:Hid (putSh room fs q m sh=sh):=by unfold Hid putSh;rw [HE.out,if_pos rfl]
      clear hown2 HC hq P0 c0 b0 b1 b2
      cases sorted with
      | false =>
       have HI:=Yh hpO hownO hOO q.length (w2.heap.size+1) (by simp) (Nat.le_refl _) hq1
       have HQ:Hid (putQ room fs q m false=putAt q q.length (fitM fs m)):=by unfold Hid putQ putX;rw [HE.out,if_pos rfl];rfl
       go_wp2_with fail
       refine HI.mono ?_;rintro e w4 ⟨ao,cap,vs',rfl,hq4,hO4,hr4,hb4⟩
       have cO0:w4.cell? ⟨w2.heap.size,0,none⟩=some (.int .i64 sh):=Ah hO4 rfl
       have cO1:w4.cell? ⟨w2.heap.size,1,none⟩=some (.slice oo q.length oc):=Ah hO4 rfl
       have fO1:w4.frozen? ⟨w2.heap.size,1,none⟩=false:=Aw hO4
       have r0:w4.cell? ⟨w.heap.size+2,0,none⟩=some (.int .i64 0):=Ah hr4 rfl
       have r1:w4.cell? ⟨w.heap.size+2,1,none⟩=some (.slice none 0 0):=Ah hr4 rfl
       have f0:w4.frozen? ⟨w.heap.size+2,0,none⟩=false:=Aw hr4
       have f1:w4.frozen? ⟨w.heap.size+2,1,none⟩=false:=Aw hr4
       go_wp2
       have hO5:=A3 (i:=1) hO4 (.slice ao (q.length+1) cap)
       have hr5:(w4.setCell ⟨w2.heap.size,1,none⟩ (.slice ao (q.length+1) cap)).heap[w.heap.size+2]?=_:=(Below.heap_setCell _ _ _ _ hn1).trans hr4
       have hres:(((w4.setCell ⟨w2.heap.size,1,none⟩ (.slice ao (q.length+1) cap)).setCell ⟨w.heap.size+2,0,none⟩ (.int .i64 sh)).setCell ⟨w.heap.size+2,1,none⟩ (.slice ao (q.length+1) cap)).heap[w.heap.size+2]?=some (.cells #[.int .i64 sh,.slice ao (q.length+1) cap] 80 (0,0)):=by
        rw [A3 (A3 hr5 _)];rfl
       refine Dx rfl rfl hres Tryz.underlying80 rfl (by kernel_rfl) rfl ⟨⟨.slice ao (q.length+1) cap,vs',?_,?_⟩,?_⟩
       ·rw [HE.out,HSH.out];rfl
       ·rw [HQ.out];exact ((hq4.set hO4 (by decide) (by decide) _).set hr5 (by decide) (by decide) _).set (A3 hr5 _) (by decide) (by decide) _
       ·exact ((hb4.setCell (p:=⟨w2.heap.size,1,none⟩) hn3 _).setCell (p:=⟨w.heap.size+2,0,none⟩) (Nat.le_add_right _ _) _).setCell (p:=⟨w.heap.size+2,1,none⟩) (Nat.le_add_right _ _) _
      | true =>
       have HQ:Hid (putQ room fs q m true=putAt q (DM (fitM fs m) q) (fitM fs m)):=by unfold Hid putQ putX;rw [HE.out,if_pos rfl];rfl
       go_wp2_with fail
       refine HX.mono ?_;rintro e w3 ⟨rfl,nq,rfl⟩
       have hle:=Q1 (fitM fs m) q
       have HI:=Yh (wO:=(w2.alloc (.cells #[.int .i64 sh,.slice oo q.length oc] 80)).drewN nq) (hpO.kept (below_drewN (Below.refl _ _) nq)) (hownO.same fun _ _ _=>rfl) hOO (DM (fitM fs m) q) (w2.heap.size+1) (by simp) hle hq1
       by_cases hf:DM (fitM fs m) q<q.length
       ·have HIX:Hid (H5 (fitM fs m) q=(DM (fitM fs m) q:Nat)):=by unfold Hid H5;rw [if_pos hf]
        rw [HIX.out]
        generalize DM (fitM fs m) q=at_ at *
        go_wp2_with fail
        refine HI.mono ?_;rintro e w4 ⟨ao,cap,vs',rfl,hq4,hO4,hr4,hb4⟩
        have cO0:w4.cell? ⟨w2.heap.size,0,none⟩=some (.int .i64 sh):=Ah hO4 rfl
        have cO1:w4.cell? ⟨w2.heap.size,1,none⟩=some (.slice oo q.length oc):=Ah hO4 rfl
        have fO1:w4.frozen? ⟨w2.heap.size,1,none⟩=false:=Aw hO4
        have r0:w4.cell? ⟨w.heap.size+2,0,none⟩=some (.int .i64 0):=Ah hr4 rfl
        have r1:w4.cell? ⟨w.heap.size+2,1,none⟩=some (.slice none 0 0):=Ah hr4 rfl
        have f0:w4.frozen? ⟨w.heap.size+2,0,none⟩=false:=Aw hr4
        have f1:w4.frozen? ⟨w.heap.size+2,1,none⟩=false:=Aw hr4
        go_wp2
        have hO5:=A3 (i:=1) hO4 (.slice ao (q.length+1) cap)
        have hr5:(w4.setCell ⟨w2.heap.size,1,none⟩ (.slice ao (q.length+1) cap)).heap[w.heap.size+2]?=_:=(Below.heap_setCell _ _ _ _ hn1).trans hr4
        have hres:(((w4.setCell ⟨w2.heap.size,1,none⟩ (.slice ao (q.length+1) cap)).setCell ⟨w.heap.size+2,0,none⟩ (.int .i64 sh)).setCell ⟨w.heap.size+2,1,none⟩ (.slice ao (q.length+1) cap)).heap[w.heap.size+2]?=some (.cells #[.int .i64 sh,.slice ao (q.length+1) cap] 80 (0,0)):=by
         rw [A3 (A3 hr5 _)];rfl
        refine Dx rfl rfl hres Tryz.underlying80 rfl (by kernel_rfl) rfl ⟨⟨.slice ao (q.length+1) cap,vs',?_,?_⟩,?_⟩
        ·rw [HE.out,HSH.out];rfl
        ·rw [HQ.out];exact ((hq4.set hO4 (by decide) (by decide) _).set hr5 (by decide) (by decide) _).set (A3 hr5 _) (by decide) (by decide) _
        ·exact ((hb4.setCell (p:=⟨w2.heap.size,1,none⟩) hn3 _).setCell (p:=⟨w.heap.size+2,0,none⟩) (Nat.le_add_right _ _) _).setCell (p:=⟨w.heap.size+2,1,none⟩) (Nat.le_add_right _ _) _
       ·have HIX:Hid (H5 (fitM fs m) q=-1):=by unfold Hid H5;rw [if_neg hf]
        rw [HIX.out]
        have he:DM (fitM fs m) q=q.length:=by omega
        rw [he] at HI HQ
        go_wp2_with fail
        refine HI.mono ?_;rintro e w4 ⟨ao,cap,vs',rfl,hq4,hO4,hr4,hb4⟩
        have cO0:w4.cell? ⟨w2.heap.size,0,none⟩=some (.int .i64 sh):=Ah hO4 rfl
        have cO1:w4.cell? ⟨w2.heap.size,1,none⟩=some (.slice oo q.length oc):=Ah hO4 rfl
        have fO1:w4.frozen? ⟨w2.heap.size,1,none⟩=false:=Aw hO4
        have r0:w4.cell? ⟨w.heap.size+2,0,none⟩=some (.int .i64 0):=Ah hr4 rfl
        have r1:w4.cell? ⟨w.heap.size+2,1,none⟩=some (.slice none 0 0):=Ah hr4 rfl
        have f0:w4.frozen? ⟨w.heap.size+2,0,none⟩=false:=Aw hr4
        have f1:w4.frozen? ⟨w.heap.size+2,1,none⟩=false:=Aw hr4
        go_wp2
        have hO5:=A3 (i:=1) hO4 (.slice ao (q.length+1) cap)
        have hr5:(w4.setCell ⟨w2.heap.size,1,none⟩ (.slice ao (q.length+1) cap)).heap[w.heap.size+2]?=_:=(Below.heap_setCell _ _ _ _ hn1).trans hr4
        have hres:(((w4.setCell ⟨w2.heap.size,1,none⟩ (.slice ao (q.length+1) cap)).setCell ⟨w.heap.size+2,0,none⟩ (.int .i64 sh)).setCell ⟨w.heap.size+2,1,none⟩ (.slice ao (q.length+1) cap)).heap[w.heap.size+2]?=some (.cells #[.int .i64 sh,.slice ao (q.length+1) cap] 80 (0,0)):=by
         rw [A3 (A3 hr5 _)];rfl
        refine Dx rfl rfl hres Tryz.underlying80 rfl (by kernel_rfl) rfl ⟨⟨.slice ao (q.length+1) cap,vs',?_,?_⟩,?_⟩
        ·rw [HE.out,HSH.out];rfl
        ·rw [HQ.out];exact ((hq4.set hO4 (by decide) (by decide) _).set hr5 (by decide) (by decide) _).set (A3 hr5 _) (by decide) (by decide) _
        ·exact ((hb4.setCell (p:=⟨w2.heap.size,1,none⟩) hn3 _).setCell (p:=⟨w.heap.size+2,0,none⟩) (Nat.le_add_right _ _) _).setCell (p:=⟨w.heap.size+2,1,none⟩) (Nat.le_add_right _ _) _
 ·have HE:Hid (putE room fs q m=42):=by
   unfold Hid putE;rw [if_pos hl]
  have hne:((m.length:Int) != (fs.length:Int))=true:=by simp;omega
  clear hl
  go_enter Tryz.func66,Tryz.ntmps66
  go_wp2
  have hres:(((w.alloc (.cells #[.int .i64 room,.slice fo fs.length fc] 82)).alloc (.cells #[.int .i64 sh,.slice qo q.length qc] 80)).alloc (.cells #[.int .i64 0,.slice none 0 0] 80)).heap[w.heap.size+2]?=some (.cells #[.int .i64 0,.slice none 0 0] 80 (0,0)):=by
   have:=heap_alloc_new ((w.alloc (.cells #[.int .i64 room,.slice fo fs.length fc] 82)).alloc (.cells #[.int .i64 sh,.slice qo q.length qc] 80)) (.cells #[.int .i64 0,.slice none 0 0] 80)
   simpa using this
  refine Dx rfl rfl hres Tryz.underlying80 rfl (by kernel_rfl) rfl ⟨⟨.slice none 0 0,[],?_,?_⟩,?_⟩
  ·rw [HE.out,Mp HE.out (by decide)];rfl
  ·rw [OZ HE.out (by decide)];exact BR.nil _ _
  ·exact (((Below.refl _ w).alloc (Nat.le_refl _) _).alloc (by simp) _).alloc (by simp;omega) _
end Go.Proofs.YtiaebjpcgjkhoaaGreatDoor.Ch
namespace Go.Proofs.YtiaebjpcgjkhoaaGreatDoor.Ch
open Go.RowKit
def WfM (m:List Int):Prop:=∀ x∈m,(Lit.int .i64 x).wf=true
def WfQ (q:List (List Int)):Prop:=∀ m∈q,WfM m
def WfTs (l:List D.Type):Prop:=∀ t∈l,(Lit.int .i64 t.Bits).wf=true
section
variable {w : World} {E:AR} {m:Option Phi} {v:Value}
theorem Sp {α:Type} {l:List α} {i:Nat} {x d:α} (h:l[i]?=some x):l.getD i d=x:=by simp [List.getD,h]
theorem Yw {fz:Bool} {x:List Int} (h:V w E m (Ad fz x) v) (hw:WfM x):Is pM w [v] x:=by
 obtain ⟨a,cap,rfl,h1,h2,h3⟩:=V.sl_inv h
 refine ⟨a,cap,rfl,h1,h2,fun hp=>?_⟩
 obtain ⟨b,off,rfl,hb,_,_,u,hc,hv⟩:=h3 hp
 refine ⟨b,off,rfl,hb,fun i y hy=>⟨[.int .i64 y],rfl,fun k hk=>?_,rfl,hw y (List.mem_of_getElem? hy)⟩⟩
 obtain rfl:k=0:=by omega
 have hi:i<x.length:=(List.getElem?_eq_some_iff.1 hy).1
 have h1:=hc i 0 _ hi rfl
 have h2:=(hv i 0 _ hi rfl).sc_inv
 rw [Sp hy] at h2
 rw [h1,h2];rfl
theorem Sk {q:List (List Int)} (h:V w E m (Bx true q) v) (hw:WfQ q):Is pQ w [v] q:=by
 obtain ⟨a,cap,rfl,h1,h2,h3⟩:=V.sl_inv h
 refine ⟨a,cap,rfl,h1,h2,fun hp=>?_⟩
 obtain ⟨b,off,rfl,hb,_,_,u,hc,hv⟩:=h3 hp
 refine ⟨b,off,rfl,hb,fun i y hy=>⟨[u i 0],rfl,fun k hk=>?_,?_⟩⟩
 ·obtain rfl:k=0:=by omega
  have hi:i<q.length:=(List.getElem?_eq_some_iff.1 hy).1
  rw [hc i 0 _ hi rfl];rfl
 ·have hi:i<q.length:=(List.getElem?_eq_some_iff.1 hy).1
  have:=hv i 0 _ hi rfl
  rw [Sp hy] at this
  exact Yw this (hw y (List.mem_of_getElem? hy))
theorem Adm {l:List D.Type} (h:V w E m (AE true l) v) (hw:WfTs l):Is (Pkg.slice 2 16 GS) w [v] l:=by
 obtain ⟨a,cap,rfl,h1,h2,h3⟩:=V.sl_inv h
 refine ⟨a,cap,rfl,h1,h2,fun hp=>?_⟩
 obtain ⟨b,off,rfl,hb,_,_,u,hc,hv⟩:=h3 hp
 refine ⟨b,off,rfl,hb,fun i y hy=>⟨[.int .i64 y.Bits,.bool y.Signed],rfl,fun k hk=>?_,?_⟩⟩
 ·have hi:i<l.length:=(List.getElem?_eq_some_iff.1 hy).1
  have e0:=(hv i 0 _ hi rfl).sc_inv
  have e1:=(hv i 1 _ hi rfl).sc_inv
  rw [Sp hy] at e0 e1
  match k,hk with
  | 0,_=>rw [hc i 0 _ hi rfl,e0];rfl
  | 1,_=>rw [hc i 1 _ hi rfl,e1];rfl
 ·exact ⟨[.int .i64 y.Bits],[.bool y.Signed],rfl,rfl,⟨rfl,hw y (List.mem_of_getElem? hy)⟩,[.bool y.Signed],[],rfl,rfl,rfl,rfl⟩
theorem Ab9 {n0:Nat} {x:List Int} (h:Fo w n0 v x) (hA:∀ k,E.fz k->k<n0):V w E m (Ad true x) v:=by
 obtain ⟨ao,cap,rfl,h1,h2,h3⟩:=DR h.row
 refine V.sl_mk h1 h2 fun hp=>?_
 obtain ⟨g,rfl,hg,hlt,hc⟩:=h3 hp
 refine ⟨g,0,rfl,hlt,fun hk=>by have:=hA g hk;omega,fun i _=>rfl,fun i _=>.int .i64 (x.getD i 0),fun i j y hi hy=>?_,fun i j y hi hy=>?_⟩
 ·match j,hy with
  | 0,_ =>
   have:=hc i hi
   simp only [Nat.zero_add,Nat.mul_one,Nat.add_zero]
   rw [this];simp [List.getD,hi]
  | j+1,hy=>simp at hy
 ·match j,hy with
  | 0,hy=>simp only [List.getElem?_cons_zero,Option.some.injEq] at hy;subst hy;exact .sc
  | j+1,hy=>simp at hy
theorem Ab8 {n0:Nat} {vs:List Value} {q:List (List Int)} (h:BR w n0 v vs q) (hA:∀ k,E.fz k->k<n0):V w E m (Bx true q) v:=by
 obtain ⟨ao,cap,rfl,h1,h2,h3⟩:=DR h.row
 refine V.sl_mk h1 h2 fun hp=>?_
 obtain ⟨g,rfl,hg,hlt,hc⟩:=h3 hp
 refine ⟨g,0,rfl,hlt,fun hk=>by have:=hA g hk;omega,fun i _=>rfl,fun i _=>vs.getD i undef,fun i j y hi hy=>?_,fun i j y hi hy=>?_⟩
 ·match j,hy with
  | 0,_ =>
   have:=hc i hi
   simp only [Nat.zero_add,Nat.mul_one,Nat.add_zero]
   rw [this];simp [List.getD,h.len,hi]
  | j+1,hy=>simp at hy
 ·match j,hy with
  | 0,hy =>
   simp only [List.getElem?_cons_zero,Option.some.injEq] at hy
   subst hy
   have hv:vs[i]?=some (vs.getD i undef):=by simp [List.getD,h.len,hi]
   have hq:q[i]?=some (q.getD i []):=by simp [List.getD,hi]
   exact Ab9 (h.each i _ _ hv hq) hA
  | j+1,hy=>simp at hy
end
theorem put_spec (room sh:Int) (sorted:Bool) {fs:List D.Type} {q:List (List Int)} {m:List Int} (h1:WfTs fs) (h2:WfQ q) (h3:WfM m) (hsm:Small q) (hq1:(q.length+1)*24<=140737488355328) (hm8:m.length*8<=140737488355328) :
  Ai Tryz.prog 66 [] [.agg [Aa room,AE true fs],.agg [Aa sh,Bx true q],Ad true m,.sc (.bool sorted)] [] (.tup [.agg [Aa (putSh room fs q m sh),Bx true (putQ room fs q m sorted)],.sc (.int .i64 (putE room fs q m))]):=by
 refine Ai.hand ⟨_,Tryz.func66,rfl,by kernel_rfl⟩ fun w E vs hA _ _ _ hs=>?_
 obtain ⟨u1,us1,rfl,v1,hs⟩:=hs.cons_inv
 obtain ⟨u2,us2,rfl,v2,hs⟩:=hs.cons_inv
 obtain ⟨u3,us3,rfl,v3,hs⟩:=hs.cons_inv
 obtain ⟨u4,us4,rfl,v4,hs⟩:=hs.cons_inv
 obtain rfl:=hs.nil_inv
 obtain ⟨r,fv,rfl,hr,hf⟩:=V.agg2_inv v1
 obtain ⟨s,qv,rfl,hs',hq⟩:=V.agg2_inv v2
 rw [hr.sc_inv,hs'.sc_inv,v4.sc_inv]
 refine (Aaw room sh sorted (Adm hf h1) (Sk hq h2) (Yw v3 h3) hsm hq1 hm8).mono ?_
 rintro e w' ⟨⟨ov,vs,rfl,ho⟩,hb⟩
 exact ⟨_,rfl,Rv (VK .sc (Ab8 ho hA)) .sc,hb⟩
theorem take_spec (sh:Int) (n:Nat) {q:List (List Int)} (h2:WfQ q) (hsm:Small q) (hn:n<q.length) :
  Ai Tryz.prog 68 [] [.agg [Aa sh,Bx true q],.sc (.int .i64 n)] [] (.tup [.agg [Aa sh,Bx true (cutAt q n)],Ad true (q.getD n []),.sc (.int .i64 0)]):=by
 refine Ai.hand ⟨_,Tryz.func68,rfl,by kernel_rfl⟩ fun w E vs hA _ _ _ hs=>?_
 obtain ⟨u1,us1,rfl,v1,hs⟩:=hs.cons_inv
 obtain ⟨u2,us2,rfl,v2,hs⟩:=hs.cons_inv
 obtain rfl:=hs.nil_inv
 obtain ⟨s,qv,rfl,hs',hq⟩:=V.agg2_inv v1
 rw [hs'.sc_inv,v2.sc_inv]
 refine (VR sh n (Sk hq h2) hsm hn).mono ?_
 rintro e w' ⟨ov,vs,mv,rfl,ho,hm,hb⟩
 exact ⟨_,rfl,Ab7 (VK .sc (Ab8 ho hA)) (Ab9 hm hA) .sc,hb⟩
theorem take_none_spec (sh n:Int) {q:List (List Int)} (h2:WfQ q) (hn:n<0∨(q.length:Int)<=n) :
  Ai Tryz.prog 68 [] [.agg [Aa sh,Bx true q],.sc (.int .i64 n)] [] (.tup [.agg [Aa 0,Bx true []],Ad true [],.sc (.int .i64 46)]):=by
 refine Ai.hand ⟨_,Tryz.func68,rfl,by kernel_rfl⟩ fun w E vs hA _ _ _ hs=>?_
 obtain ⟨u1,us1,rfl,v1,hs⟩:=hs.cons_inv
 obtain ⟨u2,us2,rfl,v2,hs⟩:=hs.cons_inv
 obtain rfl:=hs.nil_inv
 obtain ⟨s,qv,rfl,hs',hq⟩:=V.agg2_inv v1
 rw [hs'.sc_inv,v2.sc_inv]
 refine (ZC sh n (Sk hq h2) hn).mono ?_
 rintro e w' ⟨rfl,hb⟩
 exact ⟨_,rfl,Ab7 (VK .sc (.nil (Nat.zero_le _))) (.nil (Nat.zero_le _)) .sc,hb⟩
end Go.Proofs.YtiaebjpcgjkhoaaGreatDoor.Ch
namespace Go.Proofs.YtiaebjpcgjkhoaaGreatDoor
open Go.RowKit
theorem AbW {v:Int} (h:B33 v):(Lit.int .i64 v).wf=true:=by
 unfold B33 at h
 simp only [Lit.wf,Bool.and_eq_true,decide_eq_true_eq]
 show -9223372036854775808<=v/\v<=9223372036854775807
 omega
theorem S9 {t:List D.Type} {l:List Int} (h:AX t l=true):Ch.WfM l:=fun x hx=>by
 obtain ⟨i,hi,rfl⟩:=List.getElem_of_mem hx
 have:=Oq h hi
 rw [show l.getD i 0=l[i] by simp [List.getD,hi]] at this
 exact AbW this
structure AgP (m:D.Model) (k:D.Chan):Prop where
 sh:0<=k.Shape/\k.Shape<m.Shapes.length
 wq:Ch.WfQ k.Queue
 small:Ch.Small k.Queue
 wt:Ch.WfTs (BC m k.Shape).Fields
 q:k.Queue.length<=16
 f:(BC m k.Shape).Fields.length<=8
 ty:∀ x∈k.Queue,x.length=(BC m k.Shape).Fields.length
theorem AfA {m:D.Model} {k:D.Chan} (hm:FO m=true) (h:CC m k=true):AgP m k:=by
 obtain ⟨⟨a1,a2⟩,a3,a4⟩:=EW h
 have ht:=(OA (Dy hm).1).shape k.Shape.toNat (by omega)
 have ht:CJ (BC m k.Shape)=true:=ht
 unfold CJ at ht
 simp only [Bool.and_eq_true,decide_eq_true_eq] at ht
 have hr:=(Ky hm).room k.Shape a1 a2
 have hx:∀ x∈k.Queue,x.length=(BC m k.Shape).Fields.length:=fun x hx=>Ea (a4 x hx)
 refine ⟨⟨a1,a2⟩,fun x hx=>S9 (a4 x hx),⟨by omega,fun x h=>by have:=hx x h;omega⟩,fun t h=>?_,by omega,ht.1.2,hx⟩
 have:=(Ck (d:=default) (f:=fun t=>D3 t)).1 ht.2 t h
 unfold D3 at this
 simp only [Bool.and_eq_true,decide_eq_true_eq] at this
 exact AbW (by unfold B33;omega)
theorem ZB {m:D.Model} {k:D.Chan} {n:Int} (h:AgP m k):Ai Tryz.prog 68 [] [.agg (AF k),Aa n] [] (.tup [.agg (AF (DW k n).1),Ad true (DW k n).2.1,Aa (DW k n).2.2]):=by
 unfold DW
 cases c:(decide (n<0)||decide ((k.Queue.length:Int)<=n)) with
 | true=>exact Ch.take_none_spec k.Shape n h.wq (by simpa using c)
 | false =>
  simp only [Bool.or_eq_false_iff,decide_eq_false_iff_not] at c
  have e:n=((n.toNat:Nat):Int):=by omega
  have:=Ch.take_spec k.Shape n.toNat h.wq h.small (show n.toNat<k.Queue.length by omega)
  rw [← e] at this
  exact this
theorem AcT {m:D.Model} {k:D.Chan} {l:List Int} (b:Bool) (h:AgP m k) (hl:Ch.WfM l) (h8:l.length<=1048576) :
  Ai Tryz.prog 66 [] [.agg (Df (BC m k.Shape)),.agg (AF k),Ad true l,Ac b] [] (.tup [.agg (AF (PV m k l b).1),Aa (PV m k l b).2]) :=
 Ch.put_spec (BC m k.Shape).Room k.Shape b h.wt h.wq hl h.small (by have:=h.q;omega) (by omega)
section
variable {e : D.Env}
theorem AeM {α:Type} {f:α->List VV} {d x:α} {G:Nat->List VV} (hG:G 0=f x):∀ j,j<[x].length->G j=f ([x].getD j d):=by
 intro j hj
 obtain rfl:j=0:=by simpa using hj
 exact hG
theorem BJ {e:D.Env}:leO (hsE e) (hsE e):=⟨Ob.le_refl _,Ob.le_refl _,Ob.le_refl _,trivial⟩
theorem AeS {p:D.Process}:leO [.box (EA e (.ow 1 0 e.S.Chans.length) (.ow 2 0 (e.S.Procs.length+1))),obC e.S,.arr true 0 (e.S.Procs.length+1) 4 (fun i=>bif i.blt e.S.Procs.length then As (e.S.Procs.getD i default) else (fun i=>List.take 4 (List.drop (i*4) (As p))) (i - e.S.Procs.length))] (hsE (Nj e p)):=by
 have hl:(Nj e p).S.Procs.length=e.S.Procs.length+1:=by simp [Nj]
 unfold hsE obP
 rw [hl]
 exact ⟨Ob.le_refl _,Ob.le_refl _,Ob.le_arr fun i hi=>A2 (Ca (f:=As) (d:=default) (l:=e.S.Procs) (r:=[p]) (F:=fun i=>As (e.S.Procs.getD i default)) (G:=fun i=>List.take 4 (List.drop (i*4) (As p))) (fun _ _=>rfl) (AeM rfl) (by simpa using hi)),trivial⟩
theorem MZ {x:Int} (hw:Ay e.M) (hs:A4 e.S) (hx:0<=x/\x<e.M.Exprs.length):Ai Tryz.prog 37 (hsE e) [.bp 0 0,Aa x] (hsE (BY e x).1) (.tup [Aa (BY e x).2.1,Aa (BY e x).2.2]):=by
 have hn:=hs.p
 unfold Len at hn
 have ha:(Ar e.M x).Args.length<=1048576:=(hw.Exprs.2 _ (Xr hx)).Args.1
 have hq:BY e x=bif decide ((B8 e (Ar e.M x).Args).2≠0) then (e,0,(B8 e (Ar e.M x).Args).2)
   else bif decide ((Ga e.M (Ar e.M x).N (B8 e (Ar e.M x).Args).1).2≠0) then (e,0,(Ga e.M (Ar e.M x).N (B8 e (Ar e.M x).Args).1).2)
   else (Nj e (Ga e.M (Ar e.M x).N (B8 e (Ar e.M x).Args).1).1,(e.S.Procs.length:Int),0):=rfl
 generalize BY e x=r at hq
 refine Ag Ak Aj Tryz.func37 (by kernel_rfl) rfl (Vy (hsE r.1) r.2.1 r.2.2 e x) ⟨hx,B8 e (Ar e.M x).Args,Mh (fun a _=>Po hw hs a) ha,fun h1=>?_,fun h1=>⟨Ga e.M (Ar e.M x).N (B8 e (Ar e.M x).Args).1,Z6 hw ?_,fun h2=>?_,fun h2=>⟨by omega,?_⟩⟩⟩
 ·rw [AJ] at h1
  rw [h1,cond_true] at hq;subst hq
  exact ⟨BJ,VV.le_refl _⟩
 ·have:=PJ (show (B8 e (Ar e.M x).Args).2=0 by simpa using h1)
  omega
 ·rw [AJ] at h1 h2
  rw [h1,cond_false,h2,cond_true] at hq;subst hq
  exact ⟨BJ,VV.le_refl _⟩
 ·rw [AJ] at h1 h2
  rw [h1,cond_false,h2,cond_false] at hq;subst hq
  rw [A1 (by omega) (by omega)]
  exact ⟨AeS,VV.le_eq (by simp)⟩
theorem U1 {x:Int} (hs:A4 e.S) (hl:e.S.Procs.length<=16) (hm:FO e.M=true):(BY e x).1.M=e.M/\A4 (BY e x).1.S:=by
 rcases Jb (e:=e) (x:=x) with ⟨h1,_⟩ | ⟨p,h1,_,h3⟩
 ·rw [h1];exact ⟨rfl,hs⟩
 ·rw [h1]
  refine ⟨rfl,hs.g,hs.c,?_,hs.cs,fun q hq=>?_⟩
  ·show Len (e.S.Procs++[p]).length
   unfold Len;simp;omega
  ·rcases List.mem_append.1 hq with hq | hq
   ·exact hs.ps _ hq
   ·obtain rfl:=List.mem_singleton.1 hq
    obtain ⟨⟨p1,p2⟩,_,p4,_⟩:=D4 h3
    obtain ⟨f1,_⟩:=F4 (Dy hm).2.1 q.Type_.toNat (by omega)
    have f1:DZ (AK e.M q.Type_)=true:=f1
    unfold DZ at f1
    simp only [Bool.and_eq_true,decide_eq_true_eq] at f1
    have:=f1.1.1.1.1.1.1.1.1
    unfold Len;omega
theorem II (hw:Ay e.M) (hs:A4 e.S) (x v:Int):Ai Tryz.prog 42 (hsE e) [.bp 0 0,Aa x,Aa v] (hsE (CD e x v).1) (Aa (CD e x v).2):=MW hw hs x v
theorem Vd {s:D.Stmt} (h:B3 e) (hs:FH e.M s) (hk:s.Kind=2):Ai Tryz.prog 38 (hsE e) [.bp 0 0,.agg (Ap s)] (hsE (Io e s).1) (Aa (Io e s).2):=by
 have hsm:=h.fit.small
 have hB:=hs.k2 hk
 obtain ⟨b1,b2⟩:=U1 (x:=s.B) hsm h.fit.p h.may
 have hq:Io e s=bif DE e s.B then (bif decide ((BY e s.B).2.2≠0) then ((BY e s.B).1,(BY e s.B).2.2) else CD (BY e s.B).1 s.A (BY e s.B).2.1)
   else bif decide ((Ba e s.B).2≠0) then (e,(Ba e s.B).2) else CD e s.A (Ba e s.B).1:=rfl
 generalize Io e s=r at hq
 refine Ag Ak Aj Tryz.func38 (by kernel_rfl) rfl (YS (hsE r.1) r.2 e s) ⟨DE e s.B,Hp fun _=>hB.2,fun h0=>⟨BY e s.B,MZ h.wf hsm hB,fun h1=>?_,fun h1=>⟨CD (BY e s.B).1 s.A (BY e s.B).2.1,II (by rw [b1];exact h.wf) b2 _ _,?_⟩⟩,
  fun h0=>⟨Ba e s.B,Po h.wf hsm s.B,fun h1=>?_,fun h1=>⟨CD e s.A (Ba e s.B).1,II h.wf hsm _ _,?_⟩⟩⟩
 ·rw [AJ] at h1
  rw [h0,cond_true,h1,cond_true] at hq;subst hq
  exact ⟨BJ,VV.le_refl _⟩
 ·rw [AJ] at h1
  rw [h0,cond_true,h1,cond_false] at hq;subst hq
  exact ⟨BJ,VV.le_refl _⟩
 ·rw [AJ] at h1
  rw [h0,cond_false,h1,cond_true] at hq;subst hq
  exact ⟨BJ,VV.le_refl _⟩
 ·rw [AJ] at h1
  rw [h0,cond_false,h1,cond_false] at hq;subst hq
  exact ⟨BJ,VV.le_refl _⟩
theorem QS {c:Int} {k:D.Chan}:leO [.box (EA e (.ow 1 0 e.S.Chans.length) (.ow 2 0 e.S.Procs.length)),.arr true 0 e.S.Chans.length 2 (fun j=>bif Nat.beq j (c - 1).toNat then AF k else AF (e.S.Chans.getD j default)),obP e.S] (hsE (Ip e c k)):=by
 have hl:(Ip e c k).S.Chans.length=e.S.Chans.length:=by simp [Ip]
 unfold hsE obC
 rw [hl]
 refine ⟨Ob.le_refl _,Ob.le_arr fun j hj=>A2 ?_,Ob.le_refl _,trivial⟩
 show _=AF ((e.S.Chans.set (c - 1).toNat k).getD j default)
 rw [LY]
 by_cases h:(c - 1).toNat=j
 ·rw [← h,Nat.beq_refl,cond_true,if_pos ⟨rfl,by omega⟩]
 ·rw [if_neg (fun hn=>h hn.1)]
  have:Nat.beq j (c - 1).toNat=false:=by
   cases hq:Nat.beq j (c - 1).toNat with
   | true=>exact absurd (Nat.eq_of_beq_eq_true hq).symm h
   | false=>rfl
  rw [this,cond_false]
theorem Ts {c:Int} {k:D.Chan} (h:B3 e) (hk:CC e.M k=true):A4 (Ip e c k).S:=(Sq h.may (Ez.2 ((Ez.1 h.fits).setC hk))).small
theorem SM {s:D.Stmt} (h:B3 e) (hs:FH e.M s) (hk:s.Kind=6):Ai Tryz.prog 44 (hsE e) [.bp 0 0,.agg (Ap s)] (hsE (Fv e s).1) (Aa (Fv e s).2):=by
 have hsm:=h.fit.small
 have h6:=hs.k6 hk
 have hq:Fv e s=bif decide ((A6 e s).2.2≠0) then (e,(A6 e s).2.2)
   else bif decide ((DW (Cl e (A6 e s).1) (A6 e s).2.1).2.2≠0) then (e,(DW (Cl e (A6 e s).1) (A6 e s).2.1).2.2)
   else Dc (bif decide (s.N<2) then Ip e (A6 e s).1 (DW (Cl e (A6 e s).1) (A6 e s).2.1).1 else e) s (DW (Cl e (A6 e s).1) (A6 e s).2.1).2.1:=rfl
 generalize Fv e s=r at hq
 refine Ag Ak Aj Tryz.func44 (by kernel_rfl) rfl (Vg (hsE r.1) r.2 e s) ⟨A6 e s,Ad9 h.wf hsm hs.args h6,fun h1=>?_,fun h1=>?_⟩
 ·rw [AJ] at h1
  rw [h1,cond_true] at hq;subst hq
  exact ⟨BJ,VV.le_refl _⟩
 have hz:(A6 e s).2.2=0:=by simpa using h1
 obtain ⟨hin,hfl⟩:=Uz h.wf hz
 rw [AJ] at h1
 rw [h1,cond_false] at hq
 generalize (A6 e s).1=c at hin hfl hq ⊢
 generalize (A6 e s).2.1=n at hq ⊢
 have h2:=hin.lo
 have h3:=hin.hi
 have h4:=hin.le
 have hcp:=NW (Ez.1 h.fits) hin
 have hck:=AfA h.may hcp
 rw [A1 (by omega) (by omega)]
 refine ⟨by omega,DW (Cl e c) n,ZB hck,fun h5=>?_,fun h5=>?_⟩
 ·rw [AJ] at h5
  rw [h5,cond_true] at hq;subst hq
  exact ⟨BJ,VV.le_refl _⟩
 have hz2:(DW (Cl e c) n).2.2=0:=by simpa using h5
 have hml:s.Args.length<=(DW (Cl e c) n).2.1.length:=by
  unfold DW at hz2 ⊢
  cases q:(decide (n<0)||decide (((Cl e c).Queue.length:Int)<=n)) with
  | true=>rw [q] at hz2;exact absurd (show (46:Int)=0 from hz2) (by decide)
  | false =>
   simp only [Bool.or_eq_false_iff,decide_eq_false_iff_not] at q
   have:=hck.ty _ (Au (d:=[]) (show n.toNat<(Cl e c).Queue.length by omega))
   rw [cond_false,← hfl]
   exact Nat.le_of_eq this.symm
 have hto:=XZ hcp hz2
 rw [AJ] at h5
 rw [h5,cond_false] at hq
 generalize DW (Cl e c) n=t at hml hto hq ⊢
 refine ⟨fun h7=>?_,fun h7=>?_⟩
 ·rw [h7,cond_true] at hq
  refine ⟨by omega,Dc (Ip e c t.1) s t.2.1,?_,?_⟩
  ·exact (Iy (e:=Ip e c t.1) h.wf (Ts h hto) hs.args (by omega) hml).le QS ⟨VV.le_refl _,VV.le_refl _,VV.le_refl _,trivial⟩ BJ (VV.le_refl _)
  ·rw [hq];exact ⟨BJ,VV.le_refl _⟩
 ·rw [h7,cond_false] at hq
  refine ⟨Dc e s t.2.1,Iy h.wf hsm hs.args (by omega) hml,?_⟩
  rw [hq];exact ⟨BJ,VV.le_refl _⟩
theorem Mx {l:D.Loc} {esc:Int} (_:-1<=esc) (h2:esc<l.Esc.length):Bw l esc∈BA l:=by
 unfold Bw
 cases c:decide (esc<0) with
 | true=>exact List.mem_cons_self
 | false =>
  have:0<=esc:=by have:=of_decide_eq_false c;omega
  exact List.mem_cons_of_mem _ (Au (by omega))
theorem Vk (h:CH e):Ai Tryz.prog 21 [] [.agg (Bk e)] [] (.agg (A9 (Ct e))) :=
 Ag Ak Aj Tryz.func21 (by kernel_rfl) rfl (Y7 _ e) ⟨⟨h.p0,h.ok.pid.2⟩,h.facts.1,h.facts.2,trivial,VV.le_refl _⟩
theorem VD {l:D.Loc} {esc i:Int} (_:-1<=esc) (h2:esc<l.Esc.length) (h3:0<=i) (h4:i<(Bw l esc).length):Ai Tryz.prog 20 [] [.agg (A9 l),Aa esc,Aa i] [] (.agg (CN ((Bw l esc).getD i.toNat default))):=by
 refine P8 (l:=l) (esc:=esc) (i:=i) (fun hn=>⟨h3,by
   have hx:Bw l esc=l.Out:=by unfold Bw;rw [decide_eq_true hn]<;>rfl
   rw [hx] at h4;exact h4⟩) (fun hn=>⟨h2,h3,by
   have hx:Bw l esc=l.Esc.getD esc.toNat []:=by unfold Bw;rw [decide_eq_false (by omega)]<;>rfl
   rw [hx] at h4;exact h4⟩)
structure Rf (e:D.Env) (s:D.Stmt) (w:Wy):Prop where
 hB:CH (CI e w.With)
 b1:-1<=w.WithEsc
 b2:w.WithEsc<(Ct (CI e w.With)).Esc.length
 b3:0<=w.WithWay
 b4:w.WithWay<(Bw (Ct (CI e w.With)) w.WithEsc).length
 kB:(GM e w).S.Kind=6
 len:s.Args.length=(GM e w).S.Args.length
theorem Rf.st {s:D.Stmt} {w:Wy} (m:Rf e s w):FH e.M (GM e w).S:=(m.hB.ws (Mx m.b1 m.b2)).st _ (Au (by have:=m.b3;have:=m.b4;omega))
theorem Ve {s:D.Stmt} {w:Wy} (h:B3 e) (hs:FH e.M s) (hm:0<=w.With->Rf e s w):Ai Tryz.prog 43 (hsE e) [.bp 0 0,.agg (Ap s),.agg (Bu w)] (hsE (Iq e s w).1) (Aa (Iq e s w).2):=by
 have hsm:=h.fit.small
 have hq:Iq e s w=bif decide ((Ax e s).2.2≠0) then (e,(Ax e s).2.2)
   else bif decide (0<=w.With) then ({ e with S:=(Dc (CI e w.With) (GM e w).S (Ax e s).2.1).1.S },(Dc (CI e w.With) (GM e w).S (Ax e s).2.1).2) else AcB e s:=rfl
 generalize Iq e s w=R at hq ⊢
 refine Ag Ak Aj Tryz.func43 (by kernel_rfl) rfl (YT (hsE R.1) R.2 e s w) ⟨Ax e s,N2 h.wf hsm hs.args,fun h1=>?_,fun h1=>⟨fun h2=>?_,fun h2=>?_⟩⟩
 ·rw [AJ] at h1
  rw [h1,cond_true] at hq;subst hq
  exact ⟨BJ,VV.le_refl _⟩
 ·rw [AJ] at h1
  rw [h1,cond_false,show decide (0<=w.With)=true from h2,cond_true] at hq
  have m:=hm (of_decide_eq_true h2)
  have hml:=IW (e:=e) (s:=s) (by simpa using h1)
  have hk6:=m.st.k6 m.kB
  have hll:=m.len
  refine ⟨Ct (CI e w.With),Vk m.hB,GM e w,VD m.b1 m.b2 m.b3 m.b4,Dc (CI e w.With) (GM e w).S (Ax e s).2.1,Iy (e:=CI e w.With) h.wf hsm m.st.args (by omega) (by omega),?_⟩
  subst hq
  exact ⟨⟨Ob.le_refl _,Ob.le_refl _,Ob.le_refl _,trivial⟩,VV.le_refl _⟩
 ·have hz:(Ax e s).2.2=0:=by simpa using h1
  rw [AJ] at h1
  rw [h1,cond_false,show decide (0<=w.With)=false from h2,cond_false] at hq
  obtain ⟨hin,hty⟩:=Pa h.wf hz
  have hB:AcB e s=(Ip e (Ax e s).1 (PV e.M (Cl e (Ax e s).1) (Ax e s).2.1 (s.N==1)).1,(PV e.M (Cl e (Ax e s).1) (Ax e s).2.1 (s.N==1)).2):=by rw [ieq]<;>rfl
  rw [hB] at hq
  have hl:=IW hz
  have ha:=hs.args
  generalize (Ax e s).1=c at hin hty hq ⊢
  generalize (Ax e s).2.1=l at hty hl hq ⊢
  have g2:=hin.lo
  have g3:=hin.hi
  have g4:=hin.le
  have hck:=AfA h.may (NW (Ez.1 h.fits) hin)
  rw [A1 (by omega) (by omega)]
  refine ⟨by omega,hck.sh,PV e.M (Cl e c) l (s.N==1),AcT (s.N==1) hck (S9 hty) (by omega),by omega,?_⟩
  rw [hq]
  exact ⟨QS,VV.le_refl _⟩
theorem Aa1 {n:Int}:leO [.box (EA e (.ow 1 0 (e.S.Chans.length+1)) (.ow 2 0 e.S.Procs.length)),.arr true 0 (e.S.Chans.length+1) 2 (fun i=>bif i.blt e.S.Chans.length then AF (e.S.Chans.getD i default) else (fun i=>List.take 2 (List.drop (i*2) [Aa n,.nl])) (i - e.S.Chans.length)),obP e.S] (hsE (GC e n)):=by
 have hl:(GC e n).S.Chans.length=e.S.Chans.length+1:=by simp [GC]
 unfold hsE obC
 rw [hl]
 refine ⟨Ob.le_refl _,Ob.le_arr fun i hi=>?_,Ob.le_refl _,trivial⟩
 by_cases h:i<e.S.Chans.length
 ·refine A2 ?_
  rw [L7 h]
  show _=AF ((e.S.Chans++[(⟨n,[]⟩:D.Chan)]).getD i default)
  simp [List.getD,List.getElem?_append_left h]
 ·obtain rfl:i=e.S.Chans.length:=by omega
  rw [NV (Nat.le_refl _),Nat.sub_self]
  have:DK (GC e n).S.Chans e.S.Chans.length=AF ⟨n,[]⟩:=by simp [DK,GC,List.getD]
  rw [this]
  show leL [Aa n,.nl] [Aa n,Bx true []]
  exact ⟨VV.le_refl _,VV.le_nil,trivial⟩
theorem Abs {pr:ByteArray->List Int->ByteArray} {s:D.Stmt} {w:Wy} (h:B3 e) (hs:FH e.M s) (hm:s.Kind=5->0<=w.With->Rf e s w)
  (hpr:s.Kind=4->(B8 e s.Args).2=0->Ai Tryz.prog 41 [] [BV s.Text,Ad false (B8 e s.Args).1] [] (BV (pr s.Text (B8 e s.Args).1))) :
  Ai Tryz.prog 22 (hsE e) [.bp 0 0,.agg (Ap s),.agg (Bu w)] (hsE (Dw pr e s w).1) (.tup [BV (Dw pr e s w).2.1,Aa (Dw pr e s w).2.2]):=by
 have hsm:=h.fit.small
 have hc:=h.fit.c
 have hq:Dw pr e s w=if s.Kind=1 then (bif DE e s.A then ((BY e s.A).1,⟨#[]⟩,(BY e s.A).2.2) else (e,⟨#[]⟩,0))
   else if s.Kind=2 then ((Io e s).1,⟨#[]⟩,(Io e s).2)
   else if s.Kind=3 then (e,⟨#[]⟩,JY e s)
   else if s.Kind=4 then (e,bif decide ((B8 e s.Args).2≠0) then ⟨#[]⟩ else pr s.Text (B8 e s.Args).1,(B8 e s.Args).2)
   else if s.Kind=9 then ((CD (GC e s.N) s.A (e.S.Chans.length+1:Nat)).1,⟨#[]⟩,(CD (GC e s.N) s.A (e.S.Chans.length+1:Nat)).2)
   else if s.Kind=5 then ((Iq e s w).1,⟨#[]⟩,(Iq e s w).2)
   else if s.Kind=6 then ((Fv e s).1,⟨#[]⟩,(Fv e s).2)
   else (e,⟨#[]⟩,0):=rfl
 generalize Dw pr e s w=R at hq ⊢
 have ne:∀ {k:Int},(s.Kind==k)=false->s.Kind≠k:=fun h1 h2=>by rw [h2] at h1;simp at h1
 refine Ag Ak Aj Tryz.func22 (by kernel_rfl) rfl (Qc R.1 R.2.1 R.2.2 e s w) ⟨fun k=>?_,fun k1=>⟨fun k=>?_,fun k2=>⟨fun k=>?_,fun k3=>⟨fun k=>?_,fun k4=>⟨fun k=>?_,fun k9=>⟨fun k=>?_,fun k5=>⟨fun k=>?_,fun k6=>?_⟩⟩⟩⟩⟩⟩⟩
 ·have k:=eq_of_beq k
  rw [if_pos k] at hq
  have hA:=hs.k1 k
  refine ⟨DE e s.A,Hp fun _=>hA.2,fun h1=>⟨BY e s.A,MZ h.wf hsm hA,?_⟩,fun h1=>?_⟩
  ·rw [h1,cond_true] at hq;subst hq;exact ⟨BJ,VV.le_refl _⟩
  ·rw [h1,cond_false] at hq;subst hq;exact ⟨BJ,VV.le_refl _⟩
 ·have k:=eq_of_beq k
  rw [if_neg (ne k1),if_pos k] at hq
  subst hq
  exact ⟨Io e s,Vd h hs k,BJ,VV.le_refl _⟩
 ·have k:=eq_of_beq k
  rw [if_neg (ne k1),if_neg (ne k2),if_pos k] at hq
  subst hq
  refine ⟨Ba e s.A,Po h.wf hsm s.A,fun h1=>⟨BJ,VV.le_eq ?_⟩,fun h1=>⟨BJ,VV.le_eq ?_⟩⟩
  ·show _=VV.tup [BV ⟨#[]⟩,Aa (JY e s)]
   unfold JY
   rw [AM,ieq,ieq] at h1
   rw [h1]<;>rfl
  ·show _=VV.tup [BV ⟨#[]⟩,Aa (JY e s)]
   unfold JY
   rw [AM,ieq,ieq] at h1
   rw [h1]<;>rfl
 ·have k:=eq_of_beq k
  rw [if_neg (ne k1),if_neg (ne k2),if_neg (ne k3),if_pos k] at hq
  refine ⟨B8 e s.Args,Mh (fun x _=>Po h.wf hsm x) hs.args,fun h1=>?_,fun h1=>⟨pr s.Text (B8 e s.Args).1,hpr k (by simpa using h1),?_⟩⟩
  ·rw [AJ] at h1
   rw [h1,cond_true] at hq;subst hq;exact ⟨BJ,VV.le_refl _⟩
  ·have h0:(B8 e s.Args).2=0:=by simpa using h1
   rw [AJ] at h1
   rw [h1,cond_false] at hq;subst hq
   refine ⟨BJ,VV.le_eq ?_⟩
   show _=VV.tup [BV _,Aa (B8 e s.Args).2]
   rw [h0]<;>rfl
 ·have k:=eq_of_beq k
  rw [if_neg (ne k1),if_neg (ne k2),if_neg (ne k3),if_neg (ne k4),if_pos k] at hq
  subst hq
  have hsm9:A4 (GC e s.N).S:=by
   refine ⟨hsm.g,?_,hsm.p,fun c hc=>?_,hsm.ps⟩
   ·show Len (e.S.Chans++[(⟨s.N,[]⟩:D.Chan)]).length
    unfold Len;simp;omega
   ·rcases List.mem_append.1 hc with hc | hc
    ·exact hsm.cs _ hc
    ·obtain rfl:=List.mem_singleton.1 hc
     exact ⟨Nat.zero_le _,fun x hx=>by cases hx⟩
  refine ⟨by omega,CD (GC e s.N) s.A (e.S.Chans.length+1:Nat),?_,BJ,VV.le_refl _⟩
  exact (II (e:=GC e s.N) h.wf hsm9 _ _).le Aa1 ⟨VV.le_refl _,VV.le_refl _,VV.le_refl _,trivial⟩ BJ (VV.le_refl _)
 ·have k:=eq_of_beq k
  rw [if_neg (ne k1),if_neg (ne k2),if_neg (ne k3),if_neg (ne k4),if_neg (ne k9),if_pos k] at hq
  subst hq
  exact ⟨Iq e s w,Ve h hs (hm k),BJ,VV.le_refl _⟩
 ·have k:=eq_of_beq k
  rw [if_neg (ne k1),if_neg (ne k2),if_neg (ne k3),if_neg (ne k4),if_neg (ne k9),if_neg (ne k5),if_pos k] at hq
  subst hq
  exact ⟨Fv e s,SM h hs k,BJ,VV.le_refl _⟩
 ·rw [if_neg (ne k1),if_neg (ne k2),if_neg (ne k3),if_neg (ne k4),if_neg (ne k9),if_neg (ne k5),if_neg (ne k6)] at hq
  subst hq
  exact ⟨BJ,VV.le_refl _⟩
end
end Go.Proofs.YtiaebjpcgjkhoaaGreatDoor
namespace Go.Proofs.YtiaebjpcgjkhoaaGreatDoor
open Go.RowKit
section
variable {e : D.Env} {w:Wy}
theorem Oc {i:Int}:∀ {l:List Ab} {k:Nat},w∈CT i k l->∃ (j:Nat) (x:Ab),l[j]?=some x/\w∈F6 i (k+j) x
 | [],_,h=>by cases h
 | x::r,k,h=>by
  rcases List.mem_append.1 (show w∈F6 i k x++CT i (k+1) r from h) with h | h
  ·exact ⟨0,x,rfl,h⟩
  ·obtain ⟨j,y,a,b⟩:=Oc h
   exact ⟨j+1,y,a,by rw [show k+(j+1)=k+1+j by omega];exact b⟩
theorem Qi {i:Int} {k:Nat} {x:Ab} (h:w∈F6 i k x):w.Way=k/\w.Esc=i/\(x.is=true∨∃ p∈x.wth,w.With=p.pid):=by
 rcases List.mem_append.1 h with h | h
 ·cases c:(x.is&&decide (x.wth.length=0)) with
  | false=>rw [c] at h;cases h
  | true =>
   rw [c] at h
   obtain rfl:=List.mem_singleton.1 h
   simp only [Bool.and_eq_true] at c
   exact ⟨rfl,rfl,.inl c.1⟩
 ·obtain ⟨p,hp,rfl⟩:=List.mem_map.1 h
  exact ⟨rfl,rfl,.inr ⟨p,hp,rfl⟩⟩
theorem QI : ∀ {l:List (Int × List D.Trans)},w∈Fc e l->0<=w.Way
 | [],h=>by cases h
 | (i,ws)::r,h=>by
  have hq:Fc e ((i,ws)::r)=bif decide (0<(CT i 0 (Cx e (Bm e) ws false)).length) then CT i 0 (Cx e (Bm e) ws false) else Fc e r:=rfl
  rw [hq] at h
  cases c:decide (0<(CT i 0 (Cx e (Bm e) ws false)).length) with
  | true =>
   rw [c] at h
   obtain ⟨j,x,_,h2⟩:=Oc h
   have:=(Qi h2).1
   omega
  | false=>rw [c] at h;exact QI h
theorem AdN (h:w∈A5 e) (hw:w.Way<0) (he:w.Err=0):e.Pid=(e.S.Procs.length:Int) - 1:=by
 unfold A5 at h
 cases c1:decide ((Dp e e.Pid).Loc=(DF e).Final) with
 | true =>
  rw [c1,cond_true] at h
  cases c2:decide (e.Pid=(e.S.Procs.length:Int) - 1) with
  | true=>exact of_decide_eq_true c2
  | false=>rw [c2] at h;cases h
 | false =>
  rw [c1,cond_false] at h
  cases c2:decide ((Bf e).2≠0) with
  | true =>
   rw [c2,cond_true] at h
   obtain rfl:=List.mem_singleton.1 h
   exact absurd he (of_decide_eq_true c2)
  | false =>
   rw [c2,cond_false] at h
   cases c3:(!(Bf e).1) with
   | true=>rw [c3] at h;cases h
   | false =>
    rw [c3,cond_false] at h
    have:=QI h
    omega
theorem Tt (h:w∈A5 e) (h0:0<=w.Way) (hk:(C4 e w).S.Kind=1) (hr:DE e (C4 e w).S.A=true):e.S.Procs.length<16:=by
 rcases GJ (e:=e) with h' | ⟨er,h'⟩ | ⟨i,ws,hi,h'⟩
 ·rw [h'] at h;cases h
 ·rw [h'] at h
  obtain rfl:=List.mem_singleton.1 h
  exact absurd (show (0:Int)<=-1 from h0) (by decide)
 ·rw [h'] at h
  obtain ⟨hl,_⟩:=Hd hi
  obtain ⟨j,x,a1,a2⟩:=Oc h
  rw [Nat.zero_add] at a2
  obtain ⟨b1,rfl⟩:=SA a1
  obtain ⟨c1,c2,c3⟩:=Qi a2
  have ht:ws.getD j default=C4 e w:=by
   unfold C4
   rw [c2,hl,c1]<;>rfl
  have hcan:Fi e (Bm e) ws false j=CX e (Bm e) (C4 e w).S false:=by
   unfold Fi
   rw [ht,decide_eq_false (show ¬ (C4 e w).S.Kind=7 by omega)]<;>rfl
  have hst:CX e (Bm e) (C4 e w).S false=M7 e:=by
   unfold CX
   rw [if_pos hk,hr]<;>rfl
  rw [hcan,hst] at c3
  rcases c3 with c3 | ⟨p,hp,_⟩
  ·exact of_decide_eq_true c3
  ·cases hp
theorem Eb {l:List D.Process} {k to:Int}:(DV l k to).length=l.length:=List.length_set ..
theorem Ov {l:List D.Process} {k to:Int} {j:Nat} (h:(j:Int)≠k) (hk:0<=k):(DV l k to).getD j default=l.getD j default:=by
 unfold DV
 rw [LY,if_neg (by omega)]
theorem Ow {m:D.Model} {l:List D.Process} {k to:Int} (h:∀ p∈l,AP m p=true) (h0:0<=k) (hk:k<l.length) (ht:inP (AK m (l.getD k.toNat default).Type_).Locs.length to=true):∀ p∈DV l k to,AP m p=true:=fun p hp=>by
 rcases E3 hp with hp | rfl
 ·exact h p hp
 ·exact AcW (h _ (Au (by omega))) ht
structure Whole (e:D.Env) (w:Wy) (s:D.State):Prop where
 fits:Eg e.M s
 last:s.Last=e.Pid
 claim:s.Claim=e.S.Claim
 n1:(e.S.Procs.length:Int) - 1<=s.Procs.length
 n2:s.Procs.length<=e.S.Procs.length+1
 old:∀ k:Nat,k<s.Procs.length->k<e.S.Procs.length->(k:Int)≠e.Pid->(k:Int)≠w.With->(s.Procs.getD k default).Frame=(e.S.Procs.getD k default).Frame/\(s.Procs.getD k default).Loc=(e.S.Procs.getD k default).Loc /\
  (s.Procs.getD k default).Type_=(e.S.Procs.getD k default).Type_
theorem Qp {l:List D.Process} {n k:Nat} (h:k<n):(l.take n).getD k default=l.getD k default:=by simp [List.getD,h]
theorem Abn (h:CH e) (hp:e.Pid=(e.S.Procs.length:Int) - 1):Whole e w (Abo e):=by
 have hf:=Ez.1 h.ok.fits
 have h0:=h.p0
 have hpl:=hf.pl
 have hl:(e.S.Procs.take e.Pid.toNat).length=e.Pid.toNat:=by simp;omega
 have ha:=hf.a
 refine ⟨⟨hf.g,hf.cl,by show (List.take _ _).length<=16;omega,⟨h0,by show e.Pid<16;omega⟩,?_,hf.c,fun p hp=>hf.p _ (List.mem_of_mem_take hp),hf.k⟩,rfl,rfl,by show _<=((List.take _ _).length:Int);omega,by show (List.take _ _).length<=_;omega,fun k hk _ _ _=>?_⟩
 ·show -1<=(bif decide (e.Pid<=e.S.Alone) then -1 else e.S.Alone)/\(bif decide (e.Pid<=e.S.Alone) then -1 else e.S.Alone)<((List.take e.Pid.toNat e.S.Procs).length:Int)
  rw [hl]
  cases c:decide (e.Pid<=e.S.Alone) with
  | true=>rw [cond_true];omega
  | false=>have:=of_decide_eq_false c;rw [cond_false];omega
 ·have hk:k<(e.S.Procs.take e.Pid.toNat).length:=hk
  show ((e.S.Procs.take e.Pid.toNat).getD k default).Frame=_/\((e.S.Procs.take e.Pid.toNat).getD k default).Loc=_/\((e.S.Procs.take e.Pid.toNat).getD k default).Type_=_
  rw [Qp (by omega)]
  exact ⟨rfl,rfl,rfl⟩
structure AgO (e:D.Env) (w:Wy):Prop where
 st:FH e.M (C4 e w).S
 to:inP (AK e.M (Dp e e.Pid).Type_).Locs.length (C4 e w).To=true
 v:0<=w.With->w.With≠e.Pid/\w.With<e.S.Procs.length/\FH e.M (GM e w).S/\(GM e w).S.Kind=6/\inP (AK e.M (Dp e w.With).Type_).Locs.length (GM e w).To=true
theorem Xn {pr:ByteArray->List Int->ByteArray} (h:CH e) (hin:w∈A5 e) (h0:0<=w.Way) (g:AgO e w) (hz:(Dw pr e (C4 e w).S w).2.2=0):Whole e w (Ke e w (Dw pr e (C4 e w).S w).1.S):=by
 have hf:=Ez.1 h.ok.fits
 have hp0:=h.p0
 have hpid:=h.ok.pid
 have d:=UN (pr:=pr) h.ok.wf hf g.st (fun hk hr=>Tt hin h0 hk hr) (fun hv=>(g.v hv).2.2.1.t6 (g.v hv).2.2.2.1)
 generalize Dw pr e (C4 e w).S w=y at hz d ⊢
 have ff:=d.fits hz
 have hlen:=d.keep.len
 have hmore:=d.more
 have hty:∀ i:Nat,i<e.S.Procs.length->(y.1.S.Procs.getD i default).Type_=(e.S.Procs.getD i default).Type_:=fun i hi=>(d.keep.old i hi).1
 unfold Ke
 have key:∀ l:List D.Process,l.length=y.1.S.Procs.length->(∀ p∈l,AP e.M p=true)->(l.getD e.Pid.toNat default).Type_=(Dp e e.Pid).Type_ ->
   (∀ k:Nat,(k:Int)≠e.Pid->(k:Int)≠w.With->l.getD k default=y.1.S.Procs.getD k default)->Whole e w { y.1.S with Procs:=DV l e.Pid (C4 e w).To,Last:=e.Pid }:=by
  intro l hl hp ht ho
  have hll:(DV l e.Pid (C4 e w).To).length=y.1.S.Procs.length:=by rw [Eb,hl]
  refine ⟨⟨ff.g,ff.cl,by show (DV _ _ _).length<=16;rw [hll];exact ff.pl,⟨hp0,by show e.Pid<16;have:=hf.pl;omega⟩,⟨ff.a.1,by show y.1.S.Alone<((DV _ _ _).length:Int);rw [hll];exact ff.a.2⟩,ff.c,Ow hp hp0 (by omega) (by rw [ht];exact g.to),ff.k⟩,
   rfl,d.keep.claim,by show _<=((DV _ _ _).length:Int);omega,by show (DV _ _ _).length<=_;omega,fun k hk he n1 n2=>?_⟩
  show ((DV l e.Pid (C4 e w).To).getD k default).Frame=_/\((DV l e.Pid (C4 e w).To).getD k default).Loc=_/\((DV l e.Pid (C4 e w).To).getD k default).Type_=_
  rw [Ov n1 hp0,ho k n1 n2]
  obtain ⟨a1,a2,a3⟩:=d.keep.old k he
  exact ⟨a3 (fun hb=>hb.elim n1 n2),a2,a1⟩
 cases c:decide (0<=w.With) with
 | false=>exact key _ rfl ff.p (hty e.Pid.toNat (by omega)) fun _ _ _=>rfl
 | true =>
  have hv:=of_decide_eq_true c
  obtain ⟨v1,v2,_,_,v5⟩:=g.v hv
  rw [cond_true]
  refine key _ Eb (Ow ff.p hv (by omega) ?_) ?_ fun k n1 n2=>Ov n2 hv
  ·rw [hty w.With.toNat (by omega)];exact v5
  ·rw [Ov (by omega) hv];exact hty e.Pid.toNat (by omega)
theorem Adq {pr:ByteArray->List Int->ByteArray} (h:CH e) (hin:w∈A5 e) (g:0<=w.Way->AgO e w) (hz:(goE pr e w).2.2=0):Whole e w (goE pr e w).1:=by
 unfold goE at hz ⊢
 cases c1:decide (w.Err≠0) with
 | true=>rw [c1,cond_true] at hz;exact absurd hz (of_decide_eq_true c1)
 | false =>
 rw [c1,cond_false] at hz
 rw [cond_false]
 cases c2:decide (w.Way<0) with
 | true=>exact Abn h (AdN hin (of_decide_eq_true c2) (by simpa using c1))
 | false =>
 rw [c2,cond_false] at hz
 rw [cond_false]
 have h0:0<=w.Way:=by have:=of_decide_eq_false c2;omega
 cases c3:decide ((Dw pr e (C4 e w).S w).2.2≠0) with
 | true=>rw [c3,cond_true] at hz;exact absurd hz (of_decide_eq_true c3)
 | false=>exact Xn h hin h0 (g h0) (by simpa using c3)
end
end Go.Proofs.YtiaebjpcgjkhoaaGreatDoor
namespace Go.Proofs
open Go.Shelf
def Tryz.lays169_ren : Go.Shelf.Ren:=⟨fun | 169=>62 | n=>n,fun | 70=>126 | 9=>9 | 0=>0 | 72=>129 | 37=>127 | 127=>167 | 3=>3 | 5=>5 | n=>n,fun | n=>n⟩
theorem Tryz.lays169 : Go.Proofs.Lays.n169 Tryz.prog Tryz.lays169_ren:={
 mixed:=by kernel_rfl
 f169:=Tryz.func62.trans (congrArg some (by kernel_rfl))
 t0:=Tryz.underlying0
 a0:=Tryz.isAgg0
 z0:=Tryz.sizeOf0
 v0:=Tryz.zeroValue0
 t3:=Tryz.underlying3
 a3:=Tryz.isAgg3
 z3:=Tryz.sizeOf3
 v3:=Tryz.zeroValue3
 t9:=Tryz.underlying9
 a9:=Tryz.isAgg9
 z9:=Tryz.sizeOf9
 v9:=Tryz.zeroValue9
 t37:=Tryz.underlying127
 a37:=Tryz.isAgg127
 z37:=Tryz.sizeOf127
 v37:=Tryz.zeroValue127
 t70:=Tryz.underlying126
 a70:=Tryz.isAgg126
 z70:=Tryz.sizeOf126
 v70:=Tryz.zeroValue126
 t72:=Tryz.underlying129
 a72:=Tryz.isAgg129
 z72:=Tryz.sizeOf129
 v72:=Tryz.zeroValue129
 t127:=Tryz.underlying167
 a127:=Tryz.isAgg167
 z127:=Tryz.sizeOf167
 v127:=Tryz.zeroValue167 }
theorem Tryz.Builder_Extra_169 : Builder.Extra Tryz.prog Tryz.lays169_ren:={
 sizeBuilder:=by kernel_rfl
 liesBuilder:=by kernel_rfl
 t5:=Tryz.underlying5
 a5:=Tryz.isAgg5
 z5:=Tryz.sizeOf5
 v5:=Tryz.zeroValue5
 infoByte:=by kernel_rfl
 cellsByte:=by kernel_rfl
 sizeByte:=by kernel_rfl
 neB5:=by decide }
open Go.RowKit in
theorem Tryz.Builder_String_any_k (B b:Nat) (l:List UInt8) (w:World) (h:Lib.IsBuilderF 129 5 B b (Lib.byteCells l) w) (hBw:B<=w.heap.size) :
  Calls Tryz.prog 62 #[.pointer (some ⟨b,0,none⟩)] w fun e w'=>e=.returned (.string ⟨l.toArray⟩)/\(Lib.IsBuilderF 129 5 B b (Lib.byteCells l) w'/\Below B w w'/\Lib.OthersKept 5 (some b) w w'):=Any.Builder_String_any_k Tryz.lays169 Tryz.Builder_Extra_169 B b l w h hBw
def Tryz.lays283_ren : Go.Shelf.Ren:=⟨fun | 283=>123 | n=>n,fun | 3=>3 | 9=>9 | 4=>4 | n=>n,fun | n=>n⟩
theorem Tryz.lays283 : Go.Proofs.Lays.n283 Tryz.prog Tryz.lays283_ren:={
 mixed:=by kernel_rfl
 f283:=Tryz.func123.trans (congrArg some (by kernel_rfl))
 t3:=Tryz.underlying3
 a3:=Tryz.isAgg3
 z3:=Tryz.sizeOf3
 v3:=Tryz.zeroValue3
 t4:=Tryz.underlying4
 a4:=Tryz.isAgg4
 z4:=Tryz.sizeOf4
 v4:=Tryz.zeroValue4
 t9:=Tryz.underlying9
 a9:=Tryz.isAgg9
 z9:=Tryz.sizeOf9
 v9:=Tryz.zeroValue9 }
open Go.Lib in
theorem Tryz.internal_strconv_small (i:Nat) (h:i<100) (w:World) :
  Calls Tryz.prog 123 #[.int .i64 i] w fun e w'=>e=.returned (.string ⟨(Lib.decDigits i).toArray⟩)/\w'=w:=Any.internal_strconv_small Tryz.lays283 i h w
def Tryz.laysM284_ren : Go.Shelf.Ren:=⟨fun | 284=>124 | 129=>151 | 317=>150 | 318=>152 | n=>n,fun | 53=>137 | 3=>3 | 212=>225 | 0=>0 | 4=>4 | 46=>227 | 5=>5 | 9=>9 | n=>n,fun | 17=>0 | n=>n⟩
theorem Tryz.laysM284 : Go.Proofs.LaysM.n284 Tryz.prog Tryz.laysM284_ren:={
 mixed:=by kernel_rfl
 f129:=Tryz.func151.trans (congrArg some (by kernel_rfl))
 f284:=Tryz.func124.trans (congrArg some (by kernel_rfl))
 f317:=Tryz.func150.trans (congrArg some (by kernel_rfl))
 f318:=Tryz.func152.trans (congrArg some (by kernel_rfl))
 t0:=Tryz.underlying0
 a0:=Tryz.isAgg0
 z0:=Tryz.sizeOf0
 v0:=Tryz.zeroValue0
 t3:=Tryz.underlying3
 a3:=Tryz.isAgg3
 z3:=Tryz.sizeOf3
 v3:=Tryz.zeroValue3
 t4:=Tryz.underlying4
 a4:=Tryz.isAgg4
 z4:=Tryz.sizeOf4
 v4:=Tryz.zeroValue4
 t5:=Tryz.underlying5
 a5:=Tryz.isAgg5
 z5:=Tryz.sizeOf5
 v5:=Tryz.zeroValue5
 t9:=Tryz.underlying9
 a9:=Tryz.isAgg9
 z9:=Tryz.sizeOf9
 v9:=Tryz.zeroValue9
 t46:=Tryz.underlying227
 a46:=Tryz.isAgg227
 z46:=Tryz.sizeOf227
 v46:=Tryz.zeroValue227
 t53:=Tryz.underlying137
 a53:=Tryz.isAgg137
 z53:=Tryz.sizeOf137
 v53:=Tryz.zeroValue137
 t212:=Tryz.underlying225
 a212:=Tryz.isAgg225
 z212:=Tryz.sizeOf225
 v212:=Tryz.zeroValue225
 g17:=by kernel_rfl
 i0:=by kernel_rfl
 i3:=by kernel_rfl
 i4:=by kernel_rfl
 i5:=by kernel_rfl
 i9:=by kernel_rfl
 i46:=by kernel_rfl
 i53:=by kernel_rfl
 i212:=by kernel_rfl
 m17:=by kernel_rfl }
open Go.Lib in
theorem Tryz.internal_strconv_numDigits (u:Nat) (h1:1<=u) (h2:u<18446744073709551616) (w:World) (htab:Lib.TabIs Tryz.prog w "internal/strconv.uint64pow10" .u64 Lib.pow10Tab) :
  Calls Tryz.prog 124 #[.int .u64 u] w fun e w'=>e=.returned (.int .i64 (Lib.nDigits u))/\w'=w:=Any.internal_strconv_numDigits Tryz.laysM284 u h1 h2 w htab
def Tryz.lays285_ren : Go.Shelf.Ren:=⟨fun | 285=>125 | n=>n,fun | 37=>127 | 53=>137 | 3=>3 | 4=>4 | 51=>138 | 9=>9 | 5=>5 | 0=>0 | n=>n,fun | n=>n⟩
theorem Tryz.lays285 : Go.Proofs.Lays.n285 Tryz.prog Tryz.lays285_ren:={
 mixed:=by kernel_rfl
 f285:=Tryz.func125.trans (congrArg some (by kernel_rfl))
 t0:=Tryz.underlying0
 a0:=Tryz.isAgg0
 z0:=Tryz.sizeOf0
 v0:=Tryz.zeroValue0
 t3:=Tryz.underlying3
 a3:=Tryz.isAgg3
 z3:=Tryz.sizeOf3
 v3:=Tryz.zeroValue3
 t4:=Tryz.underlying4
 a4:=Tryz.isAgg4
 z4:=Tryz.sizeOf4
 v4:=Tryz.zeroValue4
 t5:=Tryz.underlying5
 a5:=Tryz.isAgg5
 z5:=Tryz.sizeOf5
 v5:=Tryz.zeroValue5
 t9:=Tryz.underlying9
 a9:=Tryz.isAgg9
 z9:=Tryz.sizeOf9
 v9:=Tryz.zeroValue9
 t37:=Tryz.underlying127
 a37:=Tryz.isAgg127
 z37:=Tryz.sizeOf127
 v37:=Tryz.zeroValue127
 t51:=Tryz.underlying138
 a51:=Tryz.isAgg138
 z51:=Tryz.sizeOf138
 v51:=Tryz.zeroValue138
 t53:=Tryz.underlying137
 a53:=Tryz.isAgg137
 z53:=Tryz.sizeOf137
 v53:=Tryz.zeroValue137 }
open Go.RowKit Go.Sort Go.Lib in
theorem Tryz.internal_strconv_formatBase10 (blk off cap:Nat) (u:Nat) (d:Array UInt8) (w:World) (hH:Holds (fun (b:UInt8)=>Value.int .u8 (b.toNat:Int)) w blk off d) (hu:u<10 ^ d.size) (hu64:u<18446744073709551616) (hsz:d.size<4611686018427387904) :
  Calls Tryz.prog 125 #[.slice (some ⟨blk,off,none⟩) d.size cap,.int .u64 u] w fun e w' =>
   e=.returned (.tuple #[])/\∃ (n v':Nat) (dk:Array UInt8),w'=(putRow (fun (b:UInt8)=>Value.int .u8 (b.toNat:Int)) w blk off dk).drewN n/\FmtInv d.size u 0 v' dk:=Any.internal_strconv_formatBase10 Tryz.lays285 blk off cap u d w hH hu hu64 hsz
def Tryz.laysM173_ren : Go.Shelf.Ren:=⟨fun | 173=>60 | 246=>90 | 283=>123 | 284=>124 | 285=>125 | 286=>126 | 129=>151 | 317=>150 | 318=>152 | 319=>153 | 320=>154 | 337=>169 | 338=>170 | n=>n,fun | 2=>2 | 3=>3 | 9=>9 | 4=>4 | 171=>203 | 0=>0 | 53=>137 | 37=>127 | 5=>5 | 173=>206 | 212=>225 | 51=>138 | 20=>20 | 213=>226 | 46=>227 | 232=>243 | 233=>244 | n=>n,fun | 17=>0 | 18=>1 | 19=>2 | n=>n⟩
theorem Tryz.laysM173 : Go.Proofs.LaysM.n173 Tryz.prog Tryz.laysM173_ren:={
 mixed:=by kernel_rfl
 f129:=Tryz.func151.trans (congrArg some (by kernel_rfl))
 f173:=Tryz.func60.trans (congrArg some (by kernel_rfl))
 f246:=Tryz.func90.trans (congrArg some (by kernel_rfl))
 f283:=Tryz.func123.trans (congrArg some (by kernel_rfl))
 f284:=Tryz.func124.trans (congrArg some (by kernel_rfl))
 f285:=Tryz.func125.trans (congrArg some (by kernel_rfl))
 f286:=Tryz.func126.trans (congrArg some (by kernel_rfl))
 f317:=Tryz.func150.trans (congrArg some (by kernel_rfl))
 f318:=Tryz.func152.trans (congrArg some (by kernel_rfl))
 f319:=Tryz.func153.trans (congrArg some (by kernel_rfl))
 f320:=Tryz.func154.trans (congrArg some (by kernel_rfl))
 f337:=Tryz.func169.trans (congrArg some (by kernel_rfl))
 f338:=Tryz.func170.trans (congrArg some (by kernel_rfl))
 t0:=Tryz.underlying0
 a0:=Tryz.isAgg0
 z0:=Tryz.sizeOf0
 v0:=Tryz.zeroValue0
 t2:=Tryz.underlying2
 a2:=Tryz.isAgg2
 z2:=Tryz.sizeOf2
 v2:=Tryz.zeroValue2
 t3:=Tryz.underlying3
 a3:=Tryz.isAgg3
 z3:=Tryz.sizeOf3
 v3:=Tryz.zeroValue3
 t4:=Tryz.underlying4
 a4:=Tryz.isAgg4
 z4:=Tryz.sizeOf4
 v4:=Tryz.zeroValue4
 t5:=Tryz.underlying5
 a5:=Tryz.isAgg5
 z5:=Tryz.sizeOf5
 v5:=Tryz.zeroValue5
 t9:=Tryz.underlying9
 a9:=Tryz.isAgg9
 z9:=Tryz.sizeOf9
 v9:=Tryz.zeroValue9
 t20:=Tryz.underlying20
 a20:=Tryz.isAgg20
 z20:=Tryz.sizeOf20
 v20:=Tryz.zeroValue20
 t37:=Tryz.underlying127
 a37:=Tryz.isAgg127
 z37:=Tryz.sizeOf127
 v37:=Tryz.zeroValue127
 t46:=Tryz.underlying227
 a46:=Tryz.isAgg227
 z46:=Tryz.sizeOf227
 v46:=Tryz.zeroValue227
 t51:=Tryz.underlying138
 a51:=Tryz.isAgg138
 z51:=Tryz.sizeOf138
 v51:=Tryz.zeroValue138
 t53:=Tryz.underlying137
 a53:=Tryz.isAgg137
 z53:=Tryz.sizeOf137
 v53:=Tryz.zeroValue137
 t171:=Tryz.underlying203
 a171:=Tryz.isAgg203
 z171:=Tryz.sizeOf203
 v171:=Tryz.zeroValue203
 t173:=Tryz.underlying206
 a173:=Tryz.isAgg206
 z173:=Tryz.sizeOf206
 v173:=Tryz.zeroValue206
 t212:=Tryz.underlying225
 a212:=Tryz.isAgg225
 z212:=Tryz.sizeOf225
 v212:=Tryz.zeroValue225
 t213:=Tryz.underlying226
 a213:=Tryz.isAgg226
 z213:=Tryz.sizeOf226
 t232:=Tryz.underlying243
 a232:=Tryz.isAgg243
 z232:=Tryz.sizeOf243
 v232:=Tryz.zeroValue243
 t233:=Tryz.underlying244
 a233:=Tryz.isAgg244
 z233:=Tryz.sizeOf244
 v233:=Tryz.zeroValue244
 g17:=by kernel_rfl
 g18:=by kernel_rfl
 g19:=by kernel_rfl
 i0:=by kernel_rfl
 i2:=by kernel_rfl
 i3:=by kernel_rfl
 i4:=by kernel_rfl
 i5:=by kernel_rfl
 i9:=by kernel_rfl
 i20:=by kernel_rfl
 i37:=by kernel_rfl
 i46:=by kernel_rfl
 i51:=by kernel_rfl
 i53:=by kernel_rfl
 i171:=by kernel_rfl
 i173:=by kernel_rfl
 i212:=by kernel_rfl
 i232:=by kernel_rfl
 i233:=by kernel_rfl
 m17:=by kernel_rfl
 m18:=by kernel_rfl
 m19:=by kernel_rfl }
open Go.RowKit Go.Sort Go.Lib in
theorem Tryz.strconv_FormatInt_10 (n:Int) (h0:-9223372036854775808<=n) (h1:n<=9223372036854775807) (w:World) (htab:Lib.TabIs Tryz.prog w "internal/strconv.uint64pow10" .u64 Lib.pow10Tab) :
  Calls Tryz.prog 60 #[.int .i64 n,.int .i64 10] w fun e w'=>e=.returned (.string ⟨(Lib.itoa n).toArray⟩)/\∃ k os,w'=grow (w.drewN k) os:=Any.strconv_FormatInt_10 Tryz.laysM173 n h0 h1 w htab
def Tryz.lays166_ren : Go.Shelf.Ren:=⟨fun | 166=>54 | 240=>88 | 276=>122 | n=>n,fun | 0=>0 | 3=>3 | 4=>4 | 5=>5 | 9=>9 | 20=>20 | 37=>127 | 70=>126 | 72=>129 | 75=>132 | 80=>142 | 164=>200 | n=>n,fun | n=>n⟩
theorem Tryz.lays166 : Go.Proofs.Lays.n166 Tryz.prog Tryz.lays166_ren:={
 mixed:=by kernel_rfl,
 f166:=Tryz.func54.trans (congrArg some (by kernel_rfl)),
 f240:=Tryz.func88.trans (congrArg some (by kernel_rfl)),
 f276:=Tryz.func122.trans (congrArg some (by kernel_rfl)),
 t0:=Tryz.underlying0,
 a0:=Tryz.isAgg0,
 z0:=Tryz.sizeOf0,
 v0:=Tryz.zeroValue0,
 t3:=Tryz.underlying3,
 a3:=Tryz.isAgg3,
 z3:=Tryz.sizeOf3,
 v3:=Tryz.zeroValue3,
 t4:=Tryz.underlying4,
 a4:=Tryz.isAgg4,
 z4:=Tryz.sizeOf4,
 v4:=Tryz.zeroValue4,
 t9:=Tryz.underlying9,
 a9:=Tryz.isAgg9,
 z9:=Tryz.sizeOf9,
 v9:=Tryz.zeroValue9,
 t20:=Tryz.underlying20,
 a20:=Tryz.isAgg20,
 z20:=Tryz.sizeOf20,
 v20:=Tryz.zeroValue20,
 t37:=Tryz.underlying127,
 a37:=Tryz.isAgg127,
 z37:=Tryz.sizeOf127,
 v37:=Tryz.zeroValue127,
 t70:=Tryz.underlying126,
 a70:=Tryz.isAgg126,
 z70:=Tryz.sizeOf126,
 v70:=Tryz.zeroValue126,
 t72:=Tryz.underlying129,
 a72:=Tryz.isAgg129,
 z72:=Tryz.sizeOf129,
 v72:=Tryz.zeroValue129,
 t75:=Tryz.underlying132,
 a75:=Tryz.isAgg132,
 z75:=Tryz.sizeOf132,
 v75:=Tryz.zeroValue132,
 t164:=Tryz.underlying200,
 a164:=Tryz.isAgg200,
 z164:=Tryz.sizeOf200,
 v164:=Tryz.zeroValue200 }
theorem Tryz.Builder_Extra_166 : Builder.Extra Tryz.prog Tryz.lays166_ren:={
 sizeBuilder:=by kernel_rfl
 liesBuilder:=by kernel_rfl
 t5:=Tryz.underlying5
 a5:=Tryz.isAgg5
 z5:=Tryz.sizeOf5
 v5:=Tryz.zeroValue5
 infoByte:=by kernel_rfl
 cellsByte:=by kernel_rfl
 sizeByte:=by kernel_rfl
 neB5:=by decide }
def Tryz.lays167_ren : Go.Shelf.Ren:=⟨fun | 167=>58 | 240=>88 | 276=>122 | n=>n,fun | 0=>0 | 4=>4 | 5=>5 | 9=>9 | 20=>20 | 37=>127 | 70=>126 | 72=>129 | 75=>132 | 80=>142 | 164=>200 | n=>n,fun | n=>n⟩
theorem Tryz.lays167 : Go.Proofs.Lays.n167 Tryz.prog Tryz.lays167_ren:={
 mixed:=by kernel_rfl,
 f167:=Tryz.func58.trans (congrArg some (by kernel_rfl)),
 f240:=Tryz.func88.trans (congrArg some (by kernel_rfl)),
 f276:=Tryz.func122.trans (congrArg some (by kernel_rfl)),
 t0:=Tryz.underlying0,
 a0:=Tryz.isAgg0,
 z0:=Tryz.sizeOf0,
 v0:=Tryz.zeroValue0,
 t4:=Tryz.underlying4,
 a4:=Tryz.isAgg4,
 z4:=Tryz.sizeOf4,
 v4:=Tryz.zeroValue4,
 t5:=Tryz.underlying5,
 a5:=Tryz.isAgg5,
 z5:=Tryz.sizeOf5,
 v5:=Tryz.zeroValue5,
 t9:=Tryz.underlying9,
 a9:=Tryz.isAgg9,
 z9:=Tryz.sizeOf9,
 v9:=Tryz.zeroValue9,
 t20:=Tryz.underlying20,
 a20:=Tryz.isAgg20,
 z20:=Tryz.sizeOf20,
 v20:=Tryz.zeroValue20,
 t37:=Tryz.underlying127,
 a37:=Tryz.isAgg127,
 z37:=Tryz.sizeOf127,
 v37:=Tryz.zeroValue127,
 t70:=Tryz.underlying126,
 a70:=Tryz.isAgg126,
 z70:=Tryz.sizeOf126,
 v70:=Tryz.zeroValue126,
 t72:=Tryz.underlying129,
 a72:=Tryz.isAgg129,
 z72:=Tryz.sizeOf129,
 v72:=Tryz.zeroValue129,
 t75:=Tryz.underlying132,
 a75:=Tryz.isAgg132,
 z75:=Tryz.sizeOf132,
 v75:=Tryz.zeroValue132,
 t164:=Tryz.underlying200,
 a164:=Tryz.isAgg200,
 z164:=Tryz.sizeOf200,
 v164:=Tryz.zeroValue200 }
theorem Tryz.Builder_Extra_167 : Builder.Extra Tryz.prog Tryz.lays167_ren:={
 sizeBuilder:=by kernel_rfl
 liesBuilder:=by kernel_rfl
 t5:=Tryz.underlying5
 a5:=Tryz.isAgg5
 z5:=Tryz.sizeOf5
 v5:=Tryz.zeroValue5
 infoByte:=by kernel_rfl
 cellsByte:=by kernel_rfl
 sizeByte:=by kernel_rfl
 neB5:=by decide }
end Go.Proofs
namespace Go.Proofs.YtiaebjpcgjkhoaaGreatDoor
open Go.RowKit
abbrev By:=List UInt8
def I64 (n:Int):Prop:=-9223372036854775808<=n/\n<=9223372036854775807
def bs (s:ByteArray):By:=s.data.toList
def mk (l:By):ByteArray:=⟨l.toArray⟩
theorem UX (l:By):bs (mk l)=l:=by simp [bs,mk]
theorem T7 (s:ByteArray):mk (bs s)=s:=by simp [bs,mk]
theorem LA (s:ByteArray):s.size=(bs s).length:=rfl
theorem NI (l:By):(mk l).size=l.length:=by simp [ByteArray.size,mk]
def Ahl (n:Int):ByteArray:=mk (Lib.itoa n)
end Go.Proofs.YtiaebjpcgjkhoaaGreatDoor
namespace Go.Proofs.YtiaebjpcgjkhoaaGreatDoor
open Go.RowKit
abbrev SD : TypeId:=129
abbrev Mb : TypeId:=5
def Jn (B b:Nat) (s:ByteArray) (w:World):Prop:=Lib.IsBuilderF SD Mb B b (Lib.byteCells (bs s)) w
theorem JV (a s:ByteArray):bs (a++s)=bs a++bs s:=by simp [bs]
theorem SB (a s:ByteArray):Lib.byteCells (bs a)++Lib.strCells s=Lib.byteCells (bs (a++s)):=by
 rw [JV]
 simp [Lib.byteCells,Lib.strCells,bs]
theorem E6 {B b:Nat} {a s:ByteArray} {w:World} (h:Jn B b a w) (hlen:a.size+s.size<=140737488355328) (hB:B<=w.heap.size) :
  Calls Tryz.prog 54 #[.pointer (some ⟨b,0,none⟩),.string s] w fun e w'=>e=.returned (.tuple #[.int .i64 s.size,.nilIface])/\Jn B b (a++s) w'/\Below B w w'/\Lib.OthersKept Mb (some b) w w':=by
 refine (Any.Builder_WriteString_k Tryz.lays166 Tryz.Builder_Extra_166 B b (Lib.byteCells (bs a)) s w h (by rw [Lib.byteCells_length,← LA];exact hlen) hB).mono ?_
 rintro e w' ⟨rfl,h1,h2,h3⟩
 refine ⟨rfl,?_,h2,h3⟩
 rw [SB] at h1
 exact .inr h1
theorem Ry {B b:Nat} {a:ByteArray} {w:World} (h:Jn B b a w) (hB:B<=w.heap.size) :
  Calls Tryz.prog 62 #[.pointer (some ⟨b,0,none⟩)] w fun e w'=>e=.returned (.string a)/\Below B w w':=by
 refine (Tryz.Builder_String_any_k B b (bs a) w h hB).mono ?_
 rintro e w' ⟨rfl,_,h2,_⟩
 refine ⟨?_,h2⟩
 show Ending.returned (.string (mk (bs a)))=_
 rw [T7]
theorem Jn.below {B b:Nat} {a:ByteArray} {w w':World} (h:Jn B b a w) (hb:Below w.heap.size w w'):Jn B b a w':=by
 have key:∀ p,Lib.BuilderAtF SD Mb B b p (Lib.byteCells (bs a)) w->Lib.BuilderAtF SD Mb B b p (Lib.byteCells (bs a)) w':=by
  intro p h
  have hlt:=h.lt
  obtain ⟨hB,v,hbk,hown,hne⟩:=h
  exact ⟨hB,v,(hb.block _ hlt).trans hbk,hown.kept (row:=none) ⟨hb.os,hb.tape,hb.output,hb.size,fun k hk _=>hb.block k hk⟩ (by cases hv:v.ownBlock<;>simp),hne⟩
 rcases h with h | h
 ·exact .inl (key _ h)
 ·exact .inr (key _ h)
theorem Jn.start (w:World):Jn w.heap.size w.heap.size ⟨#[]⟩ (w.alloc (.cells #[.pointer none,.slice none 0 0] SD)):=Lib.IsBuilderF.of (Lib.fresh_isBuilder SD Mb w)
theorem Cq.below {B:Nat} {w w':World} (h:Cq w) (hB:∀ k,k∈Fy->k<B) (hb:Below B w w'):Cq w':=h.congr fun k hk=>hb.block k (hB k hk)
theorem Mv (a b:By):mk a++mk b=mk (a++b):=by
 have:bs (mk a++mk b)=bs (mk (a++b)):=by rw [JV,UX,UX,UX]
 rw [← T7 (mk a++mk b),this,T7]
theorem JZ (a:ByteArray):a++mk []=a:=by
 have:bs (a++mk [])=bs a:=by rw [JV,UX,List.append_nil]
 rw [← T7 (a++mk []),this,T7]
theorem U3 (a b c:ByteArray):a++b++c=a++(b++c):=ByteArray.append_assoc
end Go.Proofs.YtiaebjpcgjkhoaaGreatDoor
namespace Go.Proofs.YtiaebjpcgjkhoaaGreatDoor
open Go.RowKit
def FE (d:Nat):UInt8:=if d<10 then UInt8.ofNat (48+d) else UInt8.ofNat (87+d)
def Kh (b:Nat):Nat->Nat->By
 | 0,_=>[]
 | g+1,u=>if u<b then [FE u] else Kh b g (u / b)++[FE (u % b)]
def Hi (b u:Nat):By:=Kh b 64 u
def Ui (n:Int):Nat:=(n % 4294967296).toNat
def Cn (c:UInt8) (n:Int):By :=
 if c=117 then Hi 10 (Ui n) else if c=120 then Hi 16 (Ui n) else if c=111 then Hi 8 (Ui n) else if c=99 then [UInt8.ofNat (n % 256).toNat] else Lib.itoa n
def Gm (c:UInt8):Bool:=c==100||(c==105||(c==101||(c==117||(c==120||(c==111||c==99)))))
def Cg : By->List Int->By
 | [],_=>[]
 | [c],_=>[c]
 | c::d::r,l =>
  bif !(c==37) then c::Cg (d::r) l
  else bif d==37 then 37::Cg r l
  else bif Gm d then (match l with | []=>Cg r [] | n::l=>Cn d n++Cg r l)
  else 37::d::Cg r l
def CV (t:ByteArray) (l:List Int):ByteArray:=mk (Cg (bs t) l)
end Go.Proofs.YtiaebjpcgjkhoaaGreatDoor
namespace Go.Proofs.YtiaebjpcgjkhoaaGreatDoor
open Go.RowKit
abbrev Adn : TypeId:=23
theorem Jn.above {B b:Nat} {a:ByteArray} {w w':World} (h:Jn B b a w) (he:∀ k,B<=k->w'.heap[k]?=w.heap[k]?):Jn B b a w':=by
 have key:∀ p,Lib.BuilderAtF SD Mb B b p (Lib.byteCells (bs a)) w->Lib.BuilderAtF SD Mb B b p (Lib.byteCells (bs a)) w':=by
  rintro p ⟨hB,v,hbk,hown,hne⟩
  refine ⟨hB,v,(he _ hB).trans hbk,⟨hown.1,?_⟩,hne⟩
  rcases hown.2 with hn | ⟨g,cap,cur,fz,rfl,hb,hgg,rest⟩
  ·exact .inl hn
  ·exact .inr ⟨g,cap,cur,fz,rfl,hb,(he _ hb).trans hgg,rest⟩
 rcases h with h | h
 ·exact .inl (key _ h)
 ·exact .inr (key _ h)
def XI (w:World) (a:Option Addr) (l:List Int):Prop:=0<l.length->∃ bb off,a=some ⟨bb,off,none⟩/\bb<w.heap.size/\∀ i,i<l.length->w.cell? ⟨bb,off+i,none⟩=some (.int .i64 (l.getD i 0))
structure PrI (w:World) (l:List Int) (T:ByteArray) (W:World):Prop where
 ab:∃ a cap,W.heap[w.heap.size]?=some (.cells #[.slice a l.length cap] Adn (0,0))/\l.length<=cap/\cap<=maxLen/\XI w a l
 bd:Jn (w.heap.size+1) (w.heap.size+1) T W
 bw:Below w.heap.size w W
 sz:w.heap.size+2<=W.heap.size
theorem PrI.write {w:World} {l:List Int} {T x:ByteArray} {W W':World} (h:PrI w l T W) (h1:Jn (w.heap.size+1) (w.heap.size+1) (T++x) W') (h2:Below (w.heap.size+1) W W'):PrI w l (T++x) W':=by
 obtain ⟨a,cap,hb,r⟩:=h.ab
 exact ⟨⟨a,cap,(h2.block _ (Nat.lt_succ_self _)).trans hb,r⟩,h1,h.bw.trans (h2.mono (Nat.le_succ _)),Nat.le_trans h.sz h2.size⟩
theorem PrI.same {w:World} {l:List Int} {T:ByteArray} {W W':World} (h:PrI w l T W) (h2:Below W.heap.size W W'):PrI w l T W':=by
 obtain ⟨a,cap,hb,r⟩:=h.ab
 have:=h.sz
 exact ⟨⟨a,cap,(h2.block _ (by omega)).trans hb,r⟩,h.bd.below h2,h.bw.trans (h2.mono h.bw.size),Nat.le_trans h.sz h2.size⟩
theorem Cd {w:World} {b i:Nat} {cs:Array Value} {t:TypeId} {v:Value} (h:w.heap[b]?=some (.cells cs t (0,0))) (hi:cs[i]?=some v):w.cell? ⟨b,i,none⟩=some v:=by
 simp [World.cell?,h,hi]
set_option maxRecDepth 100000 in
theorem Af3 {n:Int} {W:World} (hL:Cq W) (hn:I64 n):Calls Tryz.prog 59 #[.int .i64 n] W fun e W'=>e=.returned (.string (Ahl n))/\Below W.heap.size W W':=by
 go_enter Tryz.func59,Tryz.ntmps59
 go_wp2_with fail
 refine (Tryz.strconv_FormatInt_10 n hn.1 hn.2 W hL.tab).mono ?_
 rintro e w' ⟨rfl,k,os,rfl⟩
 go_wp2
 go_ret
 exact ⟨rfl,Lib.below_grow _ W (Nat.le_refl _) k os⟩
set_option maxRecDepth 100000 in
theorem Af4 {n:Int} {W:World}:Calls Tryz.prog 61 #[.int .i64 n] W fun e W'=>e=.returned (.string (mk [UInt8.ofNat (n % 256).toNat]))/\Below W.heap.size W W':=by
 go_enter Tryz.func61,Tryz.ntmps61
 go_wp2_with fail
 have hcv:(convert 127 9 (.slice (some ⟨W.heap.size,0,none⟩) 1 1)).run Tryz.prog (W.alloc (Obj.cells #[Value.int IntKind.u8 (n % 256)] 5))=.ok (.string (mk [UInt8.ofNat (n % 256).toNat])) (W.alloc (Obj.cells #[Value.int IntKind.u8 (n % 256)] 5)):=run_convert_bytes_back (P:=Tryz.prog) (W.alloc (Obj.cells #[Value.int IntKind.u8 (n % 256)] Mb)) 127 9 Mb ⟨W.heap.size,0,none⟩ 1 [UInt8.ofNat (n % 256).toNat] Tryz.underlying127 Tryz.underlying5 Tryz.underlying9 (fun j hj=>by
  obtain rfl:j=0:=by simpa using hj
  have e:((UInt8.ofNat (n % 256).toNat).toNat:Int)=n % 256:=by
   rw [UInt8.toNat_ofNat'];omega
  show World.cell? _ ⟨W.heap.size,0+0,none⟩=some (.int .u8 (((UInt8.ofNat (n % 256).toNat).toNat:Nat):Int))
  rw [e]
  exact Cd (heap_alloc_new _ _) rfl)
 rw [hcv]
 go_wp2
 go_ret
 exact ⟨rfl,(Below.refl _ _).alloc (Nat.le_refl _) _⟩
def P6 (b:Nat):Prop:=∀ (u:Nat) (W:World),u<4294967296->Cq W->Calls Tryz.prog 57 #[.int .u64 u,.int .i64 b] W fun e W'=>e=.returned (.string (mk (Hi b u)))/\Below W.heap.size W W'
set_option maxRecDepth 100000 in
theorem V5 {n:Int} {b kb:Nat} {W:World} (hU:P6 b) (hL:Cq W) (hk:W.heap[kb]?=some (.cells #[.int .i64 b] 3 (0,0))):Calls Tryz.prog 56 #[.int .i64 n,.pointer (some ⟨kb,0,none⟩)] W fun e W'=>e=.returned (.string (mk (Hi b (Ui n))))/\Below W.heap.size W W':=by
 have s0:=Cd (i:=0) (v:=.int .i64 b) hk rfl
 have hl:((Ui n:Nat):Int)=n % 4294967296:=by unfold Ui;omega
 have hU':=hU (Ui n) W (by unfold Ui;omega) hL
 rw [hl] at hU'
 go_enter Tryz.func56,Tryz.ntmps56
 go_wp2_with fail
 refine hU'.mono ?_
 rintro e w' ⟨rfl,hb⟩
 go_wp2
 go_ret
 exact ⟨rfl,hb⟩
theorem PrI.step {w W:World} {n:Int} {l:List Int} {T:ByteArray} (h:PrI w (n::l) T W) (bb off cap len:Nat) (hl:len=l.length) (hcap:len<=cap/\cap<=maxLen∨len=0/\cap<=maxLen) (hlt:bb<w.heap.size) (hc:∀ i,i<l.length->w.cell? ⟨bb,off+i,none⟩=some (.int .i64 (l.getD i 0))):PrI w l T (W.setCell ⟨w.heap.size,0,none⟩ (.slice (some ⟨bb,off,none⟩) len cap)):=by
 obtain ⟨a,c,hb,_⟩:=h.ab
 subst hl
 refine ⟨⟨some ⟨bb,off,none⟩,cap,A3 hb _,by omega,by omega,fun _=>⟨bb,off,rfl,hlt,hc⟩⟩,h.bd.above fun k hk=>Below.heap_setCell _ _ _ _ (by show k≠w.heap.size;omega),h.bw.setCell (Nat.le_refl _) _,by simpa using h.sz⟩
theorem JW {b:Nat}:∀ {g u:Nat},(Kh b g u).length<=g
 | 0,_=>Nat.le_refl _
 | g+1,u=>by
  unfold Kh
  split
  ·simp
  ·have:=JW (b:=b) (g:=g) (u:=u / b)
   simp;omega
theorem FU {c:UInt8} {n:Int} (hn:I64 n):(mk (Cn c n)).size<=64:=by
 rw [NI]
 unfold Cn
 split
 ·exact JW
 split
 ·exact JW
 split
 ·exact JW
 split
 ·simp
 ·have:=Lib.itoa_length_le n hn.1 hn.2;omega
set_option maxRecDepth 100000 in
theorem WY {w W:World} {l:List Int} {T:ByteArray} (hL:Cq w) (hlB:∀ k,k∈Fy->k<w.heap.size) (h:PrI w l T W) (hI:∀ n∈l,I64 n) (hT:T.size<=70368744177664) :
  Calls Tryz.prog 53 #[.func (Fn.func 59) #[] #[],.pointer (some ⟨w.heap.size,0,none⟩),.pointer (some ⟨w.heap.size+1,0,none⟩)] W fun e W'=>(∃ v,e=.returned v)/\PrI w l.tail (T++mk ((l.take 1).flatMap (Cn 100))) W'/\W.heap.size<=W'.heap.size:=by
 have hz:=h.sz
 go_enter Tryz.func53,Tryz.ntmps53
 rcases l with _ | ⟨n,l⟩
 ·obtain ⟨a,cap,hb,hcap,hmax,ha⟩:=h.ab
  have s0:=Cd (i:=0) (v:=.slice a 0 cap) hb rfl
  go_wp2
  go_end0
  refine ⟨⟨_,rfl⟩,?_,Nat.le_refl _⟩
  show PrI w [] (T++mk []) W
  rw [JZ];exact h
 ·obtain ⟨a,cap,hb,hcap,hmax,ha⟩:=h.ab
  have s0:=Cd (i:=0) (v:=.slice a (l.length+1) cap) hb rfl
  obtain ⟨bb,off,rfl,hlt,hc⟩:=ha (by simp)
  have c0:W.cell? ⟨bb,off,none⟩=some (.int .i64 n):=(h.bw.cell hlt).trans (hc 0 (by simp))
  have hn:=hI n (List.mem_cons_self ..)
  go_wp2_with fail
  refine (Af3 (hL.below hlB h.bw) hn).mono ?_
  rintro e W1 ⟨rfl,hb1⟩
  have h1:=h.same hb1
  have z1:(mk (Cn 100 n)).size<=64:=FU hn
  have hs1:=hb1.size
  go_wp2_with fail
  refine (E6 (s:=mk (Cn 100 n)) h1.bd (by omega) (by have:=h1.sz;omega)).mono ?_
  rintro e W2 ⟨rfl,k1,k2,k3⟩
  have h2:=h1.write k1 k2
  have hs2:=k2.size
  obtain ⟨a2,cap2,hb2,hcap2,hmax2,ha2⟩:=h2.ab
  have s2:=Cd (i:=0) (v:=.slice a2 (l.length+1) cap2) hb2 rfl
  have f2:W2.frozen? ⟨w.heap.size,0,none⟩=false:=by simp [World.frozen?,hb2]
  obtain ⟨bb2,off2,rfl,hlt2,hc2⟩:=ha2 (by simp)
  have hcap3:l.length+1<=cap2:=hcap2
  have htxt:mk (((n::l).take 1).flatMap (Cn 100))=mk (Cn 100 n):=by simp
  clear htxt
  go_wp2
  all_goals
   go_end0
   refine ⟨⟨_,rfl⟩,?_,by simp;omega⟩
   first
    | exact h2.step _ _ _ _ rfl (by omega) hlt2 fun i hi=>by have:=hc2 (i+1) (by simp;omega);rw [show off2+1+i=off2+(i+1) by omega];simpa using this
    | exact h2.step _ _ _ _ rfl (by omega) hlt2 fun i hi=>by omega
set_option maxRecDepth 100000 in
theorem Agq {w W:World} {l:List Int} {T:ByteArray} (h:PrI w l T W) (hI:∀ n∈l,I64 n) (hT:T.size<=70368744177664) :
  Calls Tryz.prog 53 #[.func (Fn.func 61) #[] #[],.pointer (some ⟨w.heap.size,0,none⟩),.pointer (some ⟨w.heap.size+1,0,none⟩)] W fun e W'=>(∃ v,e=.returned v)/\PrI w l.tail (T++mk ((l.take 1).flatMap (Cn 99))) W'/\W.heap.size<=W'.heap.size:=by
 have hz:=h.sz
 go_enter Tryz.func53,Tryz.ntmps53
 rcases l with _ | ⟨n,l⟩
 ·obtain ⟨a,cap,hb,hcap,hmax,ha⟩:=h.ab
  have s0:=Cd (i:=0) (v:=.slice a 0 cap) hb rfl
  go_wp2
  go_end0
  refine ⟨⟨_,rfl⟩,?_,Nat.le_refl _⟩
  show PrI w [] (T++mk []) W
  rw [JZ];exact h
 ·obtain ⟨a,cap,hb,hcap,hmax,ha⟩:=h.ab
  have s0:=Cd (i:=0) (v:=.slice a (l.length+1) cap) hb rfl
  obtain ⟨bb,off,rfl,hlt,hc⟩:=ha (by simp)
  have c0:W.cell? ⟨bb,off,none⟩=some (.int .i64 n):=(h.bw.cell hlt).trans (hc 0 (by simp))
  have hn:=hI n (List.mem_cons_self ..)
  go_wp2_with fail
  refine (Af4).mono ?_
  rintro e W1 ⟨rfl,hb1⟩
  have h1:=h.same hb1
  have z1:(mk (Cn 99 n)).size<=64:=FU hn
  have hs1:=hb1.size
  go_wp2_with fail
  refine (E6 (s:=mk (Cn 99 n)) h1.bd (by omega) (by have:=h1.sz;omega)).mono ?_
  rintro e W2 ⟨rfl,k1,k2,k3⟩
  have h2:=h1.write k1 k2
  have hs2:=k2.size
  obtain ⟨a2,cap2,hb2,hcap2,hmax2,ha2⟩:=h2.ab
  have s2:=Cd (i:=0) (v:=.slice a2 (l.length+1) cap2) hb2 rfl
  have f2:W2.frozen? ⟨w.heap.size,0,none⟩=false:=by simp [World.frozen?,hb2]
  obtain ⟨bb2,off2,rfl,hlt2,hc2⟩:=ha2 (by simp)
  have hcap3:l.length+1<=cap2:=hcap2
  have htxt:mk (((n::l).take 1).flatMap (Cn 99))=mk (Cn 99 n):=by simp
  clear htxt
  go_wp2
  all_goals
   go_end0
   refine ⟨⟨_,rfl⟩,?_,by simp;omega⟩
   first
    | exact h2.step _ _ _ _ rfl (by omega) hlt2 fun i hi=>by have:=hc2 (i+1) (by simp;omega);rw [show off2+1+i=off2+(i+1) by omega];simpa using this
    | exact h2.step _ _ _ _ rfl (by omega) hlt2 fun i hi=>by omega
set_option maxRecDepth 100000 in
theorem Ago {w W:World} {l:List Int} {T:ByteArray} {kb:Nat} (hU:P6 10) (hk:W.heap[kb]?=some (.cells #[.int .i64 10] 3 (0,0))) (hL:Cq w) (hlB:∀ k,k∈Fy->k<w.heap.size) (h:PrI w l T W) (hI:∀ n∈l,I64 n) (hT:T.size<=70368744177664) :
  Calls Tryz.prog 53 #[.func (Fn.func 56) #[] #[.pointer (some ⟨kb,0,none⟩)],.pointer (some ⟨w.heap.size,0,none⟩),.pointer (some ⟨w.heap.size+1,0,none⟩)] W fun e W'=>(∃ v,e=.returned v)/\PrI w l.tail (T++mk ((l.take 1).flatMap (Cn 117))) W'/\W.heap.size<=W'.heap.size:=by
 have hz:=h.sz
 go_enter Tryz.func53,Tryz.ntmps53
 rcases l with _ | ⟨n,l⟩
 ·obtain ⟨a,cap,hb,hcap,hmax,ha⟩:=h.ab
  have s0:=Cd (i:=0) (v:=.slice a 0 cap) hb rfl
  go_wp2
  go_end0
  refine ⟨⟨_,rfl⟩,?_,Nat.le_refl _⟩
  show PrI w [] (T++mk []) W
  rw [JZ];exact h
 ·obtain ⟨a,cap,hb,hcap,hmax,ha⟩:=h.ab
  have s0:=Cd (i:=0) (v:=.slice a (l.length+1) cap) hb rfl
  obtain ⟨bb,off,rfl,hlt,hc⟩:=ha (by simp)
  have c0:W.cell? ⟨bb,off,none⟩=some (.int .i64 n):=(h.bw.cell hlt).trans (hc 0 (by simp))
  have hn:=hI n (List.mem_cons_self ..)
  go_wp2_with fail
  refine (V5 hU (hL.below hlB h.bw) hk).mono ?_
  rintro e W1 ⟨rfl,hb1⟩
  have h1:=h.same hb1
  have z1:(mk (Cn 117 n)).size<=64:=FU hn
  have hs1:=hb1.size
  go_wp2_with fail
  refine (E6 (s:=mk (Cn 117 n)) h1.bd (by omega) (by have:=h1.sz;omega)).mono ?_
  rintro e W2 ⟨rfl,k1,k2,k3⟩
  have h2:=h1.write k1 k2
  have hs2:=k2.size
  obtain ⟨a2,cap2,hb2,hcap2,hmax2,ha2⟩:=h2.ab
  have s2:=Cd (i:=0) (v:=.slice a2 (l.length+1) cap2) hb2 rfl
  have f2:W2.frozen? ⟨w.heap.size,0,none⟩=false:=by simp [World.frozen?,hb2]
  obtain ⟨bb2,off2,rfl,hlt2,hc2⟩:=ha2 (by simp)
  have hcap3:l.length+1<=cap2:=hcap2
  have htxt:mk (((n::l).take 1).flatMap (Cn 117))=mk (Cn 117 n):=by simp
  clear htxt
  go_wp2
  all_goals
   go_end0
   refine ⟨⟨_,rfl⟩,?_,by simp;omega⟩
   first
    | exact h2.step _ _ _ _ rfl (by omega) hlt2 fun i hi=>by have:=hc2 (i+1) (by simp;omega);rw [show off2+1+i=off2+(i+1) by omega];simpa using this
    | exact h2.step _ _ _ _ rfl (by omega) hlt2 fun i hi=>by omega
set_option maxRecDepth 100000 in
theorem Agn {w W:World} {l:List Int} {T:ByteArray} {kb:Nat} (hU:P6 16) (hk:W.heap[kb]?=some (.cells #[.int .i64 16] 3 (0,0))) (hL:Cq w) (hlB:∀ k,k∈Fy->k<w.heap.size) (h:PrI w l T W) (hI:∀ n∈l,I64 n) (hT:T.size<=70368744177664) :
  Calls Tryz.prog 53 #[.func (Fn.func 56) #[] #[.pointer (some ⟨kb,0,none⟩)],.pointer (some ⟨w.heap.size,0,none⟩),.pointer (some ⟨w.heap.size+1,0,none⟩)] W fun e W'=>(∃ v,e=.returned v)/\PrI w l.tail (T++mk ((l.take 1).flatMap (Cn 120))) W'/\W.heap.size<=W'.heap.size:=by
 have hz:=h.sz
 go_enter Tryz.func53,Tryz.ntmps53
 rcases l with _ | ⟨n,l⟩
 ·obtain ⟨a,cap,hb,hcap,hmax,ha⟩:=h.ab
  have s0:=Cd (i:=0) (v:=.slice a 0 cap) hb rfl
  go_wp2
  go_end0
  refine ⟨⟨_,rfl⟩,?_,Nat.le_refl _⟩
  show PrI w [] (T++mk []) W
  rw [JZ];exact h
 ·obtain ⟨a,cap,hb,hcap,hmax,ha⟩:=h.ab
  have s0:=Cd (i:=0) (v:=.slice a (l.length+1) cap) hb rfl
  obtain ⟨bb,off,rfl,hlt,hc⟩:=ha (by simp)
  have c0:W.cell? ⟨bb,off,none⟩=some (.int .i64 n):=(h.bw.cell hlt).trans (hc 0 (by simp))
  have hn:=hI n (List.mem_cons_self ..)
  go_wp2_with fail
  refine (V5 hU (hL.below hlB h.bw) hk).mono ?_
  rintro e W1 ⟨rfl,hb1⟩
  have h1:=h.same hb1
  have z1:(mk (Cn 120 n)).size<=64:=FU hn
  have hs1:=hb1.size
  go_wp2_with fail
  refine (E6 (s:=mk (Cn 120 n)) h1.bd (by omega) (by have:=h1.sz;omega)).mono ?_
  rintro e W2 ⟨rfl,k1,k2,k3⟩
  have h2:=h1.write k1 k2
  have hs2:=k2.size
  obtain ⟨a2,cap2,hb2,hcap2,hmax2,ha2⟩:=h2.ab
  have s2:=Cd (i:=0) (v:=.slice a2 (l.length+1) cap2) hb2 rfl
  have f2:W2.frozen? ⟨w.heap.size,0,none⟩=false:=by simp [World.frozen?,hb2]
  obtain ⟨bb2,off2,rfl,hlt2,hc2⟩:=ha2 (by simp)
  have hcap3:l.length+1<=cap2:=hcap2
  have htxt:mk (((n::l).take 1).flatMap (Cn 120))=mk (Cn 120 n):=by simp
  clear htxt
  go_wp2
  all_goals
   go_end0
   refine ⟨⟨_,rfl⟩,?_,by simp;omega⟩
   first
    | exact h2.step _ _ _ _ rfl (by omega) hlt2 fun i hi=>by have:=hc2 (i+1) (by simp;omega);rw [show off2+1+i=off2+(i+1) by omega];simpa using this
    | exact h2.step _ _ _ _ rfl (by omega) hlt2 fun i hi=>by omega
set_option maxRecDepth 100000 in
theorem Agp {w W:World} {l:List Int} {T:ByteArray} {kb:Nat} (hU:P6 8) (hk:W.heap[kb]?=some (.cells #[.int .i64 8] 3 (0,0))) (hL:Cq w) (hlB:∀ k,k∈Fy->k<w.heap.size) (h:PrI w l T W) (hI:∀ n∈l,I64 n) (hT:T.size<=70368744177664) :
  Calls Tryz.prog 53 #[.func (Fn.func 56) #[] #[.pointer (some ⟨kb,0,none⟩)],.pointer (some ⟨w.heap.size,0,none⟩),.pointer (some ⟨w.heap.size+1,0,none⟩)] W fun e W'=>(∃ v,e=.returned v)/\PrI w l.tail (T++mk ((l.take 1).flatMap (Cn 111))) W'/\W.heap.size<=W'.heap.size:=by
 have hz:=h.sz
 go_enter Tryz.func53,Tryz.ntmps53
 rcases l with _ | ⟨n,l⟩
 ·obtain ⟨a,cap,hb,hcap,hmax,ha⟩:=h.ab
  have s0:=Cd (i:=0) (v:=.slice a 0 cap) hb rfl
  go_wp2
  go_end0
  refine ⟨⟨_,rfl⟩,?_,Nat.le_refl _⟩
  show PrI w [] (T++mk []) W
  rw [JZ];exact h
 ·obtain ⟨a,cap,hb,hcap,hmax,ha⟩:=h.ab
  have s0:=Cd (i:=0) (v:=.slice a (l.length+1) cap) hb rfl
  obtain ⟨bb,off,rfl,hlt,hc⟩:=ha (by simp)
  have c0:W.cell? ⟨bb,off,none⟩=some (.int .i64 n):=(h.bw.cell hlt).trans (hc 0 (by simp))
  have hn:=hI n (List.mem_cons_self ..)
  go_wp2_with fail
  refine (V5 hU (hL.below hlB h.bw) hk).mono ?_
  rintro e W1 ⟨rfl,hb1⟩
  have h1:=h.same hb1
  have z1:(mk (Cn 111 n)).size<=64:=FU hn
  have hs1:=hb1.size
  go_wp2_with fail
  refine (E6 (s:=mk (Cn 111 n)) h1.bd (by omega) (by have:=h1.sz;omega)).mono ?_
  rintro e W2 ⟨rfl,k1,k2,k3⟩
  have h2:=h1.write k1 k2
  have hs2:=k2.size
  obtain ⟨a2,cap2,hb2,hcap2,hmax2,ha2⟩:=h2.ab
  have s2:=Cd (i:=0) (v:=.slice a2 (l.length+1) cap2) hb2 rfl
  have f2:W2.frozen? ⟨w.heap.size,0,none⟩=false:=by simp [World.frozen?,hb2]
  obtain ⟨bb2,off2,rfl,hlt2,hc2⟩:=ha2 (by simp)
  have hcap3:l.length+1<=cap2:=hcap2
  have htxt:mk (((n::l).take 1).flatMap (Cn 111))=mk (Cn 111 n):=by simp
  clear htxt
  go_wp2
  all_goals
   go_end0
   refine ⟨⟨_,rfl⟩,?_,by simp;omega⟩
   first
    | exact h2.step _ _ _ _ rfl (by omega) hlt2 fun i hi=>by have:=hc2 (i+1) (by simp;omega);rw [show off2+1+i=off2+(i+1) by omega];simpa using this
    | exact h2.step _ _ _ _ rfl (by omega) hlt2 fun i hi=>by omega
end Go.Proofs.YtiaebjpcgjkhoaaGreatDoor
namespace Go.Proofs.YtiaebjpcgjkhoaaGreatDoor
open Go.RowKit
theorem PrI.start {w:World} {l:List Int} {a:Option Addr} {cap:Nat} (h1:l.length<=cap) (h2:cap<=maxLen) (h:XI w a l):PrI w l (Go.Proofs.YtiaebjpcgjkhoaaGreatDoor.mk []) ((w.alloc (.cells #[.slice a l.length cap] Adn)).alloc (.cells #[.pointer none,.slice none 0 0] SD)):=by
 refine ⟨⟨a,cap,?_,h1,h2,h⟩,?_,?_,by simp⟩
 ·rw [Below.heap_alloc _ _ _ (by simp)];exact heap_alloc_new _ _
 ·have:=Jn.start (w.alloc (.cells #[.slice a l.length cap] Adn))
  rw [show (w.alloc (.cells #[.slice a l.length cap] Adn)).heap.size=w.heap.size+1 by simp] at this
  exact this
 ·exact ((Below.refl _ w).alloc (Nat.le_refl _) _).alloc (by simp) _
theorem P4 (a:ByteArray) (c:UInt8):Lib.byteCells (bs a)++[.int .u8 (c.toNat:Int)]=Lib.byteCells (bs (a++mk [c])):=by
 rw [JV]
 simp [Lib.byteCells,UX]
theorem Gs {B b:Nat} {a:ByteArray} {w:World} {c:UInt8} {n:Int} (hn:n=(c.toNat:Int)) (h:Jn B b a w) (hlen:a.size+1<=140737488355328) (hB:B<=w.heap.size) :
  Calls Tryz.prog 58 #[.pointer (some ⟨b,0,none⟩),.int .u8 n] w fun e w'=>e=.returned .nilIface/\Jn B b (a++mk [c]) w'/\Below B w w':=by
 subst hn
 refine (Any.Builder_WriteByte_k Tryz.lays167 Tryz.Builder_Extra_167 B b (Lib.byteCells (bs a)) (c.toNat:Int) w h (by rw [Lib.byteCells_length,← LA];exact hlen) hB).mono ?_
 rintro e w' ⟨rfl,h1,h2,h3⟩
 refine ⟨rfl,?_,h2⟩
 rw [P4] at h1
 exact .inr h1
theorem LN {w:World} {l:List Int} {T:ByteArray} {W W':World} {c:UInt8} (h:PrI w l T W) (h1:Jn (w.heap.size+1) (w.heap.size+1) (T++mk [c]) W') (h2:Below (w.heap.size+1) W W'):PrI w l (T++mk [c]) W':=h.write h1 h2
theorem W0 {c:UInt8} (h:c.toNat≠37):(c==37)=false:=by
 rw [beq_eq_false_iff_ne];rintro rfl;exact h rfl
theorem Afy {c:UInt8} (h:c.toNat=37):c=37:=UInt8.toNat_inj.1 h
theorem Ac0 {c:UInt8} {L:By} {l:List Int} (h:c.toNat≠37∨L=[]):Cg (c::L) l=c::Cg L l:=by
 cases L with
 | nil=>rfl
 | cons d r =>
  rcases h with h | h
  ·simp only [Cg,W0 h,Bool.not_false,cond_true]
  ·cases h
theorem Ahg {r:By} {l:List Int}:Cg (37::37::r) l=37::Cg r l:=rfl
theorem AeJ {d:UInt8} {r:By} {l:List Int} (h1:d.toNat≠37) (h2:Gm d=true):Cg (37::d::r) l=(l.take 1).flatMap (Cn d)++Cg r l.tail:=by
 have e:Cg (37::d::r) l=bif d==37 then 37::Cg r l else bif Gm d then (match l with | []=>Cg r [] | n::l=>Cn d n++Cg r l) else 37::d::Cg r l:=rfl
 rw [e,W0 h1,h2,cond_false,cond_true]
 cases l with
 | nil=>rfl
 | cons n l=>simp
theorem Ac1 {d:UInt8} {r:By} {l:List Int} (h1:d.toNat≠37) (h2:Gm d=false):Cg (37::d::r) l=37::d::Cg r l:=by
 have e:Cg (37::d::r) l=bif d==37 then 37::Cg r l else bif Gm d then (match l with | []=>Cg r [] | n::l=>Cn d n++Cg r l) else 37::d::Cg r l:=rfl
 rw [e,W0 h1,h2];rfl
theorem Md (T:ByteArray) (c:UInt8) (r:By):T++mk (c::r)=T++mk [c]++mk r:=by rw [U3,Mv];rfl
theorem Afj (T:ByteArray) (a r:By):T++mk (a++r)=T++mk a++mk r:=by rw [U3,Mv]
theorem IM (T:ByteArray) (c:UInt8):(T++mk [c]).size=T.size+1:=by rw [ByteArray.size_append,NI];rfl
theorem ZQ {T:ByteArray} {c:UInt8} {l:List Int} (hI:∀ n∈l,I64 n):(T++mk ((l.take 1).flatMap (Cn c))).size<=T.size+64:=by
 rw [ByteArray.size_append]
 cases l with
 | nil=>simp [NI]
 | cons n l =>
  have:=FU (c:=c) (hI n (List.mem_cons_self ..))
  simp only [List.take_succ_cons,List.take_zero,List.flatMap_cons,List.flatMap_nil,List.append_nil]
  omega
theorem V6 {c:UInt8} (h:Gm c=true):c.toNat=100∨c.toNat=105∨c.toNat=101∨c.toNat=117∨c.toNat=120∨c.toNat=111∨c.toNat=99:=by
 simp only [Gm,Bool.or_eq_true,beq_iff_eq] at h
 rcases h with rfl | rfl | rfl | rfl | rfl | rfl | rfl<;>simp
theorem ZS {c:UInt8} (h:Gm c=false):c.toNat≠100/\c.toNat≠105/\c.toNat≠101/\c.toNat≠117/\c.toNat≠120/\c.toNat≠111/\c.toNat≠99:=by
 simp only [Gm,Bool.or_eq_false_iff,beq_eq_false_iff_ne] at h
 obtain ⟨h1,h2,h3,h4,h5,h6,h7⟩:=h
 refine ⟨fun e=>h1 ?_,fun e=>h2 ?_,fun e=>h3 ?_,fun e=>h4 ?_,fun e=>h5 ?_,fun e=>h6 ?_,fun e=>h7 ?_⟩<;>exact UInt8.toNat_inj.1 e
theorem Acv : Cn 105=Cn 100:=by funext n;simp [Cn]
theorem Acw : Cn 101=Cn 100:=by funext n;simp [Cn]
theorem IU {W:World} {b:Nat}:Calls Tryz.prog 55 #[.int .i64 b] W fun e W'=>e=.returned (.func (Fn.func 56) #[] #[.pointer (some ⟨W.heap.size,0,none⟩)])/\W'=W.alloc (.cells #[.int .i64 b] 3):=by
 go_enter Tryz.func55,Tryz.ntmps55
 go_wp2
 go_ret
 exact ⟨rfl,rfl⟩
theorem YI {t:ByteArray} {k:Nat} (h:k<t.size):(bs t).drop k=t[k]'h::(bs t).drop (k+1):=by
 have hl:k<(bs t).length:=by rw [← LA];exact h
 exact List.drop_eq_getElem_cons hl
set_option maxRecDepth 100000 in
set_option maxHeartbeats 4000000 in
theorem TY {w:World} {t:ByteArray} {l:List Int} {a:Option Addr} {cap:Nat} (hL:Cq w) (hlB:∀ k,k∈Fy->k<w.heap.size) (h1:l.length<=cap) (h2:cap<=maxLen) (ha:XI w a l) (hI:∀ n∈l,I64 n) (ht:t.size<=1099511627776)
  (hU:(∃ c∈bs t,c=117∨c=120∨c=111)->P6 10/\P6 16/\P6 8) :
  Calls Tryz.prog 41 #[.string t,.slice a l.length cap] w fun e w'=>e=.returned (.string (CV t l))/\Below w.heap.size w w':=by
 have hst:=PrI.start h1 h2 ha
 clear ha h1 h2
 go_enter Tryz.func41,Tryz.ntmps41
 go_wp2_with fail
 generalize ((w.alloc (.cells #[.slice a l.length cap] Adn)).alloc (.cells #[.pointer none,.slice none 0 0] SD))=W at hst
 go_loopw [8] (fun i wr=>∃ (k:Nat) (rest:List Int) (T:ByteArray),k<=t.size/\i=.int .i64 k/\PrI w rest T wr/\T++mk (Cg ((bs t).drop k) rest)=CV t l/\T.size<=64*k/\∀ n∈rest,I64 n) (fun i _=>t.size - (intOf i).toNat)
 case atStart=>exact ⟨0,l,mk [],Nat.zero_le _,rfl,hst,by unfold CV;rw [Mv];rfl,by simp [NI],hI⟩
 case round =>
  clear hst hI
  obtain ⟨k,rest,T,hk,rfl,hp,heq,hT,hI⟩:=hrel
  by_cases hlt:k<t.size
  ·have hdk:=YI hlt
   rw [hdk] at heq
   have hz:=hp.sz
   by_cases hA:(t[k]'hlt).toNat≠37∨k+1=t.size
   ·have hpg:Cg ((t[k]'hlt)::(bs t).drop (k+1)) rest=(t[k]'hlt)::Cg ((bs t).drop (k+1)) rest:=Ac0 (hA.imp id fun h=>List.drop_of_length_le (by rw [← LA];omega))
    rw [hpg,Md] at heq
    clear hpg hdk
    by_cases hc:(t[k]'hlt).toNat=37
    ·have hk1:k+1=t.size:=by omega
     go_wp2_with fail
     refine (Gs (c:=t[k]'hlt) (by rw [hc];rfl) hp.bd (by omega) (by omega)).mono ?_
     rintro e W2 ⟨rfl,k1,k2⟩
     have hp2:=LN hp k1 k2
     have hs:=IM T (t[k]'hlt)
     go_wp2
     go_roundw
     case rel=>exact ⟨k+1,rest,_,by omega,by go_num,hp2,heq,by omega,hI⟩
     case measure=>simp [intOf];omega
    ·go_wp2_with fail
     refine (Gs (c:=t[k]'hlt) rfl hp.bd (by omega) (by omega)).mono ?_
     rintro e W2 ⟨rfl,k1,k2⟩
     have hp2:=LN hp k1 k2
     have hs:=IM T (t[k]'hlt)
     go_wp2
     go_roundw
     case rel=>exact ⟨k+1,rest,_,by omega,by go_num,hp2,heq,by omega,hI⟩
     case measure=>simp [intOf];omega
   ·have hc:(t[k]'hlt).toNat=37:=by omega
    have hk1:k+1<t.size:=by omega
    have hk2:¬ k+1=t.size:=by omega
    have hdk2:=YI hk1
    rw [Afy hc,hdk2] at heq
    clear hA hdk
    by_cases h37:(t[k+1]'hk1).toNat=37
    ·rw [Afy h37,Ahg,Md] at heq
     go_wp2_with fail
     refine (Gs (c:=37) rfl hp.bd (by omega) (by omega)).mono ?_
     rintro e W2 ⟨rfl,k1,k2⟩
     have hp2:=LN hp k1 k2
     have hs:=IM T 37
     go_wp2
     go_roundw
     case rel=>exact ⟨k+2,rest,_,by omega,by go_num,hp2,heq,by omega,hI⟩
     case measure=>simp [intOf];omega
    ·by_cases hsh:Gm (t[k+1]'hk1)=true
     ·rw [AeJ h37 hsh,Afj] at heq
      have hsz:=ZQ (T:=T) (c:=t[k+1]'hk1) hI
      have hmem:t[k+1]'hk1∈bs t:=Array.getElem_mem_toList _
      rcases V6 hsh with hd | hd | hd | hd | hd | hd | hd
      ·rw [show t[k+1]'hk1=100 from UInt8.toNat_inj.1 hd] at heq hsz
       go_wp2_with fail
       refine (WY hL hlB hp hI (by omega)).mono ?_
       rintro e W2 ⟨⟨v,rfl⟩,hp2,_⟩
       go_wp2
       go_roundw
       case rel=>exact ⟨k+2,rest.tail,_,by omega,by go_num,hp2,heq,by omega,fun n h=>hI n (List.mem_of_mem_tail h)⟩
       case measure=>simp [intOf];omega
      ·rw [show t[k+1]'hk1=105 from UInt8.toNat_inj.1 hd,Acv] at heq hsz
       go_wp2_with fail
       refine (WY hL hlB hp hI (by omega)).mono ?_
       rintro e W2 ⟨⟨v,rfl⟩,hp2,_⟩
       go_wp2
       go_roundw
       case rel=>exact ⟨k+2,rest.tail,_,by omega,by go_num,hp2,heq,by omega,fun n h=>hI n (List.mem_of_mem_tail h)⟩
       case measure=>simp [intOf];omega
      ·rw [show t[k+1]'hk1=101 from UInt8.toNat_inj.1 hd,Acw] at heq hsz
       go_wp2_with fail
       refine (WY hL hlB hp hI (by omega)).mono ?_
       rintro e W2 ⟨⟨v,rfl⟩,hp2,_⟩
       go_wp2
       go_roundw
       case rel=>exact ⟨k+2,rest.tail,_,by omega,by go_num,hp2,heq,by omega,fun n h=>hI n (List.mem_of_mem_tail h)⟩
       case measure=>simp [intOf];omega
      ·have hq:=And.left (hU ⟨_,hmem,by simp [show t[k+1]'hk1=117 from UInt8.toNat_inj.1 hd]⟩)
       rw [show t[k+1]'hk1=117 from UInt8.toNat_inj.1 hd] at heq hsz
       go_wp2_with fail
       refine (IU (b:=10)).mono ?_
       rintro e W1 ⟨rfl,rfl⟩
       have hp1:=hp.same ((Below.refl _ _).alloc (Nat.le_refl _) (.cells #[.int .i64 10] 3))
       go_wp2_with fail
       refine (Ago hq (heap_alloc_new _ _) hL hlB hp1 hI (by omega)).mono ?_
       rintro e W2 ⟨⟨v,rfl⟩,hp2,_⟩
       go_wp2
       go_roundw
       case rel=>exact ⟨k+2,rest.tail,_,by omega,by go_num,hp2,heq,by omega,fun n h=>hI n (List.mem_of_mem_tail h)⟩
       case measure=>simp [intOf];omega
      ·have hq:=(fun h=>h.2.1) (hU ⟨_,hmem,by simp [show t[k+1]'hk1=120 from UInt8.toNat_inj.1 hd]⟩)
       rw [show t[k+1]'hk1=120 from UInt8.toNat_inj.1 hd] at heq hsz
       go_wp2_with fail
       refine (IU (b:=16)).mono ?_
       rintro e W1 ⟨rfl,rfl⟩
       have hp1:=hp.same ((Below.refl _ _).alloc (Nat.le_refl _) (.cells #[.int .i64 16] 3))
       go_wp2_with fail
       refine (Agn hq (heap_alloc_new _ _) hL hlB hp1 hI (by omega)).mono ?_
       rintro e W2 ⟨⟨v,rfl⟩,hp2,_⟩
       go_wp2
       go_roundw
       case rel=>exact ⟨k+2,rest.tail,_,by omega,by go_num,hp2,heq,by omega,fun n h=>hI n (List.mem_of_mem_tail h)⟩
       case measure=>simp [intOf];omega
      ·have hq:=(fun h=>h.2.2) (hU ⟨_,hmem,by simp [show t[k+1]'hk1=111 from UInt8.toNat_inj.1 hd]⟩)
       rw [show t[k+1]'hk1=111 from UInt8.toNat_inj.1 hd] at heq hsz
       go_wp2_with fail
       refine (IU (b:=8)).mono ?_
       rintro e W1 ⟨rfl,rfl⟩
       have hp1:=hp.same ((Below.refl _ _).alloc (Nat.le_refl _) (.cells #[.int .i64 8] 3))
       go_wp2_with fail
       refine (Agp hq (heap_alloc_new _ _) hL hlB hp1 hI (by omega)).mono ?_
       rintro e W2 ⟨⟨v,rfl⟩,hp2,_⟩
       go_wp2
       go_roundw
       case rel=>exact ⟨k+2,rest.tail,_,by omega,by go_num,hp2,heq,by omega,fun n h=>hI n (List.mem_of_mem_tail h)⟩
       case measure=>simp [intOf];omega
      ·rw [show t[k+1]'hk1=99 from UInt8.toNat_inj.1 hd] at heq hsz
       go_wp2_with fail
       refine (Agq hp hI (by omega)).mono ?_
       rintro e W2 ⟨⟨v,rfl⟩,hp2,_⟩
       go_wp2
       go_roundw
       case rel=>exact ⟨k+2,rest.tail,_,by omega,by go_num,hp2,heq,by omega,fun n h=>hI n (List.mem_of_mem_tail h)⟩
       case measure=>simp [intOf];omega
     ·have hno:Gm (t[k+1]'hk1)=false:=by simpa using hsh
      obtain ⟨n1,n2,n3,n4,n5,n6,n7⟩:=ZS hno
      rw [Ac1 h37 hno,Md,Md] at heq
      go_wp2_with fail
      refine (Gs (c:=37) rfl hp.bd (by omega) (by omega)).mono ?_
      rintro e W2 ⟨rfl,k1,k2⟩
      have hp2:=LN hp k1 k2
      have hs:=IM T 37
      have hz2:=hp2.sz
      go_wp2_with fail
      refine (Gs (c:=t[k+1]'hk1) rfl hp2.bd (by omega) (by omega)).mono ?_
      rintro e W3 ⟨rfl,k3,k4⟩
      have hp3:=LN hp2 k3 k4
      have hs3:=IM (T++mk [37]) (t[k+1]'hk1)
      go_wp2
      go_roundw
      case rel=>exact ⟨k+2,rest,_,by omega,by go_num,hp3,heq,by omega,hI⟩
      case measure=>simp [intOf];omega
  ·obtain rfl:k=t.size:=by omega
   rw [List.drop_of_length_le (by rw [← LA];omega),show Cg [] rest=[] from rfl,JZ] at heq
   have hz:=hp.sz
   go_wp2_with fail
   refine (Ry hp.bd (by omega)).mono ?_
   rintro e W2 ⟨rfl,hb2⟩
   rw [heq]
   go_wp2
   go_ret
   exact ⟨rfl,hp.bw.trans (hb2.mono (Nat.le_succ _))⟩
end Go.Proofs.YtiaebjpcgjkhoaaGreatDoor
