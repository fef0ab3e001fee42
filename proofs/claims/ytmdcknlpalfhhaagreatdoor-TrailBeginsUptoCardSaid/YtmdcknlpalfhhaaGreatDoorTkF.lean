/-
  Texts, joined: SpH, SpQ, SpV1, SpV2, VjCut, SpV3, SpV4, SpV5, SpV6, SpV7, TbV1, TbV2, TbV3, LawKit, TbLaid, TbWalk, TbRow.
-/
import Derived.Test.YtmdcknlpalfhhaaGreatDoorTkE
import Derived.KernelRfl
import Derived.WalkKit
import Derived.Test.YtmdcknlpalfhhaaGreatDoorRows
import Derived.ProofKit
import Derived.OpenShut
import Derived.Test.YtmdcknlpalfhhaaGreatDoorCards
import Derived.Test.YtmdcknlpalfhhaaGreatDoorTie
import Derived.Deep.DeepHandedRow
import Derived.Lib.LaidTab
import Derived.Stop.LaidErr
namespace Go.Proofs.YtmdcknlpalfhhaaGreatDoor
open Go.RowKit
set_option maxRecDepth 100000
theorem UC (r:D.State)(e:Int)(m:D.Model):(fc BA F5 Tryz.f11 [] (.tup [.agg (Ae r),Aa e])).goal (St.init [] [.agg (Ag m)]) =
  (∃ (y:Bool),VC 23 [VV.agg (Ag m)] (Ac y)/\BB (!y) (LQ (VV.tup [VV.agg [VV.nl,VV.nl,VV.nl,Aa 0,Aa 0,Aa 0],Aa 40]) (VV.tup [VV.agg (Ae r),Aa e])) (∃ (y:List Int),VC 24 [Ad true m.Init] (Ad true y)/\AA (fc BA F5 Tryz.f11 [] (VV.tup [VV.agg (Ae r),Aa e])) [1,1,1,0,1,0] (Aq [(1,VV.bp 0 0),(2,VV.bp 1 0),(4,VV.bp 2 0),(18,Ad true m.Chans),(19,Aa (↑m.Chans.length:Int)),(20,Aa 0)] [Ob.box (Ag m),Ob.box [VV.nl,VV.nl,VV.nl,Aa 0,Aa 0,Aa 0],Ob.box [Ad true y,VV.nl,VV.nl,Aa 0,Aa (-1),Aa (-1)]]))):=by kernel_rfl
theorem AgZ (r:D.Loc × Bool)(m:D.Model)(s:D.State)(pid:Int):(fc BA AT Tryz.f59 [] (.tup [.agg (AY r.1),Ac r.2])).goal (St.init [] [.agg (Ag m),.agg (Ae s),Aa pid]) =
  (BB (bif decide (pid<0) then true else decide (pid>=(↑s.Procs.length:Int))) (LQ (VV.tup [VV.agg [VV.nl,VV.nl,Ac false,Ac false,Ac false,Ac false,Ac false],Ac false]) (VV.tup [VV.agg (AY r.fst),Ac r.snd])) (inX pid s.Procs.length/\inX (s.Procs.getD pid.toNat default).Type_ m.Procs.length/\inX pid s.Procs.length/\inX (s.Procs.getD pid.toNat default).Loc (m.Procs.getD (s.Procs.getD pid.toNat default).Type_.toNat default).Locs.length/\LQ (VV.tup [VV.agg (AY ((m.Procs.getD (s.Procs.getD pid.toNat default).Type_.toNat default).Locs.getD (s.Procs.getD pid.toNat default).Loc.toNat default)),Ac true]) (VV.tup [VV.agg (AY r.fst),Ac r.snd]))):=by kernel_rfl
theorem Agz (r:D.State × ByteArray × Int)(m:D.Model)(s:D.State)(pid:Int):(fc BA ML Tryz.f58 [] (.tup [.agg (Ae r.1),AD r.2.1,Aa r.2.2])).goal (St.init [] [.agg (Ag m),.agg (Ae s),Aa pid]) =
  (AA (fc BA ML Tryz.f58 [] (VV.tup [VV.agg (Ae r.fst),AD r.snd.fst,Aa r.snd.snd])) [1,1,1,0] (Abd m s pid (⟨#[]⟩:ByteArray) (0:Int))):=by kernel_rfl
theorem Ad4 (r:Nx)(e:D.Env)(w:Wy):(fc BA J0 Tryz.f40 [] (.agg (BH r))).goal (St.init [] [.agg (Af e),.agg (AZ w)]) =
  (∃ (y:D.State × ByteArray × Int),VC 57 [VV.agg (Af e),VV.agg (AZ w)] (VV.tup [VV.agg (Ae y.fst),AD y.snd.fst,Aa y.snd.snd])/\BB (y.snd.snd==0) (∃ (y_1:D.State × ByteArray × Int),VC 58 [VV.agg (Ag e.M),VV.agg (Ae y.fst),Aa e.Pid] (VV.tup [VV.agg (Ae y_1.fst),AD y_1.snd.fst,Aa y_1.snd.snd])/\(↑(y.snd.fst.size+y_1.snd.fst.size):Int)<=(9223372036854775807:Int)/\BB (y_1.snd.snd != 0) (LQ (VV.agg [Aa e.Pid,Aa w.Esc,Aa w.Way,Aa w.With,Aa w.WithEsc,Aa w.WithWay,Aa (-1),VV.nl,VV.nl,VV.nl,Aa 0,Aa 0,Aa 0,Aa y_1.snd.snd,AD ByteArray.empty]) (VV.agg (BH r))) (AA (fc BA J0 Tryz.f40 [] (VV.agg (BH r))) [1,1,1,1,1,1,0,1,0] (Aq [(2,VV.bp 0 0),(4,VV.bp 1 0),(5,VV.bp 2 0),(6,VV.bp 3 0),(7,AD (y.snd.fst++y_1.snd.fst)),(60,VV.ow 4 0 2),(61,Aa (↑2:Int)),(62,Aa 0)] [Ob.box (Af e),Ob.box [Aa 0,Aa 0,Aa 0,Aa 0,Aa 0,Aa 0,Aa 0,VV.nl,VV.nl,VV.nl,Aa 0,Aa 0,Aa 0,Aa 0,AD ByteArray.empty],Ob.box [Aa e.Pid,Aa w.Esc,Aa w.Way,Aa w.With,Aa w.WithEsc,Aa w.WithWay,Aa (-1),VV.nl,VV.nl,VV.nl,Aa 0,Aa 0,Aa 0,Aa 0,AD ByteArray.empty],Ob.box [Ad true y_1.fst.Globals,AE true y_1.fst.Chans,Au true y_1.fst.Procs,Aa y_1.fst.Last,Aa (-1),Aa y_1.fst.Claim],Ob.arr true 0 2 1 fun(i:Nat)=>List.take 1 (List.drop (i*1) [Aa e.Pid,Aa w.With])]))) (BB (y.snd.snd != 0) (LQ (VV.agg [Aa e.Pid,Aa w.Esc,Aa w.Way,Aa w.With,Aa w.WithEsc,Aa w.WithWay,Aa (-1),VV.nl,VV.nl,VV.nl,Aa 0,Aa 0,Aa 0,Aa y.snd.snd,AD ByteArray.empty]) (VV.agg (BH r))) (AA (fc BA J0 Tryz.f40 [] (VV.agg (BH r))) [1,1,1,1,1,1,0,1,0] (Aq [(2,VV.bp 0 0),(4,VV.bp 1 0),(5,VV.bp 2 0),(6,VV.bp 3 0),(7,AD y.snd.fst),(60,VV.ow 4 0 2),(61,Aa (↑2:Int)),(62,Aa 0)] [Ob.box (Af e),Ob.box [Aa 0,Aa 0,Aa 0,Aa 0,Aa 0,Aa 0,Aa 0,VV.nl,VV.nl,VV.nl,Aa 0,Aa 0,Aa 0,Aa 0,AD ByteArray.empty],Ob.box [Aa e.Pid,Aa w.Esc,Aa w.Way,Aa w.With,Aa w.WithEsc,Aa w.WithWay,Aa (-1),VV.nl,VV.nl,VV.nl,Aa 0,Aa 0,Aa 0,Aa 0,AD ByteArray.empty],Ob.box [Ad true y.fst.Globals,AE true y.fst.Chans,Au true y.fst.Procs,Aa y.fst.Last,Aa (-1),Aa y.fst.Claim],Ob.arr true 0 2 1 fun(i:Nat)=>List.take 1 (List.drop (i*1) [Aa e.Pid,Aa w.With])])))):=by kernel_rfl
theorem Aeu (r:List Gn)(e:D.Env):(fc BA QH Tryz.f79 [] (Bw true r)).goal (St.init [] [.agg (Af e)]) =
  (AA (fc BA QH Tryz.f79 [] (Bw true r)) [1,1,0,1,0] (Aq [(1,VV.bp 0 0),(3,VV.nl),(11,Aa (↑e.S.Procs.length:Int)),(12,Aa 0)] [Ob.box (Af e)])):=by kernel_rfl
theorem Afy (r:List Gn)(e:D.Env):(fc BA J5 Tryz.f56 [] (Bw true r)).goal (St.init [] [.agg (Af e)]) =
  (∃ (y:List Gn),VC 79 [VV.agg (Af e)] (Bw true y)/\AA (fc BA J5 Tryz.f56 [] (Bw true r)) [1,1,1,0,1,0] (Zb e y (0:Int) (0:Int))):=by kernel_rfl
theorem AfL (r:Mv)(c:Int):(fc BA AT Tryz.f28 [] (.agg (CJ r))).goal (St.init [] [Aa c]) =
  (LQ (VV.agg [Aa (-1),Aa (-1),Aa (-1),Aa (-1),Aa (-1),Aa (-1),Aa c]) (VV.agg (CJ r))):=by kernel_rfl
theorem Ade (r:Wc)(e:D.Env)(s:D.Stmt):(fc BA AT Tryz.f42 [] (.agg (Eb r))).goal (St.init [] [.agg (Af e),.agg (Ap s)]) =
  (BB (s.Kind==1) (∃ (y:Int × Int),VC 61 [VV.agg (Af e),Aa s.A] (vII y)/\LQ (VV.agg [Ac (bif y.fst != 0 then true else y.snd != 0),Aa y.snd]) (VV.agg (Eb r))) (BB (s.Kind==3) (∃ (y:Int × Int),VC 61 [VV.agg (Af e),Aa s.A] (vII y)/\BB (bif y.snd==0 then y.fst==0 else false) (LQ (VV.agg [Ac true,Aa 50]) (VV.agg (Eb r))) (LQ (VV.agg [Ac true,Aa y.snd]) (VV.agg (Eb r)))) (LQ (VV.agg [Ac (s.Kind==8),Aa 0]) (VV.agg (Eb r))))):=by kernel_rfl
theorem Ac8 (r:List Wc)(m:D.Model)(s:D.State):(fc BA It Tryz.f29 [] (Cj true r)).goal (St.init [] [.agg (Ag m),.agg (Ae s)]) =
  (∃ (y:List Bool × Int),VC 41 [VV.agg (Ag m),VV.agg (Ae s)] (VV.tup [Ba true y.fst,Aa y.snd])/\inX m.Claim m.Procs.length/\inX s.Claim (m.Procs.getD m.Claim.toNat default).Locs.length/\AA (fc BA It Tryz.f29 [] (Cj true r)) [1,1,1,1,1,1,0,1,0] (Aq [(7,VV.bp 0 0),(8,VV.nl),(9,Ac false),(10,As true ((m.Procs.getD m.Claim.toNat default).Locs.getD s.Claim.toNat default).Out),(38,As true ((m.Procs.getD m.Claim.toNat default).Locs.getD s.Claim.toNat default).Out),(39,Aa (↑((m.Procs.getD m.Claim.toNat default).Locs.getD s.Claim.toNat default).Out.length:Int)),(40,Aa 0)] [Ob.box [AJ true m.Globals,Ad true m.Init,Bd true m.Shapes,Ad true m.Chans,A4 true m.Procs,Aa m.Claim,Bs true m.Exprs,Ad true s.Globals,AE true s.Chans,Au true s.Procs,Aa s.Last,Aa s.Alone,Aa s.Claim,Aa (-1),Ac false,Ba true y.fst]])):=by kernel_rfl
theorem YE (r:List Nx × Int)(m:D.Model)(s:D.State):(fc BA EE Tryz.f13 [] (.tup [AR true r.1,Aa r.2])).goal (St.init [] [.agg (Ag m),.agg (Ae s)]) =
  (∃ (y:List Nx × Int),VC 27 [VV.agg (Ag m),VV.agg (Ae s)] (VV.tup [AR true y.fst,Aa y.snd])/\BB (bif y.snd != 0 then true else decide (m.Claim<0)) (LQ (VV.tup [AR true y.fst,Aa y.snd]) (VV.tup [AR true r.fst,Aa r.snd])) (BB ((↑y.fst.length:Int)==0) (∃ (y:Mv),VC 28 [Aa (-1)] (VV.agg (CJ y))/\∃ (y_1:List Wc),VC 29 [VV.agg (Ag m),VV.agg (Ae s)] (Cj true y_1)/\AA (fc BA EE Tryz.f13 [] (VV.tup [AR true r.fst,Aa r.snd])) [1,1,1,1,1,0,1,0] (Aq [(2,VV.bp 0 0),(3,VV.bp 1 0),(6,VV.ow 2 0 1),(8,VV.nl),(37,Cj true y_1),(38,Aa (↑y_1.length:Int)),(39,Aa 0)] [Ob.box (Ag m),Ob.box (Ae s),Ob.arr true 0 1 15 fun(i:Nat)=>List.take 15 (List.drop (i*15) [Aa y.Pid,Aa y.Esc,Aa y.Way,Aa y.With,Aa y.WithEsc,Aa y.WithWay,Aa y.Claim,Ad true s.Globals,AE true s.Chans,Au true s.Procs,Aa s.Last,Aa s.Alone,Aa s.Claim,Aa 0,AD ByteArray.empty])])) (∃ (y_1:List Wc),VC 29 [VV.agg (Ag m),VV.agg (Ae s)] (Cj true y_1)/\AA (fc BA EE Tryz.f13 [] (VV.tup [AR true r.fst,Aa r.snd])) [1,1,1,1,1,0,1,0] (Aq [(2,VV.bp 0 0),(3,VV.bp 1 0),(6,AR true y.fst),(8,VV.nl),(37,Cj true y_1),(38,Aa (↑y_1.length:Int)),(39,Aa 0)] [Ob.box (Ag m),Ob.box (Ae s)])))):=by kernel_rfl
theorem AbE (r:Bool)(a b:List Mv):(fc BA Nz Tryz.f7 [] (Ac r)).goal (St.init [] [BU true a,BU true b]) =
  (BB ((↑a.length:Int) != (↑b.length:Int)) (LQ (Ac false) (Ac r)) (AA (fc BA Nz Tryz.f7 [] (Ac r)) [1,1,0,1,0] (Agt a b (0:Int)))):=by kernel_rfl
theorem Ahx (m:D.Model)(s:D.State)(l:Nat)(K:Exit->St->Prop):((fc BA AT Tryz.f55 [] (.tup [])).piece (hdC 3 ((fc BA AT Tryz.f55 [] (.tup [])).sub [])) [0,30,31,32] K).goal (St.init [.box (Ag m),.box (Ae s)] [yV l,.bp 0 0,.bp 1 0]) =
  (∃ (y:List Bool × Int),VC 41 [VV.agg (Ag m),VV.agg (Ae s)] (VV.tup [Ba true y.fst,Aa y.snd])/\∃ (y_1:List Gn),VC 56 [VV.agg [AJ true m.Globals,Ad true m.Init,Bd true m.Shapes,Ad true m.Chans,A4 true m.Procs,Aa m.Claim,Bs true m.Exprs,Ad true s.Globals,AE true s.Chans,Au true s.Procs,Aa s.Last,Aa s.Alone,Aa s.Claim,Aa 0,Ac false,Ba true y.fst]] (Bw true y_1)/\BB ((↑y_1.length:Int)==0) (∃ (y_2:List Gn),VC 56 [VV.agg [AJ true m.Globals,Ad true m.Init,Bd true m.Shapes,Ad true m.Chans,A4 true m.Procs,Aa m.Claim,Bs true m.Exprs,Ad true s.Globals,AE true s.Chans,Au true s.Procs,Aa s.Last,Aa s.Alone,Aa s.Claim,Aa 0,Ac true,Ba true y.fst]] (Bw true y_2)/\K Exit.normal (PE l y_2 (0:Int))) (K Exit.normal (PE l y_1 (0:Int)))):=by kernel_rfl
theorem AhE (l:Nat)(L:List Gn)(i:Int)(K:Exit->St->Prop):((fc BA AT Tryz.f55 [] (.tup [])).piece (hdC 1 ((fc BA AT Tryz.f55 [] (.tup [])).sub [1,1,1,1,0,0])) [0,30,31,32] K).goal (PE l L i) =
  (BB (decide (i<(↑L.length:Int))) (K Exit.normal (PE l L i)) (K (Exit.exit 0) (PE l L i))):=by kernel_rfl
theorem AhD (l:Nat)(L:List Gn)(i:Int)(K:Exit->St->Prop):((fc BA AT Tryz.f55 [] (.tup [])).piece (hdC 1 ((fc BA AT Tryz.f55 [] (.tup [])).sub [1,1,1,1,0,0,1,1,0,0])) [0,30,31,32,8,37,38,39] K).goal (PE l L i) =
  (inX i L.length/\K Exit.normal (Ux l L i (L.getD i.toNat default) (0:Int))):=by kernel_rfl
theorem AhC (l:Nat)(L:List Gn)(i:Int)(g:Gn)(j:Int)(K:Exit->St->Prop):((fc BA AT Tryz.f55 [] (.tup [])).piece (hdC 1 ((fc BA AT Tryz.f55 [] (.tup [])).sub [1,1,1,1,0,0,1,1,0,0,1,1,0,0])) [0,30,31,32,8,37,38,39] K).goal (Ux l L i g j) =
  (BB (decide (j<(↑g.snd.length:Int))) (K Exit.normal (Ux l L i g j)) (K (Exit.exit 2) (Ux l L i g j))):=by kernel_rfl
theorem AhB (l:Nat)(L:List Gn)(i:Int)(g:Gn)(j:Int)(K:Exit->St->Prop):((fc BA AT Tryz.f55 [] (.tup [])).piece (hdC 0 ((fc BA AT Tryz.f55 [] (.tup [])).sub [1,1,1,1,0,0,1,1,0,0,1,1,0,0,1,1,0,0])) [0,30,31,32,8,37,38,39,10] K).goal (Ux l L i g j) =
  (inX j g.snd.length/\K Exit.normal (AjR l L i g j (g.snd.getD j.toNat default))):=by kernel_rfl
theorem AhA (l:Nat)(L:List Gn)(i:Int)(g:Gn)(j:Int)(w:Wy)(K:Exit->St->Prop):((fc BA AT Tryz.f55 [] (.tup [])).piece (Akm 4 ((fc BA AT Tryz.f55 [] (.tup [])).sub [1,1,1,1,0,0,1,1,0,0,1,1,0,0,1,1,0,0,1,0])) [0,30,31,32,8,37,38,39,43,45,46] K).goal (AjR l L i g j w) =
  (K Exit.normal (Aq [(0,VV.fn (Fn.yield l) []),(30,Bw true L),(31,Aa (↑L.length:Int)),(32,Aa i),(8,VV.bp 0 0),(37,A5 true g.snd),(38,Aa (↑g.snd.length:Int)),(39,Aa j),(43,VV.fn (Fn.yield l) []),(45,VV.agg (Af g.fst)),(46,VV.agg (AZ w))] [Ob.box (EC g)])):=by kernel_rfl
theorem Ahz (l:Nat)(L:List Gn)(i:Int)(g:Gn)(j:Int)(w:Wy)(b:Bool)(K:Exit->St->Prop):((fc BA AT Tryz.f55 [] (.tup [])).piece (AjP 4 ((fc BA AT Tryz.f55 [] (.tup [])).sub [1,1,1,1,0,0,1,1,0,0,1,1,0,0,1,1,0,0,1,0])) [0,30,31,32,8,37,38,39,48] K).goal (Aq ((47,Ac b)::lEy l L i g j w) [.box (EC g)]) =
  (K Exit.normal (Aq [(0,VV.fn (Fn.yield l) []),(30,Bw true L),(31,Aa (↑L.length:Int)),(32,Aa i),(8,VV.bp 0 0),(37,A5 true g.snd),(38,Aa (↑g.snd.length:Int)),(39,Aa j),(48,Ac !b)] [Ob.box (EC g)])):=by kernel_rfl
theorem Ahy (l:Nat)(L:List Gn)(i:Int)(g:Gn)(j:Int)(K:Exit->St->Prop):((fc BA AT Tryz.f55 [] (.tup [])).piece ((fc BA AT Tryz.f55 [] (.tup [])).sub [1,1,1,1,0,0,1,1,0,0,1,1,0,0,1,1,1]) [0,30,31,32,8,37,38,39] K).goal (Ux l L i g j) =
  (K Exit.normal (Ux l L i g (IntKind.i64.wrap (j+(1:Int))))):=by kernel_rfl
theorem Ahw (l:Nat)(L:List Gn)(i:Int)(K:Exit->St->Prop):((fc BA AT Tryz.f55 [] (.tup [])).piece ((fc BA AT Tryz.f55 [] (.tup [])).sub [1,1,1,1,0,0,1,1,1]) [0,30,31,32] K).goal (PE l L i) =
  (K Exit.normal (PE l L (IntKind.i64.wrap (i+(1:Int))))):=by kernel_rfl
theorem Abu (r:D.State)(e:Int)(m:D.Model)(l:List D.Chan)(k:Int)(J:St->Prop):((fc BA F5 Tryz.f11 [] (.tup [.agg (Ae r),Aa e])).loop [1,1,1,0,1,0] J).goal (Zd m l k) =
  (BB (decide (k<(↑m.Chans.length:Int))) (inX k m.Chans.length/\(l.length+1)*32<=140737488355328/\J (Aq [(1,VV.bp 0 0),(2,VV.bp 1 0),(4,VV.bp 2 0),(18,Ad true m.Chans),(19,Aa (↑m.Chans.length:Int)),(20,Aa (IntKind.i64.wrap (k+(1:Int))))] [Ob.box (Ag m),Ob.box [VV.nl,VV.nl,VV.nl,Aa 0,Aa 0,Aa 0],Ob.box [Ad true m.Init,VV.ow 3 0 (l.length+1),VV.nl,Aa 0,Aa (-1),Aa (-1)],Ob.arr true 0 (l.length+1) 2 fun(i:Nat)=>bif i.blt l.length then AB (l.getD i default) else(fun(i:Nat)=>List.take 2 (List.drop (i*2) [Aa (m.Chans.getD k.toNat 0),VV.nl])) (i - l.length)])) (AA (fc BA F5 Tryz.f11 [] (VV.tup [VV.agg (Ae r),Aa e])) [1,1,1,1,0,1,0] (Aq [(1,VV.bp 0 0),(2,VV.bp 1 0),(4,VV.bp 2 0),(33,A4 true m.Procs),(34,Aa (↑m.Procs.length:Int)),(35,Aa 0)] [Ob.box (Ag m),Ob.box [VV.nl,VV.nl,VV.nl,Aa 0,Aa 0,Aa 0],Ob.box [Ad true m.Init,VV.ow 3 0 l.length,VV.nl,Aa 0,Aa (-1),Aa (-1)],Ob.arr true 0 l.length 2 (CQ l)]))):=by kernel_rfl
theorem Abt (r:D.State)(e:Int)(m:D.Model)(cs:List D.Chan)(ps:List D.Process)(k:Int)(J:St->Prop):((fc BA F5 Tryz.f11 [] (.tup [.agg (Ae r),Aa e])).loop [1,1,1,1,0,1,0] J).goal (Zc m cs ps k) =
  (BB (decide (k<(↑m.Procs.length:Int))) (inX k m.Procs.length/\AA ((fc BA F5 Tryz.f11 [] (VV.tup [VV.agg (Ae r),Aa e])).loop [1,1,1,1,0,1,0] J) [1,1,0,0,1,1,0] (Ru m cs ps k (m.Procs.getD k.toNat default) (m.Procs.getD k.toNat default).Active (0:Int))) (BB (decide (m.Claim>=0)) (inX m.Claim m.Procs.length/\LQ (VV.tup [VV.agg [Ad true m.Init,AE true cs,Au true ps,Aa 0,Aa (-1),Aa (m.Procs.getD m.Claim.toNat default).Start],Aa 0]) (VV.tup [VV.agg (Ae r),Aa e])) (LQ (VV.tup [VV.agg [Ad true m.Init,AE true cs,Au true ps,Aa 0,Aa (-1),Aa (-1)],Aa 0]) (VV.tup [VV.agg (Ae r),Aa e])))):=by kernel_rfl
theorem Abs (r:D.State)(e:Int)(m:D.Model)(cs:List D.Chan)(ps:List D.Process)(k:Int)(p:D.Proc)(many j:Int)(J J2:St->Prop):(((fc BA F5 Tryz.f11 [] (.tup [.agg (Ae r),Aa e])).loop [1,1,1,1,0,1,0] J).loop [1,1,0,0,1,1,0] J2).goal (Ru m cs ps k p many j) =
  (BB (decide (j<many)) (((0:Int)<=p.Params/\p.Params<=p.Params/\p.Params*(↑8:Int)<=140737488355328)/\∃ (y:D.Process),VC 25 [VV.agg (Ag m),Aa k,VV.sl false p.Params.toNat 1 fun(_:Nat)=>((((fc BA F5 Tryz.f11 [] (VV.tup [VV.agg (Ae r),Aa e])).loop [1,1,1,1,0,1,0] J).loop [1,1,0,0,1,1,0] J2).T 2).zero] (VV.agg (Ar y))/\(ps.length+1)*48<=140737488355328/\J2 (Aq [(1,VV.bp 0 0),(2,VV.bp 1 0),(4,VV.bp 2 0),(7,Aa k),(8,VV.bp 5 0),(33,A4 true m.Procs),(34,Aa (↑m.Procs.length:Int)),(35,Aa k),(41,Aa many),(42,Aa (IntKind.i64.wrap (j+(1:Int))))] [Ob.box (Ag m),Ob.box [VV.nl,VV.nl,VV.nl,Aa 0,Aa 0,Aa 0],Ob.box [Ad true m.Init,VV.ow 3 0 cs.length,VV.ow 4 0 (ps.length+1),Aa 0,Aa (-1),Aa (-1)],Ob.arr true 0 cs.length 2 (CQ cs),Ob.arr true 0 (ps.length+1) 4 fun(i:Nat)=>bif i.blt ps.length then Ar (ps.getD i default) else(fun(i:Nat)=>List.take 4 (List.drop (i*4) (Ar y))) (i - ps.length),Ob.box (Bc p)])) (J (Zc m cs ps (IntKind.i64.wrap (k+(1:Int)))))):=by kernel_rfl
theorem Aea (r:D.State × ByteArray × Int)(m:D.Model)(s:D.State)(pid:Int)(t:ByteArray)(n:Int)(J:St->Prop):((fc BA ML Tryz.f58 [] (.tup [.agg (Ae r.1),AD r.2.1,Aa r.2.2])).loop [1,1,1,0] J).goal (Abd m s pid t n) =
  (∃ (y:D.Loc × Bool),VC 59 [VV.agg (Ag m),VV.agg (Ae s),Aa pid] (VV.tup [VV.agg (AY y.fst),Ac y.snd])/\BB (bif !y.snd then true else !y.fst.Dstep) (LQ (VV.tup [VV.agg (Ae s),AD t,Aa 0]) (VV.tup [VV.agg (Ae r.fst),AD r.snd.fst,Aa r.snd.snd])) (BB (n==200) (LQ (VV.tup [VV.agg [VV.nl,VV.nl,VV.nl,Aa 0,Aa 0,Aa 0],AD (⟨#[]⟩:ByteArray),Aa 53]) (VV.tup [VV.agg (Ae r.fst),AD r.snd.fst,Aa r.snd.snd])) (∃ (y:List Wy × Int),VC 86 [VV.agg [AJ true m.Globals,Ad true m.Init,Bd true m.Shapes,Ad true m.Chans,A4 true m.Procs,Aa m.Claim,Bs true m.Exprs,Ad true s.Globals,AE true s.Chans,Au true s.Procs,Aa s.Last,Aa s.Alone,Aa s.Claim,Aa pid,Ac false,VV.nl]] (VV.tup [A5 true y.fst,Aa y.snd])/\AA ((fc BA ML Tryz.f58 [] (VV.tup [VV.agg (Ae r.fst),AD r.snd.fst,Aa r.snd.snd])).loop [1,1,1,0] J) [0,0,1,1,1,1,1,1,0,1,0] (Aq [(2,Aa pid),(3,VV.bp 0 0),(4,VV.bp 1 0),(6,VV.bp 2 0),(9,AD t),(10,Aa n),(13,VV.bp 3 0),(16,Ac false),(52,A5 true y.fst),(53,Aa (↑y.fst.length:Int)),(54,Aa 0)] [Ob.box (Ag m),Ob.box (Ae s),Ob.box [VV.nl,VV.nl,VV.nl,Aa 0,Aa 0,Aa 0],Ob.box [AJ true m.Globals,Ad true m.Init,Bd true m.Shapes,Ad true m.Chans,A4 true m.Procs,Aa m.Claim,Bs true m.Exprs,Ad true s.Globals,AE true s.Chans,Au true s.Procs,Aa s.Last,Aa s.Alone,Aa s.Claim,Aa pid,Ac false,VV.nl]])))):=by kernel_rfl
theorem Ad9 (r:D.State × ByteArray × Int)(m:D.Model)(s:D.State)(pid:Int)(t:ByteArray)(n:Int)(e:D.Env)(ws:List Wy)(i:Int)(J J2:St->Prop):(((fc BA ML Tryz.f58 [] (.tup [.agg (Ae r.1),AD r.2.1,Aa r.2.2])).loop [1,1,1,0] J).loop [0,0,1,1,1,1,1,1,0,1,0] J2).goal (Y9 m s pid t n e ws i) =
  (BB (decide (i<(↑ws.length:Int))) (inX i ws.length/\BB (decide ((ws.getD i.toNat default).With>=0)) (J2 (Y9 m s pid t n e ws (IntKind.i64.wrap (i+(1:Int))))) (∃ (y:D.State × ByteArray × Int),VC 57 [VV.agg (Af e),VV.agg (AZ (ws.getD i.toNat default))] (VV.tup [VV.agg (Ae y.fst),AD y.snd.fst,Aa y.snd.snd])/\BB (y.snd.snd != 0) (LQ (VV.tup [VV.agg [VV.nl,VV.nl,VV.nl,Aa 0,Aa 0,Aa 0],AD (⟨#[]⟩:ByteArray),Aa y.snd.snd]) (VV.tup [VV.agg (Ae r.fst),AD r.snd.fst,Aa r.snd.snd])) ((↑(t.size+y.snd.fst.size):Int)<=(9223372036854775807:Int)/\BB false (LQ (VV.tup [VV.agg [VV.nl,VV.nl,VV.nl,Aa 0,Aa 0,Aa 0],AD (⟨#[]⟩:ByteArray),Aa 53]) (VV.tup [VV.agg (Ae r.fst),AD r.snd.fst,Aa r.snd.snd])) (J (Abd m y.fst pid (t++y.snd.fst) (IntKind.i64.wrap (n+(1:Int)))))))) (BB true (LQ (VV.tup [VV.agg [VV.nl,VV.nl,VV.nl,Aa 0,Aa 0,Aa 0],AD (⟨#[]⟩:ByteArray),Aa 53]) (VV.tup [VV.agg (Ae r.fst),AD r.snd.fst,Aa r.snd.snd])) (J (Abd m s pid t (IntKind.i64.wrap (n+(1:Int))))))):=by kernel_rfl
theorem Abi (r:Nx)(e:D.Env)(w:Wy)(s:D.State)(t:ByteArray)(i:Int)(J:St->Prop):((fc BA J0 Tryz.f40 [] (.agg (BH r))).loop [1,1,1,1,1,1,0,1,0] J).goal (MV e w s t i) =
  (BB (decide (i<2)) (inX i 2/\∃ (y:D.Loc × Bool),VC 59 [VV.agg (Ag e.M),VV.agg (Ae s),Aa ([e.Pid,w.With].getD i.toNat 0)] (VV.tup [VV.agg (AY y.fst),Ac y.snd])/\BB (bif y.snd then y.fst.Atomic else false) (J (Aq [(2,VV.bp 0 0),(4,VV.bp 1 0),(5,VV.bp 2 0),(6,VV.bp 3 0),(7,AD t),(60,VV.ow 4 0 2),(61,Aa 2),(62,Aa (IntKind.i64.wrap (i+(1:Int))))] [Ob.box (Af e),Ob.box [Aa 0,Aa 0,Aa 0,Aa 0,Aa 0,Aa 0,Aa 0,VV.nl,VV.nl,VV.nl,Aa 0,Aa 0,Aa 0,Aa 0,AD ByteArray.empty],Ob.box [Aa e.Pid,Aa w.Esc,Aa w.Way,Aa w.With,Aa w.WithEsc,Aa w.WithWay,Aa (-1),VV.nl,VV.nl,VV.nl,Aa 0,Aa 0,Aa 0,Aa 0,AD ByteArray.empty],Ob.box [Ad true s.Globals,AE true s.Chans,Au true s.Procs,Aa s.Last,Aa ([e.Pid,w.With].getD i.toNat 0),Aa s.Claim],Ob.arr true 0 2 1 (AM [e.Pid,w.With])])) (J (MV e w s t (IntKind.i64.wrap (i+(1:Int)))))) (LQ (VV.agg [Aa e.Pid,Aa w.Esc,Aa w.Way,Aa w.With,Aa w.WithEsc,Aa w.WithWay,Aa (-1),Ad true s.Globals,AE true s.Chans,Au true s.Procs,Aa s.Last,Aa s.Alone,Aa s.Claim,Aa 0,AD t]) (VV.agg (BH r)))):=by kernel_rfl
theorem AbH (r:List Gn)(e:D.Env)(l:List Gn)(i:Int)(J:St->Prop):((fc BA QH Tryz.f79 [] (Bw true r)).loop [1,1,0,1,0] J).goal (Uy e l i) =
  (BB (decide (i<(↑e.S.Procs.length:Int))) (∃ (y:List Wy × Int),VC 86 [VV.agg [AJ true e.M.Globals,Ad true e.M.Init,Bd true e.M.Shapes,Ad true e.M.Chans,A4 true e.M.Procs,Aa e.M.Claim,Bs true e.M.Exprs,Ad true e.S.Globals,AE true e.S.Chans,Au true e.S.Procs,Aa e.S.Last,Aa e.S.Alone,Aa e.S.Claim,Aa i,Ac e.Timeout,Ba true e.Able]] (VV.tup [A5 true y.fst,Aa y.snd])/\BB (decide ((↑y.fst.length:Int) > 0)) ((l.length+1)*312<=140737488355328/\J (Aq [(1,VV.bp 0 0),(3,VV.ow 1 0 (l.length+1)),(11,Aa (↑e.S.Procs.length:Int)),(12,Aa (IntKind.i64.wrap (i+(1:Int))))] [Ob.box (Af e),Ob.arr true 0 (l.length+1) 17 fun(i_1:Nat)=>bif i_1.blt l.length then EC (l.getD i_1 default) else(fun(i_2:Nat)=>List.take 17 (List.drop (i_2*17) [AJ true e.M.Globals,Ad true e.M.Init,Bd true e.M.Shapes,Ad true e.M.Chans,A4 true e.M.Procs,Aa e.M.Claim,Bs true e.M.Exprs,Ad true e.S.Globals,AE true e.S.Chans,Au true e.S.Procs,Aa e.S.Last,Aa e.S.Alone,Aa e.S.Claim,Aa i,Ac e.Timeout,Ba true e.Able,A5 true y.fst])) (i_1 - l.length)])) (J (Uy e l (IntKind.i64.wrap (i+(1:Int)))))) (LQ (Bw true l) (Bw true r))):=by kernel_rfl
theorem AcU (r:List Gn)(e:D.Env)(L:List Gn)(most i:Int)(J:St->Prop):((fc BA J5 Tryz.f56 [] (Bw true r)).loop [1,1,1,0,1,0] J).goal (Zb e L most i) =
  (BB (decide (i<(↑L.length:Int))) (inX i L.length/\BB ((L.getD i.toNat default).fst.Pid==e.S.Alone) (LQ (VV.sl true 1 17 fun(i_1:Nat)=>List.take 17 (List.drop (i_1*17) (EC (L.getD i.toNat default)))) (Bw true r)) (inX (L.getD i.toNat default).fst.Pid e.S.Procs.length/\J (Zb e L (bif true then max most (e.S.Procs.getD (L.getD i.toNat default).fst.Pid.toNat default).Prio else min most (e.S.Procs.getD (L.getD i.toNat default).fst.Pid.toNat default).Prio) (IntKind.i64.wrap (i+(1:Int)))))) (AA (fc BA J5 Tryz.f56 [] (Bw true r)) [1,1,1,1,1,0,1,0] (Aq [(1,VV.bp 0 0),(4,Aa most),(7,VV.nl),(39,Bw true L),(40,Aa (↑L.length:Int)),(41,Aa 0)] [Ob.box (Af e)]))):=by kernel_rfl
theorem AcT (r:List Gn)(e:D.Env)(L out:List Gn)(most i:Int)(J:St->Prop):((fc BA J5 Tryz.f56 [] (Bw true r)).loop [1,1,1,1,1,0,1,0] J).goal (Uw e L out most i) =
  (BB (decide (i<(↑L.length:Int))) (inX i L.length/\inX (L.getD i.toNat default).fst.Pid e.S.Procs.length/\BB ((e.S.Procs.getD (L.getD i.toNat default).fst.Pid.toNat default).Prio==most) ((out.length+1)*312<=140737488355328/\J (Aq [(1,VV.bp 0 0),(4,Aa most),(7,VV.ow 1 0 (out.length+1)),(39,Bw true L),(40,Aa (↑L.length:Int)),(41,Aa (IntKind.i64.wrap (i+(1:Int))))] [Ob.box (Af e),Ob.arr true 0 (out.length+1) 17 fun(i_1:Nat)=>bif i_1.blt out.length then EC (out.getD i_1 default) else(fun(i_2:Nat)=>List.take 17 (List.drop (i_2*17) (EC (L.getD i.toNat default)))) (i_1 - out.length)])) (J (Uw e L out most (IntKind.i64.wrap (i+(1:Int)))))) (LQ (Bw true out) (Bw true r))):=by kernel_rfl
theorem Yy (r:List Wc)(_:D.Model)(_:D.State)(e:D.Env)(out:List Wc)(some:Bool)(l:List D.Trans)(i:Int)(J:St->Prop):((fc BA It Tryz.f29 [] (Cj true r)).loop [1,1,1,1,1,1,0,1,0] J).goal (Agx e out some l i) =
  (BB (decide (i<(↑l.length:Int))) (inX i l.length/\∃ (y:Bool × Int),VC 42 [VV.agg (Af e),VV.agg (Ap (l.getD i.toNat default).S)] (VV.agg (Eb y))/\(out.length+1)*16<=140737488355328/\J (Aq [(7,VV.bp 0 0),(8,VV.ow 1 0 (out.length+1)),(9,Ac (bif some then true else y.fst)),(10,As true l),(38,As true l),(39,Aa (↑l.length:Int)),(40,Aa (IntKind.i64.wrap (i+(1:Int))))] [Ob.box (Af e),Ob.arr true 0 (out.length+1) 2 fun(i:Nat)=>bif i.blt out.length then Eb (out.getD i default) else(fun(i:Nat)=>List.take 2 (List.drop (i*2) (Eb y))) (i - out.length)])) (AA (fc BA It Tryz.f29 [] (Cj true r)) [1,1,1,1,1,1,1,0,1,0] (Agw out some l (0:Int)))):=by kernel_rfl
theorem Yx (r:List Wc)(out:List Wc)(some:Bool)(l:List D.Trans)(i:Int)(J:St->Prop):((fc BA It Tryz.f29 [] (Cj true r)).loop [1,1,1,1,1,1,1,0,1,0] J).goal (Agw out some l i) =
  (BB (decide (i<(↑l.length:Int))) (inX i l.length/\BB (bif (l.getD i.toNat default).S.Kind==7 then !some else false) (inX i out.length/\J (Aq [(8,VV.ow 0 0 out.length),(9,Ac some),(58,As true l),(59,Aa (↑l.length:Int)),(60,Aa (IntKind.i64.wrap (i+(1:Int))))] [Ob.arr true 0 out.length 2 fun(j:Nat)=>bif j.beq i.toNat then[Ac true,Aa (out.getD i.toNat default).snd] else Eb (out.getD j default)])) (J (Agw out some l (IntKind.i64.wrap (i+(1:Int)))))) (LQ (Cj true out) (Cj true r))):=by kernel_rfl
theorem VR (r:List Nx × Int)(m:D.Model)(s:D.State)(L:List Nx)(ws:List Wc)(out:List Nx)(c:Int)(J:St->Prop):((fc BA EE Tryz.f13 [] (.tup [AR true r.1,Aa r.2])).loop [1,1,1,1,1,0,1,0] J).goal (Abf m s L ws out c) =
  (BB (decide (c<(↑ws.length:Int))) (inX c ws.length/\BB (!(ws.getD c.toNat default).fst) (J (Abf m s L ws out (IntKind.i64.wrap (c+(1:Int))))) (BB ((ws.getD c.toNat default).snd != 0) (∃ (y:Mv),VC 28 [Aa c] (VV.agg (CJ y))/\(out.length+1)*176<=140737488355328/\J (Aq [(2,VV.bp 0 0),(3,VV.bp 1 0),(6,AR true L),(8,VV.ow 2 0 (out.length+1)),(37,Cj true ws),(38,Aa (↑ws.length:Int)),(39,Aa (IntKind.i64.wrap (c+(1:Int))))] [Ob.box (Ag m),Ob.box (Ae s),Ob.arr true 0 (out.length+1) 15 fun(i:Nat)=>bif i.blt out.length then BH (out.getD i default) else(fun(i:Nat)=>List.take 15 (List.drop (i*15) [Aa y.Pid,Aa y.Esc,Aa y.Way,Aa y.With,Aa y.WithEsc,Aa y.WithWay,Aa y.Claim,VV.nl,VV.nl,VV.nl,Aa 0,Aa 0,Aa 0,Aa (ws.getD c.toNat default).snd,AD ByteArray.empty])) (i - out.length)])) (AA ((fc BA EE Tryz.f13 [] (VV.tup [AR true r.fst,Aa r.snd])).loop [1,1,1,1,1,0,1,0] J) [1,1,0,0,1,1,1,1,0] (Ad3 m s L ws out c (0:Int))))) (LQ (VV.tup [AR true out,Aa 0]) (VV.tup [AR true r.fst,Aa r.snd]))):=by kernel_rfl
theorem VQ (r:List Nx × Int)(m:D.Model)(s:D.State)(L:List Nx)(ws:List Wc)(out:List Nx)(c k:Int)(J J2:St->Prop):(((fc BA EE Tryz.f13 [] (.tup [AR true r.1,Aa r.2])).loop [1,1,1,1,1,0,1,0] J).loop [1,1,0,0,1,1,1,1,0] J2).goal (Ad3 m s L ws out c k) =
  (BB (decide (k<(↑L.length:Int))) (inX k L.length/\BB ((L.getD k.toNat default).Err==0) (∃ (y:D.State),VC 14 [VV.agg (Ae (L.getD k.toNat default).State)] (VV.agg (Ae y))/\inX m.Claim m.Procs.length/\inX s.Claim (m.Procs.getD m.Claim.toNat default).Locs.length/\inX c ((m.Procs.getD m.Claim.toNat default).Locs.getD s.Claim.toNat default).Out.length/\(out.length+1)*176<=140737488355328/\J2 (Aq [(2,VV.bp 0 0),(3,VV.bp 1 0),(6,AR true L),(8,VV.ow 2 0 (out.length+1)),(9,Aa c),(37,Cj true ws),(38,Aa (↑ws.length:Int)),(39,Aa c),(58,AR true L),(59,Aa (↑L.length:Int)),(60,Aa (IntKind.i64.wrap (k+(1:Int))))] [Ob.box (Ag m),Ob.box (Ae s),Ob.arr true 0 (out.length+1) 15 fun(i:Nat)=>bif i.blt out.length then BH (out.getD i default) else(fun(i:Nat)=>List.take 15 (List.drop (i*15) [Aa (L.getD k.toNat default).Move.Pid,Aa (L.getD k.toNat default).Move.Esc,Aa (L.getD k.toNat default).Move.Way,Aa (L.getD k.toNat default).Move.With,Aa (L.getD k.toNat default).Move.WithEsc,Aa (L.getD k.toNat default).Move.WithWay,Aa c,Ad true y.Globals,AE true y.Chans,Au true y.Procs,Aa y.Last,Aa y.Alone,Aa (((m.Procs.getD m.Claim.toNat default).Locs.getD s.Claim.toNat default).Out.getD c.toNat default).To,Aa (L.getD k.toNat default).Err,AD (L.getD k.toNat default).Text])) (i - out.length)])) ((out.length+1)*176<=140737488355328/\J2 (Aq [(2,VV.bp 0 0),(3,VV.bp 1 0),(6,AR true L),(8,VV.ow 2 0 (out.length+1)),(9,Aa c),(37,Cj true ws),(38,Aa (↑ws.length:Int)),(39,Aa c),(58,AR true L),(59,Aa (↑L.length:Int)),(60,Aa (IntKind.i64.wrap (k+(1:Int))))] [Ob.box (Ag m),Ob.box (Ae s),Ob.arr true 0 (out.length+1) 15 fun(i:Nat)=>bif i.blt out.length then BH (out.getD i default) else(fun(i:Nat)=>List.take 15 (List.drop (i*15) [Aa (L.getD k.toNat default).Move.Pid,Aa (L.getD k.toNat default).Move.Esc,Aa (L.getD k.toNat default).Move.Way,Aa (L.getD k.toNat default).Move.With,Aa (L.getD k.toNat default).Move.WithEsc,Aa (L.getD k.toNat default).Move.WithWay,Aa c,Ad true (L.getD k.toNat default).State.Globals,AE true (L.getD k.toNat default).State.Chans,Au true (L.getD k.toNat default).State.Procs,Aa (L.getD k.toNat default).State.Last,Aa (L.getD k.toNat default).State.Alone,Aa (L.getD k.toNat default).State.Claim,Aa (L.getD k.toNat default).Err,AD (L.getD k.toNat default).Text])) (i - out.length)]))) (J (Abf m s L ws out (IntKind.i64.wrap (c+(1:Int)))))):=by kernel_rfl
theorem Xl (r:Bool)(a b:List Mv)(i:Int)(J:St->Prop):((fc BA Nz Tryz.f7 [] (Ac r)).loop [1,1,0,1,0] J).goal (Agt a b i) =
  (BB (decide (i<(↑a.length:Int))) (inX i a.length/\inX i b.length/\BB (!((a.getD i.toNat default).Pid==(b.getD i.toNat default).Pid&&((a.getD i.toNat default).Esc==(b.getD i.toNat default).Esc&&((a.getD i.toNat default).Way==(b.getD i.toNat default).Way&&((a.getD i.toNat default).With==(b.getD i.toNat default).With&&((a.getD i.toNat default).WithEsc==(b.getD i.toNat default).WithEsc&&((a.getD i.toNat default).WithWay==(b.getD i.toNat default).WithWay&&((a.getD i.toNat default).Claim==(b.getD i.toNat default).Claim&&true)))))))) (LQ (Ac false) (Ac r)) (J (Agt a b (IntKind.i64.wrap (i+(1:Int)))))) (LQ (Ac true) (Ac r))):=by kernel_rfl
theorem AgN (r:List Nx × Int)(m:D.Model)(s:D.State):(fc BA E8 Tryz.f27 [] (.tup [AR true r.1,Aa r.2])).goal (St.init [] [.agg (Ag m),.agg (Ae s)]) =
  (∃ (y:Int),VC 38 [VV.agg (Ag m),VV.agg (Ae s)] (Aa y)/\BB (y != 0) (LQ (VV.tup [VV.nl,Aa y]) (VV.tup [AR true r.fst,Aa r.snd])) (∃ (y:D.Model × D.State),Ai Tryz.prog 39 [] [VV.agg (Ag m),VV.agg (Ae s)] [Ob.box (Ag y.fst),Ob.box (Ae y.snd)] (VV.fn (Fn.func (nat_lit 55)) [VV.bp 0 0,VV.bp 1 0])/\AA (fc BA E8 Tryz.f27 [] (VV.tup [AR true r.fst,Aa r.snd])) [1,1,1,0,1] (Aq [(7,VV.bp 0 0),(18,VV.fn (Fn.func (nat_lit 55)) [VV.bp 1 0,VV.bp 2 0])] [Ob.box [VV.nl],Ob.box (Ag y.fst),Ob.box (Ae y.snd)]))):=by kernel_rfl
theorem AeA (r:List Nx × Int)(e:D.Env)(w:Wy)(l l2:List Nx):((fc BA E8 Tryz.f27 [] (.tup [AR true r.1,Aa r.2])).rg [1,1,1,0,1] 2 [(7,.bp 0 0)] [.box [.ow 1 0 l2.length],.arr true 0 l2.length 15 (CP l2)]).goal (Aq [(19,.agg (Af e)),(20,.agg (AZ w)),(7,.bp 0 0)] [.box [.ow 1 0 l.length],.arr true 0 l.length 15 (CP l)]) =
  (∃ (y:Nx),VC 40 [VV.agg (Af e),VV.agg (AZ w)] (VV.agg (BH y))/\(l.length+1)*176<=140737488355328/\leO [Ob.box [VV.ow 1 0 (l.length+1)],Ob.arr true 0 (l.length+1) 15 fun(i:Nat)=>bif i.blt l.length then BH (l.getD i default) else(fun(i:Nat)=>List.take 15 (List.drop (i*15) (BH y))) (i - l.length)] [Ob.box [VV.ow 1 0 l2.length],Ob.arr true 0 l2.length 15 (CP l2)]/\True):=by kernel_rfl
theorem Aez (r:List Nx × Int)(l:List Nx):((fc BA E8 Tryz.f27 [] (.tup [AR true r.1,Aa r.2])).after [1,1,1,0,1]).goal (Aq [(7,.bp 0 0)] [.box [.ow 1 0 l.length],.arr true 0 l.length 15 (CP l)]) =
  (LQ (VV.tup [AR true l,Aa 0]) (VV.tup [AR true r.fst,Aa r.snd])):=by kernel_rfl
theorem Ahp (m:D.Model)(s:D.State):(CR Tryz.prog tb BA AT false Tryz.f39 [.box (Ag m),.box (Ae s)] (.fn (.func 55) [.bp 0 0,.bp 1 0])).goal (St.init [] [.agg (Ag m),.agg (Ae s)]) =
  (leO [Ob.box (Ag m),Ob.box (Ae s)] [Ob.box (Ag m),Ob.box (Ae s)]/\(VV.fn (Fn.func (nat_lit 55)) [VV.bp 0 0,VV.bp 1 0]).le (VV.fn (Fn.func (nat_lit 55)) [VV.bp 0 0,VV.bp 1 0])):=by kernel_rfl
end Go.Proofs.YtmdcknlpalfhhaaGreatDoor
namespace Go.Proofs.YtmdcknlpalfhhaaGreatDoor
open Go.RowKit
theorem Ku : ∀ (l r:List Gn),Cx (l++r)=Cx l++Cx r
 | [],_=>rfl
 | g::l,r=>by
  show g.2.map (fun w=>(g.1,w))++Cx (l++r)=(g.2.map (fun w=>(g.1,w))++Cx l)++Cx r
  rw[Ku l r,AlS]
def Mo (L:List Gn)(i:Nat):Nat:=(Cx (L.take i)).length
theorem Ag8 {L:List Gn}:Mo L L.length=(Cx L).length:=by unfold Mo;rw[Ame]
theorem Lc {L:List Gn}{i:Nat}(hi:i<L.length):L.take (i+1)=L.take i++[L.getD i default]:=by
 rw[AmZ];simp[List.getD,hi]
theorem Ae5 {L:List Gn}{i:Nat}(hi:i<L.length):Mo L (i+1)=Mo L i+(L.getD i default).2.length:=by
 unfold Mo
 rw[Lc hi,Ku]
 simp[Cx]
theorem Ag1 {L:List Gn}{i j:Nat}(hi:i<L.length)(hj:j<(L.getD i default).2.length):Mo L i+j<(Cx L).length/\(Cx L).getD (Mo L i+j) default=((L.getD i default).1,(L.getD i default).2.getD j default):=by
 have e:Cx L=Cx (L.take i)++((L.getD i default).2.map (fun w=>((L.getD i default).1,w))++Cx (L.drop (i+1))):=by
  have h1:L=L.take (i+1)++L.drop (i+1):=(List.take_append_drop (i+1) L).symm
  have h2:Cx L=Cx (L.take (i+1))++Cx (L.drop (i+1)):=by rw[← Ku,← h1]
  rw[h2,Lc hi,Ku]
  simp[Cx]
 have hl:Mo L i+j<(Cx L).length:=by
  rw[e]
  simp only[Alh,Al8]
  unfold Mo
  omega
 refine⟨hl,?_⟩
 rw[Alf,e,All (by unfold Mo;omega),show Mo L i+j - (Cx (L.take i)).length=j by unfold Mo;omega,Ale (by simpa using hj)]
 generalize (L.getD i default)=g at hj
 rw[Alv,Ald hj,Alf,Ald hj]
 rfl
section
variable {m : D.Model} {s:D.State} {e:D.Env} {w:Wy}
theorem Aff : VV.le (.agg [.nl,.nl,Ac false,Ac false,Ac false,Ac false,Ac false]) (.agg (AY default)):=Aml ⟨AlR,AlR,VV.le_refl _,VV.le_refl _,VV.le_refl _,VV.le_refl _,VV.le_refl _,trivial⟩
theorem UQ {pid:Int}(h:Gs m s):Ai Tryz.prog 59 [] [.agg (Ag m),.agg (Ae s),Aa pid] [] (.tup [.agg (AY (CI m s pid).1),Ac (CI m s pid).2]):=by
 have hq:CI m s pid=bif decide (pid<0)||decide ((s.Procs.length:Int)<=pid) then(default,false) else((IM m (s.Procs.getD pid.toNat default).Type_).getD (s.Procs.getD pid.toNat default).Loc.toNat default,true):=rfl
 generalize CI m s pid=r at hq
 refine Ah Al Am Tryz.func59 (by kernel_rfl) rfl (AgZ r m s pid) ⟨fun hb=>?_,fun hb=>?_⟩
 ·rw[A3]at hb
  simp only[Amu]at hb
  rw[hb,Ak4]at hq
  subst hq
  exact⟨trivial,Amx ⟨Aff,VV.le_refl _,trivial⟩⟩
 ·rw[A3]at hb
  simp only[Amu]at hb
  rw[hb,Ak0]at hq
  subst hq
  simp only[Aln,AlB]at hb
  have hp:0<=pid/\pid<s.Procs.length:=by omega
  have f:=(h.pid (t:=false) (a:=[]) hp).1.facts
  exact⟨hp,f.1,hp,f.2,trivial,VV.le_refl _⟩
theorem AfI {pid:Int}{b:Bool}:leL [AJ true m.Globals,Ad true m.Init,Bd true m.Shapes,Ad true m.Chans,A4 true m.Procs,Aa m.Claim,Bs true m.Exprs,Ad true s.Globals,AE true s.Chans,Au true s.Procs,Aa s.Last,Aa s.Alone,Aa s.Claim,Aa pid,Ac b,.nl] (Af ⟨m,s,pid,b,[]⟩) :=
 ⟨VV.le_refl _,VV.le_refl _,VV.le_refl _,VV.le_refl _,VV.le_refl _,VV.le_refl _,VV.le_refl _,VV.le_refl _,VV.le_refl _,VV.le_refl _,VV.le_refl _,VV.le_refl _,VV.le_refl _,VV.le_refl _,VV.le_refl _,AlR,trivial⟩
theorem R6 {α:Type}{p:α->Bool}:∀ {l:List α} {i:Nat},(∀ j,j<i->∀ x,l[j]?=some x->p x=false)->l.find? p=(l.drop i).find? p
 | l,0,_=>by rw[List.drop_zero]
 | [],i+1,_=>by simp
 | x::l,i+1,h=>by
  rw[List.find?_cons,h 0 (by omega) x rfl,List.drop_succ_cons]
  exact R6 fun j hj y hy=>h (j+1) (by omega) y hy
theorem Ti {r:D.State × ByteArray × Int}{c:Int}(h:(BO,noT,c)=r):VV.le (.tup [.agg [.nl,.nl,.nl,Aa 0,Aa 0,Aa 0],AD (⟨#[]⟩:ByteArray),Aa c]) (.tup [.agg (Ae r.1),AD r.2.1,Aa r.2.2]):=by
 subst h
 exact Qb
theorem Ad8 {pid:Int}(h:Gs m s):Ai Tryz.prog 58 [] [.agg (Ag m),.agg (Ae s),Aa pid] [] (.tup [.agg (Ae (onS m pid 200 s noT).1),AD (onS m pid 200 s noT).2.1,Aa (onS m pid 200 s noT).2.2]):=by
 generalize hr:onS m pid 200 s noT=r
 refine Ah Al Am Tryz.func58 (by kernel_rfl) rfl (Agz r m s pid) ?_
 change AA _ _ (Abd m s pid noT 0)
 refine Bh Al Am (fun g st=>∃ (n:Nat) (s':D.State) (t:ByteArray),n<=200/\g=200 - n/\Gs m s'/\t.size<=n*67108864/\onS m pid (200 - n) s' t=r/\st=Abd m s' pid t n) (by kernel_rfl) (by kernel_rfl) ⟨_,Up.of ⟨0,s,noT,Alc _,rfl,h,Alc _,hr,rfl⟩⟩ ?_
 clear hr h
 rintro g st ⟨n,s',t,hn,rfl,h,ht,hr,rfl⟩
 refine Alu (Aea r m s' pid t n _) ⟨CI m s' pid,UQ h,fun hb=>?_,fun hb=>⟨fun hb2=>?_,fun hb2=>?_⟩⟩
 ·rw[A3]at hb
  cases hk:200 - n with
  | zero =>
   rw[hk]at hr
   have hq:onS m pid 0 s' t=bif !(CI m s' pid).2||!(CI m s' pid).1.Dstep then(s',t,0) else(BO,noT,53):=rfl
   rw[hq,hb,Ak4]at hr
   subst hr
   exact⟨trivial,VV.le_refl _⟩
  | succ k =>
   rw[hk,P3,hb,Ak4]at hr
   subst hr
   exact⟨trivial,VV.le_refl _⟩
 ·have hn2:n=200:=by simp at hb2;omega
  subst hn2
  rw[A3]at hb
  have hq:onS m pid 0 s' t=bif !(CI m s' pid).2||!(CI m s' pid).1.Dstep then(s',t,0) else(BO,noT,53):=rfl
  rw[Nat.sub_self,hq,hb,Ak0]at hr
  exact⟨trivial,Ti hr⟩
 ·have hn2:n<200:=by simp at hb2;omega
  obtain⟨k,hk⟩:∃ k,200 - n=k+1:=⟨200 - n - 1,by omega⟩
  rw[A3]at hb
  rw[hk,P3,hb,Ak0]at hr
  simp only[Aln,AmX]at hb
  obtain⟨hE,hx⟩:=h.pid (t:=false) (a:=[]) (M5 hb.1)
  have hw:=O1 hE.ok.wf hE.small
  rw[O8 hx]at hr hw
  refine⟨(Bp ⟨m,s',pid,false,[]⟩,0),hw.le trivial ⟨Aml AfI,trivial⟩ trivial (VV.le_refl _),?_⟩
  refine AA.le (AO _) (l':=[(2,Aa pid),(3,.bp 0 0),(4,.bp 1 0),(6,.bp 2 0),(9,AD t),(10,Aa n),(13,.bp 3 0),(16,Ac false),(52,A5 true (Bp ⟨m,s',pid,false,[]⟩)),(53,Aa (Bp ⟨m,s',pid,false,[]⟩).length),(54,Aa 0)])
   (hs':=[.box (Ag m),.box (Ae s'),N6,.box (Af ⟨m,s',pid,false,[]⟩)]) ⟨Ob.le_refl _,Ob.le_refl _,Ob.le_refl _,Ob.le_box AfI,trivial⟩ ?_
  have hlen:=Kt hE
  change AA _ _ (Y9 m s' pid t n ⟨m,s',pid,false,[]⟩ (Bp ⟨m,s',pid,false,[]⟩) 0)
  have hws:∀ w∈Bp ⟨m,s',pid,false,[]⟩,Ai Tryz.prog 57 [] [.agg (Af ⟨m,s',pid,false,[]⟩),.agg (AZ w)] [] (.tup [.agg (Ae (goP ⟨m,s',pid,false,[]⟩ w).1),AD (goP ⟨m,s',pid,false,[]⟩ w).2.1,Aa (goP ⟨m,s',pid,false,[]⟩ w).2.2])/\((goP ⟨m,s',pid,false,[]⟩ w).2.2=0->Gs m (goP ⟨m,s',pid,false,[]⟩ w).1)/\(goP ⟨m,s',pid,false,[]⟩ w).2.1.size<=67108864:=fun w hin =>
   ⟨Afq hE hx hin,fun hz=>ZR hE hin hz,OP hE hin⟩
  generalize hL:Bp ⟨m,s',pid,false,[]⟩=ws at hr hlen hws
  generalize hG:goP ⟨m,s',pid,false,[]⟩=G at hr hws
  refine Bh Al Am (fun g st=>∃ i:Nat,i<=ws.length/\g=ws.length - i/\(∀ j,j<i->∀ x,ws[j]?=some x->decide (x.With<0)=false)/\st=Y9 m s' pid t n ⟨m,s',pid,false,[]⟩ ws i) (by kernel_rfl) (by kernel_rfl) ⟨_,Up.of ⟨0,Alc _,rfl,fun j hj=>absurd hj (Amq _),rfl⟩⟩ ?_
  rintro g st ⟨i,hi,rfl,hI,rfl⟩
  have hfd:=R6 (p:=fun w:Wy=>decide (w.With<0)) hI
  simp only at hr
  rw[hfd]at hr
  refine Alu (Ad9 r m s' pid t n ⟨m,s',pid,false,[]⟩ ws i _ _) ⟨fun hlt=>?_,fun hge=>⟨fun _=>?_,fun h=>by cases h⟩⟩
  ·have hlt':i<ws.length:=by have:=AV hlt;omega
   have hto:(i:Int).toNat=i:=by omega
   rw[hto]
   have hget:ws[i]?=some (ws.getD i default):=by simp[List.getD,hlt']
   have hdr:ws.drop i=ws.getD i default::ws.drop (i+1):=by rw[Al5 hlt'];simp[List.getD,hlt']
   obtain⟨g1,g2,g3⟩:=hws _ (Av (d:=default) hlt')
   refine⟨⟨by omega,by omega⟩,fun hv=>?_,fun hv=>?_⟩
   ·refine⟨ws.length - (i+1),by omega,Up.of ⟨i+1,by omega,rfl,fun j hj x hx=>?_,by rw[An (by omega)]⟩⟩
    rcases AlD.1 hj with hj | rfl
    ·exact hI j hj x hx
    ·rw[hget]at hx
     obtain rfl:=Ali hx
     simp at hv ⊢;omega
   ·have hneg:decide ((ws.getD i default).With<0)=true:=by simp at hv ⊢;omega
    rw[hdr,List.find?_cons,hneg]at hr
    refine⟨G (ws.getD i default),g1,fun he=>?_,fun he=>⟨?_,⟨fun h=>(by cases h),fun _=>?_⟩⟩⟩
    ·rw[AH]at he
     change(bif decide ((G (ws.getD i default)).2.2≠0) then _ else _)=r at hr
     rw[he,Ak4]at hr
     exact⟨trivial,Ti hr⟩
    ·omega
    ·rw[AH]at he
     change(bif decide ((G (ws.getD i default)).2.2≠0) then _ else _)=r at hr
     rw[he,Ak0]at hr
     have hz:(G (ws.getD i default)).2.2=0:=by simpa using he
     refine⟨200 - (n+1),by omega,Up.of ⟨n+1,(G (ws.getD i default)).1,t++(G (ws.getD i default)).2.1,by omega,rfl,g2 hz,?_,?_,by rw[An (by omega)]⟩⟩
     ·rw[Amk];omega
     ·rw[show 200 - (n+1)=k by omega];exact hr
  ·have hge':ws.length<=i:=by have:=A0 hge;omega
   rw[AlK hge']at hr
   exact⟨trivial,Ti hr⟩
end
section
variable {m : D.Model} {s:D.State} {e:D.Env} {w:Wy}
theorem ZJ {a b c d f g:Int}{err:Int}:VV.le (.agg [Aa a,Aa b,Aa c,Aa d,Aa f,Aa g,Aa (-1),.nl,.nl,.nl,Aa 0,Aa 0,Aa 0,Aa err,AD ByteArray.empty]) (.agg (BH ⟨⟨a,b,c,d,f,g,-1⟩,BO,err,noT⟩)) :=
 Aml ⟨VV.le_refl _,VV.le_refl _,VV.le_refl _,VV.le_refl _,VV.le_refl _,VV.le_refl _,VV.le_refl _,AlR,AlR,AlR,VV.le_refl _,VV.le_refl _,VV.le_refl _,VV.le_refl _,VV.le_refl _,trivial⟩
theorem AeE {a b:Int}(F:Nat->List VV)(h0:F 0=[Aa a])(h1:F 1=[Aa b]):∀ i,i<2->leL (F i) (AM [a,b] i)
 | 0,_=>AQ h0
 | 1,_=>AQ h1
def alL (m:D.Model)(s:D.State)(l:List Int):D.State:=l.foldl (Eu m) s
theorem Af8 : ∀ {l:List Int} {s:D.State},Gs m s->Gs m (alL m s l)
 | [],_,h=>h
 | _::l,_,h=>Af8 (l:=l) (QK h)
theorem Af7 {l:List Int}{k:Nat}(h:k<l.length):alL m s (l.take (k+1))=Eu m (alL m s (l.take k)) (l.getD k 0):=by
 have:l.take (k+1)=l.take k++[l.getD k 0]:=by rw[AmZ];simp[List.getD,h]
 rw[this]
 unfold alL
 rw[List.foldl_append]<;>rfl
theorem Abg {t:ByteArray}(h:Gs e.M s):AA (fc BA J0 Tryz.f40 [] (.agg (BH ⟨M9 e w,Eu e.M (Eu e.M s e.Pid) w.With,0,t⟩))) [1,1,1,1,1,1,0,1,0] (MV e w s t 0):=by
 have hz:MV e w s t 0=MV e w (alL e.M s ([e.Pid,w.With].take 0)) t ((0:Nat):Int):=rfl
 rw[hz]
 refine AK Al Am 2 (fun k=>MV e w (alL e.M s ([e.Pid,w.With].take k)) t k) (fun _=>True) (by kernel_rfl) (by kernel_rfl) trivial ?_
 intro k hk _ J next
 have hg:=Af8 (l:=[e.Pid,w.With].take k) h
 have hsuc:=fun(h:k<2)=>Af7 (m:=e.M) (s:=s) (l:=[e.Pid,w.With]) (k:=k) h
 refine Alu (Abi _ e w _ t k J) ⟨fun hlt=>?_,fun hge=>?_⟩
 ·have hlt':k<2:=by have:=AV hlt;omega
  have hto:(k:Int).toNat=k:=by omega
  rw[hto]
  have hs2:=hsuc hlt'
  generalize alL e.M s ([e.Pid,w.With].take k)=s1 at hg hs2
  refine⟨⟨by omega,by omega⟩,CI e.M s1 ([e.Pid,w.With].getD k 0),UQ hg,fun hb=>next _ hlt' trivial (Up.of ?_),fun hb=>next _ hlt' trivial (Up.of ?_)⟩
  ·rw[A6]at hb
   unfold Eu at hs2
   rw[hb,Ak4]at hs2
   rw[hs2,An (by omega)]<;>rfl
  ·rw[A6]at hb
   unfold Eu at hs2
   rw[hb,Ak0]at hs2
   rw[hs2,An (by omega)]
 ·obtain rfl:k=2:=by have:=A0 hge;omega
  exact⟨trivial,VV.le_refl _⟩
theorem Abh (h:CK e)(hx:GY e=0)(hin:w∈Bp e):Ai Tryz.prog 40 [] [.agg (Af e),.agg (AZ w)] [] (.agg (BH (Fc e w))):=by
 generalize hr:Fc e w=r
 refine Ah Al Am Tryz.func40 (by kernel_rfl) rfl (Ad4 r e w) ⟨goP e w,Afq h hx hin,fun h1=>?_,fun h1=>?_⟩
 ·have hz:(goP e w).2.2=0:=by simpa using h1
  have hgs:=ZR h hin hz
  obtain⟨a,b⟩:=Tc (pid:=e.Pid) (k:=200) (t:=noT) hgs
  have hq:Fc e w=bif decide ((onS e.M e.Pid 200 (goP e w).1 noT).2.2≠0) then⟨M9 e w,BO,(onS e.M e.Pid 200 (goP e w).1 noT).2.2,noT⟩
   else⟨M9 e w,Eu e.M (Eu e.M { (onS e.M e.Pid 200 (goP e w).1 noT).1 with Alone:=-1 } e.Pid) w.With,0,(goP e w).2.1++(onS e.M e.Pid 200 (goP e w).1 noT).2.1⟩:=by
   unfold Fc
   rw[AlI (by simpa using hz),Ak0]
  have ht:=OP h hin
  have hn:noT.size=0:=rfl
  rw[hr]at hq
  refine⟨onS e.M e.Pid 200 (goP e w).1 noT,Ad8 hgs,by omega,fun h2=>?_,fun h2=>?_⟩
  ·rw[AH]at h2
   rw[h2,Ak4]at hq
   subst hq
   exact⟨trivial,ZJ⟩
  ·rw[AH]at h2
   rw[h2,Ak0]at hq
   subst hq
   refine AA.le (hs':=[.box (Af e),.box Akv,.box (Akw e w),.box (Ae { (onS e.M e.Pid 200 (goP e w).1 noT).1 with Alone:=-1 }),.arr true 0 2 1 (AM [e.Pid,w.With])]) (AO _) ⟨Ob.le_refl _,Ob.le_refl _,Ob.le_refl _,Ob.le_refl _,AlM (AeE _ rfl rfl),trivial⟩ ?_
   exact Abg (ZU (a (by simpa using h2)))
 ·have hz:(goP e w).2.2≠0:=by simpa using h1
  unfold Fc at hr
  rw[AlO hz,Ak4]at hr
  subst hr
  exact⟨fun _=>⟨trivial,ZJ⟩,fun h2=>absurd (by simpa using h2) hz⟩
theorem AeH {out:List Gn}{x:Gn}{G:Nat->List VV}(hG:G 0=EC x){i:Nat}(hi:i<out.length+1):(bif i.blt out.length then IL out i else G (i - out.length))=IL (out++[x]) i :=
 B6 (f:=EC) (d:=default) (l:=out) (r:=[x]) (F:=IL out) (fun _ _=>rfl) (fun j hj=>by
  obtain rfl:j=0:=by simpa using hj
  exact hG) (by simp;omega)
theorem AcL {k:Nat}:EM e (k+1)=EM e k++JK e k:=rfl
theorem AbG (h:Gs e.M e.S):Ai Tryz.prog 79 [] [.agg (Af e)] [] (Bw true (EM e e.S.Procs.length)):=by
 have hp:=h.fits.pl
 refine Ah Al Am Tryz.func79 (by kernel_rfl) rfl (Aeu _ e) ?_
 refine AA.own 1 3 17 (IL []) rfl ?_
 change AA _ _ (Uy e (EM e 0) ((0:Nat):Int))
 refine AK Al Am e.S.Procs.length (fun k=>Uy e (EM e k) k) (fun _=>True) (by kernel_rfl) (by kernel_rfl) trivial ?_
 intro k hk _ J next
 have hln:=Nh (e:=e) (n:=k)
 have hsuc:=AcL (e:=e) (k:=k)
 refine Alu (AbH _ e (EM e k) k J) ⟨fun hlt=>?_,fun hge=>?_⟩
 ·have hlt':k<e.S.Procs.length:=by have:=AV hlt;omega
  unfold JK at hsuc
  refine⟨Fb (BE e k),O1 (e:=BE e k) h.wf h.small,fun hb=>?_,fun hb=>?_⟩
  ·rw[AlO (by have:=Ak9 hb;omega),Ak4]at hsuc
   have hp16:e.S.Procs.length<=16:=hp
   refine⟨by omega,next _ hlt' trivial ?_⟩
   rw[hsuc,An (by omega)]
   refine Up.mk (hs':=[.box (Af e),.arr true 0 ((EM e k).length+1) 17 (IL (EM e k++[(BE e k,(Fb (BE e k)).1)]))]) (AO _) ⟨Ob.le_refl _,AlM fun i hi=>AQ (AeH (x:=(BE e k,(Fb (BE e k)).1)) (G:=fun j=>List.take 17 (List.drop (j*17) (EC (BE e k,(Fb (BE e k)).1)))) rfl hi),trivial⟩ ?_
   unfold Uy
   rw[Alh]<;>rfl
  ·rw[AlI (by have:=Alk hb;omega),Ak0,Al4]at hsuc
   refine next _ hlt' trivial (Up.of ?_)
   rw[hsuc,An (by have:e.S.Procs.length<=16:=hp;omega)]
 ·obtain rfl:k=e.S.Procs.length:=by have:=A0 hge;omega
  exact⟨trivial,VV.le_refl _⟩
theorem XW {most:Int}{g:Gn}{r:List Gn}:Mq e most (g::r)=bif decide (g.1.Pid=e.S.Alone) then(some g,most) else Mq e (max most (Fg e g)) r:=rfl
theorem R4 (h:Gs e.M e.S):Ai Tryz.prog 56 [] [.agg (Af e)] [] (Bw true (C6 e)):=by
 have hp:e.S.Procs.length<=16:=h.fits.pl
 have hln:=Nh (e:=e) (n:=e.S.Procs.length)
 have hpid:∀ g∈EM e e.S.Procs.length,inX g.1.Pid e.S.Procs.length:=fun g hg=>by
  obtain⟨i,hi,rfl⟩:=R0 hg
  exact⟨by show(0:Int)<=i;omega,by show(i:Int)<_;omega⟩
 have hq:∀ r:Option Gn × Int,Mq e 0 (EM e e.S.Procs.length)=r->C6 e=match r with | (some g,_)=>[g] | (none,most)=>(EM e e.S.Procs.length).filter fun g=>decide (Fg e g=most):=fun r hr=>by
  unfold C6
  rw[hr]<;>rfl
 generalize C6 e=out at hq
 refine Ah Al Am Tryz.func56 (by kernel_rfl) rfl (Afy out e) ⟨EM e e.S.Procs.length,AbG h,?_⟩
 generalize EM e e.S.Procs.length=L at hln hpid hq
 refine Bh Al Am (fun g st=>∃ (k:Nat) (most:Int),k<=L.length/\g=L.length - k/\Mq e most (L.drop k)=Mq e 0 L/\st=Zb e L most k) (by kernel_rfl) (by kernel_rfl) ⟨_,Up.of ⟨0,0,Alc _,rfl,rfl,rfl⟩⟩ ?_
 rintro g st ⟨k,most,hk,rfl,hm,rfl⟩
 refine Alu (AcU out e L most k _) ⟨fun hlt=>?_,fun hge=>?_⟩
 ·have hlt':k<L.length:=by have:=AV hlt;omega
  have hto:(k:Int).toNat=k:=by omega
  rw[hto]
  rw[B8 (d:=default) hlt',XW]at hm
  refine⟨⟨by omega,by omega⟩,fun ha=>?_,fun ha=>⟨hpid _ (Av hlt'),L.length - (k+1),by omega,Up.of ⟨k+1,max most (Fg e (L.getD k default)),by omega,rfl,?_,?_⟩⟩⟩
  ·rw[AlO (by simpa using ha),Ak4]at hm
   have hq:=hq _ hm.symm
   subst hq
   refine⟨trivial,AmE (.inl rfl) fun j hj=>AQ ?_⟩
   obtain rfl:j=0:=by omega
   rfl
  ·rw[AlI (by simpa using ha),Ak0]at hm
   exact hm
  ·rw[An (by omega)]<;>rfl
 ·obtain rfl:k=L.length:=by have:=A0 hge;omega
  rw[AmQ]at hm
  have hq:out=L.filter fun g=>decide (Fg e g=most):=hq _ hm.symm
  have hz:([]:List Gn)=(L.take 0).filter fun g=>decide (Fg e g=most):=rfl
  refine AA.own 2 7 17 (IL []) rfl ?_
  change AA _ _ (Uw e L ((L.take 0).filter fun g=>decide (Fg e g=most)) most ((0:Nat):Int))
  refine AK Al Am L.length (fun k=>Uw e L ((L.take k).filter fun g=>decide (Fg e g=most)) most k) (fun _=>True) (by kernel_rfl) (by kernel_rfl) trivial ?_
  intro k hk _ J next
  have hl2:((L.take k).filter fun g=>decide (Fg e g=most)).length<=L.length:=Als (List.length_filter_le ..) (by simp;omega)
  refine Alu (AcT out e L _ most k J) ⟨fun hlt=>?_,fun hge=>?_⟩
  ·have hlt':k<L.length:=by have:=AV hlt;omega
   have hto:(k:Int).toNat=k:=by omega
   rw[hto]
   have hsuc:((L.take (k+1)).filter fun g=>decide (Fg e g=most))=((L.take k).filter fun g=>decide (Fg e g=most))++([L.getD k default].filter fun g=>decide (Fg e g=most)):=by rw[Lc hlt',List.filter_append]
   generalize ((L.take k).filter fun g=>decide (Fg e g=most))=acc at hl2 hsuc
   refine⟨⟨by omega,by omega⟩,hpid _ (Av hlt'),fun hb=>⟨by omega,next _ hlt' trivial ?_⟩,fun hb=>next _ hlt' trivial (Up.of ?_)⟩
   ·have hb':decide (Fg e (L.getD k default)=most)=true:=by
     have:(e.S.Procs.getD (L.getD k default).1.Pid.toNat default).Prio=most:=by simpa using hb
     exact AlO this
    rw[List.filter_cons_of_pos (p:=fun g=>decide (Fg e g=most)) hb',List.filter_nil]at hsuc
    rw[hsuc,An (by omega)]
    refine Up.mk (hs':=[.box (Af e),.arr true 0 (acc.length+1) 17 (IL (acc++[L.getD k default]))]) (AO _) ⟨Ob.le_refl _,AlM fun i hi=>AQ (AeH (x:=L.getD k default) (G:=fun j=>List.take 17 (List.drop (j*17) (EC (L.getD k default)))) rfl hi),trivial⟩ ?_
    unfold Uw
    rw[Alh]<;>rfl
   ·have hb':¬ decide (Fg e (L.getD k default)=most)=true:=by
     have:¬ (e.S.Procs.getD (L.getD k default).1.Pid.toNat default).Prio=most:=by simpa using hb
     exact fun h=>this (Ak9 h)
    rw[List.filter_cons_of_neg (p:=fun g=>decide (Fg e g=most)) hb',List.filter_nil,Al4]at hsuc
    rw[hsuc,An (by omega)]
  ·obtain rfl:k=L.length:=by have:=A0 hge;omega
   rw[Ame,← hq]
   exact⟨trivial,VV.le_refl _⟩
end
def UY : Code->Array Oper
 | .region _ ops _=>ops
 | _=>#[]
def isR : Code->Bool
 | .region _ _ false=>true
 | _=>false
def AkI (N:Nat)(ops:Array Oper):Bool:=ops.toList.all fun o=>match o.dst with
 | some d=>Nat.blt d N
 | none=>true
theorem AhI {N:Nat}{ops:Array Oper}(h:AkI N ops=true)(i:Nat)(o:Oper)(d:Nat)(ho:ops[i]?=some o)(hd:o.dst=some d):d<N:=by
 have hm:o∈ops.toList:=by
  rw[← Array.getElem?_toList]at ho
  exact AlG ho
 have:=AlF.1 h o hm
 rw[hd]at this
 exact Alm this
theorem Ahe (l':List (Nat × VV))(hs:List Ob)(l:List (Nat × VV)):Q4 (Aq (l++l') hs) (Aq l hs):=by
 refine⟨fun t=>?_,fun _=>Ob.le_refl _,rfl⟩
 show VV.le (BS t (l++l')) (BS t l)
 induction l with
 | nil=>exact fun _ _ _ _ _=>.dead
 | cons p l ih =>
  obtain⟨j,x⟩:=p
  simp only[Amo,BS]
  cases Nat.beq t j with
  | true=>exact VV.le_refl _
  | false=>exact ih
section
variable {c : Ctx} {E:AF} {J:JT} {K:Exit->Option Nat->St->Prop} {k:Option Nat} {st:St}
theorem DK.forget (hJ:Hs J){code:Code}(keep:List Nat)(hk:okF 0 keep st=true)(h:DK c.P c.N E J code K k (Go.Proofs.YtmdcknlpalfhhaaGreatDoor.forget 0 keep st)):DK c.P c.N E J code K k st :=
 ⟨fun S _ a w hi=>let ⟨φ',hi'⟩:=hi.forget hJ hk;h.h S φ' a w hi'⟩
theorem UF (hJ:Hs J)(hT:TOk c.P c.T){code:Code}(hr:isR code=true)(kk tf d:Nat){i n:Nat}{oc:Oper}(x1 x2:Operand){tys:Array TypeId}{l:Nat}{xs:Nat->List VV}
  (hY:∀ k S T w1 vs,k<n->J (some k) S T w1->(∀ b,S b->¬ T b)->Gd E (U S T) w1->CS w1 (E.add (U S T)) none (xs k) vs->YieldAt Fence.wide 0 c.P l vs w1 fun e w2 =>
   (e=.returned (.bool true)/\∃ S',J (some (k+1)) S' T w2/\Chg w1 S w2 S')∨(e=.returned (.bool false)/\∃ S',J none S' T w2/\Chg w1 S w2 S'))
  (hpre:(Mh (CW (UY code) kk) c.N&&JS (CW (UY code) kk))=true) (hng:ON (CW (UY code) kk)=true) (hsuf:(Mh (CF (UY code) (kk+1)) c.N&&JS (CF (UY code) (kk+1)))=true) (hdst:AkI c.N (UY code)=true)
  (hoc:(UY code)[kk]?=some oc) (hop:oc.op=.call { callee:=.value (.tmp tf),args:=#[x1,x2],argTypes:=tys }) (hgd:oc.guard=none) (hd:oc.dst=some d) (hi:i<n) (keep keep2:List Nat)
  (h:(c.piece (Akm kk code) keep fun _ st1=>∃ l1 hs1,st1=Aq l1 hs1/\BS tf l1=.fn (.yield l) []/\xs i=[(Aq l1 hs1).val x1,(Aq l1 hs1).val x2]/\(xs i).all VV.memA=true /\
   ∀ b,(c.piece (AjP kk code) keep2 fun _ st3=>K .normal (bif b then some (i+1) else none) st3).goal (Aq ((d,.sc (.bool b))::l1) hs1)).goal st) :
  DK c.P c.N E J code K (some i) st:=by
 cases code with
 | region id ops b =>
  cases b with
  | false=>exact Xi (ops:=ops) hJ hT hY hpre hng hsuf (AhI hdst) hoc hop hgd hd hi keep keep2 h
  | true=>cases hr
 | _=>cases hr
end
section
variable {m : D.Model} {s:D.State} {e:D.Env} {w:Wy}
noncomputable def cEv:Ctx:=fc BA AT Tryz.f55 [] (.tup [])
theorem AkF : tlC 3 (cEv.sub [])=.block 0 (.loop (cEv.sub [1,1,1,1,0,0])):=by kernel_rfl
theorem AkE : tlC 1 (cEv.sub [1,1,1,1,0,0])=.seq (.block 1 (cEv.sub [1,1,1,1,0,0,1,1,0,0])) (cEv.sub [1,1,1,1,0,0,1,1,1]):=by kernel_rfl
theorem AkD : tlC 1 (cEv.sub [1,1,1,1,0,0,1,1,0,0])=.block 2 (.loop (cEv.sub [1,1,1,1,0,0,1,1,0,0,1,1,0,0])):=by kernel_rfl
theorem AkC : tlC 1 (cEv.sub [1,1,1,1,0,0,1,1,0,0,1,1,0,0])=.seq (.block 3 (cEv.sub [1,1,1,1,0,0,1,1,0,0,1,1,0,0,1,1,0,0])) (cEv.sub [1,1,1,1,0,0,1,1,0,0,1,1,0,0,1,1,1]):=by kernel_rfl
theorem AkB : tlC 0 (cEv.sub [1,1,1,1,0,0,1,1,0,0,1,1,0,0,1,1,0,0])=.seq (cEv.sub [1,1,1,1,0,0,1,1,0,0,1,1,0,0,1,1,0,0,1,0]) (.cond (.tmp 48) .ret .skip):=by kernel_rfl
theorem AkG : ∃ oc tys,(UY (cEv.sub [1,1,1,1,0,0,1,1,0,0,1,1,0,0,1,1,0,0,1,0]))[4]?=some oc/\oc.op=.call { callee:=.value (.tmp 43),args:=#[.tmp 45,.tmp 46],argTypes:=tys }/\oc.guard=none/\oc.dst=some 47:=⟨_,_,rfl,rfl,rfl,rfl⟩
def Aah (m:D.Model)(s:D.State)(k:Nat):List VV:=[.agg (Af ((Dv m s).getD k default).1),.agg (AZ ((Dv m s).getD k default).2)]
theorem V6 (h:Gs m s):Ho m s=CA m s s.Procs.length:=by
 unfold Ho
 rw[h.check]<;>rfl
theorem Ys (h:Gs m s):NI Tryz.prog 55 [.box (Ag m),.box (Ae s)] [.bp 0 0,.bp 1 0] (Dv m s).length (Aah m s):=by
 refine Ahj (c:=cEv.sub []) Tryz.func55 (by kernel_rfl) rfl (by decide) ?_
 intro l E J hJ hY
 have hgs:∀ t a,Gs (D.Env.mk m s 0 t a).M (D.Env.mk m s 0 t a).S:=fun _ _=>h
 have hL:Gk m s=bif decide (0<(C6 ⟨m,s,0,false,CA m s s.Procs.length⟩).length) then C6 ⟨m,s,0,false,CA m s s.Procs.length⟩ else C6 ⟨m,s,0,true,CA m s s.Procs.length⟩:=by
  unfold Gk
  rw[V6 h]
 have hev:Dv m s=Cx (Gk m s):=rfl
 have hlen:=Qj h
 have hlen2:∀ g∈Gk m s,g.2.length<=16778240:=fun g hg=>by
  obtain⟨i,t,hi,rfl⟩:=Lr h hg
  exact Kt (h.pid (i:=i) (t:=t) (a:=CA m s s.Procs.length) ⟨by omega,by omega⟩).1
 have key:DK cEv.P cEv.N E J (tlC 3 (cEv.sub [])) (fun e k _=>(e=.normal∨e=.ret)/\(k=some (Dv m s).length∨k=none)) (some 0) (PE l (Gk m s) 0):=by
  have hxs:∀ k,Aah m s k=[.agg (Af ((Dv m s).getD k default).1),.agg (AZ ((Dv m s).getD k default).2)]:=fun _=>rfl
  generalize Aah m s=xs at hY hxs
  rw[hev]at hY hxs ⊢
  generalize Gk m s=L at hY hlen hlen2 hxs
  clear hL hev
  rw[AkF]
  refine IJ (Rx hJ (fun g k st=>∃ i,i<=L.length/\g=L.length - i/\k=some (Mo L i)/\st=PE l L i) ⟨_,Up.of ⟨0,Alc _,rfl,rfl,rfl⟩⟩ ?_)
  rintro g k st ⟨i,hi,rfl,rfl,rfl⟩
  refine H8 (c:=cEv) hJ Al Am [0,30,31,32] 1 (by kernel_rfl) (by kernel_rfl) ((AhE l L i _).mpr ⟨fun hlt=>?_,fun hge=>?_⟩)
  ·have hlt':i<L.length:=by have:=AV hlt;omega
   have hto:(i:Int).toNat=i:=by omega
   have hg2:=hlen2 _ (Av (d:=default) hlt')
   have hpa:=fun j=>Ag1 (L:=L) (i:=i) (j:=j) hlt'
   have hos:=Ae5 hlt'
   show DK cEv.P cEv.N E J (tlC 1 (cEv.sub [1,1,1,1,0,0])) _ _ _
   rw[AkE]
   refine Ma (IJ (H8 (c:=cEv) hJ Al Am [0,30,31,32,8,37,38,39] 1 (by kernel_rfl) (by kernel_rfl) ((AhD l L i _).mpr ⟨⟨by omega,by omega⟩,?_⟩)))
   rw[hto]
   generalize L.getD i default=gn at hg2 hpa hos
   show DK cEv.P cEv.N E J (tlC 1 (cEv.sub [1,1,1,1,0,0,1,1,0,0])) _ _ _
   rw[AkD]
   refine IJ (Rx hJ (fun g k st=>∃ j,j<=gn.2.length/\g=gn.2.length - j/\k=some (Mo L i+j)/\st=Ux l L i gn j) ⟨_,Up.of ⟨0,Alc _,rfl,rfl,rfl⟩⟩ ?_)
   rintro g k st ⟨j,hj,rfl,rfl,rfl⟩
   refine H8 (c:=cEv) hJ Al Am [0,30,31,32,8,37,38,39] 1 (by kernel_rfl) (by kernel_rfl) ((AhC l L i gn j _).mpr ⟨fun hjl=>?_,fun hjg=>?_⟩)
   ·have hjl':j<gn.2.length:=by have:=AV hjl;omega
    have hjo:(j:Int).toNat=j:=by omega
    obtain⟨hp1,hp2⟩:=hpa j hjl'
    show DK cEv.P cEv.N E J (tlC 1 (cEv.sub [1,1,1,1,0,0,1,1,0,0,1,1,0,0])) _ _ _
    rw[AkC]
    refine Ma (IJ (H8 (c:=cEv) hJ Al Am [0,30,31,32,8,37,38,39,10] 0 (by kernel_rfl) (by kernel_rfl) ((AhB l L i gn j _).mpr ⟨⟨by omega,by omega⟩,?_⟩)))
    rw[hjo]
    show DK cEv.P cEv.N E J (tlC 0 (cEv.sub [1,1,1,1,0,0,1,1,0,0,1,1,0,0,1,1,0,0])) _ _ _
    rw[AkB]
    obtain⟨oc,tys,o1,o2,o3,o4⟩:=AkG
    refine Ma (UF (c:=cEv) hJ Al (by kernel_rfl) 4 43 47 (.tmp 45) (.tmp 46) hY (by kernel_rfl) (by kernel_rfl) (by kernel_rfl) (by kernel_rfl) o1 o2 o3 o4 hp1 [0,30,31,32,8,37,38,39,43,45,46] [0,30,31,32,8,37,38,39,48] ((AhA l L i gn j _ _).mpr ⟨_,_,rfl,rfl,?_,?_,fun b=>(Ahz l L i gn j _ b _).mpr ?_⟩))
    ·rw[hxs,hp2]<;>rfl
    ·rw[hxs]<;>rfl
    ·refine Abz (t:=48) (b:=!b) rfl (fun hb=>?_) fun hb=>?_
     ·obtain rfl:b=false:=by simpa using hb
      exact Aes ⟨.inr rfl,.inr rfl⟩
     ·obtain rfl:b=true:=by simpa using hb
      refine Aby ?_
      show DK cEv.P cEv.N E J (cEv.sub [1,1,1,1,0,0,1,1,0,0,1,1,0,0,1,1,1]) _ _ _
      refine DK.cv hJ (Ahe [(48,Ac !true)] _ [(0,yV l),(30,Bw true L),(31,Aa L.length),(32,Aa i),(8,.bp 0 0),(37,A5 true gn.2),(38,Aa gn.2.length),(39,Aa j)]).cv ?_
      refine PM (c:=cEv) hJ Al Am (by kernel_rfl) [0,30,31,32,8,37,38,39] ((Ahy l L i gn j _).mpr ?_)
      refine⟨gn.2.length - (j+1),by omega,Up.of ⟨j+1,by omega,rfl,rfl,?_⟩⟩
      rw[An (by omega)]
   ·obtain rfl:j=gn.2.length:=by have:=A0 hjg;omega
    show DK cEv.P cEv.N E J (cEv.sub [1,1,1,1,0,0,1,1,1]) _ _ _
    refine DK.forget (c:=cEv) hJ [0,30,31,32] rfl ?_
    change DK cEv.P cEv.N E J (cEv.sub [1,1,1,1,0,0,1,1,1]) _ _ (PE l L i)
    refine PM (c:=cEv) hJ Al Am (by kernel_rfl) [0,30,31,32] ((Ahw l L i _).mpr ?_)
    refine⟨L.length - (i+1),by omega,Up.of ⟨i+1,by omega,rfl,by rw[hos],?_⟩⟩
    rw[An (by omega)]
  ·obtain rfl:i=L.length:=by have:=A0 hge;omega
   refine⟨.inl rfl,.inl ?_⟩
   rw[Ag8]
 refine H8 (c:=cEv) hJ Al Am [0,30,31,32] 3 (by kernel_rfl) (by kernel_rfl) ((Ahx m s l _).mpr ⟨(CA m s s.Procs.length,0),Sj h.wf h.small h.check,C6 ⟨m,s,0,false,CA m s s.Procs.length⟩,R4 (hgs _ _),fun hb=>⟨C6 ⟨m,s,0,true,CA m s s.Procs.length⟩,R4 (hgs _ _),?_⟩,fun hb=>?_⟩)
 ·rw[AlI (by have:((C6 ⟨m,s,0,false,CA m s s.Procs.length⟩).length:Int)=0:=(by simpa using hb);omega),Ak0]at hL
  rw[hL]at key
  exact key
 ·rw[AlO (by have:((C6 ⟨m,s,0,false,CA m s s.Procs.length⟩).length:Int)≠0:=(by simpa using hb);omega),Ak4]at hL
  rw[hL]at key
  exact key
end
def rfI : Code->Nat
 | .block i _=>i
 | _=>0
def rfA : Code->Code
 | .block _ (.rangeFunc _ _ a _)=>a
 | _=>.skip
def rfB : Code->Code
 | .block _ (.rangeFunc _ _ _ b)=>b
 | _=>.skip
theorem AbT {c:Ctx}(hT:TOk c.P c.T)(hmx:c.P.follows .mixedOrders=true){rel:List Nat}{st:St}(id tg:Nat)(ps:List Tmp)(assign body:Code)(hl:c.sub rel=.block id (.rangeFunc (.tmp tg) ps.toArray assign body))(hb:c.L.base=0)
  (hB:(N0 c.N assign&&Jy c.N body)=true) (hps:ps.Nodup/\∀ p,p∈ps->p<c.N) {gf:Nat} (eg:Hd c.P gf) {hi:List Ob} {caps:List VV} {n:Nat} {xs:Nat->List VV} (hit:NI c.P gf hi caps n xs)
  (hxs:∀ k,(xs k).length=ps.length) (ic ii:List Nat) (h1:Et st.nx ic=true) (h2:Et st.nx ii=true) (h3:(ic.all fun i=>!(ii.any (Nat.beq i)))=true)
  (l0:List (Nat × VV)) (nb:Nat) (hsJ:Nat->List Ob) (hn:∀ k,(hsJ k).length=nb) (hl0:Uv nb l0=true) (ht:∀ t,VV.le (Jc st ic (st.t t)) (BS t l0)) (hh:leO (ic.map (D7 st ic)) (hsJ 0))
  (hg:VV.le (Jc st ii (st.t tg)) (.fn (.func gf) caps)) (hhi:leO (ii.map (D7 st ii)) hi)
  (round:∀ k,k<n->Be ((c.rg rel nb l0 (hsJ (k+1))).goal (Aq (ps.zip (xs k)++l0) (hsJ k)))) (done:Be ((c.after rel).goal (Aq l0 (hsJ n)))):AA c rel st :=
 Xk hT hmx id tg ps assign body hl hb hB hps eg hit hxs ic ii h1 h2 h3 l0 nb hsJ hn hl0 ht hh hg hhi (fun k hk=>(round k hk).out) done.out
theorem Ahf (x:VV):VV.le x .dead:=fun _ _ _ _ _=>.dead
theorem GK {α:Type}{l:List α}{k:Nat}{d:α}(h:k<l.length):l.take (k+1)=l.take k++[l.getD k d]:=by
 rw[AmZ];simp[List.getD,h]
theorem AjS : [19,20].Nodup/\∀ p,p∈[19,20]->p<(Tryz.f27).ntmps:=by decide
section
variable {m : D.Model} {s:D.State} {e:D.Env} {w:Wy}
theorem Yr : Ai Tryz.prog 39 [] [.agg (Ag m),.agg (Ae s)] [.box (Ag m),.box (Ae s)] (.fn (.func 55) [.bp 0 0,.bp 1 0]) :=
 Ah Al Am Tryz.func39 (by kernel_rfl) rfl (Ahp m s) ⟨Ik _,VV.le_refl _⟩
theorem AiU {out:List Nx}{x:Nx}{G:Nat->List VV}(hG:G 0=BH x){i:Nat}(hi:i<out.length+1):(bif i.blt out.length then CP out i else G (i - out.length))=CP (out++[x]) i :=
 B6 (f:=BH) (d:=default) (l:=out) (r:=[x]) (F:=CP out) (fun _ _=>rfl) (fun j hj=>by
  obtain rfl:j=0:=by simpa using hj
  exact hG) (by simp;omega)
def AcH (l:List Nx):List Ob:=[.box [.ow 1 0 l.length],.arr true 0 l.length 15 (CP l)]
theorem Ad5 (L l l2:List Nx):((fc BA E8 Tryz.f27 [] (.tup [AR true (L,(0:Int)).1,Aa (L,(0:Int)).2])).rg [1,1,1,0,1] 2 [(7,.bp 0 0)] (AcH l2)).goal (Aq ([19,20].zip [.agg (Af e),.agg (AZ w)]++[(7,.bp 0 0)]) (AcH l)) =
  ((fc BA E8 Tryz.f27 [] (.tup [AR true (L,(0:Int)).1,Aa (L,(0:Int)).2])).rg [1,1,1,0,1] 2 [(7,.bp 0 0)] [.box [.ow 1 0 l2.length],.arr true 0 l2.length 15 (CP l2)]).goal (Aq [(19,.agg (Af e)),(20,.agg (AZ w)),(7,.bp 0 0)] [.box [.ow 1 0 l.length],.arr true 0 l.length 15 (CP l)]):=by kernel_rfl
theorem Aiq {L l:List Nx}{x:Nx}(h:Ai Tryz.prog 40 [] [.agg (Af e),.agg (AZ w)] [] (.agg (BH x)))(hl:l.length<=285230080):Be (((fc BA E8 Tryz.f27 [] (.tup [AR true (L,(0:Int)).1,Aa (L,(0:Int)).2])).rg [1,1,1,0,1] 2 [(7,.bp 0 0)] (AcH (l++[x]))).goal (Aq ([19,20].zip [.agg (Af e),.agg (AZ w)]++[(7,.bp 0 0)]) (AcH l))):=by
 refine Alu ((Ad5 L l (l++[x])).trans (AeA (L,0) e w l (l++[x]))) ⟨x,h,by omega,?_,trivial⟩
 rw[Alh]
 exact⟨Ob.le_refl _,AlM fun i hi=>AQ (AiU (x:=x) (G:=fun i=>List.take 15 (List.drop (i*15) (BH x))) rfl hi),trivial⟩
theorem Agy {L l:List Nx}(hl:l=L):Be (((fc BA E8 Tryz.f27 [] (.tup [AR true (L,(0:Int)).1,Aa (L,(0:Int)).2])).after [1,1,1,0,1]).goal (Aq [(7,.bp 0 0)] (AcH l))):=by
 subst hl
 exact Alu (Aez (l,0) l) ⟨trivial,VV.le_refl _⟩
theorem W7 (h:Gs m s):Ai Tryz.prog 27 [] [.agg (Ag m),.agg (Ae s)] [] (.tup [AR true (C4 m s).1,Aa (C4 m s).2]):=by
 have hq:C4 m s=((Dv m s).map fun p=>Fc p.1 p.2,0):=by
  unfold C4
  rw[h.check]<;>rfl
 have hlen:=Sa h
 have hst:∀ k,k<(Dv m s).length->Ai Tryz.prog 40 [] (Aah m s k) [] (.agg (BH (Fc ((Dv m s).getD k default).1 ((Dv m s).getD k default).2))):=fun k hk=>by
  obtain⟨_,_,h3,h4,h5⟩:=R9 h (Av (d:=default) hk)
  exact Abh h3 h4 h5
 refine Ah Al Am Tryz.func27 (by kernel_rfl) rfl (AgN (C4 m s) m s) ⟨Cf m s,Gr h.wf h.small (fun h=>(GU h).clp),fun h1=>?_,fun _=>⟨(m,s),Yr,?_⟩⟩
 ·rw[h.check]at h1;cases h1
 rw[hq]
 refine AA.cv (Am7 0 0 15 (CP []) rfl rfl) ?_
 have hit:=Ys h
 have hx2:∀ k,Aah m s k=[.agg (Af ((Dv m s).getD k default).1),.agg (AZ ((Dv m s).getD k default).2)]:=fun _=>rfl
 generalize Aah m s=xs at hit hst hx2
 generalize Dv m s=L at hit hst hx2 hlen
 refine AbT Al Am (rfI ((fc BA E8 Tryz.f27 [] (.tup [.nl,.nl])).sub [1,1,1,0,1])) 18 [19,20] (rfA ((fc BA E8 Tryz.f27 [] (.tup [.nl,.nl])).sub [1,1,1,0,1])) (rfB ((fc BA E8 Tryz.f27 [] (.tup [.nl,.nl])).sub [1,1,1,0,1])) (by kernel_rfl) rfl (by kernel_rfl) AjS
  ⟨_,Tryz.func55,rfl,rfl⟩ hit (fun k=>by rw[hx2]<;>rfl) [0,3] [1,2] rfl rfl rfl [(7,.bp 0 0)] 2 (fun k=>AcH ((L.take k).map fun p=>Fc p.1 p.2)) (fun _=>rfl) rfl (fun t=>?_) ?_ ?_ ?_ (fun k hk=>?_) ?_
 ·show VV.le (Jc _ _ (BS t [(7,.bp 0 0),(18,_)])) (BS t [(7,.bp 0 0)])
  simp only[BS]
  cases Nat.beq t 7 with
  | true=>exact VV.le_refl _
  | false=>exact Ahf _
 ·exact Ik _
 ·exact VV.le_refl _
 ·exact Ik _
 ·have hs1:=hst k hk
  rw[hx2]at hs1 ⊢
  have htk:(L.take (k+1)).map (fun p=>Fc p.1 p.2)=(L.take k).map (fun p=>Fc p.1 p.2)++[Fc (L.getD k default).1 (L.getD k default).2]:=by
   rw[GK (d:=default) hk,AmT]<;>rfl
  have hl1:((L.take k).map (fun p=>Fc p.1 p.2)).length=k:=by simp;omega
  rw[htk]
  generalize (L.take k).map (fun p=>Fc p.1 p.2)=l at hl1
  exact Aiq hs1 (by omega)
 ·exact Agy (by rw[Ame])
end
theorem Ai.froz {P:Program}{f:FuncId}{xs:List VV}{hs1:List Ob}{r r2:VV}{ids:List Nat}(k:Nat)(h:Ai P f [] xs hs1 r)(hp:Gw (Bm hs1) k r=some (r2,ids))(hm:r2.memA=true):Ai P f [] xs [] r2:=by
 refine⟨h.callable,fun w E φ vs hz hH hφ hs0=>(h.call w E φ vs hz hH hφ hs0).mono ?_⟩
 rintro e w' ⟨v,φ',rfl,h1,h2,h3,h4⟩
 have h5:=Kr (ids:=ids) h1 _ r r2 v ids h4 hp fun _ h=>h
 have h6:V w' (E.up (Cw ids φ')) (some (Cw ids φ')) r2 v:=V.held (V.unhold h5)
 have hno:∀ {b:Nat},¬ Own (fun _=>none:Phi) b:=fun{b} h=>by
  obtain⟨id,hb⟩:=h
  obtain⟨p,hp,_⟩:=AI.1 hb
  cases hp
 refine⟨v,fun _=>none,rfl,⟨h1.sub,fun _ _ e=>(by cases e),fun i j k hi _=>absurd ⟨i,hi⟩ hno,fun k hk=>absurd hk hno⟩,⟨h2.os,h2.tape,h2.output,h2.size,h2.block,fun k hk=>absurd hk hno,fun id p hid=>absurd hid (Amq _)⟩,fun id=>⟨fun h=>absurd rfl h,fun h=>absurd h (Amq _)⟩,V.memA h6 hm ?_⟩
 exact fun b hb=>hb.elim .inl fun h=>absurd h hno
theorem AA.forget {c:Ctx}{rel:List Nat}{st:St}(keep:List Nat)(hk:okF c.L.base keep st=true)(h:AA c rel (Go.Proofs.YtmdcknlpalfhhaaGreatDoor.forget c.L.base keep st)):AA c rel st :=
 ⟨fun E _ a w hr=>let ⟨φ1,r1,f1⟩:=hr.forget hk
  Ams (h.h E φ1 a w r1) fun _ _ _ ⟨E',st',φ',h0,h1,h2,h3⟩=>⟨E',st',φ',h0,h1,h2,f1.trans h3⟩⟩
section
variable {m : D.Model} {s:D.State} {e:D.Env} {w:Wy}
theorem Lx (hf:Fit s):Ai Tryz.prog 14 [] [.agg (Ae s)] [] (.agg (Ae s)):=(No hf).froz (ids:=[0,1]) 6 (by kernel_rfl) (by kernel_rfl)
theorem Px {c:Int}:Ai Tryz.prog 28 [] [Aa c] [] (.agg (CJ (B3 c))) :=
 Ah Al Am Tryz.func28 (by kernel_rfl) rfl (AfL (B3 c) c) ⟨trivial,VV.le_refl _⟩
theorem YD (hw:Ay e.M)(hs:A7 e.S){t:D.Stmt}:Ai Tryz.prog 42 [] [.agg (Af e),.agg (Ap t)] [] (.agg (Eb (DE e t))):=by
 have hq:DE e t=if t.Kind=1 then(decide ((AX e t.A).1≠0)||decide ((AX e t.A).2≠0),(AX e t.A).2) else if t.Kind=3 then(true,bif decide ((AX e t.A).2=0)&&decide ((AX e t.A).1=0) then 50 else(AX e t.A).2) else(decide (t.Kind=8),0):=rfl
 have hev:=GZ hw hs t.A
 generalize DE e t=r at hq
 generalize AX e t.A=y at hq hev
 refine Ah Al Am Tryz.func42 (by kernel_rfl) rfl (Ade r e t) ⟨fun h1=>⟨y,hev,?_⟩,fun h1=>⟨fun h2=>⟨y,hev,fun h3=>?_,fun h3=>?_⟩,fun h2=>?_⟩⟩
 ·rw[Alw (by simpa using h1)]at hq
  subst hq
  refine⟨trivial,Ama ?_⟩
  rw[A3,AH,AH]<;>rfl
 ·rw[Alg (by simpa using h1),Alw (by simpa using h2)]at hq
  rw[A6]at h3
  rw[show(decide (y.2=0)&&decide (y.1=0))=true by simpa using h3,Ak4]at hq
  subst hq
  exact⟨trivial,VV.le_refl _⟩
 ·rw[Alg (by simpa using h1),Alw (by simpa using h2)]at hq
  rw[A6]at h3
  rw[show(decide (y.2=0)&&decide (y.1=0))=false by simpa using h3,Ak0]at hq
  subst hq
  exact⟨trivial,VV.le_refl _⟩
 ·rw[Alg (by simpa using h1),Alg (by simpa using h2)]at hq
  subst hq
  refine⟨trivial,Ama ?_⟩
  rw[show(t.Kind==8)=decide (t.Kind=8) by rw[Alq];simp]<;>rfl
theorem AiS {out:List Wc}{x:Wc}{G:Nat->List VV}(hG:G 0=Eb x){i:Nat}(hi:i<out.length+1):(bif i.blt out.length then Jx out i else G (i - out.length))=Jx (out++[x]) i :=
 B6 (f:=Eb) (d:=default) (l:=out) (r:=[x]) (F:=Jx out) (fun _ _=>rfl) (fun j hj=>by
  obtain rfl:j=0:=by simpa using hj
  exact hG) (by simp;omega)
def N9 (m:D.Model)(s:D.State)(k i:Nat):Wc:=bif Nat.blt i k then Je m s i else DE (Cp m s) ((Ao m s).getD i default).S
def FP (m:D.Model)(s:D.State)(k:Nat):List Wc:=(List.range (Ao m s).length).map (N9 m s k)
theorem H4 {k:Nat}:(FP m s k).length=(Ao m s).length:=by simp[FP]
theorem O9 {k j:Nat}(hj:j<(Ao m s).length):(FP m s k).getD j default=N9 m s k j:=by
 simp[FP,List.getD,hj]
theorem WD : FP m s 0=(Ao m s).map fun t=>DE (Cp m s) t.S:=by
 refine List.ext_getElem (by simp[FP]) fun i h1 h2=>?_
 have hi:i<(Ao m s).length:=by simpa[FP] using h1
 simp only[FP,List.getElem_map,List.getElem_range]
 show N9 m s 0 i=_
 unfold N9
 rw[show Nat.blt i 0=false from rfl,Ak0]
 simp[List.getD,hi]
theorem AaI : FP m s (Ao m s).length=DB m s:=by
 refine Amg fun i hi=>?_
 unfold N9
 rw[E5 (AlP.1 hi)]
theorem Rf {k:Nat}:N9 m s k k=DE (Cp m s) ((Ao m s).getD k default).S:=by
 unfold N9;rw[Gx (Ak6 _)]
theorem Re {k j:Nat}(h:j≠k):N9 m s (k+1) j=N9 m s k j:=by
 unfold N9
 rcases AlL j k with hl | hl
 ·rw[E5 hl,E5 (by omega)]
 ·rw[Gx hl,Gx (by omega)]
theorem T5 {k:Nat}:N9 m s (k+1) k=Je m s k:=by unfold N9;rw[E5 (Al2 _)]
theorem Qp (h:Gs m s)(hc:0<=m.Claim):Ai Tryz.prog 29 [] [.agg (Ag m),.agg (Ae s)] [] (Cj true (DB m s)):=by
 obtain⟨c1,c2,c3⟩:=Qs h hc
 obtain⟨w1,w2,w3⟩:=MF h hc
 have hd:=fun t=>YD (e:=Cp m s) (t:=t) h.wf h.small
 refine Ah Al Am Tryz.func29 (by kernel_rfl) rfl (Ac8 (DB m s) m s) ⟨(Ho m s,0),by rw[V6 h];exact Sj h.wf h.small h.check,⟨hc,c1⟩,⟨c2,c3⟩,?_⟩
 refine AA.own 1 8 2 (Jx []) rfl ?_
 change AA _ _ (Agx (Cp m s) (((Ao m s).take 0).map fun t=>DE (Cp m s) t.S) (((Ao m s).take 0).any fun t=>(DE (Cp m s) t.S).1) (Ao m s) ((0:Nat):Int))
 refine AK Al Am (Ao m s).length (fun k=>Agx (Cp m s) (((Ao m s).take k).map fun t=>DE (Cp m s) t.S) (((Ao m s).take k).any fun t=>(DE (Cp m s) t.S).1) (Ao m s) k) (fun _=>True) (by kernel_rfl) (by kernel_rfl) trivial ?_
 intro k hk _ J next
 have hlk:(((Ao m s).take k).map fun t=>DE (Cp m s) t.S).length=k:=by simp;omega
 refine Alu (Yy (DB m s) m s (Cp m s) _ _ (Ao m s) k J) ⟨fun hlt=>?_,fun hge=>?_⟩
 ·have hlt':k<(Ao m s).length:=by have:=AV hlt;omega
  have hto:(k:Int).toNat=k:=by omega
  rw[hto]
  have htk:(Ao m s).take (k+1)=(Ao m s).take k++[(Ao m s).getD k default]:=GK hlt'
  refine⟨⟨by omega,by omega⟩,DE (Cp m s) ((Ao m s).getD k default).S,hd _,by omega,next _ hlt' trivial ?_⟩
  rw[htk,AmT,List.any_append,AlU,Amr,Am9,List.any_nil,Bool.or_false,An (by omega)]
  refine Up.mk (l':=[(7,.bp 0 0),(8,.ow 1 0 ((((Ao m s).take k).map fun t=>DE (Cp m s) t.S).length+1)),(9,Ac ((((Ao m s).take k).any fun t=>(DE (Cp m s) t.S).1)||(DE (Cp m s) ((Ao m s).getD k default).S).1)),(10,As true (Ao m s)),(38,As true (Ao m s)),(39,Aa (Ao m s).length),(40,Aa ((k+1:Nat):Int))])
   (hs':=[.box (Af (Cp m s)),.arr true 0 ((((Ao m s).take k).map fun t=>DE (Cp m s) t.S).length+1) 2 (Jx ((((Ao m s).take k).map fun t=>DE (Cp m s) t.S)++[DE (Cp m s) ((Ao m s).getD k default).S]))])
   ⟨⟨rfl,VV.le_refl _⟩,⟨rfl,VV.le_refl _⟩,⟨rfl,Ama (by rw[A3])⟩,⟨rfl,VV.le_refl _⟩,⟨rfl,VV.le_refl _⟩,⟨rfl,VV.le_refl _⟩,⟨rfl,VV.le_refl _⟩,trivial⟩ ⟨Ob.le_refl _,AlM fun i hi=>AQ (AiS (x:=DE (Cp m s) ((Ao m s).getD k default).S) (G:=fun i=>List.take 2 (List.drop (i*2) (Eb (DE (Cp m s) ((Ao m s).getD k default).S)))) rfl hi),trivial⟩ ?_
  unfold Agx
  rw[Alh]<;>rfl
 ·obtain rfl:k=(Ao m s).length:=by have:=A0 hge;omega
  rw[Ame,← WD]
  have hsm:((Ao m s).any fun t=>(DE (Cp m s) t.S).1)=KQ m s:=rfl
  rw[hsm]
  refine AK Al Am (Ao m s).length (fun k=>Agw (FP m s k) (KQ m s) (Ao m s) k) (fun _=>True) (by kernel_rfl) (by kernel_rfl) trivial ?_
  intro k hk _ J next
  refine Alu (Yx (DB m s) (FP m s k) (KQ m s) (Ao m s) k J) ⟨fun hlt=>?_,fun hge=>?_⟩
  ·have hlt':k<(Ao m s).length:=by have:=AV hlt;omega
   have hto:(k:Int).toNat=k:=by omega
   rw[hto]
   have hw:Je m s k=bif decide (((Ao m s).getD k default).S.Kind=7)&&!KQ m s then(true,(DE (Cp m s) ((Ao m s).getD k default).S).2) else DE (Cp m s) ((Ao m s).getD k default).S:=rfl
   refine⟨⟨by omega,by omega⟩,fun hb=>⟨⟨by omega,by rw[H4];omega⟩,next _ hlt' trivial ?_⟩,fun hb=>next _ hlt' trivial (Up.of ?_)⟩
   ·rw[A6,show((((Ao m s).getD k default).S.Kind==7)&&!KQ m s)=(decide (((Ao m s).getD k default).S.Kind=7)&&!KQ m s) by rw[show(((Ao m s).getD k default).S.Kind==7)=decide (((Ao m s).getD k default).S.Kind=7) by rw[Alq];simp]]at hb
    rw[hb,Ak4]at hw
    rw[An (by omega),O9 hlt',Rf]
    refine Up.mk (l':=[(8,.ow 0 0 (FP m s (k+1)).length),(9,Ac (KQ m s)),(58,As true (Ao m s)),(59,Aa (Ao m s).length),(60,Aa ((k+1:Nat):Int))]) (hs':=[.arr true 0 (FP m s (k+1)).length 2 (Jx (FP m s (k+1)))]) ?_ ?_ rfl
    ·rw[H4,H4];exact AO _
    ·rw[H4,H4]
     refine⟨AlM fun j hj=>AQ ?_,trivial⟩
     show _=Eb ((FP m s (k+1)).getD j default)
     rw[O9 hj,O9 hj]
     cases hq:j.beq k with
     | true =>
      have:=Ak7 hq;subst this
      rw[Ak4,T5,hw]<;>rfl
     | false=>rw[Ak0,Re (by rintro rfl;simp at hq)]
   ·rw[A6,show((((Ao m s).getD k default).S.Kind==7)&&!KQ m s)=(decide (((Ao m s).getD k default).S.Kind=7)&&!KQ m s) by rw[show(((Ao m s).getD k default).S.Kind==7)=decide (((Ao m s).getD k default).S.Kind=7) by rw[Alq];simp]]at hb
    rw[hb,Ak0]at hw
    have:FP m s (k+1)=FP m s k:=Amg fun j _=>by
     by_cases hj:j=k
     ·subst hj;rw[T5,Rf,hw]
     ·exact Re hj
    rw[this,An (by omega)]
  ·obtain rfl:k=(Ao m s).length:=by have:=A0 hge;omega
   rw[AaI]
   exact⟨trivial,VV.le_refl _⟩
end
section
variable {m : D.Model} {s:D.State} {e:D.Env} {w:Wy}
theorem AiV {out:List Nx}{x:Nx}{G:Nat->List VV}(hG:leL (G 0) (BH x)){i:Nat}(hi:i<out.length+1):leL (bif i.blt out.length then BH (out.getD i default) else G (i - out.length)) (CP (out++[x]) i):=by
 rcases AlL i out.length with h | h
 ·rw[E5 h]
  refine AQ ?_
  show _=BH ((out++[x]).getD i default)
  simp[Ale h]
 ·rw[Gx h]
  obtain rfl:i=out.length:=by omega
  show leL _ (BH ((out++[x]).getD out.length default))
  have:(out++[x]).getD out.length default=x:=by simp
  rw[this,Nat.sub_self]
  exact hG
theorem XS {k:Nat}:DV m s (k+1)=DV m s k++NW m s k:=rfl
theorem MP : (DB m s).length=(Ao m s).length:=by simp[DB]
theorem AdH {k:Nat}(h:k<(Ao m s).length):(DB m s).getD k default=Je m s k:=by simp[DB,List.getD,h]
theorem Zs {l:Nat->List (Nat × VV)}{J:St->Prop}{out:List Nx}{x:Nx}{G:Nat->List VV}(hG:leL (G 0) (BH x))
  (h:J (Aq (l (out++[x]).length) [.box (Ag m),.box (Ae s),.arr true 0 (out++[x]).length 15 (CP (out++[x]))])) :
  Up J (Aq (l (out.length+1)) [.box (Ag m),.box (Ae s),.arr true 0 (out.length+1) 15 fun i=>bif i.blt out.length then BH (out.getD i default) else G (i - out.length)]):=by
 rw[show(out++[x]).length=out.length+1 by simp]at h
 exact Up.mk (hs':=[.box (Ag m),.box (Ae s),.arr true 0 (out.length+1) 15 (CP (out++[x]))]) (AO _) ⟨Ob.le_refl _,Ob.le_refl _,AlM fun i hi=>AiV (x:=x) (G:=G) hG hi,trivial⟩ h
theorem N3 (h:Gs m s)(hc:0<=m.Claim):AA (fc BA EE Tryz.f13 [] (.tup [AR true (DV m s (Ao m s).length,(0:Int)).1,Aa (DV m s (Ao m s).length,(0:Int)).2])) [1,1,1,1,1,0,1,0] (Abf m s (Fe m s) (DB m s) [] 0):=by
 obtain⟨c1,c2,c3⟩:=Qs h hc
 obtain⟨w1,w2,w3⟩:=MF h hc
 obtain⟨r1,r2⟩:=Zm h
 have hno:=fun k hk=>(M8 h hc (k:=k) hk).1
 change AA _ _ (Abf m s (Fe m s) (DB m s) (DV m s 0) ((0:Nat):Int))
 refine AK Al Am (Ao m s).length (fun k=>Abf m s (Fe m s) (DB m s) (DV m s k) k) (fun _=>True) (by kernel_rfl) (by kernel_rfl) trivial ?_
 intro k hk _ J next
 have hnk:=hno k hk
 refine Alu (VR _ m s (Fe m s) (DB m s) (DV m s k) k J) ⟨fun hlt=>?_,fun hge=>?_⟩
 ·have hlt':k<(Ao m s).length:=by have:=AV hlt;rw[MP]at this;omega
  have hto:(k:Int).toNat=k:=by omega
  have hq:NW m s k=bif !(Je m s k).1 then[] else bif decide ((Je m s k).2≠0) then[⟨B3 k,BO,(Je m s k).2,noT⟩] else(Fe m s).map (FO k ((Ao m s).getD k default).To):=rfl
  have hsu:=XS (m:=m) (s:=s) (k:=k)
  rw[hto,AdH hlt']
  generalize NW m s k=nk at hq hsu
  generalize DV m s (k+1)=nk1 at hsu next
  generalize DV m s k=out at hnk hsu
  have hb2:out.length<=292075601920:=by have:=Alo 285230080 hk;have:=Alo 285230080 w1;omega
  refine⟨⟨by omega,by rw[MP];omega⟩,fun hb=>next _ hlt' trivial (Up.of ?_),fun hb=>⟨fun hb2=>⟨B3 k,Px,by omega,next _ hlt' trivial ?_⟩,fun hb2=>?_⟩⟩
  ·rw[hb,Ak4]at hq
   rw[hsu,hq,Al4,An (by omega)]
  ·rw[hb,Ak0,show decide ((Je m s k).2≠0)=true by simpa using hb2,Ak4]at hq
   rw[An (by omega)]
   refine Zs (x:=⟨B3 k,BO,(Je m s k).2,noT⟩) (l:=fun n=>[(2,.bp 0 0),(3,.bp 1 0),(6,AR true (Fe m s)),(8,.ow 2 0 n),(37,Cj true (DB m s)),(38,Aa (DB m s).length),(39,Aa ((k+1:Nat):Int))]) (G:=fun i=>List.take 15 (List.drop (i*15) [Aa (B3 k).Pid,Aa (B3 k).Esc,Aa (B3 k).Way,Aa (B3 k).With,Aa (B3 k).WithEsc,Aa (B3 k).WithWay,Aa (B3 k).Claim,VV.nl,VV.nl,VV.nl,Aa 0,Aa 0,Aa 0,Aa (Je m s k).2,AD ByteArray.empty])) ?_ ?_
   ·exact⟨VV.le_refl _,VV.le_refl _,VV.le_refl _,VV.le_refl _,VV.le_refl _,VV.le_refl _,VV.le_refl _,AlR,AlR,AlR,VV.le_refl _,VV.le_refl _,VV.le_refl _,VV.le_refl _,VV.le_refl _,trivial⟩
   ·rw[hsu,hq]<;>rfl
  ·rw[hb,Ak0,show decide ((Je m s k).2≠0)=false by simpa using hb2,Ak0]at hq
   have key:nk1=out++((Fe m s).take (Fe m s).length).map (FO k ((Ao m s).getD k default).To):=by rw[Ame,hsu,hq]
   generalize Fe m s=L at r1 r2 key next
   clear hq hsu
   have hz:out=out++(L.take 0).map (FO k ((Ao m s).getD k default).To):=by simp
   have hst:Ad3 m s L (DB m s) out k 0=Ad3 m s L (DB m s) (out++(L.take 0).map (FO k ((Ao m s).getD k default).To)) k ((0:Nat):Int):=by rw[← hz]<;>rfl
   rw[hst]
   refine AK Al Am L.length (fun i=>Ad3 m s L (DB m s) (out++(L.take i).map (FO k ((Ao m s).getD k default).To)) k i) (fun _=>True) (by kernel_rfl) (by kernel_rfl) trivial ?_
   intro i hi _ J2 next2
   have hlo:(out++(L.take i).map (FO k ((Ao m s).getD k default).To)).length<=292075601920+285230080:=by simp;omega
   refine Alu (VQ _ m s L (DB m s) (out++(L.take i).map (FO k ((Ao m s).getD k default).To)) k i J J2) ⟨fun hlt2=>?_,fun hge2=>?_⟩
   ·have hlt2':i<L.length:=by have:=AV hlt2;omega
    have hto2:(i:Int).toNat=i:=by omega
    rw[hto2]
    have hn2:=next2
    have htk:(L.take (i+1)).map (FO k ((Ao m s).getD k default).To)=(L.take i).map (FO k ((Ao m s).getD k default).To)++[FO k ((Ao m s).getD k default).To (L.getD i default)]:=by rw[GK (d:=default) hlt2',AmT]<;>rfl
    have hnx:=r2 _ (Av (d:=default) hlt2')
    rw[htk,← AlS]at next2
    clear hn2 htk
    have hw:FO k ((Ao m s).getD k default).To (L.getD i default)=bif decide ((L.getD i default).Err=0) then⟨{ (L.getD i default).Move with Claim:=k },{ (L.getD i default).State with Claim:=((Ao m s).getD k default).To },(L.getD i default).Err,(L.getD i default).Text⟩ else⟨{ (L.getD i default).Move with Claim:=k },(L.getD i default).State,(L.getD i default).Err,(L.getD i default).Text⟩:=rfl
    generalize FO k ((Ao m s).getD k default).To (L.getD i default)=x at hw next2
    generalize out++(L.take i).map (FO k ((Ao m s).getD k default).To)=o2 at hlo next2
    generalize L.getD i default=n at hnx hw
    have fin:∀ (G:Nat->List VV),leL (G 0) (BH x)->J2 (Aq [(2,.bp 0 0),(3,.bp 1 0),(6,AR true L),(8,.ow 2 0 (o2.length+1)),(9,Aa k),(37,Cj true (DB m s)),(38,Aa (DB m s).length),(39,Aa k),(58,AR true L),(59,Aa L.length),(60,Aa ((i+1:Nat):Int))]
      [.box (Ag m),.box (Ae s),.arr true 0 (o2.length+1) 15 fun i=>bif i.blt o2.length then BH (o2.getD i default) else G (i - o2.length)]):=fun G hG=>next2 _ hlt2' trivial (Zs (x:=x) (l:=fun n=>[(2,.bp 0 0),(3,.bp 1 0),(6,AR true L),(8,.ow 2 0 n),(9,Aa k),(37,Cj true (DB m s)),(38,Aa (DB m s).length),(39,Aa k),(58,AR true L),(59,Aa L.length),(60,Aa ((i+1:Nat):Int))]) (G:=G) hG rfl)
    rw[An (by omega)]
    refine⟨⟨by omega,by omega⟩,fun he=>?_,fun he=>⟨by omega,fin (fun i=>List.take 15 (List.drop (i*15) [Aa n.Move.Pid,Aa n.Move.Esc,Aa n.Move.Way,Aa n.Move.With,Aa n.Move.WithEsc,Aa n.Move.WithWay,Aa k,Ad true n.State.Globals,AE true n.State.Chans,Au true n.State.Procs,Aa n.State.Last,Aa n.State.Alone,Aa n.State.Claim,Aa n.Err,AD n.Text])) ?_⟩⟩
    ·have he':n.Err=0:=by simpa using he
     rw[AlO he',Ak4]at hw
     refine⟨n.State,Lx (hnx.gs he').fit,⟨hc,c1⟩,⟨c2,c3⟩,⟨by omega,by show(k:Int)<(Ao m s).length;omega⟩,by omega,fin (fun i=>List.take 15 (List.drop (i*15) [Aa n.Move.Pid,Aa n.Move.Esc,Aa n.Move.Way,Aa n.Move.With,Aa n.Move.WithEsc,Aa n.Move.WithWay,Aa k,Ad true n.State.Globals,AE true n.State.Chans,Au true n.State.Procs,Aa n.State.Last,Aa n.State.Alone,Aa ((Ao m s).getD k default).To,Aa n.Err,AD n.Text])) ?_⟩
     rw[hw]
     exact AQ rfl
    ·rw[AlI (by simpa using he),Ak0]at hw
     rw[hw]
     exact AQ rfl
   ·obtain rfl:i=L.length:=by have:=A0 hge2;omega
    rw[← key,An (by omega)]
    exact next _ hlt' trivial (Up.of rfl)
 ·obtain rfl:k=(Ao m s).length:=by have:=A0 hge;rw[MP]at this;omega
  exact⟨trivial,VV.le_refl _⟩
theorem VJ (h:Gs m s):Ai Tryz.prog 13 [] [.agg (Ag m),.agg (Ae s)] [] (.tup [AR true (Ex m s).1,Aa (Ex m s).2]):=by
 have hq:Ex m s=bif decide ((C4 m s).2≠0)||decide (m.Claim<0) then C4 m s else(DV m s (Ao m s).length,0):=rfl
 refine Ah Al Am Tryz.func13 (by kernel_rfl) rfl (YE (Ex m s) m s) ⟨C4 m s,W7 h,fun hb=>?_,fun hb=>?_⟩
 ·rw[A3,AH]at hb
  rw[hb,Ak4]at hq
  rw[hq]
  exact⟨trivial,VV.le_refl _⟩
 ·rw[A3,AH]at hb
  rw[hb,Ak0]at hq
  simp only[Aln,AlB]at hb
  have hc:0<=m.Claim:=by omega
  rw[hq]
  refine⟨fun hl=>⟨B3 (-1),Px,DB m s,Qp h hc,?_⟩,fun hl=>⟨DB m s,Qp h hc,?_⟩⟩
  ·have hr:Fe m s=[⟨B3 (-1),s,0,noT⟩]:=by
    unfold Fe
    rw[AlI (by have:((C4 m s).1.length:Int)=0:=(by simpa using hl);omega),Ak0]
   have ht:=N3 h hc
   rw[hr]at ht
   generalize DB m s=ws at ht
   have h0:∀ (F:Nat->List VV),F 0=BH ⟨B3 (-1),s,0,noT⟩->∀ i,i<1->leL (F i) (CP [⟨B3 (-1),s,0,noT⟩] i):=fun F hF i hi=>by
    obtain rfl:i=0:=by omega
    exact AQ hF
   refine AA.le (hs':=[.box (Ag m),.box (Ae s),.arr true 0 1 15 (CP [⟨B3 (-1),s,0,noT⟩])]) (AO _) ⟨Ob.le_refl _,Ob.le_refl _,AlM (h0 _ rfl),trivial⟩ ?_
   refine AA.cv (Cv.pub (k:=2) (id:=2) rfl rfl) ?_
   refine AA.forget [2,3,6,8,37,38,39] (by kernel_rfl) ?_
   have e1:Go.Proofs.YtmdcknlpalfhhaaGreatDoor.forget 0 [2,3,6,8,37,38,39] (Aq ([(2,VV.bp 0 0),(3,.bp 1 0),(6,.ow 2 0 1),(8,.nl),(37,Cj true ws),(38,Aa ws.length),(39,Aa 0)].set 2 (6,.sl true 1 15 (CP [⟨B3 (-1),s,0,noT⟩]))) ([Ob.box (Ag m),.box (Ae s),.arr true 0 1 15 (CP [⟨B3 (-1),s,0,noT⟩])].set 2 (.gone (0+1))))=Aq [(2,.bp 0 0),(3,.bp 1 0),(6,AR true [⟨B3 (-1),s,0,noT⟩]),(8,.nl),(37,Cj true ws),(38,Aa ws.length),(39,Aa 0)] [.box (Ag m),.box (Ae s)]:=by kernel_rfl
   show AA _ _ (Go.Proofs.YtmdcknlpalfhhaaGreatDoor.forget 0 [2,3,6,8,37,38,39] _)
   refine Eq.mpr (congrArg (AA _ _) e1) ?_
   exact AA.own 3 8 15 (CP []) rfl ht
  ·have hr:Fe m s=(C4 m s).1:=by
    unfold Fe
    rw[AlO (by have:((C4 m s).1.length:Int)≠0:=(by simpa using hl);omega),Ak4]
   have ht:=N3 h hc
   rw[hr]at ht
   exact AA.own 3 8 15 (CP []) rfl ht
end
section
variable {m : D.Model} {s:D.State} {e:D.Env} {w:Wy}
theorem OC {α:Type}{f:α->List VV}{d:α}{out:List α}{x:α}{G:Nat->List VV}(hG:leL (G 0) (f x)){i:Nat}(hi:i<out.length+1):leL (bif i.blt out.length then f (out.getD i d) else G (i - out.length)) (f ((out++[x]).getD i d)):=by
 rcases AlL i out.length with h | h
 ·rw[E5 h]
  refine AQ ?_
  simp[Ale h]
 ·rw[Gx h]
  obtain rfl:i=out.length:=by omega
  have:(out++[x]).getD out.length d=x:=by simp
  rw[this,Nat.sub_self]
  exact hG
theorem AgU (n:Nat):leL [VV.sl false n 1 fun _=>[Aa 0]] [Ad false (List.replicate n 0)]:=by
 refine AQ ?_
 have:(fun i=>[Aa ((List.replicate n (0:Int)).getD i 0)])=fun _=>[Aa 0]:=by
  funext i
  have:(List.replicate n (0:Int)).getD i 0=0:=by
   simp only[Alf,List.getElem?_replicate]
   split<;>rfl
  rw[this]
 unfold Ad
 rw[List.length_replicate,this]
theorem Afx (hw:Ay m)(h:Dq m=false):Ai Tryz.prog 11 [] [.agg (Ag m)] [] (.tup [.agg (Ae BO),Aa 40]) :=
 Ah Al Am Tryz.func11 (by kernel_rfl) rfl (UC BO 40 m) ⟨Dq m,Mr hw,fun _=>⟨trivial,Amx ⟨Aml ⟨AlR,AlR,AlR,VV.le_refl _,VV.le_refl _,VV.le_refl _,trivial⟩,VV.le_refl _,trivial⟩⟩,fun hb=>by rw[h]at hb;cases hb⟩
theorem Yl (hw:Ay m)(h:Dq m=true):Ai Tryz.prog 11 [] [.agg (Ag m)] [] (.tup [.agg (Ae (AP m)),Aa 0]):=by
 have hfs:∀ k:Nat,k<m.Procs.length->Di (A8 m k)=true:=fun k hk=>(DT (Cy h).2.1 k hk).1
 have hch:m.Chans.length<=1048576:=hw.Chans.1
 have hmn:=fun k hk=>ZH h (k:=k) hk
 refine Ah Al Am Tryz.func11 (by kernel_rfl) rfl (UC (AP m) 0 m) ⟨Dq m,Mr hw,fun hb=>(by rw[h]at hb;cases hb),fun _=>⟨m.Init,Ly (by have:=hw.Init.1;omega),?_⟩⟩
 refine AA.cv (Am7 2 1 2 (CQ []) rfl rfl) ?_
 change AA _ _ (Zd m ((m.Chans.take 0).map fun c=>⟨c,[]⟩) ((0:Nat):Int))
 refine AK Al Am m.Chans.length (fun k=>Zd m ((m.Chans.take k).map fun c=>⟨c,[]⟩) k) (fun _=>True) (by kernel_rfl) (by kernel_rfl) trivial ?_
 intro k hk _ J next
 have hlk:((m.Chans.take k).map fun c=>(⟨c,[]⟩:D.Chan)).length=k:=by simp;omega
 refine Alu (Abu _ 0 m ((m.Chans.take k).map fun c=>⟨c,[]⟩) k J) ⟨fun hlt=>?_,fun hge=>?_⟩
 ·have hlt':k<m.Chans.length:=by have:=AV hlt;omega
  have hto:(k:Int).toNat=k:=by omega
  rw[hto]
  have htk:(m.Chans.take (k+1)).map (fun c=>(⟨c,[]⟩:D.Chan))=(m.Chans.take k).map (fun c=>⟨c,[]⟩)++[⟨m.Chans.getD k 0,[]⟩]:=by rw[GK (d:=(0:Int)) hlt',AmT]<;>rfl
  refine⟨⟨by omega,by omega⟩,by omega,next _ hlt' trivial ?_⟩
  rw[htk,An (by omega)]
  generalize (m.Chans.take k).map (fun c=>(⟨c,[]⟩:D.Chan))=out at hlk
  refine Up.mk (hs':=[.box (Ag m),N6,AfU m.Init (.ow 3 0 (out.length+1)) .nl,.arr true 0 (out.length+1) 2 (CQ (out++[(⟨m.Chans.getD k 0,[]⟩:D.Chan)]))]) (AO _) ⟨Ob.le_refl _,Ob.le_refl _,Ob.le_refl _,AlM fun i hi=>OC (f:=AB) (d:=default) (x:=⟨m.Chans.getD k 0,[]⟩) (G:=fun i=>List.take 2 (List.drop (i*2) [Aa (m.Chans.getD k 0),VV.nl])) ⟨VV.le_refl _,AlR,trivial⟩ hi,trivial⟩ ?_
  unfold Zd
  rw[Alh]<;>rfl
 ·obtain rfl:k=m.Chans.length:=by have:=A0 hge;omega
  rw[Ame]
  have hcs:(AP m).Chans=m.Chans.map fun c=>⟨c,[]⟩:=rfl
  have hps:(AP m).Procs=CX m m.Procs.length:=rfl
  refine AA.cv (Am7 2 2 4 (Ft []) rfl rfl) ?_
  generalize hC:m.Chans.map (fun c=>(⟨c,[]⟩:D.Chan))=cs at hcs hlk
  change AA _ _ (Zc m cs (CX m 0) ((0:Nat):Int))
  refine AK Al Am m.Procs.length (fun k=>Zc m cs (CX m k) k) (fun _=>True) (by kernel_rfl) (by kernel_rfl) trivial ?_
  intro k hk _ J next
  have hps16:=hmn k hk
  refine Alu (Abt (AP m) 0 m cs (CX m k) k J) ⟨fun hlt=>?_,fun hge=>?_⟩
  ·have hlt':k<m.Procs.length:=by have:=AV hlt;omega
   have hto:(k:Int).toNat=k:=by omega
   have f1:Di (A8 m k)=true:=hfs k hlt'
   have hpq:m.Procs.getD (k:Int).toNat default=A8 m k:=rfl
   have hf:=f1
   unfold Di at hf
   simp only[Ak2,Ak5]at hf
   have a0:=hf.1.1.1.1.1.1.1.1
   have a1:=hf.1.1.1.1.1.1.1.2
   have a3:=hf.1.1.1.1.1.2
   have a2:=hf.1.1.1.1.2
   have a4:=hf.1.1.1.2
   have a5:=hf.1.1.2
   have hpl:=hw.Procs.1
   have hbg:=Rw (args:=List.replicate (A8 m k).Params.toNat 0) hw (typ:=k) ⟨by omega,by omega⟩ (by simp;omega) (by simp;omega) (by simp;omega)
   have hsu:CX m (k+1)=CX m k++List.replicate (A8 m k).Active.toNat (G4 m k (List.replicate (A8 m k).Params.toNat 0)):=rfl
   rw[hpq]
   refine⟨⟨by omega,by omega⟩,?_⟩
   generalize G4 m k (List.replicate (A8 m k).Params.toNat 0)=b at hbg hsu
   generalize A8 m k=p at *
   generalize CX m (k+1)=ps1 at hsu next
   generalize CX m k=ps at hsu hps16
   have hz:Ru m cs ps k p p.Active 0=Ru m cs (ps++List.replicate 0 b) k p p.Active ((0:Nat):Int):=by rw[List.replicate_zero,Al4]<;>rfl
   rw[hz]
   refine AK Al Am p.Active.toNat (fun j=>Ru m cs (ps++List.replicate j b) k p p.Active j) (fun _=>True) (by kernel_rfl) (by kernel_rfl) trivial ?_
   intro j hj _ J2 next2
   have hl2:(ps++List.replicate j b).length=ps.length+j:=by simp
   refine Alu (Abs _ 0 m cs (ps++List.replicate j b) k p p.Active j J J2) ⟨fun hlt2=>?_,fun hge2=>?_⟩
   ·have hlt2':j<p.Active.toNat:=by have:=AV hlt2;omega
    have hrs:ps++List.replicate (j+1) b=(ps++List.replicate j b)++[b]:=by rw[List.replicate_succ',AlS]
    have hri:=(AgU p.Params.toNat).1
    refine⟨⟨a3,AmF _,by omega⟩,b,hbg.le trivial ⟨VV.le_refl _,VV.le_refl _,hri,trivial⟩ trivial (VV.le_refl _),by omega,next2 _ hlt2' trivial ?_⟩
    rw[hrs,An (by omega)]
    generalize ps++List.replicate j b=o2 at hl2
    refine Up.mk (hs':=[.box (Ag m),N6,AfU m.Init (.ow 3 0 cs.length) (.ow 4 0 (o2.length+1)),.arr true 0 cs.length 2 (CQ cs),.arr true 0 (o2.length+1) 4 (Ft (o2++[b])),.box (Bc p)]) (AO _) ⟨Ob.le_refl _,Ob.le_refl _,Ob.le_refl _,Ob.le_refl _,AlM fun i hi=>OC (f:=Ar) (d:=default) (x:=b) (G:=fun i=>List.take 4 (List.drop (i*4) (Ar b))) (JG _) hi,Ob.le_refl _,trivial⟩ ?_
    unfold Ru
    rw[Alh]<;>rfl
   ·obtain rfl:j=p.Active.toNat:=by have:=A0 hge2;omega
    rw[← hsu]
    refine next _ hlt' trivial (Up.of ?_)
    rw[An (by omega)]
  ·obtain rfl:k=m.Procs.length:=by have:=A0 hge;omega
   refine⟨fun hb=>⟨?_,trivial,?_⟩,fun hb=>⟨trivial,?_⟩⟩
   ·have:=Ak9 hb
    exact⟨by omega,(GU h).clp⟩
   ·have hb:0<=m.Claim:=Ak9 hb
    have hcl:(AP m).Claim=(A8 m m.Claim).Start:=by
     unfold AP
     rw[AlO hb]<;>rfl
    refine Ama ?_
    show _=VV.tup [.agg [Ad true (AP m).Globals,AE true (AP m).Chans,Au true (AP m).Procs,Aa (AP m).Last,Aa (AP m).Alone,Aa (AP m).Claim],Aa 0]
    rw[hcl,hcs,hps]<;>rfl
   ·have hb:¬ 0<=m.Claim:=Alk hb
    have hcl:(AP m).Claim=-1:=by
     unfold AP
     rw[AlI hb]<;>rfl
    refine Ama ?_
    show _=VV.tup [.agg [Ad true (AP m).Globals,AE true (AP m).Chans,Au true (AP m).Procs,Aa (AP m).Last,Aa (AP m).Alone,Aa (AP m).Claim],Aa 0]
    rw[hcl,hcs,hps]<;>rfl
end
theorem Lj {x:List Int}(hx:Len x.length):Ai Tryz.prog 21 [] [Ad true x,Ad true x] [] (Ac true):=by
 unfold Len at hx
 refine Ah Al Am Tryz.func21 (by kernel_rfl) rfl (Acg true x) ⟨fun h=>by simp at h,fun _=>?_⟩
 refine AK Al Am x.length (fun k=>Oy x k) (fun _=>True) (by kernel_rfl) (by kernel_rfl) trivial ?_
 intro k hk _ J next
 refine Alu (XQ true x k J) ⟨fun hlt=>?_,fun _=>⟨trivial,VV.le_refl _⟩⟩
 have:=AV hlt
 exact⟨⟨by omega,by omega⟩,⟨by omega,by omega⟩,fun hy=>by simp at hy,fun _=>next _ (by omega) trivial (Up.of (by rw[An (by omega)]))⟩
theorem QV {x:D.Chan}(hx:YK x):Ai Tryz.prog 22 [] [.agg (AB x),.agg (AB x)] [] (Ac true):=by
 have hq:=hx.q
 unfold Len at hq
 refine Ah Al Am Tryz.func22 (by kernel_rfl) rfl (SR true x) ⟨fun h=>by simp at h,fun _=>?_⟩
 refine AK Al Am x.Queue.length (fun k=>Ot x k) (fun _=>True) (by kernel_rfl) (by kernel_rfl) trivial ?_
 intro k hk _ J next
 refine Alu (QW true x k J) ⟨fun hlt=>?_,fun _=>⟨trivial,VV.le_refl _⟩⟩
 have hlt:=AV hlt
 exact⟨⟨by omega,by omega⟩,⟨by omega,by omega⟩,true,Lj (hx.m _ (Av (by omega))),fun hy=>by simp at hy,fun _=>next _ (by omega) trivial (Up.of (by rw[An (by omega)]))⟩
theorem Xn {x:D.State}(hx:A7 x):Ai Tryz.prog 10 [] [.agg (Ae x),.agg (Ae x)] [] (Ac true):=by
 have hc:=hx.c
 have hp:=hx.p
 unfold Len at hc hp
 refine Ah Al Am Tryz.func10 (by kernel_rfl) rfl (AbM true x) ⟨true,Lj hx.g,fun h=>by simp at h,fun _=>?_⟩
 refine AK Al Am x.Chans.length (fun k=>Ov x k) (fun _=>True) (by kernel_rfl) (by kernel_rfl) trivial ?_
 intro k hk _ J next
 refine Alu (Xp true x k J) ⟨fun hlt=>?_,fun hge=>?_⟩
 ·have hlt:=AV hlt
  exact⟨⟨by omega,by omega⟩,⟨by omega,by omega⟩,true,QV (hx.cs _ (Av (by omega))),fun hy=>by simp at hy,fun _=>next _ (by omega) trivial (Up.of (by rw[An (by omega)]))⟩
 clear next
 refine AK Al Am x.Procs.length (fun k=>Ou x k) (fun _=>True) (by kernel_rfl) (by kernel_rfl) trivial ?_
 intro k hk _ J next
 refine Alu (Xo true x k J) ⟨fun hlt=>?_,fun _=>⟨trivial,VV.le_refl _⟩⟩
 have hlt:=AV hlt
 exact⟨⟨by omega,by omega⟩,⟨by omega,by omega⟩,true,Lj (hx.ps _ (Av (by omega))),fun hy=>by simp at hy,fun _=>next _ (by omega) trivial (Up.of (by rw[An (by omega)]))⟩
section
variable {m : D.Model} {s:D.State}
theorem Ui : Ai Tryz.prog 18 [] [] [] (.agg (CJ (B3 (-1)))) :=
 Ah Al Am Tryz.func18 (by kernel_rfl) rfl (WP (B3 (-1))) ⟨trivial,VV.le_refl _⟩
theorem Ajc {a b:Mv}:(a.Pid==b.Pid&&(a.Esc==b.Esc&&(a.Way==b.Way&&(a.With==b.With&&(a.WithEsc==b.WithEsc&&(a.WithWay==b.WithWay&&(a.Claim==b.Claim&&true)))))))=decide (a=b):=by
 obtain⟨_,_,_,_,_,_,_⟩:=a
 obtain⟨_,_,_,_,_,_,_⟩:=b
 rw[Alq];simp
theorem WQ {v:Mv}{n:Nx}:Ai Tryz.prog 20 [] [.agg (BH n),.tp (CJ v)] [] (Ac (decide (n.Move=v))) :=
 Ah Al Am Tryz.func20 (by kernel_rfl) rfl (AaY (decide (n.Move=v)) v n) ⟨trivial,Ama (by rw[Ajc])⟩
theorem X9 {v:Mv}{l:List Nx}(hl:l.length<=292075601920):Ai Tryz.prog 19 [] [AR true l,.fn (.func 20) [.tp (CJ v)]] [] (Aa (Fa v l 0)):=by
 generalize hr:Fa v l 0=r
 refine Ah Al Am Tryz.func19 (by kernel_rfl) rfl (AcF r v l) ?_
 refine AK Al Am l.length (fun k=>Agv v l k) (fun k=>Fa v (l.drop k) k=r) (by kernel_rfl) (by kernel_rfl) hr ?_
 clear hr
 intro k hk hr J next
 refine Alu (Ya r v l k J) ⟨fun hlt=>?_,fun hge=>?_⟩
 ·have hlt':k<l.length:=by have:=AV hlt;omega
  have hto:(k:Int).toNat=k:=by omega
  have hdr:l.drop k=l.getD k default::l.drop (k+1):=by rw[Al5 hlt'];simp[List.getD,hlt']
  rw[hdr]at hr
  rw[hto]
  refine⟨⟨by omega,by omega⟩,_,WQ,fun hy=>?_,fun hy=>next _ hlt' ?_ (Up.of (by rw[An (by omega)]))⟩
  ·unfold Fa at hr
   rw[hy,Ak4]at hr
   exact⟨trivial,Ama (by rw[hr])⟩
  ·unfold Fa at hr
   rwa [hy,Ak0]at hr
 ·rw[AlK (by have:=A0 hge;omega)]at hr
  exact⟨trivial,Ama (by rw[← hr]<;>rfl)⟩
theorem Tp {v:Mv}:∀ {l:List Nx} {i:Nat},¬ Fa v l i<0->i<=(Fa v l i).toNat/\0<=Fa v l i/\Fa v l i<i+l.length
 | [],i,h=>absurd (show(-1:Int)<0 by decide) h
 | n::r,i,h=>by
  unfold Fa at h ⊢
  cases c:decide (n.Move=v) with
  | true=>rw[Ak4,AlE];omega
  | false =>
   rw[c,Ak0]at h
   have:=Tp h
   rw[Ak0,AlE];omega
def QX (m:D.Model)(l:List Mv):List D.State × Int × Int:=bif Dq m then He m l (AP m) [AP m] 0 else([],40,0)
theorem U2 (h:Gs m s):(Ct m s).length<=292075601920/\∀ n∈Ct m s,TI m n:=by
 obtain⟨_,h1,h2⟩:=Abc h
 unfold Ct
 cases decide (m.Claim<0)&&decide ((Ex m s).1.length=0) with
 | true=>exact⟨by simp,fun n hn=>by rw[Aly.1 hn];exact⟨fun _=>h,Alc _⟩⟩
 | false=>exact⟨h1,h2⟩
theorem Zn : ∀ {l:List Mv} {s:D.State} {out:List D.State} {i:Nat},Gs m s->(∀ x∈out,Gs m x)->∀ x∈(He m l s out i).1,Gs m x
 | [],_,_,_,_,ho=>ho
 | v::l,s,out,i,h,ho=>by
  unfold He
  cases c1:decide (Fa v (Ct m s) 0<0) with
  | true=>intro x hx;cases hx
  | false =>
   rw[Ak0]
   have hi:=Tp (Alk c1)
   cases c2:decide (((Ct m s).getD (Fa v (Ct m s) 0).toNat default).Err≠0) with
   | true=>exact ho
   | false =>
    have hn:=((U2 h).2 _ (Av (d:=default) (show(Fa v (Ct m s) 0).toNat<(Ct m s).length by omega))).gs (by simpa using c2)
    exact Zn hn fun x hx=>(AlA.1 hx).elim (ho x) fun hx=>by rw[Aly.1 hx];exact hn
noncomputable abbrev cRp (R:List D.State × Int × Int):Ctx:=fc Dn LG Tryz.f9 [] (.tup [CE true R.1,Aa R.2.1,Aa R.2.2])
theorem AgT {R:List D.State × Int × Int}{l:List Mv}{out:List D.State}{k:Nat}(h:Gs m s)(hk:k<l.length)(hl:l.length<=1048576)(ho:out.length=k+1)(hr:He m (l.drop k) s out k=R){J:St->Prop}
  (next:∀ (st:St) (s':D.State),Gs m s'->He m (l.drop (k+1)) s' (out++[s']) (k+1)=R->Up (fun st'=>st'=Ad1 m s' l (out++[s']) ((k+1:Nat):Int)) st->J st) :
  AA ((cRp R).loop [1,1,1,1,0,1,0] J) [1,1,0,0,1,1,1] (Agu m s l out k (l.getD k default) (Ct m s)):=by
 obtain⟨n1,n2⟩:=U2 h
 have hdr:l.drop k=l.getD k default::l.drop (k+1):=by rw[Al5 hk];simp[List.getD,hk]
 rw[hdr]at hr
 unfold He at hr
 generalize Ct m s=L at n1 n2 hr
 generalize l.getD k default=v at hr
 have hix:=Tp (v:=v) (l:=L) (i:=0)
 have hsp:=X9 (v:=v) n1
 generalize Fa v L 0=y at hr hix hsp
 refine OR (c:=(cRp R).loop [1,1,1,1,0,1,0] J) (rel:=[1,1,0,0,1,1,1]) Al Am (by kernel_rfl) (AgQ R.1 R.2.1 R.2.2 m s l out k v L J) ⟨y,hsp,fun hy=>?_,fun hy=>?_⟩
 ·rw[hy,Ak4]at hr
  subst hr
  exact⟨trivial,Amx ⟨AlR,VV.le_refl _,VV.le_refl _,trivial⟩⟩
 ·rw[hy,Ak0]at hr
  have hx:=hix (Alk hy)
  have hin:0<=y/\y<L.length:=by omega
  have hn:=n2 _ (Av (d:=default) (show y.toNat<L.length by omega))
  generalize L.getD y.toNat default=n at hr hn ⊢
  refine⟨hin,fun he=>⟨hin,?_⟩,fun he=>⟨hin,n.State,?_⟩⟩
  ·rw[AH]at he
   rw[he,Ak4]at hr
   subst hr
   exact⟨trivial,VV.le_refl _⟩
  ·rw[AH]at he
   rw[he,Ak0]at hr
   have hg:=hn.gs (by simpa using he)
   refine⟨Lx hg.fit,by omega,next _ n.State hg hr ?_⟩
   rw[An (by omega)]
   unfold Ad1
   rw[show(out++[n.State]).length=out.length+1 by simp]
   exact Up.mk (hs':=[.box (Ag m),.box (Ae n.State),.arr true 0 (out.length+1) 6 (Lf (out++[n.State]))]) (AO _) ⟨Ob.le_refl _,Ob.le_refl _,AlM fun i hi=>OC (f:=Ae) (d:=BO) (x:=n.State) (G:=fun i=>List.take 6 (List.drop (i*6) (Ae n.State))) (JG _) hi,trivial⟩ rfl
theorem AiY {l:List Mv}(hw:Ay m)(h:Dq m=false):Ai Tryz.prog 9 [] [.agg (Ag m),BU true l] [] (.tup [CE true [],Aa 40,Aa 0]) :=
 Ah Al Am Tryz.func9 (by kernel_rfl) rfl (AeD [] 40 0 m l) ⟨(BO,40),Afx hw h,fun _=>⟨trivial,Amx ⟨AlR,VV.le_refl _,VV.le_refl _,trivial⟩⟩,fun h=>by cases h⟩
theorem AgS {l:List Mv}(hw:Ay m)(h:Dq m=true)(hl:l.length<=1048576):Ai Tryz.prog 9 [] [.agg (Ag m),BU true l] [] (.tup [CE true (He m l (AP m) [AP m] 0).1,Aa (He m l (AP m) [AP m] 0).2.1,Aa (He m l (AP m) [AP m] 0).2.2]):=by
 have hg:=Vt hw h
 generalize hr:He m l (AP m) [AP m] 0=R
 refine Ah Al Am Tryz.func9 (by kernel_rfl) rfl (AeD R.1 R.2.1 R.2.2 m l) ⟨(AP m,0),Yl hw h,fun h=>(by cases h),fun _=>?_⟩
 generalize AP m=s0 at hg hr
 refine Bh (c:=cRp R) (rel:=[1,1,1,1,0,1,0]) Al Am (fun g st=>∃ (k:Nat) (s:D.State) (out:List D.State),k<=l.length/\g=l.length - k/\Gs m s/\out.length=k+1/\He m (l.drop k) s out k=R/\st=Ad1 m s l out k) (by kernel_rfl) (by kernel_rfl)
  ⟨_,Up.mk (l':=[(2,.bp 0 0),(7,.bp 1 0),(9,.ow 2 0 1),(25,BU true l),(26,Aa l.length),(27,Aa 0)]) (hs':=[.box (Ag m),.box (Ae s0),.arr true 0 1 6 (Lf [s0])]) (AO _) ⟨Ob.le_refl _,Ob.le_refl _,AlM fun i hi=>?_,trivial⟩ ⟨0,s0,[s0],Alc _,rfl,hg,rfl,hr,rfl⟩⟩ ?_
 ·obtain rfl:i=0:=by omega
  exact AQ rfl
 clear hr hg
 rintro g st ⟨k,s,out,hk,rfl,hg,ho,hr,rfl⟩
 refine Alu (AgP R.1 R.2.1 R.2.2 m s l out k _) ⟨fun hlt=>?_,fun hge=>?_⟩
 ·have hlt':k<l.length:=by have:=AV hlt;omega
  have hto:(k:Int).toNat=k:=by omega
  rw[hto]
  have key:=AgT (R:=R) (J:=fun st'=>∃ g',g'<l.length - k/\Up (fun st=>∃ (k:Nat) (s:D.State) (out:List D.State),k<=l.length/\g'=l.length - k/\Gs m s/\out.length=k+1/\He m (l.drop k) s out k=R/\st=Ad1 m s l out k) st') hg hlt' hl ho hr
   fun st s' h1 h2 ⟨st1,c1,e1⟩=>⟨l.length - (k+1),by omega,st1,c1,k+1,s',out++[s'],by omega,rfl,h1,by simp[ho],h2,e1⟩
  refine⟨⟨by omega,by omega⟩,Ex m s,VJ hg,fun hb=>⟨B3 (-1),Ui,s,Lx hg.fit,?_⟩,fun hb=>?_⟩
  ·have hn:Ct m s=[⟨B3 (-1),s,0,noT⟩]:=by
    unfold Ct
    rw[show(decide (m.Claim<0)&&decide ((Ex m s).1.length=0))=true by simpa using hb,Ak4]
   rw[hn]at key
   generalize l.getD k default=v at key ⊢
   refine AA.le (hs':=[.box (Ag m),.box (Ae s),.arr true 0 out.length 6 (Lf out),.box (CJ v),.arr true 0 1 15 (CP [⟨B3 (-1),s,0,noT⟩])]) (AO _) ⟨Ob.le_refl _,Ob.le_refl _,Ob.le_refl _,Ob.le_refl _,AlM fun i hi=>?_,trivial⟩ ?_
   ·obtain rfl:i=0:=by omega
    exact AQ rfl
   refine AA.cv (Cv.pub (k:=5) (id:=4) rfl rfl) ?_
   refine AA.forget [2,7,9,10,11,12,25,26,27] (by kernel_rfl) ?_
   have e1:Go.Proofs.YtmdcknlpalfhhaaGreatDoor.forget 0 [2,7,9,10,11,12,25,26,27] (Aq ([(2,VV.bp 0 0),(7,.bp 1 0),(9,.ow 2 0 out.length),(10,Aa k),(11,.bp 3 0),(12,.ow 4 0 1),(25,BU true l),(26,Aa l.length),(27,Aa k)].set 5 (12,.sl true 1 15 (CP [⟨B3 (-1),s,0,noT⟩]))) ([Ob.box (Ag m),.box (Ae s),.arr true 0 out.length 6 (Lf out),.box (CJ v),.arr true 0 1 15 (CP [⟨B3 (-1),s,0,noT⟩])].set 4 (.gone (0+1))))=Agu m s l out k v [⟨B3 (-1),s,0,noT⟩]:=by kernel_rfl
   show AA _ _ (Go.Proofs.YtmdcknlpalfhhaaGreatDoor.forget 0 [2,7,9,10,11,12,25,26,27] _)
   refine Eq.mpr (congrArg (AA _ _) e1) ?_
   exact key
  ·have hn:Ct m s=(Ex m s).1:=by
    unfold Ct
    rw[show(decide (m.Claim<0)&&decide ((Ex m s).1.length=0))=false by simpa using hb,Ak0]
   rw[hn]at key
   exact key
 ·rw[AlK (by have:=A0 hge;omega)]at hr
  subst hr
  exact⟨trivial,VV.le_refl _⟩
theorem UK {l:List Mv}(hw:Ay m)(hl:l.length<=1048576):Ai Tryz.prog 9 [] [.agg (Ag m),BU true l] [] (.tup [CE true (QX m l).1,Aa (QX m l).2.1,Aa (QX m l).2.2]):=by
 unfold QX
 cases h:Dq m with
 | true=>exact AgS hw h hl
 | false=>exact AiY hw h
end
def RS (word:ByteArray)(l:List Int):ByteArray:=l.foldl (fun w n=>w++(spB++Fi n)) word
def nlB : ByteArray:=⟨#[10]⟩
theorem Ahd : RS Qi Ep++nlB=exB:=by
 simp only[RS,Ep,List.foldl]
 rw[show Fi 1=mk [49] from My 0 (by decide),show Fi 0=mk [48] from My 1 (by decide),show Fi 9=mk [57] from My 4 (by decide),show Fi 12=mk [49,50] from My 5 (by decide)]
 kernel_rfl
theorem Acw {word:ByteArray}{l:List Int}(h:∀ n∈l,I64 n)(hl:l.length<=100)(hw:word.size<=100):Ai Tryz.prog 32 [] [AD word,Ad false l] [] (AD (RS word l++nlB)):=by
 generalize hr:RS word l++nlB=r
 refine Ah Al Am Tryz.func32 (by kernel_rfl) rfl (Aa0 r word l) ?_
 refine Bh (c:=fc Dn KM Tryz.f32 [] (AD r)) (rel:=[1,0,1,0]) Al Am (fun g st=>∃ (k:Nat) (w:ByteArray),k<=l.length/\g=l.length - k/\w.size<=100+k*22/\RS w (l.drop k)++nlB=r/\st=SN w l k) (by kernel_rfl) (by kernel_rfl) ⟨_,Up.of ⟨0,word,Alc _,rfl,by omega,hr,rfl⟩⟩ ?_
 clear hr
 rintro g st ⟨k,w,hk,rfl,hs,hr,rfl⟩
 refine Alu (WS r w l k _) ⟨fun hlt=>?_,fun hge=>?_⟩
 ·have hlt':k<l.length:=by have:=AV hlt;omega
  have hto:(k:Int).toNat=k:=by omega
  have hdr:l.drop k=l.getD k 0::l.drop (k+1):=by rw[Al5 hlt'];simp[List.getD,hlt']
  have hi:=h _ (Av (d:=0) hlt')
  rw[hdr]at hr
  rw[hto]
  generalize l.getD k 0=n at hi hr ⊢
  have hz:=Abn hi
  have h1:spB.size=1:=rfl
  refine⟨⟨by omega,by omega⟩,Fi n,AcB hi,?_,?_,l.length - (k+1),by omega,Up.of ⟨k+1,w++(spB++Fi n),by omega,rfl,?_,hr,by rw[An (by omega)]<;>rfl⟩⟩
  ·show((spB.size+_:Nat):Int)<=_;omega
  ·show((w.size+(spB++_).size:Nat):Int)<=_;rw[Amk];omega
  ·rw[Amk,Amk];omega
 ·rw[AlK (by have:=A0 hge;omega)]at hr
  refine⟨?_,trivial,Ama (by rw[← hr]<;>rfl)⟩
  show((w.size+nlB.size:Nat):Int)<=_
  have:nlB.size=1:=rfl
  omega
theorem U1 : ∀ n∈Ep,I64 n:=by unfold I64;decide
def Ji : Fd:=⟨0,0,0,0,[],0,0,0⟩
def Nk : Fd:=⟨1,0,0,0,[],-1,9,12⟩
def Ajj : List VV:=[Aa 1,Aa 0,Aa 0,Aa 0,.nl,Aa (-1),Aa 9,Aa 12]
theorem ZK : VV.le (.agg Ajj) (.agg (Co Nk)):=Aml ⟨VV.le_refl _,VV.le_refl _,VV.le_refl _,VV.le_refl _,AlR,VV.le_refl _,VV.le_refl _,VV.le_refl _,trivial⟩
theorem Acx : VV.le (.agg Ahi) (.agg (Co Ji)):=Aml ⟨VV.le_refl _,VV.le_refl _,VV.le_refl _,VV.le_refl _,AlR,VV.le_refl _,VV.le_refl _,VV.le_refl _,trivial⟩
theorem Aji {p:Int}:VV.le (.tup [.agg Ahi,Aa 43,Aa p]) (.tup [.agg (Co Ji),Aa 43,Aa p]):=Amx ⟨Acx,VV.le_refl _,VV.le_refl _,trivial⟩
theorem Acf : Ai Tryz.prog 35 [] [AD exL,AD Qi,Aa 6] [] (.tup [Ad true Ep,Ac true]):=by
 have hsp:=Xc (s:=exL) (by decide)
 rw[Ad7]at hsp
 refine Ah Al Am Tryz.func35 (by kernel_rfl) rfl (AaZ Ep true exL Qi 6) ⟨Mm,hsp,by decide,fun h=>Bool.noConfusion (show true=false from h.symm.trans (by kernel_rfl)),fun _=>⟨by decide,?_⟩⟩
 refine AA.own 0 9 1 (AM []) rfl ?_
 refine AA.le (l':=[(9,.ow 0 0 0),(29,Nl Mm.tail),(30,Aa 6),(31,Aa 0)]) (hs':=[.arr true 0 0 1 (AM [])]) ⟨⟨rfl,VV.le_refl _⟩,⟨rfl,AmE (.inl rfl) fun i _=>AQ ?_⟩,⟨rfl,VV.le_refl _⟩,⟨rfl,VV.le_refl _⟩,trivial⟩ (Ik _) ?_
 ·show[AD (Mm.getD (1+i) default)]=_
  rw[Nat.add_comm]<;>rfl
 change AA _ _ (SL (Ep.take 0) Mm.tail ((0:Nat):Int))
 refine AK Al Am 6 (fun k=>SL (Ep.take k) Mm.tail k) (fun _=>True) (by kernel_rfl) (by kernel_rfl) trivial ?_
 intro k hk _ J next
 have hlk:(Ep.take k).length=k:=by rw[Amf];exact Nat.min_eq_left hk
 refine Alu (WR Ep true (Ep.take k) Mm.tail k J) ⟨fun hlt=>?_,fun hge=>?_⟩
 ·have hlt':k<6:=Int.ofNat_lt.1 (AV hlt)
  have hto:(k:Int).toNat=k:=by omega
  have hp:=AeY k hlt'
  have hi:=My k hlt'
  have hb:(Mm.getD (k+1) default).size<=10:=by
   match k,hlt' with
   | 0,_ | 1,_ | 2,_ | 3,_ | 4,_ | 5,_=>decide
  have hm:=U1 _ (Av (d:=0) (show k<Ep.length from hlt'))
  have htk:Ep.take (k+1)=Ep.take k++[Ep.getD k 0]:=GK (d:=(0:Int)) hlt'
  rw[hto,show Mm.tail.getD k default=Mm.getD (k+1) default from rfl]
  generalize Mm.getD (k+1) default=t at hp hi hb ⊢
  generalize Ep.getD k 0=n at hp hi hm htk
  refine⟨⟨by omega,by show(k:Int)<6;omega⟩,(n,false),XI (by omega) hp,Fi n,fun _=>Vo hm,fun hy=>?_,fun _=>⟨by omega,next _ hlt' trivial ?_⟩⟩
  ·rw[hi]at hy;simp at hy
  ·rw[An (by omega)]
   unfold SL
   rw[htk,Alh]
   refine Up.mk (hs':=[.arr true 0 ((Ep.take k).length+1) 1 (AM (Ep.take k++[n]))]) (AO _) ⟨AlM fun i hi=>OC (f:=fun n=>[Aa n]) (d:=0) (x:=n) (G:=fun i=>List.take 1 (List.drop (i*1) [Aa n])) (JG _) hi,trivial⟩ rfl
 ·obtain rfl:k=6:=Nat.le_antisymm hk (Int.ofNat_le.1 (A0 hge))
  exact⟨trivial,VV.le_refl _⟩
theorem UV {s:ByteArray}(h:(Lib.indexByte s.data.toList 10:Int)<0)(hs:s.extract 0 s.size=s):Ai Tryz.prog 16 [] [AD s] [] (.tup [.agg (Co Ji),Aa 43,Aa 0]):=by
 have hix:=NY s 10
 refine Ah Al Am Tryz.func16 (by kernel_rfl) rfl (AeZ Ji 43 0 s) ?_
 refine M0 (c:=fc Dn NB Tryz.f16 [] (.tup [.agg (Co Ji),Aa 43,Aa 0])) (rel:=[1]) Al Am 0 (fun _ _=>False) (by kernel_rfl) (by kernel_rfl) (by kernel_rfl) (by kernel_rfl) (Alu (Zt Ji 43 0 s _) ⟨fun hb=>?_,fun _=>⟨⟨by omega,by omega,by omega⟩,Lib.indexByte s.data.toList 10,?_,fun _=>⟨trivial,Aji⟩,fun hb=>?_⟩⟩) fun _ _ h=>h.elim
 ·cases h0:((0:Int)==(s.size:Int))<;>rw[h0]at hb<;>cases hb
 ·rw[show s.extract (Int.toNat 0) (s.size:Int).toNat=s from hs];exact hix
 ·rw[AlO h]at hb;cases hb
theorem Ab6 : Ai Tryz.prog 16 [] [AD exB] [] (.tup [.agg (Co Nk),Aa 0,Aa 0]):=by
 refine Ah Al Am Tryz.func16 (by kernel_rfl) rfl (AeZ Nk 0 0 exB) ?_
 refine M0 (c:=fc Dn NB Tryz.f16 [] (.tup [.agg (Co Nk),Aa 0,Aa 0])) (rel:=[1]) Al Am 0 (fun _ st=>st=AjQ exB Nk 19 false false) (by kernel_rfl) (by kernel_rfl) (by kernel_rfl) (by kernel_rfl) (Alu (Zt Nk 0 0 exB _) ⟨fun hb=>?_,fun _=>⟨by decide,18,?_,fun hb=>?_,fun _=>⟨by decide,fun _=>⟨(Ep,true),Acf,fun _=>by decide,fun _=>by decide,fun hb=>?_,fun _=>⟨by decide,by decide,by decide,by decide,by decide,by decide,0,Up.of rfl⟩⟩,fun hb=>?_⟩⟩⟩) ?_
 ·exact Bool.noConfusion (show true=false from hb.symm.trans (by kernel_rfl))
 ·exact NY exB 10
 ·exact Bool.noConfusion (show true=false from hb.symm.trans (by kernel_rfl))
 ·exact Bool.noConfusion (show true=false from hb.symm.trans (by kernel_rfl))
 ·cases hb
 ·rintro g st rfl
  refine Alu (Ag2 Nk 0 0 exB Nk 19 false false _) ⟨fun _=>⟨trivial,Amx ⟨ZK,VV.le_refl _,VV.le_refl _,trivial⟩⟩,fun hb=>?_⟩
  exact Bool.noConfusion (show true=false from(show true=_ by kernel_rfl).trans hb)
theorem Ajr {w:World}{E:AF}{m:Option Phi}{v:Value}(h:V w E m (.agg Ajj) v):v=.agg #[.int .i64 1,.int .i64 0,.int .i64 0,.int .i64 0,.slice none 0 0,.int .i64 (-1),.int .i64 9,.int .i64 12]:=by
 obtain⟨vs,rfl,h1,h2⟩:=h.agg_inv
 obtain⟨l⟩:=vs
 match l,h1,h2 with
 | [a,b,c,d,e,f,g,i],_,h2 =>
  have e0:a=_:=(h2 0 _ rfl).sc_inv
  have e1:b=_:=(h2 1 _ rfl).sc_inv
  have e2:c=_:=(h2 2 _ rfl).sc_inv
  have e3:d=_:=(h2 3 _ rfl).sc_inv
  have e4:e=_:=(h2 4 _ rfl).nl_inv
  have e5:f=_:=(h2 5 _ rfl).sc_inv
  have e6:g=_:=(h2 6 _ rfl).sc_inv
  have e7:i=_:=(h2 7 _ rfl).sc_inv
  rw[e0,e1,e2,e3,e4,e5,e6,e7]
theorem XZ {w:World}{word:ByteArray}{l:List Int}(hL:Cb w)(hB:∀ k,k∈DX->k<w.heap.size)(h:∀ n∈l,I64 n)(hl:l.length<=100)(hw:word.size<=100){b n:Nat}(hb:w.heap[b]?=some (.cells (l.map (Value.int .i64)).toArray 3 (0,0)))(hn:n=l.length) :
  Calls Tryz.prog 32 #[.string word,.slice (some ⟨b,0,none⟩) n n] w fun e w'=>e=.returned (.string (RS word l++nlB))/\Below w.heap.size w w':=by
 subst hn
 have hlt:=(Ak8.1 hb).1
 refine((Acw h hl hw).start hL hB ⟨rfl,fun j x hx=>?_⟩).mono ?_
 ·match j,hx with
  | 0,hx=>obtain rfl:=Ali hx;exact .sc
  | 1,hx =>
   obtain rfl:=Ali hx
   refine AmK (Ak6 _) (by unfold maxLen;omega) fun hp=>⟨b,0,rfl,hlt,fun hk=>hk,fun i _=>rfl,fun i _=>.int .i64 (l.getD i 0),fun i j x hi hx=>?_,fun i j x hi hx=>?_⟩
   ·match j,hx with
    | 0,hx =>
     simp only[World.cell?,hb]
     simp[Ald hi,List.getD]
    | j+1,hx=>simp at hx
   ·match j,hx with
    | 0,hx=>obtain rfl:=Ali hx;exact .sc
    | j+1,hx=>simp at hx
  | j+2,hx=>simp at hx
 ·rintro e w' ⟨v,rfl,h1,h2⟩
  exact⟨by rw[h2.sc_inv],h1⟩
theorem AfY (w:World)(o:Obj):Below w.heap.size w (w.alloc o):=(Below.refl _ _).alloc (Ak6 _) _
def fdO : Obj:=.cells #[.int .i64 1,.int .i64 0,.int .i64 0,.int .i64 0,.slice none 0 0,.int .i64 (-1),.int .i64 9,.int .i64 12] 75
theorem AdZ (w:World):∃ W,W=(w.alloc fdO).alloc (.cells #[.pointer none,.slice none 0 0] Q3)/\W.heap[w.heap.size]?=some fdO/\I5 (w.heap.size+1) (w.heap.size+1) ⟨#[]⟩ W/\Below w.heap.size w W/\W.heap.size=w.heap.size+2:=by
 refine⟨_,rfl,?_,?_,?_,by simp⟩
 ·rw[Below.heap_alloc _ _ _ (by simp)];exact heap_alloc_new _ _
 ·have:=I5.start (w.alloc fdO)
  simpa using this
 ·exact((Below.refl _ w).alloc (Ak6 _) _).alloc (by simp) _
set_option maxRecDepth 100000 in
theorem S6 {w:World}(hL:Cb w)(hB:∀ k,k∈DX->k<w.heap.size) :
  Calls Tryz.prog 15 #[.agg #[.int .i64 1,.int .i64 0,.int .i64 0,.int .i64 0,.slice none 0 0,.int .i64 (-1),.int .i64 9,.int .i64 12]] w fun e w'=>e=.returned (.tuple #[.string exB,.int .i64 0])/\Below w.heap.size w w':=by
 obtain⟨W,hW,i1,i2,i3,i4⟩:=AdZ w
 go_enter Tryz.func15,Tryz.ntmps15
 go_wp2_with fail
 show Calls _ _ _ (((w.alloc fdO).alloc _).alloc _) _
 rw[← hW]
 have a1:=AfY W (.cells #[.int .i64 1,.int .i64 0,.int .i64 0,.int .i64 0,.int .i64 9,.int .i64 12] 3)
 refine(XZ (l:=Ep) (word:=Qi) (hL.below hB (i3.trans (a1.mono i3.size))) (fun k hk=>Alr (hB k hk) (Als i3.size a1.size)) U1 (by decide) (by decide) (b:=w.heap.size+1+1) (by rw[show w.heap.size+1+1=W.heap.size from i4.symm];exact heap_alloc_new _ _) rfl).mono ?_
 rintro e w1 ⟨rfl,hb1⟩
 have j1:=(hb1.block _ (by simp;omega)).trans ((a1.block _ (by omega)).trans i1)
 have j2:=(i2.below a1).below hb1
 have j3:=i3.trans ((a1.trans (hb1.mono a1.size)).mono i3.size)
 have j4:w.heap.size+2<=w1.heap.size:=by have:=hb1.size;simp at this;omega
 clear hW i1 i2 i3 a1 hb1 i4 W
 rw[Ahd]
 go_wp2_with fail
 refine(EG j2 (by decide) (by omega)).mono ?_
 rintro e w2 ⟨rfl,l1,l2,l3⟩
 have k1:=(l2.block _ (by omega)).trans j1
 have c4:w2.cell? ⟨w.heap.size,4,none⟩=some (.slice none 0 0):=by simp[World.cell?,k1,fdO]
 have j5:=j3.trans (l2.mono (Amz _))
 have j6:=Als j4 l2.size
 clear j1 j2 j3 j4 l2 l3 w1 k1
 go_wp2_with fail
 refine wp_loop_rounds 1 ?_
 rw[rounds_succ]
 go_wp2_with fail
 refine(LU l1 (by omega)).mono ?_
 rintro e w3 ⟨rfl,l2⟩
 go_wp2
 go_ret2
 exact⟨rfl,j5.trans (l2.mono (Amz _))⟩
theorem XG : Ai Tryz.prog 15 [] [.agg Ajj] [] (.tup [AD exB,Aa 0]):=by
 refine Ai.hand ⟨_,Tryz.func15,rfl,by kernel_rfl⟩ fun w E vs hA hL hB hbr hs=>?_
 obtain⟨u1,us1,rfl,v1,hs⟩:=hs.cons_inv
 obtain rfl:=hs.nil_inv
 rw[Ajr v1]
 refine(S6 hL hB).mono ?_
 rintro e w' ⟨rfl,hb⟩
 exact⟨_,rfl,MS .sc .sc,hb⟩
theorem Acl : Ai Tryz.prog 7 [] [BU true [],BU true []] [] (Ac true):=by
 refine Ah Al Am Tryz.func7 (by kernel_rfl) rfl (AbE true [] []) ⟨fun h=>by simp at h,fun _=>?_⟩
 refine AK Al Am 0 (fun k=>Agt [] [] k) (fun _=>True) (by kernel_rfl) (by kernel_rfl) trivial ?_
 intro k hk _ J next
 obtain rfl:k=0:=by omega
 exact Alu (Xl true [] [] ((0:Nat):Int) J) ⟨fun hlt=>absurd hlt (by decide),fun _=>⟨trivial,VV.le_refl _⟩⟩
theorem Yj : Ai Tryz.prog 17 [] [.agg (Co Nk),.agg (Co Nk)] [] (Ac true) :=
 Ah Al Am Tryz.func17 (by kernel_rfl) rfl (AbF true Nk Nk) ⟨true,Acl,trivial,VV.le_refl _⟩
theorem AgF : Ai Tryz.prog 8 [] [] [] (Ac true):=by
 refine Ah Al Am Tryz.func8 (by kernel_rfl) rfl (Acr true)
  ⟨(exB,0),XG,(Nk,0,0),Ab6,(Ji,43,0),UV (by decide) (by decide),(Ji,43,0),UV (by decide) (by decide),true,Yj.le trivial ⟨VV.le_refl _,ZK,trivial⟩ trivial (VV.le_refl _),trivial,Ama (by kernel_rfl)⟩
theorem VY {m:D.Model}{l:List Mv}{n:Int}(hw:Ay m)(hl:l.length<=1048576):Ai Tryz.prog 4 [] [.agg (Ag m),BU true l,Aa n] [] (Ac true):=by
 refine Ah Al Am Tryz.func4 (by kernel_rfl) rfl (Acz true m l n) ⟨true,AgF,QX m l,UK hw hl,fun _=>⟨trivial,VV.le_refl _⟩,fun hb=>?_⟩
 have hb3:(QX m l).2.1=0/\0<=n/\n<=l.length:=by
  rw[A3,A3,Aln,Aln]at hb
  have h1:(QX m l).2.1=0:=by simpa using hb.1.1
  have h2:=Alk hb.1.2
  have h3:=Alk hb.2
  omega
 obtain⟨h0,hn0,hn1⟩:=hb3
 clear hb
 have hmay:Dq m=true:=by
  cases hm:Dq m with
  | true=>rfl
  | false=>unfold QX at h0;rw[hm]at h0;exact absurd (show(40:Int)=0 from h0) (by decide)
 have hrp:∀ l,QX m l=He m l (AP m) [AP m] 0:=fun l=>by unfold QX;rw[hmay]<;>rfl
 have hg:=Vt hw hmay
 have hok:=Zn (l:=l) (i:=0) (out:=[AP m]) hg fun x hx=>by rw[Aly.1 hx];exact hg
 rw[hrp]at h0
 obtain⟨b,k1,k2,k3⟩:=Rz l _ _ _ h0
 have k4:=k3 n.toNat (by omega)
 have hr1:=hrp l
 have hr2:=hrp (l.take n.toNat)
 rw[k2]at hok hr1
 rw[k4]at hr2
 have hsp:=UK hw (l:=l.take n.toNat) (by rw[Amf];omega)
 rw[hr2]at hsp
 rw[hr1]
 generalize AP m=s0 at *
 refine⟨⟨AmF _,hn0,hn1⟩,([s0]++b.take n.toNat,0,0),hsp.le trivial ⟨VV.le_refl _,?_,trivial⟩ trivial (VV.le_refl _),fun hb=>?_,fun _=>?_⟩
 ·unfold BU
  rw[Amf,show(n - 0).toNat=min n.toNat l.length by omega]
  refine AmE (.inl rfl) fun i hi=>AQ ?_
  show CJ (l.getD (0+i) default)=CJ ((l.take n.toNat).getD i default)
  rw[AlC]
  congr 1
  simp[show i<n.toNat by omega]
 ·rw[show((([s0]++b,(0:Int),(0:Int)):List D.State × Int × Int).1.length:Int)=l.length+1 by simp;omega,show((([s0]++b.take n.toNat,(0:Int),(0:Int)):List D.State × Int × Int).1.length:Int)=n+1 by simp;omega,Bt (by omega) (by omega),Bt (by omega) (by omega)]at hb
  simp at hb
 ·show AA _ _ (Ad2 true ([s0]++b) ([s0]++b.take n.toNat) 0)
  have hlen:([s0]++b.take n.toNat).length=n.toNat+1:=by simp;omega
  have hlen2:([s0]++b).length=l.length+1:=by simp[k1]
  have hat:∀ k,k<n.toNat+1->([s0]++b.take n.toNat).getD k BO=([s0]++b).getD k BO:=fun k hk=>by
   cases k with
   | zero=>rfl
   | succ k=>simp[show k<n.toNat by omega]
  generalize [s0]++b.take n.toNat=q at hlen hat
  replace hok:∀ x∈[s0]++b,Gs m x:=hok
  generalize [s0]++b=p at hok hlen2 hat
  refine AK Al Am q.length (fun k=>Ad2 true p q k) (fun _=>True) (by kernel_rfl) (by kernel_rfl) trivial ?_
  intro k hk _ J next
  refine Alu (X3 true true p q k J) ⟨fun hlt=>?_,fun _=>⟨trivial,VV.le_refl _⟩⟩
  have hlt':k<q.length:=by have:=AV hlt;omega
  have hto:(k:Int).toNat=k:=by omega
  rw[hto,hat k (by omega)]
  have hs:=(hok _ (Av (d:=BO) (show k<p.length by omega))).small
  exact⟨⟨by omega,by omega⟩,⟨by omega,by omega⟩,true,Xn hs,fun h=>by simp at h,fun _=>next _ hlt' trivial (Up.of (by rw[An (by omega)]))⟩
end Go.Proofs.YtmdcknlpalfhhaaGreatDoor
namespace Go.Proofs.YtmdcknlpalfhhaaGreatDoor
open Go.ChangeShapes Go.WideShapes Go.ChangeAt Go.RowKit
theorem own : ownKnob Tryz.prog.godebug=none:=by kernel_rfl
theorem Ahh : laidOutB Tryz.prog=true:=by kernel_rfl
theorem QT {H:Type}{enc:TypeId × Value->H}{P:Program}(hl:laidOutB P=true){W W':World}(hb:Below W.heap.size W W') :
  ∀ (ts:List TypeId) (vs:List Value) (ds:List (DataW H)) (ps:List MemPlace),ts.all (fun t=>P.readableRec t&&decide (t<P.types.size))=true ->
   DataW.TrodAll enc P W 0 (fun _=>true) true ts vs ds ps->DataW.TrodAll enc P W' 0 (fun b=>decide (b<W.heap.size)) true ts vs ds ps:=by
 intro ts
 induction ts with
 | nil =>
  intro vs ds ps _ h
  obtain⟨rfl,rfl,rfl⟩:=trodAll_nil h
  exact trodAll_mk0
 | cons t ts ih =>
  intro vs ds ps ht h
  rw[AmV,Ak2,Ak2]at ht
  obtain⟨v,vs',d,ds',p,q,rfl,rfl,rfl,h1,h2⟩:=trodAll_cons h
  have lt1:∀ x∈p,x.block<W.heap.size:=by obtain⟨m,hm⟩:=h1;exact DataW.trod_lt m _ _ _ hm
  exact trodAll_cons_mk (Below.trod hl ht.1.1 (Ak9 ht.1.2) h1 hb lt1) (ih vs' ds' q ht.2 h2)
theorem Afh {H:Type}{enc:TypeId × Value->H}{P:Program}{f:Func}{s:ChangeSpec}{tb:TypeId}(hl:laidOutB P=true)
  (hp:f.params.toList.all (fun t=>P.readableRec t&&decide (t<P.types.size))=true) (hr:f.resultTypes=#[tb]) (htb:P.underlying tb=some .bool) (hvars:s.vars=[])
  {W W':World} {args:Array Value} {ds gs:List (DataW H)} {before:List MemPlace}
  (hW:DataW.Whole enc P f.params.toList s.vars false W args.toList ds gs before)
  (hfn:∀ ds,ds.length=f.params.toList.length->s.fn H ds={ results:=[.lit (.bool true)],args:=ds }) (hb:Below W.heap.size W W') :
  s.post enc P f false true false false W args (.bool true) W':=by
 have hW':=hW
 obtain⟨p,q,hA,hV,rfl,hfz,hnd⟩:=hW
 rw[hvars]at hV
 obtain⟨rfl,rfl⟩:=trodVars_none hV
 have hlen:∀ (ts:List TypeId) (vs:List Value) (ds:List (DataW H)) (ps:List MemPlace),DataW.TrodAll enc P W 0 (fun _=>true) true ts vs ds ps->ds.length=ts.length:=by
  intro ts
  induction ts with
  | nil=>intro vs ds ps h;obtain⟨_,rfl,_⟩:=trodAll_nil h;rfl
  | cons t ts ih=>intro vs ds ps h;obtain⟨v,vs',d,ds',p,q,rfl,rfl,rfl,_,h2⟩:=trodAll_cons h;simp[ih _ _ _ h2]
 have hf:=hfn (ds++[]) (by simpa using hlen _ _ _ _ hA)
 refine⟨ds,[],_,[],p,[],hW',?_,?_,?_,hb.frame _,fun h=>by cases h⟩
 ·rw[hf,hr];exact trodAll_mk1 (shut_bool htb _)
 ·rw[hf,Al4];exact QT hl hb _ _ _ _ hp hA
 ·rw[hf,hvars];rfl
theorem Akz : (Tryz.prog.globals[3]?).map (·.type)=some 256:=by kernel_rfl
theorem AfO : Tryz.prog.cellsOf 256=20:=by kernel_rfl
theorem AfN : Tryz.prog.cellsOf 207=1:=by kernel_rfl
theorem AkU : (Tryz.prog.globals[7]?).map (·.type)=some 310:=by kernel_rfl
theorem AhM : Tryz.prog.cellsOf 310=64:=by kernel_rfl
theorem AhL : Tryz.prog.cellsOf 5=1:=by kernel_rfl
theorem Ach : Rows.trailBeginsRow.laid.filter (fun x=>x.2.handleName?.isSome)=[]:=by kernel_rfl
theorem Afe {W:World}(h:laidMetH Tryz.prog Rows.trailBeginsRow.laid W)(hS:W.ShapedOpen Tryz.prog):Cb W/\∀ k,k∈DX->k<W.heap.size:=by
 unfold laidMetH at h
 rw[Ach]at h
 have h:laidMet Tryz.prog Rows.trailBeginsRow.laid W:=h
 have h1:=h.tail
 have h2:=h1.tail
 have hL:Cb W:=⟨Go.Proofs.cell_of_shapedOpen_int (zero:=#[.int .i64 0]) (t:=3) hS (Ak9 (by kernel_rfl)) (by kernel_rfl) rfl (by kernel_rfl) (by kernel_rfl) Tryz.underlying3,Lib.tabIs_of_head X0 Akz Tryz.underlying256 Tryz.underlying207 AfN AfO h2,
  Lib.tabIs_of_head Va AkU Tryz.underlying310 Tryz.underlying5 AhL AhM h1⟩
 exact⟨hL,hL.lt⟩
abbrev AiZ : ByteArray:=⟨#[118,97,108,117,101,32,111,117,116,32,111,102,32,114,97,110,103,101]⟩
abbrev Agq : ByteArray:=⟨#[105,110,118,97,108,105,100,32,115,121,110,116,97,120]⟩
noncomputable def low:Nat:=(World.holding Tryz.prog default ⟨#[],#[],[]⟩).heap.size
def Ah8 : DataW Unit->Value
 | .lit (.int k n)=>.int k n
 | _=>undef
def Vp : DataW Unit->Array Value
 | .agg l=>(l.flatMap fun x=>match x with
  | .agg m=>m.map Ah8
  | y=>[Ah8 y]).toArray
 | _=>#[]
def Xz (c:Array Value):Obj->Obj
 | .cells _ t frozen=>.cells c t frozen
 | o=>o
noncomputable def Nf (os:Os):World :=
 let w0:=World.holding Tryz.prog os ⟨#[.cells #[.string AiZ] 288,.cells #[.string Agq] 288],#[],[]⟩
 { w0 with heap:=((((((w0.heap.modify 6 (Xz (Vp Rows.laid_math_bits_deBruijn32tab))).modify 7 (Xz (Vp Rows.laid_math_bits_deBruijn64tab))).modify 3 (Xz (Vp Rows.laid_internal_strconv_uint64pow10))).modify 5 (Xz (Vp Rows.laid_unicode_utf8_acceptRanges))).modify 2 (Xz #[.iface 286 (.pointer (some ⟨low,0,none⟩))])).modify 1 (Xz #[.iface 286 (.pointer (some ⟨low+1,0,none⟩))])).modify 4 (Xz (Vp Rows.laid_unicode_utf8_first)) }
def XR : Value:=.slice none 0 0
def zI : Value:=.int .i64 0
def YS : Array Value:=#[.agg #[XR,XR,XR,XR,XR,zI,XR],XR,zI]
set_option maxRecDepth 100000 in
theorem Afi (os:Os):laidMet Tryz.prog Rows.trailBeginsRow.laid ((Nf os).forCall (fun _ _=>0) ⟨#[],YS,[]⟩).memory :=
 laidMet_of_run' 8 (by kernel_rfl) (by kernel_rfl)
def Ab7 : Pkg Mv:=Pkg.via (fun x:Mv=>(x.Pid,x.Esc,x.Way,x.With,x.WithEsc,x.WithWay,x.Claim,())) (Pkg.cons 1 (Pkg.int .i64) (Pkg.cons 1 (Pkg.int .i64) (Pkg.cons 1 (Pkg.int .i64) (Pkg.cons 1 (Pkg.int .i64) (Pkg.cons 1 (Pkg.int .i64) (Pkg.cons 1 (Pkg.int .i64) (Pkg.cons 1 (Pkg.int .i64) Pkg.unit)))))))
set_option maxRecDepth 100000 in
theorem Ae3 {H:Type}{enc:TypeId × Value->H}{w:World}:Pkg.Opens enc Tryz.prog w 65 Ab7:=by
 refine Pkg.opens_struct (N:=7) (g:=fun(y:Int × Int × Int × Int × Int × Int × Int × Unit)=>(⟨y.1,y.2.1,y.2.2.1,y.2.2.2.1,y.2.2.2.2.1,y.2.2.2.2.2.1,y.2.2.2.2.2.2.1⟩:Mv)) Tryz.underlying65 rfl (by kernel_rfl) (fun _=>rfl) ?_
 iterate 7 refine Pkg.opensF_cons rfl (by kernel_rfl) (by decide) (Pkg.opens_int Tryz.underlying3) ?_
 exact Pkg.opensF_nil
theorem AkH : Ev Ab7 CJ (fun _=>True):=(Ev.via (fun x:Mv=>(x.Pid,x.Esc,x.Way,x.With,x.WithEsc,x.WithWay,x.Claim,())) (Ev.cons (Ev.int .i64) (Ev.cons (Ev.int .i64) (Ev.cons (Ev.int .i64) (Ev.cons (Ev.int .i64) (Ev.cons (Ev.int .i64) (Ev.cons (Ev.int .i64) (Ev.cons (Ev.int .i64) Ev.unit)))))))).imp (fun _=>rfl) fun _ _=>trivial
theorem Ajv : Ev (Pkg.slice 7 56 Ab7) (fun l=>[BU true l]) (fun l=>l.length<=1048576/\∀ y∈l,True):=Ev.slice default AkH (fun _=>rfl) (fun _=>AmC (Alc _))
end Go.Proofs.YtmdcknlpalfhhaaGreatDoor
namespace Go.Proofs.YtmdcknlpalfhhaaGreatDoor.trailBegins
open Go.ChangeShapes Go.WideShapes Go.ChangeAt Go.RowKit
open Go.Proofs.YtmdcknlpalfhhaaGreatDoor
theorem Akd {w:World}{E:AF}{x y z:VV}{u v s:Value}(h1:V w E none x u)(h2:V w E none y v)(h3:V w E none z s):CS w E none [x,y,z] #[u,v,s]:=by
 refine⟨rfl,fun j q hq=>?_⟩
 match j,hq with
 | 0,hq=>obtain rfl:=Ali hq;exact h1
 | 1,hq=>obtain rfl:=Ali hq;exact h2
 | 2,hq=>obtain rfl:=Ali hq;exact h3
 | j+3,hq=>simp at hq
theorem AkM {w:World}{cs:Array Value}{x:D.Model}{v1:Value}{l1:List Mv}{n:Int}(hL:Cb w)(hB:∀ k,k∈DX->k<w.heap.size)(hx:Is OL w cs.toList x)(hmu:OL.mu x<=1048576)
  (hv1:Is (Pkg.slice 7 56 Ab7) w [v1] l1) (hm1:(Pkg.slice 7 56 Ab7).mu l1<=1048576) :
  Calls Tryz.prog 4 #[.agg cs,v1,.int .i64 n] w fun e w'=>e=.returned (.bool true)/\Below w.heap.size w w':=by
 obtain⟨h1,h2,h3⟩:=AfF.ok (E:=⟨fun _=>False,fun _=>False,0,[]⟩) (m:=none) (fun _ h=>h) hmu hx
 obtain⟨_,a2,a3⟩:=Ajv.ok (E:=⟨fun _=>False,fun _=>False,0,[]⟩) (m:=none) (fun _ h=>h) hm1 hv1
 refine((VY (n:=n) h3 a3.1).start hL hB (Akd (.agg h1 fun j y hy=>?_) (a2 0 _ rfl) .sc)).mono ?_
 ·have:=h2 j y hy
  rwa [show cs.toList.getD j undef=cs.getD j undef by simp[List.getD]]at this
 rintro e w' ⟨u,rfl,hbel,hu⟩
 exact⟨by rw[hu.sc_inv],hbel⟩
theorem reads (os:Os){H:Type}(enc:TypeId × Value->H):∃ places,DataW.whole enc Tryz.prog ((Nf os).forCall (fun _ _=>0) ⟨#[],YS,[]⟩).memory Tryz.f4.params.toList Rows.trailBeginsSpec.vars false YS.toList 8 =
  some ([.agg [.nil,.nil,.nil,.nil,.nil,.lit (.int .i64 0),.nil],.nil,.lit (.int .i64 0)],[],places):=⟨[],by kernel_rfl⟩
end Go.Proofs.YtmdcknlpalfhhaaGreatDoor.trailBegins
namespace Go.Proofs.YtmdcknlpalfhhaaGreatDoor.trailBegins
open Go.ChangeShapes Go.WideShapes Go.ChangeAt Go.RowKit
open Go.Proofs.YtmdcknlpalfhhaaGreatDoor
set_option maxRecDepth 100000 in
theorem Ajf (os:Os)(started:os.Started)(H:Type)(enc:TypeId × Value->H)(F:Stop.Interp) :
  ReturnsInHanded {} Tryz.checked os 4 .any ((Rows.OpenSpec.upto Rows.trailBeginsSpec).preRow enc Tryz.prog Tryz.f4 Rows.trailBeginsUptoRow.domain false Rows.trailBeginsUptoRow.laid) (((Rows.OpenSpec.upto Rows.trailBeginsSpec).at F).post enc Tryz.prog Tryz.f4 false true false false):=by
 obtain⟨places,hx⟩:=reads os enc
 refine returnsInHanded_of_row (C:=Tryz.checked) (s:=Rows.OpenSpec.upto Rows.trailBeginsSpec) own started (by kernel_rfl) Tryz.func4
  (witness_row_at (enc:=enc) (C:=Tryz.checked) false (Nf os) YS rfl (by kernel_rfl) (by kernel_rfl) (by kernel_rfl)
   (OpenSpec.preRow_of_cond 8 hx (by kernel_rfl) (fun k hk=>by cases hk;kernel_rfl) (by kernel_rfl) (Afi os))) ?_
 intro W base args ds gs before hval0 hW _ hcond _ hlaid hS _
 have hcond:Rows.uptoSmall H (ds++gs)=true:=hcond _ rfl
 have hlaid:laidMetH Tryz.prog Rows.trailBeginsRow.laid W:=hlaid
 have hval:∀ (j:Nat) t v,Tryz.f4.params[j]?=some t->args[j]?=some v->Value.okWide Tryz.prog W .any base t v:=hval0
 have hW':=hW
 obtain⟨p,q,hA0,hV,rfl,hfz,hnd⟩:=hW
 have hA:DataW.TrodAll enc Tryz.prog W 0 (fun _=>true) true Tryz.f4.params.toList args.toList ds p:=hA0
 rw[Tryz.params4]at hA hval
 obtain⟨v0,v1,v2,d0,d1,d2,p0,p1,p2,rfl,rfl,rfl,h0,h1,h2⟩:=trodAll_three hA
 obtain⟨x,hx,hmu,_⟩:=Pkg.open_one U0 h0
 obtain⟨cs,rfl,hcs⟩:=okWide_struct Tryz.underlying29 (hval 0 29 v0 rfl rfl)
 obtain⟨l1,hl1,hm1,_⟩:=Pkg.open_one (Pkg.opens_slice (size:=7) (bytes:=56) Tryz.underlying31 (by kernel_rfl) (by kernel_rfl) (by decide) Ae3) h1
 have hv1:=okWide_slice Tryz.underlying31 (hval 1 31 v1 rfl rfl)
 obtain⟨n,rfl⟩:=okWide_int Tryz.underlying3 (hval 2 3 v2 rfl rfl)
 have hbulk:Rows.uptoBulk d0+Rows.uptoBulk d1<=1048576:=by
  have h:=Ak9 hcond
  have e:Rows.uptoBulkAll ([d0,d1,d2]++gs)=Rows.uptoBulk d0+(Rows.uptoBulk d1+(Rows.uptoBulk d2+Rows.uptoBulkAll gs)):=by
   simp only[Amo,AmA,Rows.uptoBulkAll]
  rw[e]at h
  omega
 obtain⟨hL,hB⟩:=Afe hlaid hS
 have hl1:Is (Pkg.slice 7 56 Ab7) W [v1] l1:=by obtain⟨a0,len,cap,rfl⟩:=hv1;exact hl1
 refine(AkM hL hB hx (by omega) hl1 (by omega)).mono fun e W' ⟨he,hb⟩=>?_
 subst he
 exact⟨_,rfl,Afh Ahh (by kernel_rfl) rfl Tryz.underlying4 rfl hW' (fun ds h=>match ds,h with | [_,_,_],_=>rfl) hb⟩
end Go.Proofs.YtmdcknlpalfhhaaGreatDoor.trailBegins
