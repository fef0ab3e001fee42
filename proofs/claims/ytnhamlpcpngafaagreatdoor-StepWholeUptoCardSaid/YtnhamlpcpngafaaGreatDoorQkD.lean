/-
  Texts, joined: EcH, EcW1, EcW2, EcW3, EcW4, EcW5, EcW6, EcW7, RfS, RfA, RfH, RfW1, RfW2, RfW3, RfW4, RfW5, EgE, EgT, EgU, EgA, EgH, VjPubl, EgW1, EcQ, EgV, EgW3, VjPick, EmA, EmH, EmP, CsPlain, CsMsg, Append, CsMade, CsInsert, CsInsert2.
-/
import Derived.Test.YtnhamlpcpngafaaGreatDoorQkC
import Derived.KernelRfl
import Derived.BigQuiet
import Derived.Deep.QuietTactic
import Derived.Lib.Hide
import Derived.WalkKit
import Derived.BigRegion
import Derived.Deep.RegionLaw
import Derived.Deep.AppendLies
import Derived.Lib.SliceRun
import Derived.Lib.Walk
import Derived.Lib.JoinLaws
import Derived.Lib.AppendZeros
import Derived.Lib.AppendZerosOnto
import Derived.Lib.Overlaps
import Derived.Laws.Externs
import Derived.Laws.IdiomCopy
import Derived.Laws.NewBlocks
namespace Go.Proofs.YtnhamlpcpngafaaGreatDoor
open Go.RowKit
set_option maxRecDepth 100000
theorem Ak2 (r:Int)(e:D.Env):(fc CN AQ Tryz.f46 [] (Aa r)).goal (St.init [] [.agg (Ae e)]) =
  (∃ (y:Int),VC 13 [VV.agg (Af e.M),VV.agg (Ah e.S)] (Aa y)/\BB (y != 0) (LQ (Aa y) (Aa r)) (BB (bif decide (e.Pid<0) then true else decide (e.Pid>=(↑e.S.Procs.length:Int))) (LQ (Aa 42) (Aa r)) (LQ (Aa 0) (Aa r)))):=by kernel_rfl
theorem AhO (l:D.Loc)(e:D.Env){z1}(a:z1=e.S.Procs.getD e.Pid.toNat default):(fc CN AQ Tryz.f51 [] (.agg (A8 l))).goal (St.init [] [.agg (Ae e)]) =
  (inX e.Pid e.S.Procs.length/\inX z1.Type_ e.M.Procs.length/\inX z1.Loc (e.M.Procs.getD z1.Type_.toNat default).Locs.length/\LQ (.agg (A8 ((e.M.Procs.getD z1.Type_.toNat default).Locs.getD z1.Loc.toNat default))) (.agg (A8 l))):=by subst a;kernel_rfl
theorem Ad8 (p:D.Proc)(e:D.Env):(fc CN AQ Tryz.f80 [] (.agg (A4 p))).goal (St.init [] [.agg (Ae e)]) =
  (inX e.Pid e.S.Procs.length/\inX (e.S.Procs.getD e.Pid.toNat default).Type_ e.M.Procs.length/\LQ (VV.agg (A4 (e.M.Procs.getD (e.S.Procs.getD e.Pid.toNat default).Type_.toNat default))) (VV.agg (A4 p))):=by kernel_rfl
theorem Ad3 (b:Bool)(m:D.Model)(x:Int):(fc CN AQ Tryz.f89 [] (Ac b)).goal (St.init [] [.agg (Af m),Aa x]) =
  (((true&&decide (x>=0)==true)=true->inX x m.Exprs.length)/\LQ (Ac (bif decide (x>=0) then(m.Exprs.getD x.toNat default).Op==39 else false)) (Ac b)):=by kernel_rfl
theorem AhQ (hs':List Ob)(r:VV)(e:D.Env)(l:List Int):(B8 Tryz.prog tb CN SB false Tryz.f93 hs' (r)).goal (St.init [] [.agg (BJ e),Ad true l]) =
  (Ax (B8 Tryz.prog tb CN SB false Tryz.f93 hs' r) [1,1,0,1,0] (Ay [(2,VV.bp 0 0),(6,VV.nl),(11,Ad true l),(12,Aa (↑l.length:Int)),(13,Aa 0)] [Ob.box (BJ e)])):=by kernel_rfl
theorem AhN (r:Int × List Int × Int)(e:D.Env)(s:D.Stmt){b}(d:b=[Aa r.fst,Ad true r.snd.fst,Aa r.snd.snd]){c}(f:c=fun(y:Int × Int)=>e.S.Chans.getD (IntKind.i64.wrap (y.fst - (1:Int))).toNat default):(fc CN SA Tryz.f136 [] (.tup [Aa r.1,Ad true r.2.1,Aa r.2.2])).goal (St.init [] [.agg (BJ e),.agg (Au s)]) =
  (∃ (y:Int × Int),VC 170 [.agg (BJ e),Aa s.A] (vII y)/\BB (y.snd != 0) (LQ (.tup [Aa 0,.nl,Aa y.snd]) (.tup b)) (inX (IntKind.i64.wrap (y.fst - (1:Int))) e.S.Chans.length/\inX (c y).Shape e.M.Shapes.length/\BB ((↑(e.M.Shapes.getD (c y).Shape.toNat default).Fields.length:Int) != (↑s.Args.length:Int)) (LQ (.tup [Aa 0,.nl,Aa 49]) (.tup b)) (∃ (a:List Int × Int),Aj Tryz.prog 93 [] [.agg (BJ e),Ad true s.Args] [.arr true 0 a.fst.length 1 (AJ a.fst)] (.tup [.ow 0 0 a.fst.length,Aa a.snd])/\BB (a.snd != 0) (LQ (.tup [Aa 0,.nl,Aa a.snd]) (.tup b)) (Ax (fc CN SA Tryz.f136 [] (.tup b)) [1,1,1,1,1,1,1,0,1,0] (Rf y.fst (e.M.Shapes.getD (c y).Shape.toNat default).Fields a.fst (0:Int)))))):=by subst d f;kernel_rfl
theorem Zh (r:List Int × Int)(e:D.Env)(s:D.Stmt){z1}(a:z1=(↑s.Args.length:Int)){b}(c:b=fc CN JM Tryz.f176 [] (VV.tup [Ad true r.fst,Aa r.snd])):(fc CN JM Tryz.f176 [] (.tup [Ad true r.1,Aa r.2])).goal (St.init [] [.agg (Ae e),.agg (Au s)]) =
  (((0:Int)<=z1/\z1<=z1/\z1*(↑8:Int)<=140737488355328)/\Ax b [1,1,0,1,0] (Ay [(2,.bp 0 0),(3,.bp 1 0),(6,.ow 2 0 z1.toNat),(16,Ad true s.Args),(17,Aa z1),(18,Aa 0)] [.box (Ae e),.box (Au s),.arr true 0 z1.toNat 1 fun(_:Nat)=>(b.T 2).zero])):=by subst a c;kernel_rfl
theorem Zy (r:Int × Int × Int)(e:D.Env)(s:D.Stmt){b}(d:b=fun(y:Int × Int)=>IntKind.i64.wrap (y.fst - (1:Int))):(fc CN AQ Tryz.f139 [] (.tup [Aa r.1,Aa r.2.1,Aa r.2.2])).goal (St.init [] [.agg (Ae e),.agg (Au s)]) =
  (∃ (y:Int × Int),VC 170 [.agg (Ae e),Aa s.A] (vII y)/\BB (y.snd != 0) (LQ (.tup [Aa 0,Aa (-1),Aa y.snd]) (Kd r)) (inX (b y) e.S.Chans.length/\inX (e.S.Chans.getD (b y).toNat default).Shape e.M.Shapes.length/\BB ((↑(e.M.Shapes.getD (e.S.Chans.getD (b y).toNat default).Shape.toNat default).Fields.length:Int) != (↑s.Args.length:Int)) (LQ (.tup [Aa 0,Aa (-1),Aa 49]) (Kd r)) (∃ (a:List Int × Int),VC 176 [.agg (Ae e),.agg (Au s)] (.tup [Ad true a.fst,Aa a.snd])/\BB (a.snd != 0) (LQ (.tup [Aa 0,Aa (-1),Aa a.snd]) (Kd r)) (inX (b y) e.S.Chans.length/\(2:Int)≠(0:Int)/\∃ (c:Int),VC 177 [.agg (AM (e.S.Chans.getD (b y).toNat default)),Ad true a.fst,Ad true s.Match,Ac (s.N.tmod (2:Int)==1)] (Aa c)/\LQ (.tup [Aa y.fst,Aa c,Aa 0]) (Kd r))))):=by subst d;kernel_rfl
theorem Zi (b:Bool)(e:D.Env)(s:D.Stmt)(c:Int)(m:List Int):(fc CN AQ Tryz.f212 [] (Ac b)).goal (St.init [] [.agg (Ae e),.agg (Au s),Aa c,Ad true m]) =
  (BB (bif bif s.Kind != 6 then true else decide (s.N > 1) then true else(↑s.Args.length:Int) != (↑m.length:Int)) (LQ (Ac false) (Ac b)) (∃ (y:Int × Int),VC 170 [VV.agg (Ae e),Aa s.A] (vII y)/\BB (bif y.snd != 0 then true else y.fst != c) (LQ (Ac false) (Ac b)) (∃ (y:List Int × Int),VC 176 [VV.agg (Ae e),VV.agg (Au s)] (VV.tup [Ad true y.fst,Aa y.snd])/\∃ (a:Int),((true&&(y.snd==0)==true)=true->VC 177 [VV.agg [Aa 0,VV.sl true 1 1 fun(i:Nat)=>List.take 1 (List.drop (i*1) [Ad true m])],Ad true y.fst,Ad true s.Match,Ac false] (Aa a))/\LQ (Ac (bif y.snd==0 then a==0 else false)) (Ac b)))):=by kernel_rfl
theorem Zq (r:List Pn)(e:D.Env)(c:Int)(m:List Int):(fc CN MK Tryz.f186 [] (Bl true r)).goal (St.init [] [.agg (Ae e),Aa c,Ad true m]) =
  (Ax (fc CN MK Tryz.f186 [] (Bl true r)) [1,1,0,1,0] (Ay [(1,Aa c),(2,Ad true m),(3,VV.bp 0 0),(7,VV.nl),(13,Aa (↑e.S.Procs.length:Int)),(14,Aa 0)] [Ob.box (Ae e)])):=by kernel_rfl
theorem Ad7 (r:Bool × Int)(e:D.Env):(fc CN AQ Tryz.f82 [] (.tup [Ac r.1,Aa r.2])).goal (St.init [] [.agg (Ae e)]) =
  (∃ (y:D.Proc),VC 80 [VV.agg (Ae e)] (VV.agg (A4 y))/\BB (decide (y.Provided<0)) (LQ (VV.tup [Ac true,Aa 0]) (VV.tup [Ac r.fst,Aa r.snd])) (∃ (a:Int × Int),VC 92 [VV.agg (Ae e),Aa y.Provided] (vII a)/\LQ (VV.tup [Ac (a.fst != 0),Aa a.snd]) (VV.tup [Ac r.fst,Aa r.snd]))):=by kernel_rfl
theorem Ad4 (r:Ab)(e:D.Env):(fc CN AQ Tryz.f155 [] (.agg (AR r))).goal (St.init [] [.agg (Ae e)]) =
  (LQ (VV.agg [Ac (decide ((↑e.S.Procs.length:Int)<16)),Aa 0,VV.nl]) (VV.agg (AR r))):=by kernel_rfl
theorem Ad0 (r:Ab)(e:D.Env)(s:D.Stmt)(self:Bool){a}(b:a=VV.agg (AR r)){c}(d:c=(∃ (y:Ab),VC 155 [VV.agg (Ae e)] (VV.agg (AR y))/\LQ (VV.agg (AR y)) a)){f}(g:f=LQ (VV.agg [Ac true,Aa 0,VV.nl]) a):(fc CN AQ Tryz.f121 [] (.agg (AR r))).goal (St.init [] [.agg (Ae e),.agg (Au s),Ac self]) =
  (BB (s.Kind==1) (∃ (y:Bool),VC 89 [.agg (Af e.M),Aa s.A] (Ac y)/\BB y c (∃ (y:Int × Int),VC 92 [.agg (Ae e),Aa s.A] (vII y)/\LQ (.agg [Ac (bif y.fst != 0 then true else y.snd != 0),Aa y.snd,.nl]) a)) (BB (s.Kind==2) (∃ (y:Bool),VC 89 [.agg (Af e.M),Aa s.B] (Ac y)/\BB y c f) (BB (s.Kind==9) (LQ (.agg [Ac (decide ((↑e.S.Chans.length:Int)<32)),Aa 0,.nl]) a) (BB (s.Kind==5) (∃ (y:Ab),VC 156 [.agg (Ae e),.agg (Au s),Ac self] (.agg (AR y))/\LQ (.agg (AR y)) a) (BB (s.Kind==6) (∃ (y:Int × Int × Int),VC 139 [.agg (Ae e),.agg (Au s)] (Kd y)/\LQ (.agg [Ac (bif decide (y.snd.fst>=0) then true else y.snd.snd != 0),Aa y.snd.snd,.nl]) a) (BB (s.Kind==7) (LQ (.agg [Ac false,Aa 0,.nl]) a) f)))))):=by subst b d g;kernel_rfl
theorem Zm (r:Ab)(e:D.Env)(s:D.Stmt)(self:Bool){d}(g:d=fun(y:Int × Int)=>e.S.Chans.getD (IntKind.i64.wrap (y.fst - (1:Int))).toNat default){b}(h:b=VV.agg (AR r)){f}(i:f=fun(y:Int × Int)=>e.M.Shapes.getD (d y).Shape.toNat default):(fc CN AQ Tryz.f156 [] (.agg (AR r))).goal (St.init [] [.agg (Ae e),.agg (Au s),Ac self]) =
  (∃ (y:Int × Int),VC 170 [.agg (Ae e),Aa s.A] (vII y)/\BB (y.snd != 0) (LQ (.agg [Ac true,Aa y.snd,.nl]) b) (inX (IntKind.i64.wrap (y.fst - (1:Int))) e.S.Chans.length/\inX (d y).Shape e.M.Shapes.length/\BB ((↑(f y).Fields.length:Int) != (↑s.Args.length:Int)) (LQ (.agg [Ac true,Aa 49,.nl]) b) (BB (decide ((f y).Room > 0)) (LQ (.agg [Ac (decide ((↑(d y).Queue.length:Int)<(f y).Room)),Aa 0,.nl]) b) (BB self (LQ (.agg [Ac false,Aa 0,.nl]) b) (∃ (a:Int × List Int × Int),VC 136 [.agg (Ae e),.agg (Au s)] (.tup [Aa a.fst,Ad true a.snd.fst,Aa a.snd.snd])/\BB (a.snd.snd != 0) (LQ (.agg [Ac true,Aa a.snd.snd,.nl]) b) (∃ (c:List Pn),VC 186 [.agg (Ae e),Aa y.fst,Ad true a.snd.fst] (Bl true c)/\LQ (.agg [Ac (decide ((↑c.length:Int) > 0)),Aa 0,Bl true c]) b)))))):=by subst g h i;kernel_rfl
theorem AhP (r:List Ab)(e:D.Env)(ws:List D.Trans)(self:Bool){z1}(a:z1=(↑ws.length:Int)){b}(c:b=fc CN GB Tryz.f85 [] (Bo true r)):(fc CN GB Tryz.f85 [] (Bo true r)).goal (St.init [] [.agg (Ae e),Ap true ws,Ac self]) =
  (((0:Int)<=z1/\z1<=z1/\z1*(↑40:Int)<=140737488355328)/\Ax b [1,1,1,0,1,0] (Ay [(1,Ap true ws),(2,Ac self),(3,.bp 0 0),(7,.ow 1 0 z1.toNat),(8,Ac false),(16,Ap true ws),(17,Aa z1),(18,Aa 0)] [.box (Ae e),.arr true 0 z1.toNat 3 fun(_:Nat)=>(b.T 171).zero])):=by subst a c;kernel_rfl
theorem Aeb (r:Wy)(err:Int):(fc CN AQ Tryz.f81 [] (.agg (AY r))).goal (St.init [] [Aa err]) =
  (LQ (VV.agg [Aa (-1),Aa (-1),Aa (-1),Aa (-1),Aa (-1),Aa err]) (VV.agg (AY r))):=by kernel_rfl
theorem Aer (r:List Wy × Int)(e:D.Env):(fc CN AQ Tryz.f53 [] (.tup [AW true r.1,Aa r.2])).goal (St.init [] [.agg (Ae e)]) =
  (∃ (y:Int),VC 46 [VV.agg (Ae e)] (Aa y)/\BB (y != 0) (LQ (VV.tup [VV.nl,Aa y]) (VV.tup [AW true r.fst,Aa r.snd])) (∃ (y:List Wy),VC 44 [VV.agg (Ae e)] (AW true y)/\LQ (VV.tup [AW true y,Aa 0]) (VV.tup [AW true r.fst,Aa r.snd]))):=by kernel_rfl
theorem AhK (t:D.Trans)(l:D.Loc)(esc i:Int):(fc CN AQ Tryz.f50 [] (.agg (Dr t))).goal (St.init [] [.agg (A8 l),Aa esc,Aa i]) =
  (BB (decide (esc<0)) (inX i l.Out.length/\LQ (VV.agg (Dr (l.Out.getD i.toNat default))) (VV.agg (Dr t))) (inX esc l.Esc.length/\inX i (l.Esc.getD esc.toNat []).length/\LQ (VV.agg (Dr ((l.Esc.getD esc.toNat []).getD i.toNat default))) (VV.agg (Dr t)))):=by kernel_rfl
theorem ZE (b:Bool)(l:List Ab):(fc CN AQ Tryz.f213 [] (Ac b)).goal (St.init [] [Bo true l,.fn (.func 214) []]) =
  (∃ (y:Int),VC 218 [Bo true l,VV.fn (Fn.func (nat_lit 214)) []] (Aa y)/\LQ (Ac (decide (y>=0))) (Ac b)):=by kernel_rfl
theorem Aeh (r:Int)(l:List Ab):(fc CN O2 Tryz.f218 [] (Aa r)).goal (St.init [] [Bo true l,.fn (.func 214) []]) =
  (Ax (fc CN O2 Tryz.f218 [] (Aa r)) [1,0,1,0] (P4 l (0:Int))):=by kernel_rfl
theorem Aef (b:Bool)(x:Ab):(fc CN AQ Tryz.f214 [] (Ac b)).goal (St.init [] [.agg (AR x)]) =
  (LQ (Ac x.is) (Ac b)):=by kernel_rfl
theorem ZD (b:Bool)(l:List Wy)(w:Wy):(fc CN AQ Tryz.f47 [] (Ac b)).goal (St.init [] [AW true l,.agg (AY w)]) =
  (∃ (y:Int),VC 86 [AW true l,VV.agg (AY w)] (Aa y)/\LQ (Ac (decide (y>=0))) (Ac b)):=by kernel_rfl
theorem Aeg (r:Int)(l:List Wy)(w:Wy):(fc CN O1 Tryz.f86 [] (Aa r)).goal (St.init [] [AW true l,.agg (AY w)]) =
  (Ax (fc CN O1 Tryz.f86 [] (Aa r)) [1,0,1,0] (P3 l w (0:Int))):=by kernel_rfl
theorem Ad5 (r:List Pn)(e:D.Env)(c:Int)(m:List Int):(B8 Tryz.prog tb (shR e c m) AQ true Tryz.f201 [] (Bl true r)).goal (St.init [] [.agg (Ae e),Aa c,Ad true m]) =
  (∃ (y:Bool × Int),VC 82 [VV.agg (Ae e)] (VV.tup [Ac y.fst,Aa y.snd])/\BB (bif !y.fst then true else y.snd != 0) (LQ VV.nl (Bl true r)) (∃ (y:D.Loc),VC 51 [VV.agg (Ae e)] (VV.agg (A8 y))/\∃ (a:List Pn),Aj Tryz.prog 83 [Ob.box (Ae e),Ob.box [Aa c],Ob.box [Ad true m],Ob.box [VV.nl]] [VV.agg (A8 y),VV.fn (Fn.func (nat_lit 211)) [VV.bp 0 0,VV.bp 1 0,VV.bp 2 0,VV.bp 3 0]] (hsR e c m a) (VV.tup [])/\LQ (Bl true a) (Bl true r))):=by kernel_rfl
theorem Wi (r out:List Pn)(e:D.Env)(c:Int)(m:List Int)(l:D.Loc):(B8 Tryz.prog tb (shR e c m) KJ true Tryz.f83 (hsR e c m r) (.tup [])).goal (St.init (hsR e c m out) [.agg (A8 l),Aof]) =
  (Ax (fc (shR e c m) KJ Tryz.f83 (hsR e c m r) (VV.tup [])) [1,0,1,0] (K9 e c m out l (0:Int))):=by kernel_rfl
theorem Wh (r out:List Wy)(e:D.Env)(l:D.Loc):(B8 Tryz.prog tb (shW e) KI true Tryz.f83 (hsW e r) (.tup [])).goal (St.init (hsW e out) [.agg (A8 l),Aoe]) =
  (Ax (fc (shW e) KI Tryz.f83 (hsW e r) (VV.tup [])) [1,0,1,0] (K8 e out l (0:Int))):=by kernel_rfl
theorem AhL (r out:List Pn)(b:Bool)(e:D.Env)(c:Int)(m:List Int)(i:Int)(ws:List D.Trans):(fc CN Sz Tryz.f211 (hsR e c m r) (Ac b)).goal (St.init (hsR e c m out) [Aa i,Ap true ws,.bp 0 0,.bp 1 0,.bp 2 0,.bp 3 0]) =
  (Ax (fc CN Sz Tryz.f211 (hsR e c m r) (Ac b)) [1,0,1,0] (Re e c m out i ws (0:Int))):=by kernel_rfl
theorem AhM (r out:List Wy)(b:Bool)(e:D.Env)(i:Int)(ws:List D.Trans):(fc CN H3 Tryz.f84 (hsW e r) (Ac b)).goal (St.init (hsW e out) [Aa i,Ap true ws,.bp 0 0,.bp 1 0]) =
  (∃ (y:List Ab),VC 85 [VV.agg (Ae e),Ap true ws,Ac false] (Bo true y)/\Ax (fc CN H3 Tryz.f84 (hsW e r) (Ac b)) [1,0,1,0] (Jj e out i y (0:Int))):=by kernel_rfl
theorem Zp (r:List Wy)(e:D.Env){b}(c:b=AW true r):(B8 Tryz.prog tb (shW e) AQ true Tryz.f44 [] (AW true r)).goal (St.init [] [.agg (Ae e)]) =
  (inX e.Pid e.S.Procs.length/\∃ (y:D.Proc),VC 80 [.agg (Ae e)] (.agg (A4 y))/\BB ((e.S.Procs.getD e.Pid.toNat default).Loc==y.Final) (BB (e.Pid==IntKind.i64.wrap ((↑e.S.Procs.length:Int) - (1:Int))) (∃ (y:Wy),VC 81 [Aa 0] (.agg (AY y))/\LQ (.sl true 1 6 fun(i:Nat)=>List.take 6 (List.drop (i*6) (AY y))) b) (LQ .nl b)) (∃ (y:Bool × Int),VC 82 [.agg (Ae e)] (.tup [Ac y.fst,Aa y.snd])/\BB (y.snd != 0) (∃ (a:Wy),VC 81 [Aa y.snd] (.agg (AY a))/\LQ (.sl true 1 6 fun(i:Nat)=>List.take 6 (List.drop (i*6) (AY a))) b) (BB (!y.fst) (LQ .nl b) (∃ (y:D.Loc),VC 51 [.agg (Ae e)] (.agg (A8 y))/\∃ (a:List Wy),Aj Tryz.prog 83 [.box (Ae e),.box [.nl]] [.agg (A8 y),.fn (Fn.func (nat_lit 84)) [.bp 0 0,.bp 1 0]] (hsW e a) (.tup [])/\LQ (AW true a) b)))):=by subst c;kernel_rfl
theorem Aep (hs':List Ob)(r:VV)(e:D.Env)(l out:List Int)(k:Int)(J:St->Prop):((B8 Tryz.prog tb CN SB false Tryz.f93 hs' (r)).loop [1,1,0,1,0] J).goal (UU e l out k) =
  (BB (decide (k<(↑l.length:Int))) (inX k l.length/\∃ (y:Int × Int),VC 92 [VV.agg (BJ e),Aa (l.getD k.toNat 0)] (vII y)/\BB (y.snd != 0) (leO [] hs'/\(VV.tup [VV.nl,Aa y.snd]).le r) ((out.length+1)*8<=140737488355328/\J (Ay [(2,VV.bp 0 0),(6,VV.ow 1 0 (out.length+1)),(11,Ad true l),(12,Aa (↑l.length:Int)),(13,Aa (IntKind.i64.wrap (k+(1:Int))))] [Ob.box (BJ e),Ob.arr true 0 (out.length+1) 1 fun(i:Nat)=>bif i.blt out.length then[Aa (out.getD i 0)] else(fun(i:Nat)=>List.take 1 (List.drop (i*1) [Aa y.fst])) (i - out.length)]))) (leO [Ob.arr true 0 out.length 1 (AJ out)] hs'/\(VV.tup [VV.ow 0 0 out.length,Aa 0]).le r)):=by kernel_rfl
theorem Aed (r:Int × List Int × Int)(c:Int)(f:List D.Type)(l:List Int)(k:Int)(J:St->Prop):((fc CN SA Tryz.f136 [] (.tup [Aa r.1,Ad true r.2.1,Aa r.2.2])).loop [1,1,1,1,1,1,1,0,1,0] J).goal (Rf c f l k) =
  (BB (decide (k<(↑l.length:Int))) (inX k l.length/\inX k f.length/\∃ (y:Int),VC 169 [VV.agg (BM (f.getD k.toNat default)),Aa (l.getD k.toNat 0)] (Aa y)/\inX k l.length/\J (Ay [(7,Aa c),(9,AC true f),(10,VV.ow 0 0 l.length),(53,VV.ow 0 0 l.length),(54,Aa (↑l.length:Int)),(55,Aa (IntKind.i64.wrap (k+(1:Int))))] [Ob.arr true 0 l.length 1 fun(j:Nat)=>bif j.beq k.toNat then[Aa y] else[Aa (l.getD j 0)]])) (LQ (VV.tup [Aa c,Ad true l,Aa 0]) (VV.tup [Aa r.fst,Ad true r.snd.fst,Aa r.snd.snd]))):=by kernel_rfl
theorem V8 (r:List Int × Int)(e:D.Env)(s:D.Stmt)(want:List Int)(k:Int)(J:St->Prop):((fc CN JM Tryz.f176 [] (.tup [Ad true r.1,Aa r.2])).loop [1,1,0,1,0] J).goal (Rc e s want k) =
  (BB (decide (k<(↑s.Args.length:Int))) (inX k s.Args.length/\inX k s.Match.length/\BB (s.Match.getD k.toNat 0 != 1) (J (Rc e s want (IntKind.i64.wrap (k+(1:Int))))) (∃ (y:Int × Int),VC 92 [VV.agg (Ae e),Aa (s.Args.getD k.toNat 0)] (vII y)/\BB (y.snd != 0) (LQ (VV.tup [VV.nl,Aa y.snd]) (VV.tup [Ad true r.fst,Aa r.snd])) (inX k want.length/\J (Ay [(2,VV.bp 0 0),(3,VV.bp 1 0),(6,VV.ow 2 0 want.length),(16,Ad true s.Args),(17,Aa (↑s.Args.length:Int)),(18,Aa (IntKind.i64.wrap (k+(1:Int))))] [Ob.box (Ae e),Ob.box (Au s),Ob.arr true 0 want.length 1 fun(j:Nat)=>bif j.beq k.toNat then[Aa y.fst] else[Aa (want.getD j 0)]])))) (LQ (VV.tup [Ad true want,Aa 0]) (VV.tup [Ad true r.fst,Aa r.snd]))):=by kernel_rfl
theorem Wg (r:List Pn)(e:D.Env)(c:Int)(m:List Int)(out:List Pn)(k:Int)(J:St->Prop):((fc CN MK Tryz.f186 [] (Bl true r)).loop [1,1,0,1,0] J).goal (Nc e c m out k) =
  (BB (decide (k<(↑e.S.Procs.length:Int))) (BB (k != e.Pid) (∃ (y:List Pn),VC 201 [VV.agg [AC true e.M.Globals,Ad true e.M.Init,Bn true e.M.Shapes,Ad true e.M.Chans,BE true e.M.Procs,Aa e.M.Claim,BL true e.M.Exprs,Ad true e.S.Globals,A0 true e.S.Chans,AI true e.S.Procs,Aa e.S.Last,Aa e.S.Alone,Aa e.S.Claim,Aa k,Ac e.Timeout,A6 true e.Able],Aa c,Ad true m] (Bl true y)/\(out.length+y.length)*24<=140737488355328/\(∀ (i:Nat),i<y.length->(Dj y i).all VV.mem1=true)/\J (Ay [(1,Aa c),(2,Ad true m),(3,VV.bp 0 0),(7,VV.ow 1 0 (out.length+y.length)),(13,Aa (↑e.S.Procs.length:Int)),(14,Aa (IntKind.i64.wrap (k+(1:Int))))] [Ob.box (Ae e),Ob.arr true 0 (out.length+y.length) 3 fun(i:Nat)=>bif i.blt out.length then Dj out i else Dj y (i - out.length)])) (J (Nc e c m out (IntKind.i64.wrap (k+(1:Int)))))) (LQ (Bl true out) (Bl true r))):=by kernel_rfl
theorem Aeo (r:List Ab)(e:D.Env)(ws:List D.Trans)(self:Bool)(n:Nat)(F:Nat->List VV)(some:Bool)(k:Int)(J:St->Prop){a}(b:a=fc CN GB Tryz.f85 [] (Bo true r)):((fc CN GB Tryz.f85 [] (Bo true r)).loop [1,1,1,0,1,0] J).goal (UT e ws self n F some k) =
  (BB (decide (k<(↑ws.length:Int))) (inX k ws.length/\∃ (y:Ab),VC 121 [.agg (Ae e),.agg (Au (ws.getD k.toNat default).S),Ac self] (.agg (AR y))/\inX k n/\Ax (a.loop [1,1,1,0,1,0] J) [1,1,0,0,1,1] (Ay [(1,Ap true ws),(2,Ac self),(3,.bp 0 0),(7,.ow 1 0 n),(8,Ac some),(9,Aa k),(16,Ap true ws),(17,Aa (↑ws.length:Int)),(18,Aa k)] [.box (Ae e),.arr true 0 n 3 fun(j:Nat)=>bif j.beq k.toNat then AR y else F j])) (Ax a [1,1,1,1,0,1,0] (Ay [(7,.ow 0 0 n),(8,Ac some),(40,Ap true ws),(41,Aa (↑ws.length:Int)),(42,Aa 0)] [.arr true 0 n 3 F]))):=by subst b;kernel_rfl
theorem Aem (r:List Ab)(e:D.Env)(ws:List D.Trans)(self:Bool)(l:List Ab)(some:Bool)(i k:Int)(J:St->Prop):(((fc CN GB Tryz.f85 [] (Bo true r)).loop [1,1,1,0,1,0] J).cut [1,1,0,0,1,1]).goal (US e ws self l some i k) =
  (((true&&some==false)=true->inX i l.length)/\J (Ay [(1,Ap true ws),(2,Ac self),(3,VV.bp 0 0),(7,VV.ow 1 0 l.length),(8,Ac (bif some then true else(l.getD i.toNat default).is)),(16,Ap true ws),(17,Aa (↑ws.length:Int)),(18,Aa (IntKind.i64.wrap (k+(1:Int))))] [Ob.box (Ae e),Ob.arr true 0 l.length 3 (D9 l)])):=by kernel_rfl
theorem Aen (r:List Ab)(ws:List D.Trans)(l:List Ab)(some:Bool)(k:Int)(J:St->Prop):((fc CN GB Tryz.f85 [] (Bo true r)).loop [1,1,1,1,0,1,0] J).goal (Nd ws l some k) =
  (BB (decide (k<(↑ws.length:Int))) (inX k ws.length/\BB (bif (ws.getD k.toNat default).S.Kind==7 then !some else false) (inX k l.length/\J (Ay [(7,VV.ow 0 0 l.length),(8,Ac some),(40,Ap true ws),(41,Aa (↑ws.length:Int)),(42,Aa (IntKind.i64.wrap (k+(1:Int))))] [Ob.arr true 0 l.length 3 fun(j:Nat)=>bif j.beq k.toNat then[Ac true,Aa (l.getD k.toNat default).err,Bl true (l.getD k.toNat default).wth] else AR (l.getD j default)])) (J (Nd ws l some (IntKind.i64.wrap (k+(1:Int)))))) (LQ (Bo true l) (Bo true r))):=by kernel_rfl
theorem Zw (r:Int)(l:List Ab)(k:Int)(J:St->Prop):((fc CN O2 Tryz.f218 [] (Aa r)).loop [1,0,1,0] J).goal (P4 l k) =
  (BB (decide (k<(↑l.length:Int))) (inX k l.length/\∃ (y:Bool),VC 214 [VV.agg (AR (l.getD k.toNat default))] (Ac y)/\BB y (LQ (Aa k) (Aa r)) (J (P4 l (IntKind.i64.wrap (k+(1:Int)))))) (LQ (Aa (-1)) (Aa r))):=by kernel_rfl
theorem Zu (r:Int)(l:List Wy)(w:Wy)(k:Int)(J:St->Prop){z1}(a:z1=l.getD k.toNat default):((fc CN O1 Tryz.f86 [] (Aa r)).loop [1,0,1,0] J).goal (P3 l w k) =
  (BB (decide (k<(↑l.length:Int))) (inX k l.length/\BB (w.Esc==z1.Esc&&(w.Way==z1.Way&&(w.With==z1.With&&(w.WithEsc==z1.WithEsc&&(w.WithWay==z1.WithWay&&(w.Err==z1.Err&&true)))))) (LQ (Aa k) (Aa r)) (J (P3 l w (IntKind.i64.wrap (k+(1:Int)))))) (LQ (Aa (-1)) (Aa r))):=by subst a;kernel_rfl
theorem UD (r:List Pn)(e:D.Env)(c:Int)(m:List Int)(out:List Pn)(l:D.Loc)(k:Int)(J:St->Prop):((B8 Tryz.prog tb (shR e c m) KJ true Tryz.f83 (hsR e c m r) (.tup [])).loop [1,0,1,0] J).goal (K9 e c m out l k) =
  (BB (decide (k<(↑l.Esc.length:Int))) (inX k l.Esc.length/\∃ (y:List Pn × Bool),Aj Tryz.prog 211 (hsR e c m out) [Aa k,Ap true (l.Esc.getD k.toNat []),VV.bp 0 0,VV.bp 1 0,VV.bp 2 0,VV.bp 3 0] (hsR e c m y.fst) (Ac y.snd)/\BB y.snd (leO (hsR e c m y.fst) (hsR e c m r)/\(VV.tup []).le (VV.tup [])) (J (K9 e c m y.fst l (IntKind.i64.wrap (k+(1:Int)))))) (∃ (y:List Pn × Bool),Aj Tryz.prog 211 (hsR e c m out) [Aa (-1),Ap true l.Out,VV.bp 0 0,VV.bp 1 0,VV.bp 2 0,VV.bp 3 0] (hsR e c m y.fst) (Ac y.snd)/\leO (hsR e c m y.fst) (hsR e c m r)/\(VV.tup []).le (VV.tup []))):=by kernel_rfl
theorem UB (r:List Wy)(e:D.Env)(out:List Wy)(l:D.Loc)(k:Int)(J:St->Prop):((B8 Tryz.prog tb (shW e) KI true Tryz.f83 (hsW e r) (.tup [])).loop [1,0,1,0] J).goal (K8 e out l k) =
  (BB (decide (k<(↑l.Esc.length:Int))) (inX k l.Esc.length/\∃ (y:List Wy × Bool),Aj Tryz.prog 84 (hsW e out) [Aa k,Ap true (l.Esc.getD k.toNat []),VV.bp 0 0,VV.bp 1 0] (hsW e y.fst) (Ac y.snd)/\BB y.snd (leO (hsW e y.fst) (hsW e r)/\(VV.tup []).le (VV.tup [])) (J (K8 e y.fst l (IntKind.i64.wrap (k+(1:Int)))))) (∃ (y:List Wy × Bool),Aj Tryz.prog 84 (hsW e out) [Aa (-1),Ap true l.Out,VV.bp 0 0,VV.bp 1 0] (hsW e y.fst) (Ac y.snd)/\leO (hsW e y.fst) (hsW e r)/\(VV.tup []).le (VV.tup []))):=by kernel_rfl
theorem Ad6 (r:List Pn)(b:Bool)(e:D.Env)(c:Int)(m:List Int)(out:List Pn)(i:Int)(ws:List D.Trans)(k:Int)(J:St->Prop){d}(f:d=(true&&decide ((↑out.length:Int) > 0)==false)):((fc CN Sz Tryz.f211 (hsR e c m r) (Ac b)).loop [1,0,1,0] J).goal (Re e c m out i ws k) =
  (BB (decide (k<(↑ws.length:Int))) (inX k ws.length/\∃ (y:Bool),VC 212 [.agg (Ae e),.agg (Au (ws.getD k.toNat default).S),Aa c,Ad true m] (Ac y)/\BB y ((out.length+1)*24<=140737488355328/\J (Ay [(0,Aa i),(1,Ap true ws),(2,.bp 0 0),(3,.bp 1 0),(4,.bp 2 0),(5,.bp 3 0),(11,Ap true ws),(12,Aa (↑ws.length:Int)),(13,Aa (IntKind.i64.wrap (k+(1:Int))))] [.box (Ae e),.box [Aa c],.box [Ad true m],.box [.ow 4 0 (out.length+1)],.arr true 0 (out.length+1) 3 fun(i_1:Nat)=>bif i_1.blt out.length then GP (out.getD i_1 default) else(fun(i_2:Nat)=>List.take 3 (List.drop (i_2*3) [Aa e.Pid,Aa i,Aa k])) (i_1 - out.length)])) (J (Re e c m out i ws (IntKind.i64.wrap (k+(1:Int)))))) (∃ (y:List Ab),(d=true->VC 85 [.agg (Ae e),Ap true ws,Ac true] (Bo true y))/\∃ (a:Bool),(d=true->VC 213 [Bo true y,.fn (Fn.func (nat_lit 214)) []] (Ac a))/\leO (hsR e c m out) (hsR e c m r)/\(Ac (bif decide ((↑out.length:Int) > 0) then true else a)).le (Ac b))):=by subst f;kernel_rfl
theorem Aea (r:List Wy)(b:Bool)(e:D.Env)(out:List Wy)(i:Int)(l:List Ab)(k:Int)(J:St->Prop){c}(d:c=[(0,Aa i),(3,VV.bp 1 0),(9,VV.bp 3 0),(14,Bo true l),(15,Aa (↑l.length:Int)),(16,Aa k),(39,Bl true (l.getD k.toNat default).wth),(40,Aa (↑(l.getD k.toNat default).wth.length:Int)),(41,Aa 0)]){a}(f:a=[Aa i,Aa k,Aa (-1),Aa (-1),Aa (-1),Aa (l.getD k.toNat default).err]){g}(h:g=(fc CN H3 Tryz.f84 (hsW e r) (Ac b)).loop [1,0,1,0] J):((fc CN H3 Tryz.f84 (hsW e r) (Ac b)).loop [1,0,1,0] J).goal (Jj e out i l k) =
  (BB (decide (k<(↑l.length:Int))) (inX k l.length/\BB (bif (l.getD k.toNat default).is then(↑(l.getD k.toNat default).wth.length:Int)==0 else false) ((out.length+1)*48<=140737488355328/\Ax g [1,1,0,0,1,1,1,1,0] (Ay c [.box (Ae e),.box [.ow 2 0 (out.length+1)],.arr true 0 (out.length+1) 6 fun(i_1:Nat)=>bif i_1.blt out.length then AY (out.getD i_1 default) else(fun(i_2:Nat)=>List.take 6 (List.drop (i_2*6) a)) (i_1 - out.length),.box a])) (Ax g [1,1,0,0,1,1,1,1,0] (Ay c [.box (Ae e),.box [.ow 2 0 out.length],.arr true 0 out.length 6 (ER out),.box a]))) (leO (hsW e out) (hsW e r)/\(Ac (decide ((↑out.length:Int) > 0))).le (Ac b))):=by subst d f h;kernel_rfl
theorem Ad9 (r:List Wy)(b:Bool)(e:D.Env)(out:List Wy)(i:Int)(l:List Ab)(k:Int)(w:Wy)(ps:List Pn)(j:Int)(J J2:St->Prop){a}(c:a=[Aa w.Esc,Aa w.Way,Aa (ps.getD j.toNat default).pid,Aa (ps.getD j.toNat default).esc,Aa (ps.getD j.toNat default).way,Aa w.Err]):(((fc CN H3 Tryz.f84 (hsW e r) (Ac b)).loop [1,0,1,0] J).loop [1,1,0,0,1,1,1,1,0] J2).goal (Nb e out i l k w ps j) =
  (BB (decide (j<(↑ps.length:Int))) (inX j ps.length/\(out.length+1)*48<=140737488355328/\J2 (Ay [(0,Aa i),(3,.bp 1 0),(9,.bp 3 0),(14,Bo true l),(15,Aa (↑l.length:Int)),(16,Aa k),(39,Bl true ps),(40,Aa (↑ps.length:Int)),(41,Aa (IntKind.i64.wrap (j+(1:Int))))] [.box (Ae e),.box [.ow 2 0 (out.length+1)],.arr true 0 (out.length+1) 6 fun(i:Nat)=>bif i.blt out.length then AY (out.getD i default) else(fun(i:Nat)=>List.take 6 (List.drop (i*6) a)) (i - out.length),.box a])) (J (Jj e out i l (IntKind.i64.wrap (k+(1:Int)))))):=by subst c;kernel_rfl
end Go.Proofs.YtnhamlpcpngafaaGreatDoor
namespace Go.Proofs.YtnhamlpcpngafaaGreatDoor
open Go.RowKit
structure CA (e:D.Env):Prop where
 ok:BF e
 p0:0<=e.Pid
section
variable {e : D.Env}
theorem Ahd (b:AG e.M)(h:HH e=0):CA e:=by
 unfold HH at h;cases a:decide (Cb e.M e.S≠0) with
 | true=>grind
 | false =>
  rw[a,Apw]at h;obtain⟨h1,h2⟩:=MF (show Cb e.M e.S=0 by simpa using a);cases c:(decide (e.Pid<0)||decide ((e.S.Procs.length:Int)<=e.Pid)) with
  | true=>grind
  | false =>
   simp only[ApN,ApW]at c;exact⟨⟨h2,h1,b,by omega,by omega⟩,by omega⟩
theorem CA.small (h:CA e):Bq e.S:=h.ok.fit.small
theorem CA.lt (h:CA e):e.Pid.toNat<e.S.Procs.length:=by have:=h.ok.pid;have:=h.p0;omega
theorem CA.mem (h:CA e):De e e.Pid∈e.S.Procs:=Av h.lt
theorem CA.facts (h:CA e):(0<=(De e e.Pid).Type_/\(De e e.Pid).Type_<e.M.Procs.length)/\(0<=(De e e.Pid).Loc/\(De e e.Pid).Loc<(CC e).Locs.length) :=
 let hp:=Eb (h.ok.proc h.mem);⟨hp.1,hp.2.1⟩
theorem CA.wproc (h:CA e):GU (CC e):=h.ok.wf.Procs.2 _ (Av (by have:=h.facts.1;omega))
theorem CA.wloc (h:CA e):UE (Cy e):=h.wproc.Locs.2 _ (Av (by have:=h.facts.2;omega))
theorem Wm (a:AG e.M)(hs:Bq e.S):Aj Tryz.prog 46 [] [.agg (Ae e)] [] (Aa (HH e)):=by
 refine Aq Tryz.func46 (Ak2 _ e) ⟨_,Fv a hs (fun h=>(Ky h).clp),fun h=>BK (ct (by simpa using h) rfl),fun h=>⟨fun h1=>BK (cf (by simpa using h) (ct ?_ rfl)),fun h1=>BK (cf (by simpa using h) (cf ?_ rfl))⟩⟩
 ·grind
 grind
theorem KU (h:CA e):Aj Tryz.prog 51 [] [.agg (Ae e)] [] (.agg (A8 (Cy e))) :=
 Aq Tryz.func51 (AhO _ e rfl) ⟨⟨h.p0,h.ok.pid.2⟩,h.facts.1,h.facts.2,trivial,VV.le_refl _⟩
theorem QH (h:CA e):Aj Tryz.prog 80 [] [.agg (Ae e)] [] (.agg (A4 (CC e))) :=
 Aq Tryz.func80 (Ad8 _ e) ⟨⟨h.p0,h.ok.pid.2⟩,h.facts.1,trivial,VV.le_refl _⟩
theorem Jc {x:Int}(h:0<=x->x<e.M.Exprs.length):Aj Tryz.prog 89 [] [.agg (Af e.M),Aa x] [] (Ac (Dz e x)):=by
 refine Aq Tryz.func89 (Ad3 _ e.M x) ⟨fun a=>?_,Aw ?_⟩
 ·grind
 ·unfold Dz Ao;rw[Bh,ieq]
theorem QF : Aj Tryz.prog 155 [] [.agg (Ae e)] [] (.agg (AR (JW e))):=by
 refine Aq Tryz.func155 (Ad4 _ e) ⟨trivial,AqH ⟨AqV ?_,VV.le_refl _,Aqd,trivial⟩⟩;have:decide ((e.S.Procs.length:Int)<16)=decide (e.S.Procs.length<16):=by grind
 rw[this]<;>rfl
theorem QI {err:Int}:Aj Tryz.prog 81 [] [Aa err] [] (.agg (AY (IW err))) :=
 Aq Tryz.func81 (Aeb _ err) ⟨trivial,VV.le_refl _⟩
theorem AdZ {l:D.Loc}{esc i:Int}(h1:esc<0->0<=i/\i<l.Out.length)(h2:0<=esc->esc<l.Esc.length/\0<=i/\i<(l.Esc.getD esc.toNat []).length) :
  Aj Tryz.prog 50 [] [.agg (A8 l),Aa esc,Aa i] [] (.agg (Dr ((bif decide (esc<0) then l.Out else l.Esc.getD esc.toNat []).getD i.toNat default))):=by
 refine Aq Tryz.func50 (AhK _ l esc i) ⟨fun h=>⟨h1 (by simpa using h),trivial,?_⟩,fun h=>?_⟩
 ·rw[h,Apy];exact VV.le_refl _
 ·have h0:0<=esc:=by simpa using h
  refine⟨⟨h0,(h2 h0).1⟩,(h2 h0).2,trivial,?_⟩;rw[h,Apw];exact VV.le_refl _
theorem LR {ev:Evl}{out:List Int}{x:Int}{l:List Int}:JP ev out (x::l)=bif decide ((ev x).2≠0) then([],(ev x).2) else JP ev (out++[(ev x).1]) l:=rfl
theorem Wn {l:List Int}{hs':List Ob}{r:VV}(c:∀ x∈l,Aj Tryz.prog 92 [] [.agg (BJ e),Aa x] [] (vII (Be e x)))(q:l.length<=1048576)
  (h1:∀ er,BQ e l=([],er)->er≠0->leO [] hs'/\VV.le (.tup [.nl,Aa er]) r) (h2:∀ out,BQ e l=(out,0)->leO [.arr true 0 out.length 1 (AJ out)] hs'/\VV.le (.tup [.ow 0 0 out.length,Aa 0]) r) :
  Aj Tryz.prog 93 [] [.agg (BJ e),Ad true l] hs' r:=by
 refine Aq Tryz.func93 (AhQ hs' r e l) ?_;refine Ax.own 1 6 1 (AJ []) rfl ?_;change Ax _ _ (UU e l [] 0);refine Ar (fun g st=>∃ (k:Nat) (out:List Int),k<=l.length/\g=l.length - k/\out.length<=k/\JP (Be e) out (l.drop k)=BQ e l/\st=UU e l out k) ⟨_,Up.of ⟨0,[],ApD _,rfl,ApD _,rfl,rfl⟩⟩ ?_;rintro g st ⟨k,out,s,rfl,t,h,rfl⟩;refine ApI (Aep hs' r e l out k _) ⟨fun j=>?_,fun m=>?_⟩
 ·have a:k<l.length:=by have:=AL j;omega
  have o:(k:Int).toNat=k:=by omega
  rw[o];rw[Bs (d:=0) a,LR]at h;refine⟨⟨by omega,by omega⟩,Be e (l.getD k 0),c _ (Av a),fun p=>?_,fun p=>⟨by omega,l.length - (k+1),by omega,Up.mk (hs':=[.box (BJ e),.arr true 0 (out.length+1) 1 (AJ (out++[(Be e (l.getD k 0)).1]))]) (AS _) ⟨Ob.le_refl _,Ap6 fun i hi=>AV (BR (f:=fun n=>[Aa n]) (d:=0) (l:=out) (r:=[(Be e (l.getD k 0)).1]) (F:=fun i=>[.sc (.int .i64 (out.getD i 0))]) (fun _ _=>rfl) EX (by simp;omega)),trivial⟩ ⟨k+1,out++[(Be e (l.getD k 0)).1],by omega,rfl,by simp;omega,?_,?_⟩⟩⟩
  ·grind
  ·grind
  ·rw[Al (by omega)];unfold UU;simp_all
 ·have b:l.length<=k:=by have:=AP m;omega
  rw[Ap2 b]at h;exact h2 out h.symm
theorem Om {l:List Int}(a:∀ x∈l,Aj Tryz.prog 92 [] [.agg (BJ e),Aa x] [] (vII (Be e x)))(f:l.length<=1048576) :
  Aj Tryz.prog 93 [] [.agg (BJ e),Ad true l] [.arr true 0 (BQ e l).1.length 1 (AJ (BQ e l).1)] (.tup [.ow 0 0 (BQ e l).1.length,Aa (BQ e l).2]):=by
 rcases c:BQ e l with⟨out,er⟩
 by_cases g:er=0
 ·subst g;refine Wn a f (fun er' h i=>?_) fun out' h=>?_
  ·grind
  ·rw[c]at h;obtain rfl:out=out':=congrArg Prod.fst h;exact⟨⟨Ob.le_refl _,trivial⟩,VV.le_refl _⟩
 ·have b:out=[]:=by
   have d:∀ (l:List Int) (o:List Int),(JP (Be e) o l).2≠0->(JP (Be e) o l).1=[]:=by
    intro l
    induction l with
    | nil=>intro o h;exact absurd rfl h
    | cons x l ih =>
     intro o h;rw[LR]at h ⊢;grind
   have:=d l [] (by have:JP (Be e) [] l=(out,er):=c;rw[this];exact g);have j:JP (Be e) [] l=(out,er):=c;rw[j]at this;exact this
  subst b;have h:=Wn (hs':=[]) (r:=.tup [.nl,Aa er]) a f (fun er' h i=>?_) fun out' h=>?_
  ·exact h.ownR 0 rfl 1 (AJ [])
  ·rw[c]at h;obtain rfl:er=er':=congrArg Prod.snd h;exact⟨trivial,VV.le_refl _⟩
  grind
end
theorem Cd {x:VV}(a:x.mem=true):Q4 x x:=fun _ E _ h B =>
 (h.mem (E':=⟨E.fz,B,0,[]⟩) (m':=none) a rfl).less (fun _ h=>h.elim) fun _ h=>h
theorem Oq : ∀ {l:List VV},l.all VV.mem=true->Q5 l l
 | [],_=>trivial
 | x::l,h=>by
  simp only[Ark,Apv]at h;exact⟨Cd h.1,Oq h.2⟩
theorem M8 {e:D.Env}:Q4 (.agg (BJ e)) (.agg (Ae e)) :=
 WK ⟨Cd rfl,Cd rfl,Cd rfl,Cd rfl,Cd rfl,Cd rfl,Cd rfl,Cd rfl,AcK fun _ _=>Oq rfl,AcK fun _ _=>Oq rfl,Cd rfl,Cd rfl,Cd rfl,Cd rfl,Cd rfl,Cd rfl,trivial⟩
theorem Al5 {e:D.Env}:leS (.agg (Ae e)) (.agg (BJ e)):=by
 refine Ady rfl fun j x y a c=>?_
 rcases Aqj j 16 with b | b
 ·rcases(show j=0∨j=1∨j=2∨j=3∨j=4∨j=5∨j=6∨j=7∨j=8∨j=9∨j=10∨j=11∨j=12∨j=13∨j=14∨j=15 by omega) with rfl | rfl | rfl | rfl | rfl | rfl | rfl | rfl | rfl | rfl | rfl | rfl | rfl | rfl | rfl | rfl <;>
   (obtain rfl:=ApU a;obtain rfl:=ApU c;first | exact DJ _ | exact OO)
 ·rw[AqK (by show(16:Nat)<=j;exact b)]at a;cases a
section
variable {e : D.Env}
theorem Sk (b:AG e.M)(hs:Bq e.S)(x:Int):Aj Tryz.prog 92 [] [.agg (BJ e),Aa x] [] (vII (Be e x)) :=
 (JD b hs x).thaw (OG fun x a=>by
  simp only[Aqk,List.not_mem_nil,or_false]at a;rcases a with rfl | rfl<;>exact RQ) ⟨M8,AcL,trivial⟩
theorem Aoc (b:AG e.M)(hs:Bq e.S)(x:Int):Aj Tryz.prog 170 [] [.agg (BJ e),Aa x] [] (vII (AB e x)) :=
 (JE b hs x).thaw (OG fun x a=>by
  simp only[Aqk,List.not_mem_nil,or_false]at a;rcases a with rfl | rfl<;>exact RQ) ⟨M8,AcL,trivial⟩
theorem YC (t:D.Type)(v:Int):Aj Tryz.prog 169 [] [.agg (BM t),Aa v] [] (Aa (IG t v)):=by
 refine Aj.hand ⟨_,Tryz.func169,rfl,by kernel_rfl⟩ fun w E vs h i hB _ c=>?_
 obtain⟨j,us1,rfl,d,c⟩:=c.cons_inv;obtain⟨k,us2,rfl,f,c⟩:=c.cons_inv;obtain rfl:=c.nil_inv;obtain⟨a,b,rfl,va,vb⟩:=d.agg2_inv;rw[va.sc_inv,vb.sc_inv,f.sc_inv];refine(Ala t.Bits v t.Signed w).mono ?_;rintro r w' ⟨rfl,g⟩;exact⟨_,rfl,.sc,g⟩
structure AkZ (e:D.Env) (n:Int):Prop where
 ok:BF e
 lo:1<=n
 hi:n<=e.S.Chans.length
 le:e.S.Chans.length<=32
 sh:0<=(B6 e n).Shape/\(B6 e n).Shape<e.M.Shapes.length
 q:(B6 e n).Queue.length<=16
theorem FJ (g:AG e.M){x:Int}(h:(AB e x).2=0):AkZ e (AB e x).1:=by
 unfold AB at h ⊢;cases c:decide (CE e x≠0) with
 | true=>grind
 | false =>
  rw[c,Apw]at h;rw[Apw];obtain⟨b,_,_⟩:=JC (x:=x) g (by simpa using c);have d:=QB b (a:=x) (by simpa using h);generalize (CL e (PN e e.M.Exprs.length) x).1=n at d ⊢;have f:B6 e n∈e.S.Chans:=Av (by omega);exact⟨b,d.1,d.2.1,d.2.2,(Fa (b.chan f)).1,(b.fit.q _ f).1⟩
theorem F7 {a b:Nat}:((a:Int) != (b:Int))=decide (a≠b):=by grind
theorem AoV {a c:Int}{l:List Int}{r:Int × List Int × Int}(h:(a,l,c)=r):leO [] []/\VV.le (.tup [.sc (.int .i64 a),Ad true l,.sc (.int .i64 c)]) (.tup [.sc (.int .i64 r.1),Ad true r.2.1,.sc (.int .i64 r.2.2)]):=by
 subst h;exact⟨trivial,VV.le_refl _⟩
theorem AbQ {a c:Int}{r:Int × List Int × Int}(h:(a,[],c)=r):leO [] []/\VV.le (.tup [.sc (.int .i64 a),.nl,.sc (.int .i64 c)]) (.tup [.sc (.int .i64 r.1),Ad true r.2.1,.sc (.int .i64 r.2.2)]):=by
 subst h;exact⟨trivial,Aq4 ⟨VV.le_refl _,Aqd,VV.le_refl _,trivial⟩⟩
theorem Oj {l:List Int}(h:(BQ e l).2=0):(BQ e l).1.length=l.length:=by
 have a:∀ (l o:List Int),(JP (Be e) o l).2=0->(JP (Be e) o l).1.length=o.length+l.length:=by
  intro l
  induction l with
  | nil=>intro o _;rfl
  | cons x l ih =>
   intro o h;rw[LR]at h ⊢;grind
 have:=a l [] h;simpa[BQ] using this
def KD (f:List D.Type)(l:List Int)(k:Nat):List Int:=(List.range l.length).map fun i=>if i<k then IG (f.getD i default) (l.getD i 0) else l.getD i 0
theorem LA {f:List D.Type}{l:List Int}{k:Nat}:(KD f l k).length=l.length:=by simp[KD]
theorem LB {f:List D.Type}{l:List Int}{k i:Nat}(hi:i<l.length):(KD f l k).getD i 0=if i<k then IG (f.getD i default) (l.getD i 0) else l.getD i 0:=by simp[KD,List.getD,hi]
theorem Ab7 {f:List D.Type}{l:List Int}:KD f l 0=l:=by
 apply List.ext_getElem (by simp[KD]);intro i h1 h2;simp[KD,List.getD,h2]
theorem Ag7 {f:List D.Type}{l:List Int}:KD f l l.length=G4 f l:=by
 unfold KD G4;simp_all
theorem QJ {s:D.Stmt}(p:AG e.M)(hs:Bq e.S)(w:s.Args.length<=1048576) :
  Aj Tryz.prog 136 [] [.agg (BJ e),.agg (Au s)] [] (.tup [Aa (AD e s).1,Ad true (AD e s).2.1,Aa (AD e s).2.2]):=by
 have a:AD e s=bif decide ((AB e s.A).2≠0) then(0,[],(AB e s.A).2)
  else bif decide ((Bb e (AB e s.A).1).length≠s.Args.length) then(0,[],49)
  else bif decide ((BQ e s.Args).2≠0) then(0,[],(BQ e s.Args).2)
  else((AB e s.A).1,G4 (Bb e (AB e s.A).1) (BQ e s.Args).1,0):=rfl
 generalize AD e s=r at a;refine Aq Tryz.func136 (AhN r e s rfl rfl) ⟨AB e s.A,Aoc p hs s.A,fun h=>AbQ ?_,fun h=>?_⟩
 ·grind
 have h0:(AB e s.A).2=0:=by simpa using h
 rw[h0]at a;have d:=FJ p h0;generalize (AB e s.A).1=n at d a ⊢;have h1:=d.lo;have h2:=d.hi;have h3:=d.le;rw[AK (by omega) (by omega)];refine⟨by omega,d.sh,fun b=>AbQ ?_,fun b=>⟨BQ e s.Args,Om (fun x _=>Sk p hs x) w,fun q=>AbQ ?_,fun q=>?_⟩⟩
 ·rw[F7]at b;rw[a];have:decide ((Bb e n).length≠s.Args.length)=true:=b;rw[this]<;>rfl
 ·rw[F7]at b;rw[a,show decide ((Bb e n).length≠s.Args.length)=false from b,show decide ((BQ e s.Args).2≠0)=true by simpa using q]<;>rfl
 rw[F7]at b;have j:(BQ e s.Args).2=0:=by simpa using q
 have m:=Oj j;rw[show decide ((Bb e n).length≠s.Args.length)=false from b,j]at a;have t:(Bb e n).length=s.Args.length:=Classical.not_not.1 (ApY b);change Ax _ _ (Ay [(7,Aa n),(9,AC true (Bb e n)),(10,.ow 0 0 (BQ e s.Args).1.length),(53,.ow 0 0 (BQ e s.Args).1.length),(54,Aa (BQ e s.Args).1.length),(55,Aa 0)] [.arr true 0 (BQ e s.Args).1.length 1 (AJ (BQ e s.Args).1)]);generalize Bb e n=f at a t ⊢;generalize (BQ e s.Args).1=l at a m ⊢;change r=(n,G4 f l,0) at a;refine Ar (fun g st=>∃ k:Nat,k<=l.length/\g=l.length - k/\st=Rf n f (KD f l k) k) ⟨_,Up.of ⟨0,ApD _,rfl,by unfold Rf;rw[Ab7]<;>rfl⟩⟩ ?_;rintro g st ⟨k,B,rfl,rfl⟩;refine ApI (Aed r n f _ k _) ⟨fun o=>?_,fun y=>AoV ?_⟩
 ·rw[LA]at o;have c:k<l.length:=by have:=AL o;omega
  have u:(k:Int).toNat=k:=by omega
  rw[u,LA,LB c,ApT (Arz _)];refine⟨by omega,by omega,IG (f.getD k default) (l.getD k 0),YC _ _,by omega,l.length - (k+1),by omega,Up.mk (hs':=[.arr true 0 l.length 1 (AJ (KD f l (k+1)))]) (AS _) ⟨Ap6 fun i hi=>AV ?_,trivial⟩ ⟨k+1,by omega,rfl,?_⟩⟩
  ·by_cases v:i=k
   ·subst v;simp only[AqX,Apy];unfold AJ;rw[LB c,Aqc (Aqx _)]<;>rfl
   ·have z:Nat.beq i k=false:=by grind [ApA]
    simp only[z,Apw];unfold AJ;rw[LB hi,LB hi]
    by_cases h:i<k
    ·grind
    ·rw[ApT h,ApT (by omega)]<;>rfl
  ·rw[Al (by omega)];unfold Rf;rw[LA]<;>rfl
 grind [LA,AP,Ag7]
theorem Aec {s:D.Stmt}(a:AG e.M)(hs:Bq e.S)(b:s.Args.length<=1048576) :
  Aj Tryz.prog 136 [] [.agg (Ae e),.agg (Au s)] [] (.tup [Aa (AD e s).1,Ad true (AD e s).2.1,Aa (AD e s).2.2]) :=
 (QJ a hs b).frz rfl fun j x y c d=>by grind [ApU,Al5,DJ]
end
theorem AoW {c:Int}{l:List Int}{r:List Int × Int}(h:(l,c)=r):leO [] []/\VV.le (.tup [Ad true l,.sc (.int .i64 c)]) (.tup [Ad true r.1,.sc (.int .i64 r.2)]):=by
 subst h;exact⟨trivial,VV.le_refl _⟩
theorem AnY {c:Int}{r:List Int × Int}(h:([],c)=r):leO [] []/\VV.le (.tup [.nl,.sc (.int .i64 c)]) (.tup [Ad true r.1,.sc (.int .i64 r.2)]):=by
 subst h;exact⟨trivial,Aq4 ⟨Aqd,VV.le_refl _,trivial⟩⟩
section
variable {e : D.Env}
theorem Pj {s:D.Stmt}(p:AG e.M)(hs:Bq e.S)(v:s.Args.length<=1048576)(w:s.Match.length=s.Args.length) :
  Aj Tryz.prog 176 [] [.agg (Ae e),.agg (Au s)] [] (.tup [Ad true (Cl e s).1,Aa (Cl e s).2]):=by
 have b:Cl e s=bif decide (C7 (Be e) s.Args s.Match s.Args.length≠0) then([],C7 (Be e) s.Args s.Match s.Args.length) else(CV (Be e) s.Args s.Match,0):=rfl
 generalize Cl e s=r at b;generalize f:Be e=ev at b;have q:∀ x,Aj Tryz.prog 92 [] [.agg (Ae e),Aa x] [] (vII (ev x)):=fun x=>by rw[← f];exact JD p hs x
 refine Aq Tryz.func176 (Zh r e s rfl rfl) ⟨⟨by omega,by omega,by omega⟩,?_⟩;refine Ar (fun gg st=>∃ k:Nat,k<=s.Args.length/\gg=s.Args.length - k/\(∀ i,i<k->(C2 ev (s.Args.getD i 0) (s.Match.getD i 0)).2=0)/\st=Rc e s (Cm ev s.Args s.Match k) k)
  ⟨s.Args.length,Up.mk (l':=[(2,.bp 0 0),(3,.bp 1 0),(6,.ow 2 0 (Cm ev s.Args s.Match 0).length),(16,Ad true s.Args),(17,Aa s.Args.length),(18,Aa ((0:Nat):Int))])
   (hs':=[.box (Ae e),.box (Au s),.arr true 0 (Cm ev s.Args s.Match 0).length 1 (AJ (Cm ev s.Args s.Match 0))]) ?_ ?_ ⟨0,ApD _,rfl,fun i hi=>by omega,rfl⟩⟩ ?_
 ·rw[CQ];exact AS _
 ·rw[CQ];refine⟨Ob.le_refl _,Ob.le_refl _,Ap6 fun i hi=>AV ?_,trivial⟩;have c:AJ (Cm ev s.Args s.Match 0) i=[Aa 0]:=by
   unfold AJ;rw[FW (by omega),ApT (AqZ _)]
  refine Eq.trans ?_ c.symm;rfl
 ·rintro gg st ⟨k,y,rfl,m,rfl⟩;refine ApI (V8 r e s _ k _) ⟨fun g=>?_,fun h=>AoW ?_⟩
  ·have n:k<s.Args.length:=by have:=AL g;omega
   have j:(k:Int).toNat=k:=by omega
   rw[j];refine⟨by omega,by omega,fun l=>?_,fun l=>⟨ev (s.Args.getD k 0),q _,fun c=>AnY ?_,fun c=>⟨by rw[CQ];omega,?_⟩⟩⟩
   ·rw[AT]at l;have h1:=ApK l;have hv:C2 ev (s.Args.getD k 0) (s.Match.getD k 0)=(0,0):=by unfold C2;grind
    have t:Cm ev s.Args s.Match k=Cm ev s.Args s.Match (k+1):=by
     unfold Cm;grind
    rw[t,Al (by omega)];exact⟨s.Args.length - (k+1),by omega,Up.of (by grind)⟩
   ·have a:decide (s.Match.getD k 0=1)=true:=by grind
    have hv:C2 ev (s.Args.getD k 0) (s.Match.getD k 0)=ev (s.Args.getD k 0):=by unfold C2;rw[a]<;>rfl
    have u:(C2 ev (s.Args.getD k 0) (s.Match.getD k 0)).2≠0:=by rw[hv];simpa using c
    have o:C7 ev s.Args s.Match s.Args.length=(ev (s.Args.getD k 0)).2:=by
     unfold C7;grind [N6]
    grind
   ·have a:decide (s.Match.getD k 0=1)=true:=by grind
    have hv:C2 ev (s.Args.getD k 0) (s.Match.getD k 0)=ev (s.Args.getD k 0):=by unfold C2;rw[a]<;>rfl
    have h2:(ev (s.Args.getD k 0)).2=0:=by simpa using c
    rw[Al (by omega)];refine⟨s.Args.length - (k+1),by omega,Up.mk (l':=[(2,.bp 0 0),(3,.bp 1 0),(6,.ow 2 0 (Cm ev s.Args s.Match (k+1)).length),(16,Ad true s.Args),(17,Aa s.Args.length),(18,Aa ((k+1:Nat):Int))])
     (hs':=[.box (Ae e),.box (Au s),.arr true 0 (Cm ev s.Args s.Match (k+1)).length 1 (AJ (Cm ev s.Args s.Match (k+1)))]) ?_ ?_ ⟨k+1,by omega,rfl,BO m (by rw[hv];exact h2),rfl⟩⟩
    ·grind [CQ,AS]
    ·rw[CQ,CQ];refine⟨Ob.le_refl _,Ob.le_refl _,Ap6 fun i hi=>AV ?_,trivial⟩;show(bif i.beq k then[Aa (ev (s.Args.getD k 0)).1] else[Aa ((Cm ev s.Args s.Match k).getD i 0)])=[Aa ((Cm ev s.Args s.Match (k+1)).getD i 0)];rw[FW hi,FW hi];cases b:i.beq k with
     | true =>
      simp_all
     | false =>
      have:i≠k:=Nat.ne_of_beq_eq_false b;rw[Apw]
      by_cases d:i<k
      ·grind
      ·rw[ApT d,ApT (by omega)]
  ·obtain rfl:k=s.Args.length:=by have:=AP h;omega
   have o:C7 ev s.Args s.Match s.Args.length=0:=I1 m;rw[b,o,QR]<;>rfl
theorem YF {c:D.Chan}{l mt:List Int}{any:Bool}(d:Len c.Queue.length)(f:Len mt.length):Aj Tryz.prog 177 [] [.agg (AM c),Ad true l,Ad true mt,Ac any] [] (Aa (Gy c l mt any)) :=
 (Ul d f).frz rfl fun j x y a b=>by
  match j,a,b with
  | 0,a,b=>grind [ApU,DJ]
  | 1,a,b=>obtain rfl:=ApU a;obtain rfl:=ApU b;exact OO
  | 2,a,b=>grind [ApU,DJ]
  | 3,a,b=>grind [ApU,DJ]
  | j+4,a,_=>simp at a
theorem Pm {s:D.Stmt}(f:AG e.M)(hs:Bq e.S)(i:s.Args.length<=1048576)(j:s.Match.length=s.Args.length) :
  Aj Tryz.prog 139 [] [.agg (Ae e),.agg (Au s)] [] (Kd (Bj e s)):=by
 have b:Bj e s=bif decide ((AB e s.A).2≠0) then(0,-1,(AB e s.A).2)
  else bif decide ((Bb e (AB e s.A).1).length≠s.Args.length) then(0,-1,49)
  else bif decide ((Cl e s).2≠0) then(0,-1,(Cl e s).2)
  else((AB e s.A).1,Gy (B6 e (AB e s.A).1) (Cl e s).1 s.Match (decide (s.N.tmod 2=1)),0):=rfl
 generalize Bj e s=r at b;refine Aq Tryz.func139 (Zy r e s rfl) ⟨AB e s.A,JE f hs s.A,fun h=>FS ?_,fun h=>?_⟩
 ·grind
 have h0:(AB e s.A).2=0:=by simpa using h
 rw[h0]at b;have d:=FJ f h0;generalize (AB e s.A).1=n at d b ⊢;have h1:=d.lo;have h2:=d.hi;have h3:=d.le;have h4:=d.q;rw[AK (by omega) (by omega)];refine⟨by omega,d.sh,fun a=>FS ?_,fun a=>⟨Cl e s,Pj f hs i j,fun g=>FS ?_,fun g=>⟨by omega,by decide,Gy (B6 e n) (Cl e s).1 s.Match (s.N.tmod 2==1),YF (c:=B6 e n) (by unfold Len;omega) (by unfold Len;omega),FS ?_⟩⟩⟩
 ·rw[F7]at a;rw[b,show decide ((Bb e n).length≠s.Args.length)=true from a]<;>rfl
 ·rw[F7]at a;rw[b,show decide ((Bb e n).length≠s.Args.length)=false from a,show decide ((Cl e s).2≠0)=true by simpa using g]<;>rfl
 ·rw[F7]at a;rw[b,show decide ((Bb e n).length≠s.Args.length)=false from a,show decide ((Cl e s).2≠0)=false by simpa using g,ieq]<;>rfl
theorem Ak1 {s:D.Stmt}(b:AG e.M)(hs:Bq e.S)(c:s.Args.length<=1048576)(d:s.Match.length=s.Args.length) :
  Aj Tryz.prog 139 [] [.agg (BJ e),.agg (Au s)] [] (Kd (Bj e s)) :=
 (Pm b hs c d).thaw (OG fun x a=>by
  simp only[Aqk,List.not_mem_nil,or_false]at a;rcases a with rfl | rfl | rfl<;>exact RQ) ⟨M8,WK ⟨Cd rfl,Cd rfl,Cd rfl,Cd rfl,Cd rfl,Cd rfl,Cd rfl,trivial⟩,trivial⟩
theorem V9 {s:D.Stmt}{c:Int}{m:List Int}(d:AG e.M)(hs:Bq e.S)(f:s.Args.length<=1048576)(g:s.Kind=6->s.Match.length=s.Args.length) :
  Aj Tryz.prog 212 [] [.agg (Ae e),.agg (Au s),Aa c,Ad true m] [] (Ac (E0 e s c m)):=by
 have j:E0 e s c m=bif decide (s.Kind≠6)||(decide (1<s.N)||decide (s.Args.length≠m.length)) then false
  else bif decide ((AB e s.A).2≠0)||decide ((AB e s.A).1≠c) then false
  else bif decide ((Cl e s).2≠0) then false else decide (Gy ⟨0,[m]⟩ (Cl e s).1 s.Match false=0):=rfl
 generalize E0 e s c m=b at j;have k:(bif bif s.Kind != (6:Int) then true else decide (s.N > (1:Int)) then true else(s.Args.length:Int) != (m.length:Int))=(decide (s.Kind≠6)||(decide (1<s.N)||decide (s.Args.length≠m.length))):=by grind
 refine Aq Tryz.func212 (Zi b e s c m) ⟨fun h=>Aw ?_,fun h=>⟨AB e s.A,JE d hs s.A,fun h2=>Aw ?_,fun h2=>?_⟩⟩
 ·grind
 ·grind
 ·rw[k]at h;rw[Br,AT,AT]at h2;have n:s.Kind=6:=by grind
  have a:=g n;refine⟨Cl e s,Pj d hs f a,Gy ⟨0,[m]⟩ (Cl e s).1 s.Match false,fun _=>?_,Aw ?_⟩
  ·have o:=YF (c:=⟨0,[m]⟩) (l:=(Cl e s).1) (mt:=s.Match) (any:=false) (by unfold Len;simp) (by unfold Len;omega);refine o.le trivial ⟨AqH ⟨VV.le_refl _,AqD (.inl rfl) fun i hi=>AV ?_,trivial⟩,VV.le_refl _,VV.le_refl _,VV.le_refl _,trivial⟩ trivial (VV.le_refl _);grind
  grind
theorem QG (h:CA e):Aj Tryz.prog 82 [] [.agg (Ae e)] [] (.tup [Ac (AX e).1,Aa (AX e).2]):=by
 have a:AX e=bif decide ((CC e).Provided<0) then(true,0) else(decide ((Be e (CC e).Provided).1≠0),(Be e (CC e).Provided).2):=rfl
 generalize AX e=r at a;refine Aq Tryz.func82 (Ad7 r e) ⟨CC e,QH h,fun h1=>⟨trivial,?_⟩,fun h1=>⟨Be e (CC e).Provided,JD h.ok.wf h.small _,trivial,?_⟩⟩
 ·rw[a,h1];exact VV.le_refl _
 simp_all [AT,VV.le_refl]
end
theorem Pr {n:Nat}:∀ {ws:List (List D.Trans)} {many k many':Nat},Hk n many k ws=some many'->∀ w∈ws,w.length<=1024/\∀ t∈w,inP n t.To=true
 | [],_,_,_,_,w,a=>by cases a
 | v::r,many,k,many',h,w,a=>by
  unfold Hk at h;cases g:(decide (0<k)&&decide (v.length=0)) with
  | true=>grind
  | false =>
  cases b:decide (1024<many+v.length) with
  | true=>grind
  | false =>
  cases c:Cu v.length (fun i=>inP n (v.getD i default).To) with
  | false=>grind
  | true =>
   rw[g,b,c,Apw,Apw,Apy]at h;rcases Aqk.1 a with rfl | a
   ·have:=ApY b;exact⟨by omega,(CF (d:=default) (f:=fun t:D.Trans=>inP n t.To)).1 c⟩
   ·exact Pr h w a
theorem R2 {n:Nat}{final:Int}:∀ {ls:List D.Loc} {many i:Nat},ID n final many i ls=true->∀ l∈ls,∀ w∈BN l,w.length<=1024/\∀ t∈w,inP n t.To=true
 | [],_,_,_,l,a,_,_=>by cases a
 | v::r,many,i,h,l,a,w,hw=>by
  unfold ID at h;cases c:OL final i v with
  | true=>grind
  | false =>
   rw[c,Apw]at h;cases b:Hk n many 0 (BN v) with
   | none=>rw[b]at h;cases h
   | some many' =>
    rw[b]at h;rcases Aqk.1 a with rfl | a
    ·exact Pr b w hw
    ·exact R2 h l a w hw
theorem AbZ {p:D.Proc}(h:E7 p=true):∀ l∈p.Locs,∀ w∈BN l,w.length<=1024/\∀ t∈w,inP p.Locs.length t.To=true:=by
 unfold E7 at h;simp only[Apv]at h;exact R2 h.2
theorem Ajz {m:D.Model}(h:G3 m=true)(i:Nat)(hi:i<m.Procs.length):Du m i=true:=by
 obtain⟨_,_,h3⟩:=Dp h;exact FM (f:=fun i:Nat=>Du m i) (by unfold Jt at h3;omega) i hi
theorem AhY {m:D.Model}(h:G3 m=true){i:Nat}(hi:i<m.Procs.length){l:D.Loc}(a:l∈(m.Procs.getD i default).Locs){w:List D.Trans}(b:w∈BN l){t:D.Trans}(c:t∈w):Mc m i t.S=true:=by
 have h1:=Ajz h i hi;unfold Du at h1;simp only[Apv]at h1;have h2:=(CF (d:=default) (f:=fun l:D.Loc=>Vu m i l)).1 h1.1 l a;unfold Vu at h2;have h3:=(CF (d:=[]) (f:=fun w=>Kf m i w)).1 h2 w b;unfold Kf at h3;exact(CF (d:=default) (f:=fun t:D.Trans=>Mc m i t.S)).1 h3 t c
structure EM (m:D.Model) (s:D.Stmt):Prop where
 st:AA m s=true
 wf:P1 s
theorem EM.args {m:D.Model}{s:D.Stmt}(h:EM m s):s.Args.length<=1048576:=h.wf.Args.1
theorem EM.k1 {m:D.Model}{s:D.Stmt}(h:EM m s)(a:s.Kind=1):0<=s.A/\s.A<m.Exprs.length:=by
 have:=h.st;unfold AA at this;rw[Aqc (.inl a)]at this;simp only[Apv]at this;exact CT.1 this.1.1
theorem EM.k2 {m:D.Model}{s:D.Stmt}(h:EM m s)(a:s.Kind=2):0<=s.B/\s.B<m.Exprs.length:=by
 have:=h.st;unfold AA at this;rw[ApT (by omega),Aqc a]at this;simp only[Apv]at this;exact CT.1 this.1.2
theorem EM.k6 {m:D.Model}{s:D.Stmt}(h:EM m s)(a:s.Kind=6):s.Match.length=s.Args.length:=by
 have:=h.st;unfold AA at this;rw[ApT (by omega),ApT (by omega),ApT (by omega),ApT (by omega),Aqc a]at this;simp only[Apv]at this;have:=this.1.1.1.2;unfold GH B4 at this;grind
structure Ze (m:D.Model) (n:Nat) (ws:List D.Trans):Prop where
 len:ws.length<=1024
 st:∀ t∈ws,EM m t.S
 to:∀ t∈ws,inP n t.To=true
section
variable {e : D.Env}
theorem CA.ws (h:CA e){ws:List D.Trans}(a:ws∈BN (Cy e)):Ze e.M (CC e).Locs.length ws:=by
 have f:=h.facts;have hi:(De e e.Pid).Type_.toNat<e.M.Procs.length:=by omega
 have d:Cy e∈(CC e).Locs:=Av (by omega);have hg:=AbZ (Gb (Dp h.ok.may).2.1 _ hi).2 _ d _ a;refine⟨hg.1,fun t c=>⟨?_,?_⟩,hg.2⟩
 ·have:=AhY h.ok.may hi d a c;unfold Mc at this;grind
 ·have b:=h.wloc;rcases Aqk.1 a with rfl | a
  ·exact(b.Out.2 t c).S
  ·exact((b.Esc.2 _ a).2 t c).S
theorem AmR {b:Bool}{er:Int}{l:List Pn}{r:Ab}(h:(⟨b,er,l⟩:Ab)=r):leO [] []/\VV.le (.agg [.sc (.bool b),.sc (.int .i64 er),Bl true l]) (.agg (AR r)):=by
 subst h;exact⟨trivial,VV.le_refl _⟩
theorem Db {b:Bool}{er:Int}{r:Ab}(h:(⟨b,er,[]⟩:Ab)=r):leO [] []/\VV.le (.agg [.sc (.bool b),.sc (.int .i64 er),.nl]) (.agg (AR r)):=by
 subst h;exact⟨trivial,AqH ⟨VV.le_refl _,VV.le_refl _,Aqd,trivial⟩⟩
abbrev MtS (e:D.Env)(mt:Int->List Int->List Pn):Prop:=∀ c m,Aj Tryz.prog 186 [] [.agg (Ae e),Aa c,Ad true m] [] (Bl true (mt c m))
theorem Wb {s:D.Stmt}{self:Bool}{mt:Int->List Int->List Pn}(h:CA e)(hs:EM e.M s)(i:self=false->MtS e mt) :
  Aj Tryz.prog 156 [] [.agg (Ae e),.agg (Au s),Ac self] [] (.agg (AR (E5 e mt s self))):=by
 have j:=h.ok.wf;have d:=h.small;have c:E5 e mt s self=bif decide ((AB e s.A).2≠0) then⟨true,(AB e s.A).2,[]⟩
  else bif decide ((Bb e (AB e s.A).1).length≠s.Args.length) then⟨true,49,[]⟩
  else bif decide (0<(BV e.M (B6 e (AB e s.A).1).Shape).Room) then⟨decide (((B6 e (AB e s.A).1).Queue.length:Int)<(BV e.M (B6 e (AB e s.A).1).Shape).Room),0,[]⟩
  else bif self then⟨false,0,[]⟩
  else bif decide ((AD e s).2.2≠0) then⟨true,(AD e s).2.2,[]⟩
  else⟨decide (0<(mt (AB e s.A).1 (AD e s).2.1).length),0,mt (AB e s.A).1 (AD e s).2.1⟩:=rfl
 generalize E5 e mt s self=r at c;refine Aq Tryz.func156 (Zm r e s self rfl rfl rfl) ⟨AB e s.A,JE j d s.A,fun h1=>Db ?_,fun h1=>?_⟩
 ·grind
 have h0:(AB e s.A).2=0:=by simpa using h1
 rw[h0]at c;have f:=FJ j h0;generalize (AB e s.A).1=n at f c ⊢;have h2:=f.lo;have h3:=f.hi;have h4:=f.le;rw[AK (by omega) (by omega)];refine⟨by omega,f.sh,fun b=>Db ?_,fun b=>⟨fun g=>Db ?_,fun g=>⟨fun a=>Db ?_,fun a=>⟨AD e s,Aec j d hs.args,fun k=>Db ?_,fun k=>⟨mt n (AD e s).2.1,i a _ _,AmR ?_⟩⟩⟩⟩⟩
 ·rw[F7]at b;rw[c,show decide ((Bb e n).length≠s.Args.length)=true from b]<;>rfl
 ·rw[F7]at b;rw[c,show decide ((Bb e n).length≠s.Args.length)=false from b,show decide (0<(BV e.M (B6 e n).Shape).Room)=true from g]<;>rfl
 ·rw[F7]at b;rw[c,show decide ((Bb e n).length≠s.Args.length)=false from b,show decide (0<(BV e.M (B6 e n).Shape).Room)=false from g,a]<;>rfl
 ·rw[F7]at b;rw[c,show decide ((Bb e n).length≠s.Args.length)=false from b,show decide (0<(BV e.M (B6 e n).Shape).Room)=false from g,a,show decide ((AD e s).2.2≠0)=true by simpa using k]<;>rfl
 ·rw[F7]at b;rw[c,show decide ((Bb e n).length≠s.Args.length)=false from b,show decide (0<(BV e.M (B6 e n).Shape).Room)=false from g,a,show decide ((AD e s).2.2≠0)=false by simpa using k];simp_all
theorem Zj {s:D.Stmt}{self:Bool}{mt:Int->List Int->List Pn}(h:CA e)(hs:EM e.M s)(c:self=false->MtS e mt) :
  Aj Tryz.prog 121 [] [.agg (Ae e),.agg (Au s),Ac self] [] (.agg (AR (Ce e mt s self))):=by
 have f:=h.ok.wf;have b:=h.small;have g:Ce e mt s self=if s.Kind=1 then(bif Dz e s.A then JW e else⟨decide ((Be e s.A).1≠0)||decide ((Be e s.A).2≠0),(Be e s.A).2,[]⟩)
  else if s.Kind=2 then(bif Dz e s.B then JW e else⟨true,0,[]⟩)
  else if s.Kind=9 then⟨decide (e.S.Chans.length<32),0,[]⟩
  else if s.Kind=5 then E5 e mt s self
  else if s.Kind=6 then⟨decide (0<=(Bj e s).2.1)||decide ((Bj e s).2.2≠0),(Bj e s).2.2,[]⟩
  else if s.Kind=7 then⟨false,0,[]⟩ else⟨true,0,[]⟩:=rfl
 generalize Ce e mt s self=r at g;have lf:∀ {a:Ab},a=r->leO [] []/\VV.le (.agg (AR a)) (.agg (AR r)):=fun h=>by subst h;exact⟨trivial,VV.le_refl _⟩
 refine Aq Tryz.func121 (Ad0 r e s self rfl rfl rfl) ⟨fun k1=>⟨Dz e s.A,Jc fun _=>(hs.k1 (by simpa using k1)).2,fun d=>⟨JW e,QF,lf ?_⟩,fun d=>⟨Be e s.A,JD f b _,Db ?_⟩⟩,
  fun k1=>⟨fun k2=>⟨Dz e s.B,Jc fun _=>(hs.k2 (by simpa using k2)).2,fun d=>⟨JW e,QF,lf ?_⟩,fun d=>Db ?_⟩,
  fun k2=>⟨fun i=>Db ?_,fun i=>⟨fun j=>⟨E5 e mt s self,Wb h hs c,lf ?_⟩,fun j=>⟨fun k6=>⟨Bj e s,Pm f b hs.args (hs.k6 (by simpa using k6)),Db ?_⟩,fun k6=>⟨fun k=>Db ?_,fun k=>Db ?_⟩⟩⟩⟩⟩⟩
 ·grind
 ·grind
 ·grind
 ·grind
 ·rw[g,ApT (by simpa using k1),ApT (by simpa using k2),Aqc (by simpa using i)];have:decide ((e.S.Chans.length:Int)<32)=decide (e.S.Chans.length<32):=by grind
  rw[this]
 ·grind
 ·grind
 ·grind
 grind
end
section
variable {e : D.Env} {mt:Int->List Int->List Pn} {ws:List D.Trans} {self:Bool}
def PX (e:D.Env)(mt:Int->List Int->List Pn)(ws:List D.Trans)(self:Bool)(k:Nat):List Ab:=(List.range ws.length).map fun i=>if i<k then Ce e mt (ws.getD i default).S self else default
def HY (e:D.Env)(mt:Int->List Int->List Pn)(ws:List D.Trans)(self:Bool)(k:Nat):List Ab:=(List.range ws.length).map fun i=>if i<k then Er e mt ws self i else Ce e mt (ws.getD i default).S self
theorem Ss {k:Nat}:(PX e mt ws self k).length=ws.length:=by simp[PX]
theorem HU {k:Nat}:(HY e mt ws self k).length=ws.length:=by simp[HY]
theorem Oc {k i:Nat}(hi:i<ws.length):(PX e mt ws self k).getD i default=if i<k then Ce e mt (ws.getD i default).S self else default:=by simp[PX,List.getD,hi]
theorem I2 {k i:Nat}(hi:i<ws.length):(HY e mt ws self k).getD i default=if i<k then Er e mt ws self i else Ce e mt (ws.getD i default).S self:=by simp[HY,List.getD,hi]
theorem YY : HY e mt ws self ws.length=Dc e mt ws self:=by
 unfold HY Dc;simp_all
theorem AkG : PX e mt ws self ws.length=HY e mt ws self 0:=by
 unfold HY PX;simp_all
theorem Sv : (Dc e mt ws self).length=ws.length:=by simp[Dc]
theorem Acm {i k:Nat}(h:i≠k):Nat.beq i k=false:=by grind [ApA]
set_option maxRecDepth 10000 in
theorem Te {n:Nat}(h:CA e)(o:Ze e.M n ws)(m:self=false->MtS e mt) :
  Aj Tryz.prog 85 [] [.agg (Ae e),Ap true ws,Ac self] [] (Bo true (Dc e mt ws self)):=by
 have p:=o.len;refine Aq Tryz.func85 (AhP _ e ws self rfl rfl) ⟨⟨by omega,by omega,by omega⟩,?_⟩;refine Ar (fun g st=>∃ k:Nat,k<=ws.length/\g=ws.length - k/\st=UT e ws self ws.length (D9 (PX e mt ws self k)) (Eg e mt ws self k) k)
  ⟨ws.length,Up.mk (l':=[(1,Ap true ws),(2,Ac self),(3,.bp 0 0),(7,.ow 1 0 ws.length),(8,Ac false),(16,Ap true ws),(17,Aa ws.length),(18,Aa ((0:Nat):Int))]) (hs':=[.box (Ae e),.arr true 0 ws.length 3 (D9 (PX e mt ws self 0))]) (AS _) ⟨Ob.le_refl _,Ap6 fun i hi=>?_,trivial⟩ ⟨0,ApD _,rfl,rfl⟩⟩ ?_
 ·have q:D9 (PX e mt ws self 0) i=AR default:=by
   unfold D9;rw[Oc (by omega),ApT (AqZ _)]
  rw[q];exact⟨VV.le_refl _,VV.le_refl _,Aqd,trivial⟩
 rintro g st ⟨k,r,rfl,rfl⟩;refine ApI (Aeo _ e ws self _ _ _ k _ rfl) ⟨fun d=>?_,fun j=>?_⟩
 ·have a:k<ws.length:=by have:=AL d;omega
  have b:(k:Int).toNat=k:=by omega
  rw[b];refine⟨⟨by omega,by omega⟩,Ce e mt (ws.getD k default).S self,Zj h (o.st _ (Av a)) m,⟨by omega,by omega⟩,?_⟩;refine Ax.le (hs':=[.box (Ae e),.arr true 0 ws.length 3 (D9 (PX e mt ws self (k+1)))]) (AS _) ⟨Ob.le_refl _,Ap6 fun i hi=>AV ?_,trivial⟩ ?_
  ·unfold D9;rw[Oc hi,Oc hi]
   by_cases c:i=k
   ·simp_all
   ·rw[Acm c,Apw];grind
  ·have s:Ay [(1,Ap true ws),(2,Ac self),(3,.bp 0 0),(7,.ow 1 0 ws.length),(8,Ac (Eg e mt ws self k)),(9,Aa k),(16,Ap true ws),(17,Aa ws.length),(18,Aa k)] [.box (Ae e),.arr true 0 ws.length 3 (D9 (PX e mt ws self (k+1)))]=US e ws self (PX e mt ws self (k+1)) (Eg e mt ws self k) k k:=by
    unfold US;rw[Ss]
   refine Eq.mpr (congrArg (Ax _ _) s) ?_;refine DU Ai Ak (by kernel_rfl) (Aem _ e ws self _ _ k k _) ⟨fun _=>by rw[Ss];omega,ws.length - (k+1),by omega,Up.of ⟨k+1,a,rfl,?_⟩⟩;rw[Al (by omega),b,Oc a,Aqc (Aqx _),Ss];have:Eg e mt ws self (k+1)=bif Eg e mt ws self k then true else(Ce e mt (ws.getD k default).S self).is:=by
    rw[Br]<;>rfl
   unfold UT;rw[this]<;>rfl
 ·obtain rfl:k=ws.length:=by have:=AP j;omega
  generalize f:Eg e mt ws self ws.length=some;refine Ar (fun g st=>∃ k:Nat,k<=ws.length/\g=ws.length - k/\st=Nd ws (HY e mt ws self k) some k) ⟨ws.length,Up.of ⟨0,ApD _,rfl,by unfold Nd;rw[HU,AkG]<;>rfl⟩⟩ ?_;rintro g st ⟨k,r,rfl,rfl⟩;refine ApI (Aen _ ws _ some k _) ⟨fun d=>?_,fun j=>⟨trivial,?_⟩⟩
  ·have a:k<ws.length:=by have:=AL d;omega
   have b:(k:Int).toNat=k:=by omega
   rw[b];have ek:(bif (ws.getD k default).S.Kind==(7:Int) then !some else false)=(decide ((ws.getD k default).S.Kind=7)&&!(Eg e mt ws self ws.length)):=by rw[Bh,ieq,f]
   have ea:Er e mt ws self k=bif decide ((ws.getD k default).S.Kind=7)&&!(Eg e mt ws self ws.length) then{ Ce e mt (ws.getD k default).S self with is:=true } else Ce e mt (ws.getD k default).S self:=rfl
   refine⟨⟨by omega,by omega⟩,fun l=>⟨by rw[HU];omega,ws.length - (k+1),by omega,Up.mk (hs':=[.arr true 0 (HY e mt ws self k).length 3 (D9 (HY e mt ws self (k+1)))]) (AS _) ⟨Ap6 fun i hi=>AV ?_,trivial⟩ ⟨k+1,a,rfl,?_⟩⟩,fun l=>⟨ws.length - (k+1),by omega,Up.of ⟨k+1,a,rfl,?_⟩⟩⟩
   ·rw[ek]at l;rw[HU]at hi;rw[I2 a,ApT (Arz _)];unfold D9;rw[I2 hi,I2 hi]
    by_cases c:i=k
    ·subst c;rw[Aqc (Aqx _),AqX,Apy,ea,l,Apy]<;>rfl
    ·rw[Acm c,Apw];grind
   ·rw[Al (by omega)];unfold Nd;grind [HU]
   ·rw[ek]at l;have em:HY e mt ws self k=HY e mt ws self (k+1):=by
     unfold HY;grind
    grind [Al]
  grind [AP,YY,VV.le_refl]
end
def Yu : Nat->List Ab->Int
 | _,[]=>-1
 | k,x::r=>bif x.is then(k:Int) else Yu (k+1) r
theorem Uc {k:Nat}{x:Ab}{r:List Ab}:Yu k (x::r)=bif x.is then(k:Int) else Yu (k+1) r:=rfl
theorem Ub : ∀ {l:List Ab} {k:Nat},decide (Yu k l>=0)=isSome l
 | [],k=>by simp[Yu,isSome]
 | x::r,k=>by
  have ih:=Ub (l:=r) (k:=k+1);unfold isSome at *;rw[Arw,Uc];grind
abbrev AmT : VV:=.fn (.func 214) []
theorem Zs {x:Ab}:Aj Tryz.prog 214 [] [.agg (AR x)] [] (Ac x.is) :=
 Aq Tryz.func214 (Aef _ x) (Aw rfl)
theorem Zv {l:List Ab}(n:l.length<=1048576):Aj Tryz.prog 218 [] [Bo true l,AmT] [] (Aa (Yu 0 l)):=by
 refine Aq Tryz.func218 (Aeh _ l) ?_;refine As l.length (fun k=>P4 l k) (fun k=>Yu 0 l=Yu k (l.drop k)) rfl ?_;intro k o i J next
 refine ApI (Zw _ l k J) ⟨fun f=>?_,fun g=>BK ?_⟩
 ·have a:k<l.length:=by have:=AL f;omega
  have h:(k:Int).toNat=k:=by omega
  rw[h];rw[Bs (d:=default) a,Uc]at i;refine⟨by omega,(l.getD k default).is,Zs,fun j=>BK ?_,fun j=>next _ a ?_ (Up.of ?_)⟩
  ·grind
  ·grind
  grind [Al]
 ·have b:l.length<=k:=by have:=AP g;omega
  rw[i,Ap2 b]<;>rfl
theorem Wl {l:List Ab}(a:l.length<=1048576):Aj Tryz.prog 213 [] [Bo true l,AmT] [] (Ac (isSome l)) :=
 Aq Tryz.func213 (ZE _ l) ⟨_,Zv a,Aw Ub⟩
section
variable {e : D.Env} {c:Int} {m:List Int}
theorem TI {i:Int}:∀ {ws:List D.Trans} {k:Nat},(DA e c m i k ws).length<=ws.length
 | [],_=>ApC _
 | t::r,k=>by
  have:=TI (i:=i) (ws:=r) (k:=k+1);unfold DA;cases E0 e t.S c m<;>simp<;>omega
theorem Ry {i:Int}{k:Nat}{t:D.Trans}{r:List D.Trans}:DA e c m i k (t::r)=(bif E0 e t.S c m then[⟨e.Pid,i,k⟩] else[])++DA e c m i (k+1) r:=rfl
theorem Ai9 {out:List Pn}{x:Pn}{G:Nat->List VV}(a:G 0=GP x){i:Nat}(hi:i<out.length+1):(bif i.blt out.length then Dj out i else G (i - out.length))=Dj (out++[x]) i :=
 BR (f:=GP) (d:=default) (l:=out) (r:=[x]) (F:=Dj out) (fun _ _=>rfl) (by grind) (by simp;omega)
theorem Tc {n:Nat}{i:Int}{ws:List D.Trans}(h:CA e)(l:Ze e.M n ws) :
  Aj Tryz.prog 211 (hsR e c m []) [Aa i,Ap true ws,.bp 0 0,.bp 1 0,.bp 2 0,.bp 3 0] (hsR e c m (DA e c m i 0 ws)) (Ac (decide (0<(DA e c m i 0 ws).length)||isSome (Dc e GZ ws true))):=by
 have s:=l.len;generalize t:DA e c m i 0 ws=r;refine Aq Tryz.func211 (AhL r [] _ e c m i ws) ?_;refine Ar (fun g st=>∃ (k:Nat) (out:List Pn),k<=ws.length/\g=ws.length - k/\out.length<=k/\out++DA e c m i k (ws.drop k)=r/\st=Re e c m out i ws k) ⟨ws.length,Up.of ⟨0,[],ApD _,rfl,ApD _,t,rfl⟩⟩ ?_;rintro g st ⟨k,out,w,rfl,y,b,rfl⟩;refine ApI (Ad6 r _ e c m out i ws k _ rfl) ⟨fun o=>?_,fun p=>?_⟩
 ·have a:k<ws.length:=by have:=AL o;omega
  have q:(k:Int).toNat=k:=by omega
  rw[q];rw[Bs (d:=default) a,Ry]at b;have hs:=l.st _ (Av (d:=default) a);refine⟨⟨by omega,by omega⟩,E0 e (ws.getD k default).S c m,V9 h.ok.wf h.small hs.args hs.k6,fun u=>⟨by omega,ws.length - (k+1),by omega,
   Up.mk (hs':=[.box (Ae e),.box [Aa c],.box [Ad true m],.box [.ow 4 0 (out.length+1)],.arr true 0 (out.length+1) 3 (Dj (out++[Pn.mk e.Pid i k]))]) (AS _) ⟨Ob.le_refl _,Ob.le_refl _,Ob.le_refl _,Ob.le_refl _,Ap6 fun j v=>AV (Ai9 (x:=Pn.mk e.Pid i k) (G:=fun j=>List.take 3 (List.drop (j*3) (GP (Pn.mk e.Pid i k)))) rfl v),trivial⟩ ⟨k+1,out++[Pn.mk e.Pid i k],a,rfl,by simp;omega,?_,?_⟩⟩,fun u=>⟨ws.length - (k+1),by omega,Up.of ⟨k+1,out,a,rfl,by omega,?_,?_⟩⟩⟩
  ·grind
  ·rw[Al (by omega)];unfold Re hsR;grind
  ·grind
  grind [Al]
 ·have f:ws.length<=k:=by have:=AP p;omega
  rw[Ap2 f]at b;have b:out=r:=by simpa[DA] using b
  subst b;refine⟨Dc e GZ ws true,fun _=>Te h l (fun h=>by cases h),isSome (Dc e GZ ws true),fun _=>Wl (by rw[Sv];omega),⟨Ob.le_refl _,Ob.le_refl _,Ob.le_refl _,Ob.le_refl _,Ob.le_refl _,trivial⟩,AqV ?_⟩;grind
theorem Js {i:Int}{ws:List D.Trans}{r:List (Int × List D.Trans)}:Hu e c m ((i,ws)::r)=bif decide (0<(DA e c m i 0 ws).length)||isSome (Dc e GZ ws true) then DA e c m i 0 ws else Hu e c m r:=rfl
theorem UC {n:Nat}{l:D.Loc}(h:CA e)(t:l.Esc.length<=1048576)(q:∀ ws∈BN l,Ze e.M n ws) :
  Aj Tryz.prog 83 (hsR e c m []) [.agg (A8 l),Aof] (hsR e c m (Hu e c m (EA l))) (.tup []):=by
 generalize s:Hu e c m (EA l)=r;refine Aq Tryz.func83 (Wi r [] e c m l) ?_;refine Ar (fun g st=>∃ k:Nat,k<=l.Esc.length/\g=l.Esc.length - k/\Hu e c m (Si k (l.Esc.drop k)++[(-1,l.Out)])=r/\st=K9 e c m [] l k) ⟨l.Esc.length,Up.of ⟨0,ApD _,rfl,s,rfl⟩⟩ ?_;rintro g st ⟨k,u,rfl,b,rfl⟩;refine ApI (UD r e c m [] l k _) ⟨fun j=>?_,fun o=>?_⟩
 ·have a:k<l.Esc.length:=by have:=AL j;omega
  have p:(k:Int).toNat=k:=by omega
  rw[p];rw[Bs (d:=[]) a]at b;unfold Si at b;rw[AqG,Js]at b;refine⟨⟨by omega,by omega⟩,(DA e c m k 0 (l.Esc.getD k []),decide (0<(DA e c m k 0 (l.Esc.getD k [])).length)||isSome (Dc e GZ (l.Esc.getD k []) true)),Tc h (q _ (ApM _ (Av a))),fun f=>?_,fun f=>⟨l.Esc.length - (k+1),by omega,Up.of ⟨k+1,a,rfl,?_,?_⟩⟩⟩
  ·have f:(decide (0<(DA e c m k 0 (l.Esc.getD k [])).length)||isSome (Dc e GZ (l.Esc.getD k []) true))=true:=f;rw[f,Apy]at b;subst b;exact⟨⟨Ob.le_refl _,Ob.le_refl _,Ob.le_refl _,Ob.le_refl _,Ob.le_refl _,trivial⟩,VV.le_refl _⟩
  ·grind
  grind [ApN,ApV,ApY,Al]
 ·have i:l.Esc.length<=k:=by have:=AP o;omega
  rw[Ap2 i]at b;refine⟨(DA e c m (-1) 0 l.Out,decide (0<(DA e c m (-1) 0 l.Out).length)||isSome (Dc e GZ l.Out true)),Tc h (q _ (ApF ..)),?_,VV.le_refl _⟩;have h0:DA e c m (-1) 0 l.Out=r:=by
   rw[← b];show _=Hu e c m ([]++[(-1,l.Out)]);rw[Aq0,Js];cases f:(decide (0<(DA e c m (-1) 0 l.Out).length)||isSome (Dc e GZ l.Out true)) with
   | true=>rfl
   | false =>
    rw[ApN]at f;exact ApV (by grind)
  subst h0;exact⟨Ob.le_refl _,Ob.le_refl _,Ob.le_refl _,Ob.le_refl _,Ob.le_refl _,trivial⟩
theorem TG {N:Nat}:∀ {ls:List (Int × List D.Trans)},(∀ p∈ls,p.2.length<=N)->(Hu e c m ls).length<=N
 | [],_=>ApD _
 | (i,ws)::r,h=>by
  have h1:=h _ (ApF ..);have h2:=TG (ls:=r) fun p hp=>h p (ApM _ hp)
  have h3:=TI (e:=e) (c:=c) (m:=m) (i:=i) (ws:=ws) (k:=0);rw[Js];grind
theorem TW : ∀ {r:List (List D.Trans)} {k:Nat} {p:Int × List D.Trans},p∈Si k r->p.2∈r
 | [],_,_,h=>by cases h
 | w::r,k,p,h=>by
  rcases Aqk.1 h with rfl | h
  ·exact ApF ..
  ·exact ApM _ (TW h)
theorem AbN {l:D.Loc}{p:Int × List D.Trans}(h:p∈EA l):p.2∈BN l:=by
 rcases Ap1.1 h with h | h
 ·exact ApM _ (TW h)
 ·rw[Ap4.1 h];exact ApF ..
theorem OC (h:CA e):(Ey e c m).length<=1024:=by
 unfold Ey;cases (!(AX e).1||decide ((AX e).2≠0)) with
 | true=>exact ApD _
 | false=>exact TG fun p hp=>(h.ws (AbN hp)).len
theorem Zo (h:CA e):Aj Tryz.prog 201 [] [.agg (Ae e),Aa c,Ad true m] [] (Bl true (Ey e c m)):=by
 have a:Ey e c m=bif !(AX e).1||decide ((AX e).2≠0) then[] else Hu e c m (EA (Cy e)):=rfl
 generalize Ey e c m=r at a;refine Aq Tryz.func201 (Ad5 r e c m) ⟨AX e,QG h,fun h1=>?_,fun h1=>⟨Cy e,KU h,r,?_,trivial,VV.le_refl _⟩⟩
 ·rw[Br,AT]at h1;rw[h1,Apy]at a;rw[a];exact⟨trivial,Aqd⟩
 ·rw[Br,AT]at h1;rw[h1,Apw]at a;rw[a];exact Aj.ownB (i:=3) (j:=0) (cs:=[.nl]) rfl rfl 3 (Dj []) (UC h h.wloc.Esc.1 fun ws b=>h.ws b)
theorem CA.at (h:CA e){k:Nat}(a:k<e.S.Procs.length):CA (BA e k):=⟨⟨h.ok.fits,h.ok.may,h.ok.wf,by show -1<=(k:Int);omega,by show(k:Int)<_;exact Int.ofNat_lt.2 a⟩,by show 0<=(k:Int);omega⟩
theorem Ju (h:CA e):∀ {n:Nat},n<=e.S.Procs.length->(CD e c m n).length<=n*1024
 | 0,_=>ApD _
 | n+1,hn=>by
  have h1:=Ju h (n:=n) (by omega);have h2:=OC (c:=c) (m:=m) (h.at (k:=n) (by omega));unfold CD;grind
set_option maxRecDepth 10000 in
theorem Wf (h:CA e):MtS e (BY e):=by
 intro c m;have hp:=h.ok.fit.p;refine Aq Tryz.func186 (Zq _ e c m) ?_;refine Ax.own 3 7 3 (Dj []) rfl ?_;refine Ar (fun g st=>∃ k:Nat,k<=e.S.Procs.length/\g=e.S.Procs.length - k/\st=Nc e c m (CD e c m k) k) ⟨e.S.Procs.length,Up.of ⟨0,ApD _,rfl,rfl⟩⟩ ?_;rintro g st ⟨k,s,rfl,rfl⟩;have o:=Ju (c:=c) (m:=m) h s;refine ApI (Wg _ e c m _ k _) ⟨fun j=>?_,fun n=>⟨trivial,?_⟩⟩
 ·have a:k<e.S.Procs.length:=by have:=AL j;omega
  have t:=OC (c:=c) (m:=m) (h.at a);refine⟨fun b=>⟨Ey (BA e k) c m,Zo (h.at a),by omega,fun i _=>rfl,e.S.Procs.length - (k+1),by omega,
   Up.mk (hs':=[.box (Ae e),.arr true 0 ((CD e c m k).length+(Ey (BA e k) c m).length) 3 (Dj (CD e c m k++Ey (BA e k) c m))]) (AS _) ⟨Ob.le_refl _,Ap6 fun i hi=>AV ?_,trivial⟩ ⟨k+1,a,rfl,?_⟩⟩,fun b=>⟨e.S.Procs.length - (k+1),by omega,Up.of ⟨k+1,a,rfl,?_⟩⟩⟩
  ·exact BR (f:=GP) (d:=default) (l:=CD e c m k) (r:=Ey (BA e k) c m) (F:=Dj (CD e c m k)) (fun _ _=>rfl) (fun _ _=>rfl) (by simpa using hi)
  ·rw[AT]at b;have q:CD e c m (k+1)=CD e c m k++Ey (BA e k) c m:=by
    show CD e c m k++(bif decide ((k:Int)≠e.Pid) then _ else _)=_;rw[b,Apy]
   rw[Al (by omega),q];unfold Nc;grind
  ·rw[AT]at b;have q:CD e c m (k+1)=CD e c m k:=by
    show CD e c m k++(bif decide ((k:Int)≠e.Pid) then _ else _)=_;grind
   grind [Al]
 ·obtain rfl:k=e.S.Procs.length:=by have:=AP n;omega
  exact VV.le_refl _
end
section
variable {e : D.Env}
theorem AbO (h:CA e){c:Int}{m:List Int}:(BY e c m).length<=16384:=by
 have h1:=Ju (c:=c) (m:=m) h (ApC _);have h2:=h.ok.fit.p;have h3:e.S.Procs.length*1024<=16*1024:=ApS _ h2;exact Ap0 h1 h3
theorem AeV (h:CA e){s:D.Stmt}{self:Bool}:(Ce e (BY e) s self).wth.length<=16384:=by
 have a:([]:List Pn).length<=16384:=ApD _;unfold Ce;split
 ·cases Dz e s.A<;>exact a
 split
 ·cases Dz e s.B<;>exact a
 split
 ·exact a
 split
 ·unfold E5;grind [AbO]
 grind
theorem Ahu {mt:Int->List Int->List Pn}{ws:List D.Trans}{self:Bool}{i:Nat}:(Er e mt ws self i).wth=(Ce e mt (ws.getD i default).S self).wth:=by
 unfold Er;grind
theorem Su (h:CA e){ws:List D.Trans}{self:Bool}:∀ x∈Dc e (BY e) ws self,x.wth.length<=16384:=by
 intro x a;unfold Dc at a;grind [Aqw,Ahu,AeV]
theorem On {i:Int}{k:Nat}{x:Ab}{r:List Ab}:CP i k (x::r)=Fp i k x++CP i (k+1) r:=rfl
theorem AaD {out:List Wy}{x:Wy}{G:Nat->List VV}(a:G 0=AY x){i:Nat}(hi:i<out.length+1):(bif i.blt out.length then ER out i else G (i - out.length))=ER (out++[x]) i :=
 BR (f:=AY) (d:=default) (l:=out) (r:=[x]) (F:=ER out) (fun _ _=>rfl) (by grind) (by simp;omega)
theorem Ajc {a k j w:Nat}(h:a<=k*16385+1+j)(h1:j<=w)(h2:w<=16384):a<=(k+1)*16385:=by grind
set_option maxRecDepth 10000 in
theorem Td {n:Nat}{i:Int}{ws:List D.Trans}(h:CA e)(P:Ze e.M n ws) :
  Aj Tryz.prog 84 (hsW e []) [Aa i,Ap true ws,.bp 0 0,.bp 1 0] (hsW e (CP i 0 (Dc e (BY e) ws false))) (Ac (decide (0<(CP i 0 (Dc e (BY e) ws false)).length))):=by
 have R:(Dc e (BY e) ws false).length<=1024:=by rw[Sv];exact P.len
 have l:=Su h (ws:=ws) (self:=false);have m:=Te h P (self:=false) (fun _=>Wf h);generalize Dc e (BY e) ws false=L at R l m;generalize S:CP i 0 L=r;refine Aq Tryz.func84 (AhM r [] _ e i ws) ⟨L,m,?_⟩;refine Ar (fun g st=>∃ (k:Nat) (out:List Wy),k<=L.length/\g=L.length - k/\out.length<=k*16385/\out++CP i k (L.drop k)=r/\st=Jj e out i L k) ⟨L.length,Up.of ⟨0,[],ApD _,rfl,ApD _,S,rfl⟩⟩ ?_;rintro g st ⟨k,out,hk,rfl,T,f,rfl⟩;refine ApI (Aea r _ e out i L k _ rfl rfl rfl) ⟨fun E=>?_,fun F=>?_⟩
 ·have b:k<L.length:=by have:=AL E;omega
  have H:(k:Int).toNat=k:=by omega
  rw[H];rw[Bs (d:=default) b,On]at f;have U:=l _ (Av (d:=default) b);generalize L.getD k default=x at f U ⊢;have V:k*16385<=1024*16385:=ApS _ (by omega);have u:∀ (J:St->Prop) (out1:List Wy),out1.length<=k*16385+1->out1++(x.wth.map (Ff i k x.err)++CP i (k+1) (L.drop (k+1)))=r ->
    (∀ a,Up (fun st=>∃ out2:List Wy,out2.length<=(k+1)*16385/\out2++CP i (k+1) (L.drop (k+1))=r/\st=Jj e out2 i L ((k+1:Nat):Int)) a->J a) ->
    Ax ((B8 Tryz.prog tb CN H3 true Tryz.f84 (hsW e r) (Ac (decide (0<r.length)))).loop [1,0,1,0] J) [1,1,0,0,1,1,1,1,0] (Nb e out1 i L k ⟨i,k,-1,-1,-1,x.err⟩ x.wth 0):=by
   intro J out1 I K hJ;refine Ar (fun g st=>∃ (j:Nat) (w:Wy) (o:List Wy),j<=x.wth.length/\g=x.wth.length - j/\o.length<=k*16385+1+j/\o++((x.wth.drop j).map (Ff i k x.err)++CP i (k+1) (L.drop (k+1)))=r/\(w.Esc=i/\w.Way=k/\w.Err=x.err)/\st=Nb e o i L k w x.wth j)
    ⟨x.wth.length,Up.of ⟨0,_,out1,ApD _,rfl,I,K,⟨rfl,rfl,rfl⟩,rfl⟩⟩ ?_
   rintro g st ⟨j,w,o,hj,rfl,W,v,⟨X,w2,Y⟩,rfl⟩;refine ApI (Ad9 r _ e o i L k w x.wth j _ _ rfl) ⟨fun y=>?_,fun z=>?_⟩
   ·have c:j<x.wth.length:=by have:=AL y;omega
    have A:(j:Int).toNat=j:=by omega
    rw[A];rw[Bs (d:=default) c,Aqm,AqG]at v;generalize x.wth.getD j default=p at v ⊢;rw[X,w2,Y];refine⟨⟨by omega,by omega⟩,by omega,x.wth.length - (j+1),by omega,Up.mk (hs':=[.box (Ae e),.box [.ow 2 0 (o.length+1)],.arr true 0 (o.length+1) 6 (ER (o++[Ff i k x.err p])),.box (AY (Ff i k x.err p))]) (AS _)
     ⟨Ob.le_refl _,Ob.le_refl _,Ap6 fun t N=>AV (AaD (x:=Ff i k x.err p) (G:=fun t=>List.take 6 (List.drop (t*6) (AY (Ff i k x.err p)))) rfl N),Ob.le_refl _,trivial⟩ ⟨j+1,Ff i k x.err p,o++[Ff i k x.err p],c,rfl,by simp;omega,by grind,⟨rfl,rfl,rfl⟩,?_⟩⟩
    rw[Al (by omega)];unfold Nb hsW;grind
   ·have O:x.wth.length<=j:=by have:=AP z;omega
    grind [Ap2,AqY,Aq0,Up.of,Ajc,Al]
  have next:∀ a,Up (fun st=>∃ out2:List Wy,out2.length<=(k+1)*16385/\out2++CP i (k+1) (L.drop (k+1))=r/\st=Jj e out2 i L ((k+1:Nat):Int)) a ->
    ∃ Q,Q<L.length - k/\Up (fun st=>∃ (k:Nat) (out:List Wy),k<=L.length/\Q=L.length - k/\out.length<=k*16385/\out++CP i k (L.drop k)=r/\st=Jj e out i L k) a:=by
   rintro a ⟨Z,hc,out2,h1,h2,h3⟩;exact⟨L.length - (k+1),by omega,Z,hc,k+1,out2,b,rfl,h1,h2,h3⟩
  have ez:((x.wth.length:Int)==0)=decide (x.wth.length=0):=by grind
  refine⟨⟨by omega,by omega⟩,fun B=>⟨by omega,?_⟩,fun B=>?_⟩
  ·rw[Bh,ez]at B;have q:Fp i k x=Wy.mk i k (-1) (-1) (-1) x.err::x.wth.map (Ff i k x.err):=by unfold Fp;rw[B]<;>rfl
   rw[q]at f;refine Ax.le (hs':=[.box (Ae e),.box [.ow 2 0 (out.length+1)],.arr true 0 (out.length+1) 6 (ER (out++[Wy.mk i k (-1) (-1) (-1) x.err])),.box (AY (Wy.mk i k (-1) (-1) (-1) x.err))]) (AS _)
     ⟨Ob.le_refl _,Ob.le_refl _,Ap6 fun t N=>AV (AaD (x:=Wy.mk i k (-1) (-1) (-1) x.err) (G:=fun t=>List.take 6 (List.drop (t*6) (AY (Wy.mk i k (-1) (-1) (-1) x.err)))) rfl N),Ob.le_refl _,trivial⟩ ?_
   have s:=u _ (out++[Wy.mk i k (-1) (-1) (-1) x.err]) (by simp;omega) (by rw[Aqp];exact f) next
   unfold Nb hsW at s;rw[ApP]at s;exact s
  ·rw[Bh,ez]at B;have q:Fp i k x=x.wth.map (Ff i k x.err):=by unfold Fp;rw[B]<;>rfl
   rw[q]at f;exact u _ out (Nat.le_succ_of_le T) f next
 ·have C:L.length<=k:=by have:=AP F;omega
  rw[Ap2 C]at f;have f:out=r:=by simpa[CP] using f
  subst f;refine⟨⟨Ob.le_refl _,Ob.le_refl _,Ob.le_refl _,trivial⟩,AqV ?_⟩;simp_all
theorem Mp {i:Int}{ws:List D.Trans}{r:List (Int × List D.Trans)}:ES e ((i,ws)::r)=bif decide (0<(CP i 0 (Dc e (BY e) ws false)).length) then CP i 0 (Dc e (BY e) ws false) else ES e r:=rfl
theorem UA {n:Nat}{l:D.Loc}(h:CA e)(q:l.Esc.length<=1048576)(o:∀ ws∈BN l,Ze e.M n ws) :
  Aj Tryz.prog 83 (hsW e []) [.agg (A8 l),Aoe] (hsW e (ES e (EA l))) (.tup []):=by
 generalize p:ES e (EA l)=r;refine Aq Tryz.func83 (Wh r [] e l) ?_;refine Ar (fun g st=>∃ k:Nat,k<=l.Esc.length/\g=l.Esc.length - k/\ES e (Si k (l.Esc.drop k)++[(-1,l.Out)])=r/\st=K8 e [] l k) ⟨l.Esc.length,Up.of ⟨0,ApD _,rfl,p,rfl⟩⟩ ?_;rintro g st ⟨k,s,rfl,b,rfl⟩;refine ApI (UB r e [] l k _) ⟨fun i=>?_,fun j=>?_⟩
 ·have a:k<l.Esc.length:=by have:=AL i;omega
  have m:(k:Int).toNat=k:=by omega
  rw[m];rw[Bs (d:=[]) a]at b;unfold Si at b;rw[AqG,Mp]at b;refine⟨⟨by omega,by omega⟩,(CP k 0 (Dc e (BY e) (l.Esc.getD k []) false),decide (0<(CP k 0 (Dc e (BY e) (l.Esc.getD k []) false)).length)),Td h (o _ (ApM _ (Av a))),fun c=>?_,fun c=>⟨l.Esc.length - (k+1),by omega,Up.of ⟨k+1,a,rfl,?_,?_⟩⟩⟩
  ·have c:decide (0<(CP k 0 (Dc e (BY e) (l.Esc.getD k []) false)).length)=true:=c;rw[c,Apy]at b;subst b;exact⟨⟨Ob.le_refl _,Ob.le_refl _,Ob.le_refl _,trivial⟩,VV.le_refl _⟩
  ·grind
  grind [ApV,ApY,Al]
 ·have f:l.Esc.length<=k:=by have:=AP j;omega
  rw[Ap2 f]at b;refine⟨(CP (-1) 0 (Dc e (BY e) l.Out false),decide (0<(CP (-1) 0 (Dc e (BY e) l.Out false)).length)),Td h (o _ (ApF ..)),?_,VV.le_refl _⟩;have h0:CP (-1) 0 (Dc e (BY e) l.Out false)=r:=by
   rw[← b];show _=ES e ([]++[(-1,l.Out)]);rw[Aq0,Mp];cases c:decide (0<(CP (-1) 0 (Dc e (BY e) l.Out false)).length) with
   | true=>rfl
   | false=>exact ApV (by grind)
  subst h0;exact⟨Ob.le_refl _,Ob.le_refl _,Ob.le_refl _,trivial⟩
theorem Vz {w:Wy}{r:List Wy}(h:[w]=r):leO [] []/\VV.le (.sl true 1 6 fun i=>List.take 6 (List.drop (i*6) (AY w))) (AW true r):=by
 subst h;refine⟨trivial,AqD (.inl rfl) fun i hi=>AV ?_⟩;obtain rfl:i=0:=by omega
 rfl
theorem J6 (h:CA e):Aj Tryz.prog 44 [] [.agg (Ae e)] [] (AW true (Bt e)):=by
 have hp:=h.ok.fit.p;have a:Bt e=bif decide ((De e e.Pid).Loc=(CC e).Final) then(bif decide (e.Pid=(e.S.Procs.length:Int) - 1) then[IW 0] else[])
  else bif decide ((AX e).2≠0) then[IW (AX e).2]
  else bif !(AX e).1 then[] else ES e (EA (Cy e)):=rfl
 generalize Bt e=r at a;refine Aq Tryz.func44 (Zp r e rfl) ⟨⟨h.p0,h.ok.pid.2⟩,CC e,QH h,fun h1=>⟨fun h2=>⟨IW 0,QI,Vz ?_⟩,fun h2=>?_⟩,
  fun h1=>⟨AX e,QG h,fun h2=>⟨IW (AX e).2,QI,Vz ?_⟩,fun h2=>⟨fun h3=>?_,fun h3=>⟨Cy e,KU h,ES e (EA (Cy e)),?_,?_⟩⟩⟩⟩
 ·rw[ieq]at h1;rw[AK (by omega) (by omega),ieq]at h2;rw[a,show decide ((De e e.Pid).Loc=(CC e).Final)=true from h1,h2]<;>rfl
 ·rw[ieq]at h1;rw[AK (by omega) (by omega),ieq]at h2;rw[a,show decide ((De e e.Pid).Loc=(CC e).Final)=true from h1,h2];exact⟨trivial,Aqd⟩
 ·rw[ieq]at h1;rw[AT]at h2;rw[a,show decide ((De e e.Pid).Loc=(CC e).Final)=false from h1,h2]<;>rfl
 ·rw[ieq]at h1;rw[AT]at h2;rw[a,show decide ((De e e.Pid).Loc=(CC e).Final)=false from h1,h2,h3];exact⟨trivial,Aqd⟩
 ·exact Aj.ownB (i:=1) (j:=0) (cs:=[.nl]) rfl rfl 6 (ER []) (UA h h.wloc.Esc.1 fun ws b=>h.ws b)
 ·rw[ieq]at h1;rw[AT]at h2;rw[a,show decide ((De e e.Pid).Loc=(CC e).Final)=false from h1,h2,h3];exact⟨trivial,VV.le_refl _⟩
theorem QK (b:AG e.M)(hs:Bq e.S):Aj Tryz.prog 53 [] [.agg (Ae e)] [] (.tup [AW true (EN e).1,Aa (EN e).2]):=by
 have a:EN e=bif decide (HH e≠0) then([],HH e) else(Bt e,0):=rfl
 generalize EN e=r at a;refine Aq Tryz.func53 (Aer r e) ⟨HH e,Wm b hs,fun h1=>?_,fun h1=>⟨Bt e,J6 (Ahd b (by simpa using h1)),?_⟩⟩
 ·rw[AT]at h1;rw[a,h1];exact⟨trivial,Aq4 ⟨Aqd,VV.le_refl _,trivial⟩⟩
 ·rw[AT]at h1;rw[a,h1];exact⟨trivial,VV.le_refl _⟩
def Yt (w:Wy):Nat->List Wy->Int
 | _,[]=>-1
 | k,x::r=>bif decide (w=x) then(k:Int) else Yt w (k+1) r
theorem Ua {w x:Wy}{k:Nat}{r:List Wy}:Yt w k (x::r)=bif decide (w=x) then(k:Int) else Yt w (k+1) r:=rfl
theorem Ys {w:Wy}:∀ {l:List Wy} {k:Nat},decide (Yt w k l>=0)=decide (w∈l)
 | [],k=>by simp[Yt]
 | x::r,k=>by
  have ih:=Ys (w:=w) (l:=r) (k:=k+1);rw[Ua];grind
theorem Aoo {w x:Wy}:(w.Esc==x.Esc&&(w.Way==x.Way&&(w.With==x.With&&(w.WithEsc==x.WithEsc&&(w.WithWay==x.WithWay&&(w.Err==x.Err&&true))))))=decide (w=x):=by
 obtain⟨a,b,c,d,f,g⟩:=w;obtain⟨b1,b2,b3,b4,h,i⟩:=x;rw[Aqe];simp
theorem Zt {l:List Wy}{w:Wy}(j:l.length<=1099511627776):Aj Tryz.prog 86 [] [AW true l,.agg (AY w)] [] (Aa (Yt w 0 l)):=by
 refine Aq Tryz.func86 (Aeg _ l w) ?_;refine As l.length (fun k=>P3 l w k) (fun k=>Yt w 0 l=Yt w k (l.drop k)) rfl ?_;intro k m h J next
 refine ApI (Zu _ l w k J rfl) ⟨fun c=>?_,fun f=>BK ?_⟩
 ·have a:k<l.length:=by have:=AL c;omega
  have g:(k:Int).toNat=k:=by omega
  rw[g,Aoo];rw[Bs (d:=default) a,Ua]at h;refine⟨by omega,fun i=>BK ?_,fun i=>next _ a ?_ (Up.of ?_)⟩
  ·grind
  ·grind
  grind [Al]
 ·have b:l.length<=k:=by have:=AP f;omega
  rw[h,Ap2 b]<;>rfl
theorem Wk {l:List Wy}{w:Wy}(a:l.length<=1099511627776):Aj Tryz.prog 47 [] [AW true l,.agg (AY w)] [] (Ac (decide (w∈l))) :=
 Aq Tryz.func47 (ZD _ l w) ⟨_,Zt a,Aw Ys⟩
end
def AiC : Shp:={ α:=List D.Trans,enc:=fun y=>([],Ap true y) }
def Xc : Shp:={ α:=D.Proc,enc:=fun y=>([],.agg (A4 y)) }
def Bc (f:FuncId):Shp :=
 bif Nat.beq f 98||Nat.beq f 67||Nat.beq f 106||Nat.beq f 112||Nat.beq f 5 then Aae else bif Nat.beq f 70 then AiF else bif Nat.beq f 71 then AoA else bif Nat.beq f 37 then Ac6 else bif Nat.beq f 26 then Ro else bif Nat.beq f 21 then AiC else bif Nat.beq f 16 then Xc else Alo
def I5 : Ann:={ keep:=fun
  | [0,1,0,1,1,1,1,1,1]=>[1,2,6,7,8]
  | _=>[] }
def MO : Ann:={ keep:=fun
  | [0,1,0,1,1,1]=>[1,3,4]
  | _=>[] }
def MM : Ann:={ keep:=fun
  | [0,1,0,1]=>[0,1,5]
  | _=>[] }
def MN : Ann:={ keep:=fun
  | [0,1,0,1,1]=>[1,3]
  | _=>[] }
def MP : Ann:={ keep:=fun
  | [0,1,0,1]=>[0,1,5]
  | _=>[] }
def Bx : Ann:={ cut:=(fun | [1,1,1,1]=>true | [1,1,1,1,1]=>true | [1,1,1,1,1,1]=>true | [1,1,1,1,1,1,1]=>true | _=>false),keep:=fun
  | [0,1,1,0,1,0,1,1,1,1,1,1,1]=>[1,3,5]
  | [1,1,1,1]=>[1,3,4]
  | [1,1,1,1,1]=>[1,3,4]
  | [1,1,1,1,1,1]=>[1,3]
  | [1,1,1,1,1,1,1]=>[1,3]
  | _=>[] }
def O7 : Ann:={ keep:=fun
  | [0,1,0,1,1,1,1,1]=>[1,5,9]
  | _=>[] }
def JN : Ann:={ keep:=fun
  | [0,1,0,1,1,1]=>[2,3,4,10]
  | _=>[] }
def LP : Ann:={ keep:=fun
  | [0,1,0,1,1,1,1,1]=>[1,2,5,6,7,8]
  | _=>[] }
def Fd : Ann:={ keep:=fun
  | [0,1,0,1,1,1,1,1,1,1]=>[1,2,5,7,8]
  | [0,1,1,1,1,0,0,1,0,0,1,0,1,1,1,1,1,1,1]=>[1,2,5,7,8,10,11]
  | [0,1,1,1,0,0,1,0,0,1,1,1,1,0,0,1,0,0,1,0,1,1,1,1,1,1,1]=>[1,2,5,7,8,10,11,12]
  | _=>[] }
def LO : Ann:={ keep:=fun
  | [0,1,0,1,1,0,1,1,1,1,1,1,1,1,1,0,1,0,1,1,1,1,1,1,1]=>[2,3,12]
  | _=>[] }
def O8 : Ann:={ keep:=fun
  | [0,1,0,1,1,1,1,1]=>[1,4,10,11]
  | _=>[] }
def H5 : Ann:={ keep:=fun
  | [0,1,0,1,1,1,1,1]=>[1,3,5,8]
  | _=>[] }
def Ec : Ann:={ keep:=fun
  | [0,1,0,1,1]=>[1,2,5,6]
  | [0,1,1,0,0,1,0,0,1,0,1,1]=>[1,2,5,6,7,8]
  | [0,1,0,0,1,0,0,1,1,0,0,1,0,0,1,0,1,1]=>[1,2,5,6,7,8,9]
  | _=>[] }
def Dm : Ann:={ keep:=fun
  | [0,1,0,1,1,1,1,1]=>[1,5]
  | [0,1,0,1,1,1,1,1,1]=>[1,7]
  | [0,1,0,1,1,1,1,1,1,1,1,1]=>[1,8,9]
  | [0,1,1,1,1,0,0,1,0,0,1,0,1,1,1,1,1,1,1,1,1]=>[1,8,9,11,12]
  | _=>[] }
def H7 : Ann:={ keep:=fun
  | [0,1,0,1,1,1,1]=>[1,7,8]
  | [0,1,0,1,1,1,1,1,1]=>[1,10]
  | _=>[] }
def KN : Ann:={ keep:=fun
  | [0,1,0,1,1]=>[0,1,5]
  | _=>[] }
def H6 : Ann:={ keep:=fun
  | [0,1,0,1,1,1,1]=>[2,3,6]
  | [0,1,1,1,0,0,1,0,0,1,0,1,1,1,1]=>[2,3,6,7,8]
  | [0,1,0,1,1,1,1,1]=>[2,3,9]
  | _=>[] }
def Lb (t:D.Type)(v most n i:Int):St:=Ay [(1,Aa v),(2,.bp 0 0),(6,Aa most),(7,Aa n),(8,Aa i)] [.box (BM t)]
def Ni (v:D.Var)(n k:Int):St:=Ay [(1,.bp 0 0),(3,Aa n),(4,Aa k)] [.box (Bz v)]
def IM (t:List D.Type)(v:List Int)(k:Int):St:=Ay [(0,AC true t),(1,Ad true v),(5,Aa k)] []
def Nh (s:D.Shape)(k:Int):St:=Ay [(1,.bp 0 0),(3,Aa k)] [.box (D0 s)]
def Nl (fz:Bool)(a:Int)(l:List Int)(k:Int):St:=Ay [(0,Aa a),(1,Ad fz l),(5,Aa k)] []
def Qe (x:D.Expr)(l:List Int)(k:Int):St:=Ay [(1,.bp 0 0),(3,.ow 1 0 l.length),(5,Aa k)] [.box (Az x),.arr true 0 l.length 1 (AJ l)]
def Gr (x:D.Expr)(l:List Int)(n:Int):St:=Ay [(1,.bp 0 0),(3,.ow 1 0 l.length),(4,Aa n)] [.box (Az x),.arr true 0 l.length 1 (AJ l)]
def IP (x:D.Expr)(l:List Int):St:=Ay [(1,.bp 0 0),(3,.ow 1 0 l.length)] [.box (Az x),.arr true 0 l.length 1 (AJ l)]
def P9 (a:Int)(v:D.Var)(k:Int):St:=Ay [(1,Aa a),(5,.bp 0 0),(9,Aa k)] [.box (Bz v)]
def Jk (m:D.Model)(args mt:List Int)(k:Int):St:=Ay [(2,Ad true args),(3,Ad true mt),(4,.bp 0 0),(10,Aa k)] [.box (Af m)]
def Qf (m:D.Model)(a:Int)(x:D.Expr)(n k:Int):St:=Ay [(1,Aa a),(2,.bp 0 0),(5,.bp 1 0),(6,Aa n),(7,.ow 2 0 3),(8,Aa k)] [.box (Af m),.box (Az x),.arr true 0 3 1 (AJ [x.A,x.B,x.C])]
def Ha (m:D.Model)(a:Int)(p:D.Proc)(many k:Int):St:=Ay [(1,Aa a),(2,.bp 0 0),(5,.bp 1 0),(7,Aa many),(8,Aa k)] [.box (Af m),.box (A4 p)]
def IN (m:D.Model)(a:Int)(p:D.Proc)(many k:Int)(ws:List (List D.Trans))(j:Int):St:=Ay [(1,Aa a),(2,.bp 0 0),(5,.bp 1 0),(7,Aa many),(8,Aa k),(10,Bk true ws),(11,Aa j)] [.box (Af m),.box (A4 p)]
def La (m:D.Model)(a:Int)(p:D.Proc)(many k:Int)(ws:List (List D.Trans))(j h:Int):St:=Ay [(1,Aa a),(2,.bp 0 0),(5,.bp 1 0),(7,Aa many),(8,Aa k),(10,Bk true ws),(11,Aa j),(12,Aa h)] [.box (Af m),.box (A4 p)]
def Ng (m:D.Model)(s:D.Stmt)(k:Int):St:=Ay [(2,.bp 0 0),(3,.bp 1 0),(12,Aa k)] [.box (Af m),.box (Au s)]
def Qa (m:D.Model)(a:Int)(l:List Int)(k:Int):St:=Ay [(1,Aa a),(4,.bp 0 0),(10,Ad true l),(11,Aa k)] [.box (Af m)]
def Km (m:D.Model)(a:Int)(s:D.Stmt)(k:Int):St:=Ay [(1,Aa a),(3,.bp 0 0),(5,.bp 1 0),(8,Aa k)] [.box (Af m),.box (Au s)]
def IL (m:D.Model)(a:Int)(p:D.Proc)(k:Int):St:=Ay [(1,Aa a),(2,.bp 0 0),(5,.bp 1 0),(6,Aa k)] [.box (Af m),.box (A4 p)]
def Kl (m:D.Model)(a:Int)(p:D.Proc)(k:Int)(ws:List (List D.Trans))(j:Int):St:=Ay [(1,Aa a),(2,.bp 0 0),(5,.bp 1 0),(6,Aa k),(7,Bk true ws),(8,Aa j)] [.box (Af m),.box (A4 p)]
def Nf (m:D.Model)(a:Int)(p:D.Proc)(k:Int)(ws:List (List D.Trans))(j h:Int):St:=Ay [(1,Aa a),(2,.bp 0 0),(5,.bp 1 0),(6,Aa k),(7,Bk true ws),(8,Aa j),(9,Aa h)] [.box (Af m),.box (A4 p)]
def Qc (m:D.Model)(k:Int):St:=Ay [(1,.bp 0 0),(5,Aa k)] [.box (Af m)]
def Qb (m:D.Model)(k:Int):St:=Ay [(1,.bp 0 0),(7,Aa k)] [.box (Af m)]
def UZ (m:D.Model)(had:List Bool)(k:Int):St:=Ay [(1,.bp 0 0),(8,.ow 1 0 had.length),(9,Aa k)] [.box (Af m),.arr true 0 had.length 1 (Ex had)]
def UY (m:D.Model)(had:List Bool)(k:Int)(l:List Int)(j:Int):St:=Ay [(1,.bp 0 0),(8,.ow 1 0 had.length),(9,Aa k),(11,Ad true l),(12,Aa j)] [.box (Af m),.arr true 0 had.length 1 (Ex had)]
def Ld (m:D.Model)(many k:Int):St:=Ay [(1,.bp 0 0),(7,Aa many),(8,Aa k)] [.box (Af m)]
def Lc (m:D.Model)(k:Int):St:=Ay [(1,.bp 0 0),(10,Aa k)] [.box (Af m)]
def Tt (t:List D.Type)(l:List Int)(k:Int):St:=Ay [(0,AC true t),(1,Ad true l),(5,Aa k)] []
def Nk (m:D.Model)(s:D.State)(k:Int):St:=Ay [(2,.bp 0 0),(3,.bp 1 0),(6,Aa k)] [.box (Af m),.box (Ah s)]
def Qd (m:D.Model)(s:D.State)(k:Int)(c:D.Chan)(j:Int):St:=Ay [(2,.bp 0 0),(3,.bp 1 0),(6,Aa k),(7,.bp 2 0),(8,Aa j)] [.box (Af m),.box (Ah s),.box (AM c)]
def Nj (m:D.Model)(s:D.State)(k:Int):St:=Ay [(2,.bp 0 0),(3,.bp 1 0),(9,Aa k)] [.box (Af m),.box (Ah s)]
set_option maxRecDepth 100000
theorem Ai6 (b:Bool)(t:D.Type):(fc Bc AQ Tryz.f66 [] (Ac b)).goal (St.init [] [.agg (BM t)]) =
  (LQ (Ac (bif bif decide (t.Bits>=1) then decide (t.Bits<=32) else false then bif bif !t.Signed then true else t.Bits==16 then true else t.Bits==32 else false)) (Ac b)):=by kernel_rfl
theorem AfJ (b:Bool)(t:D.Type)(v:Int):(fc Bc I5 Tryz.f36 [] (Ac b)).goal (St.init [] [.agg (BM t),Aa v]) =
  (∃ (y:Bool),VC 66 [VV.agg (BM t)] (Ac y)/\BB (!y) (LQ (Ac false) (Ac b)) (BB t.Signed (Ax (fc Bc I5 Tryz.f36 [] (Ac b)) [1,1,1,1,1,1,0,1,0] (Lb t v (1:Int) (IntKind.i64.wrap (t.Bits - (1:Int))) (0:Int))) (Ax (fc Bc I5 Tryz.f36 [] (Ac b)) [1,1,1,1,1,1,0,1,0] (Lb t v (1:Int) t.Bits (0:Int))))):=by kernel_rfl
theorem AaA (r:Int)(v:D.Var):(fc Bc MO Tryz.f98 [] (Aa r)).goal (St.init [] [.agg (Bz v)]) =
  (BB (bif bif decide (v.Slot<0) then true else decide (v.Slot > 1073741824) then true else decide ((↑v.Dims.length:Int) > 4)) (LQ (Aa 0) (Aa r)) (Ax (fc Bc MO Tryz.f98 [] (Aa r)) [1,1,1,0,1,0] (Ni v (IntKind.i64.wrap (v.Slot+(1:Int))) (0:Int)))):=by kernel_rfl
theorem Aat (r:Int)(t:List D.Type)(v:List Int):(fc Bc MM Tryz.f67 [] (Aa r)).goal (St.init [] [AC true t,Ad true v]) =
  (Ax (fc Bc MM Tryz.f67 [] (Aa r)) [1,0,1,0] (IM t v (0:Int))):=by kernel_rfl
theorem Aay (b:Bool)(s:D.Shape):(fc Bc MN Tryz.f68 [] (Ac b)).goal (St.init [] [.agg (D0 s)]) =
  (BB (bif bif bif decide (s.Room<0) then true else decide (s.Room > 16) then true else decide ((↑s.Fields.length:Int)<1) then true else decide ((↑s.Fields.length:Int) > 8)) (LQ (Ac false) (Ac b)) (Ax (fc Bc MN Tryz.f68 [] (Ac b)) [1,1,0,1,0] (Nh s (0:Int)))):=by kernel_rfl
theorem Xx (b:Bool)(m:D.Model)(n:Int):(fc Bc AQ Tryz.f108 [] (Ac b)).goal (St.init [] [.agg (Af m),Aa n]) =
  (LQ (Ac (bif bif decide (n>=0) then decide (n<(↑m.Procs.length:Int)) else false then n != m.Claim else false)) (Ac b)):=by kernel_rfl
theorem AaS (b:Bool)(a:Int)(l:List Int):(fc Bc MP Tryz.f107 [] (Ac b)).goal (St.init [] [Aa a,Ad false l]) =
  (Ax (fc Bc MP Tryz.f107 [] (Ac b)) [1,0,1,0] (Nl false a l (0:Int))):=by kernel_rfl
theorem AaB (r:Int)(op:Int){z1}(a:z1=BB (op==24) (LQ (Aa 3) (Aa r)) (BB (bif decide (op>=6) then decide (op<=23) else false) (LQ (Aa 2) (Aa r)) (LQ (Aa 1) (Aa r)))){z2}(b:z2=LQ (Aa 0) (Aa r)):(fc Bc AQ Tryz.f106 [] (Aa r)).goal (St.init [] [Aa op]) =
  (BB (op==1) (BB (op==1) z2 z1) (BB (op==2) (BB (op==2) z2 z1) (BB (op==31) (BB (op==31) z2 z1) (BB (op==32) (BB (op==32) z2 z1) (BB (op==33) (BB (op==33) z2 z1) (BB (op==34) (BB (op==34) z2 z1) (BB (op==35) (BB (op==35) z2 z1) (BB (op==39) z2 z1)))))))):=by subst a b;kernel_rfl
theorem AfI (r:List Int)(x:D.Expr){a}(b:a=fc Bc Bx Tryz.f70 [] (Ad true r)):(fc Bc Bx Tryz.f70 [] (Ad true r)).goal (St.init [] [.agg (Az x)]) =
  (∃ (y:Int),VC 106 [Aa x.Op] (Aa y)/\BB (decide (y>=1)) (1*8<=140737488355328/\Ax a [1,1,1,1] (Ay [(1,.bp 0 0),(3,.ow 1 0 1),(4,Aa y)] [.box (Az x),.arr true 0 1 1 fun(i:Nat)=>List.take 1 (List.drop (i*1) [Aa x.A])])) (Ax a [1,1,1,1] (Ay [(1,.bp 0 0),(3,.nl),(4,Aa y)] [.box (Az x)]))):=by subst b;kernel_rfl
theorem Afv (b:Bool)(m:D.Model)(a:Int)(v:D.Var):(fc Bc O7 Tryz.f109 [] (Ac b)).goal (St.init [] [.agg (Af m),Aa a,.agg (Bz v)]) =
  (BB (bif bif bif bif decide (v.Scope<0) then true else decide (v.Scope > 2) then true else decide (v.Slot<0) then true else decide (v.Slot > 128) then true else decide ((↑v.Dims.length:Int) > 4)) (LQ (Ac false) (Ac b)) (∃ (y:Bool),VC 107 [Aa a,VV.sl false 1 1 fun(i:Nat)=>List.take 1 (List.drop (i*1) [Aa v.Who])] (Ac y)/\∃ (c:Bool),VC 108 [VV.agg (Af m),Aa v.Type_] (Ac c)/\BB (bif bif v.Scope==2 then bif !y then true else !c else false then true else bif v.Scope != 2 then bif v.Who != (-1:Int) then true else v.Type_ != (-1:Int) else false) (LQ (Ac false) (Ac b)) (Ax (fc Bc O7 Tryz.f109 [] (Ac b)) [1,1,1,1,1,0,1,0] (P9 a v (0:Int))))):=by kernel_rfl
theorem Va (b:Bool)(m:D.Model)(a:Int)(args mt:List Int):(fc Bc JN Tryz.f110 [] (Ac b)).goal (St.init [] [.agg (Af m),Aa a,Ad true args,Ad true mt]) =
  (∃ (y:Bool),VC 107 [Aa a,Ad true args] (Ac y)/\BB (bif bif bif !y then true else decide ((↑args.length:Int)<1) then true else decide ((↑args.length:Int) > 8) then true else(↑mt.length:Int) != (↑args.length:Int)) (LQ (Ac false) (Ac b)) (Ax (fc Bc JN Tryz.f110 [] (Ac b)) [1,1,1,0,1,0] (Jk m args mt (0:Int)))):=by kernel_rfl
theorem AfK (b:Bool)(m:D.Model)(a:Int){c}(d:c=m.Exprs.getD a.toNat default):(fc Bc LP Tryz.f69 [] (Ac b)).goal (St.init [] [.agg (Af m),Aa a]) =
  (inX a m.Exprs.length/\BB (bif decide (c.Op<1) then true else decide (c.Op > 39)) (LQ (Ac false) (Ac b)) (∃ (y:Int),VC 106 [Aa c.Op] (Aa y)/\Ax (fc Bc LP Tryz.f69 [] (Ac b)) [1,1,1,1,1,0,1,0] (Ay [(1,Aa a),(2,.bp 0 0),(5,.bp 1 0),(6,Aa y),(7,.ow 2 0 3),(8,Aa 0)] [.box (Af m),.box (Az c),.arr true 0 3 1 fun(i:Nat)=>List.take 1 (List.drop (i*1) [Aa c.A,Aa c.B,Aa c.C])]))):=by subst d;kernel_rfl
theorem Afs (r:List (List D.Trans))(l:D.Loc):(fc Bc AQ Tryz.f71 [] (Bk true r)).goal (St.init [] [.agg (A8 l)]) =
  (1*24<=140737488355328/\(1+l.Esc.length)*24<=140737488355328/\(∀ (i:Nat),i<l.Esc.length->((fun(i:Nat)=>[Ap true (l.Esc.getD i [])]) i).all VV.mem1=true)/\LQ (VV.sl true (1+l.Esc.length) 1 fun(i:Nat)=>bif i.blt 1 then(fun(i:Nat)=>List.take 1 (List.drop (i*1) [Ap true l.Out])) i else[Ap true (l.Esc.getD (i - 1) [])]) (Bk true r)):=by kernel_rfl
theorem Aav (b:Bool)(m:D.Model)(a:Int){c}(g:c=m.Procs.getD a.toNat default){d}(h:d=(↑c.Frame.length:Int)){e}(i:e=(↑c.Locs.length:Int)){f}(j:f=LQ (Ac false) (Ac b)):(fc Bc Fd Tryz.f38 [] (Ac b)).goal (St.init [] [.agg (Af m),Aa a]) =
  (inX a m.Procs.length/\BB (bif bif bif bif bif decide (d > 128) then true else(↑c.Init.length:Int) != d then true else decide (c.Params<0) then true else decide (c.Params > d) then true else decide (e<1) then true else decide (e > 256)) f (∃ (y:Int),VC 67 [AC true c.Frame,Ad true c.Init] (Aa y)/\BB (bif bif bif bif bif bif bif bif bif bif decide (y>=0) then true else decide (c.Start<0) then true else decide (c.Start>=e) then true else decide (c.Final<0) then true else decide (c.Final>=e) then true else decide (c.Active<0) then true else decide (c.Active > 16) then true else decide (c.Prio<1) then true else decide (c.Prio > 255) then true else decide (c.Provided<(-1:Int)) then true else decide (c.Provided>=(↑m.Exprs.length:Int))) f (BB (bif a==m.Claim then bif bif decide (d > 0) then true else decide (c.Active > 0) then true else decide (c.Provided>=0) else false) f (Ax (fc Bc Fd Tryz.f38 [] (Ac b)) [1,1,1,1,1,1,1,0,1,0] (Ha m a c (0:Int) (0:Int)))))):=by subst g h i j;kernel_rfl
theorem Xn (b:Bool)(m:D.Model)(a:Int){z1}(c:z1=m.Exprs.getD a.toNat default):(fc Bc AQ Tryz.f145 [] (Ac b)).goal (St.init [] [.agg (Af m),Aa a]) =
  (((true&&(bif decide (a>=0) then decide (a<(↑m.Exprs.length:Int)) else false)==true)=true->inX a m.Exprs.length)/\((true&&(bif bif decide (a>=0) then decide (a<(↑m.Exprs.length:Int)) else false then z1.Op==2 else false)==true)=true->inX a m.Exprs.length)/\LQ (Ac (bif bif bif decide (a>=0) then decide (a<(↑m.Exprs.length:Int)) else false then z1.Op==2 else false then z1.V.Scope != 2 else false)) (Ac b)):=by subst c;kernel_rfl
theorem AfB (b:Bool)(m:D.Model)(s:D.Stmt){c}(d:c=fun(y a:Bool)=>BB (s.Kind==4) (LQ (Ac (bif bif bif bif bif s.A==(-1:Int) then s.B==(-1:Int) else false then a else false then(↑s.Match.length:Int)==0 else false then s.N==0 else false then decide ((↑s.Text.size:Int)<=256) else false)) (Ac b)) (BB (s.Kind==5) (LQ (Ac (bif bif bif bif bif bif bif bif decide (s.A>=0) then decide (s.A<(↑m.Exprs.length:Int)) else false then s.B==(-1:Int) else false then a else false then decide ((↑s.Args.length:Int)>=1) else false then decide ((↑s.Args.length:Int)<=8) else false then(↑s.Match.length:Int)==0 else false then bif s.N==0 then true else s.N==1 else false then s.Text.toList==(⟨#[]⟩:ByteArray).toList else false)) (Ac b)) (BB (s.Kind==6) (∃ (y:Bool),VC 110 [VV.agg (Af m),Aa (↑m.Exprs.length:Int),Ad true s.Args,Ad true s.Match] (Ac y)/\BB (bif bif bif bif bif !bif decide (s.A>=0) then decide (s.A<(↑m.Exprs.length:Int)) else false then true else s.B != (-1:Int) then true else !y then true else decide (s.N<0) then true else decide (s.N > 3) then true else !s.Text.toList==(⟨#[]⟩:ByteArray).toList) (LQ (Ac false) (Ac b)) (Ax (fc Bc LO Tryz.f111 [] (Ac b)) [1,1,1,1,1,1,1,0,1,0,1,1,1,1,1,1,1,1,1,0,1,1,0,1,0] (Ng m s (0:Int)))) (BB (s.Kind==7) (BB (s.Kind==7) (LQ (Ac (bif bif bif bif s.A==(-1:Int) then s.B==(-1:Int) else false then bif (↑s.Args.length:Int)==0 then(↑s.Match.length:Int)==0 else false else false then s.N==0 else false then s.Text.toList==(⟨#[]⟩:ByteArray).toList else false)) (Ac b)) (BB (s.Kind==9) (LQ (Ac (bif bif bif bif bif y then s.B==(-1:Int) else false then bif (↑s.Args.length:Int)==0 then(↑s.Match.length:Int)==0 else false else false then decide (s.N>=0) else false then decide (s.N<(↑m.Shapes.length:Int)) else false then s.Text.toList==(⟨#[]⟩:ByteArray).toList else false)) (Ac b)) (LQ (Ac false) (Ac b)))) (BB (s.Kind==8) (LQ (Ac (bif bif bif bif s.A==(-1:Int) then s.B==(-1:Int) else false then bif (↑s.Args.length:Int)==0 then(↑s.Match.length:Int)==0 else false else false then s.N==0 else false then s.Text.toList==(⟨#[]⟩:ByteArray).toList else false)) (Ac b)) (BB (s.Kind==9) (LQ (Ac (bif bif bif bif bif y then s.B==(-1:Int) else false then bif (↑s.Args.length:Int)==0 then(↑s.Match.length:Int)==0 else false else false then decide (s.N>=0) else false then decide (s.N<(↑m.Shapes.length:Int)) else false then s.Text.toList==(⟨#[]⟩:ByteArray).toList else false)) (Ac b)) (LQ (Ac false) (Ac b)))))))){e}(f:e=LQ (Ac (bif bif bif bif bif decide (s.A>=0) then decide (s.A<(↑m.Exprs.length:Int)) else false then s.B==(-1:Int) else false then bif (↑s.Args.length:Int)==0 then(↑s.Match.length:Int)==0 else false else false then s.N==0 else false then s.Text.toList==(⟨#[]⟩:ByteArray).toList else false)) (Ac b)){g}(h:g=fun(y:Bool)=>LQ (Ac (bif bif bif bif y then bif decide (s.B>=0) then decide (s.B<(↑m.Exprs.length:Int)) else false else false then bif (↑s.Args.length:Int)==0 then(↑s.Match.length:Int)==0 else false else false then s.N==0 else false then s.Text.toList==(⟨#[]⟩:ByteArray).toList else false)) (Ac b)):(fc Bc LO Tryz.f111 [] (Ac b)).goal (St.init [] [.agg (Af m),.agg (Au s)]) =
  (∃ (y:Bool),VC 145 [.agg (Af m),Aa s.A] (Ac y)/\∃ (a:Bool),VC 107 [Aa (↑m.Exprs.length:Int),Ad true s.Args] (Ac a)/\BB (s.Kind==1) (BB (s.Kind==1) e (BB (s.Kind==2) (g y) (c y a))) (BB (s.Kind==3) e (BB (s.Kind==2) (g y) (c y a)))):=by subst d f h;kernel_rfl
theorem AfC (r:Int)(m:D.Model)(a:Int)(v:D.Var):(fc Bc AQ Tryz.f112 [] (Aa r)).goal (St.init [] [.agg (Af m),Aa a,.agg (Bz v)]) =
  (BB (v.Scope==0) (LQ (Aa (↑m.Globals.length:Int)) (Aa r)) (BB (v.Scope==1) (inX a m.Procs.length/\LQ (Aa (↑(m.Procs.getD a.toNat default).Frame.length:Int)) (Aa r)) (inX v.Type_ m.Procs.length/\LQ (Aa (↑(m.Procs.getD v.Type_.toNat default).Frame.length:Int)) (Aa r)))):=by kernel_rfl
theorem Afw (b:Bool)(m:D.Model)(a k:Int)(run:Bool){c}(e:c=m.Exprs.getD k.toNat default):(fc Bc O8 Tryz.f73 [] (Ac b)).goal (St.init [] [.agg (Af m),Aa a,Aa k,Ac run]) =
  (inX k m.Exprs.length/\BB (bif bif c.Op==39 then !run else false then true else bif a==m.Claim then bif bif c.Op==31 then true else c.Op==39 then true else bif c.Op==2 then c.V.Scope==1 else false else false) (LQ (Ac false) (Ac b)) (∃ (y:Int),((true&&(c.Op==2)==true)=true->VC 98 [.agg (Bz c.V)] (Aa y))/\∃ (d:Int),((true&&(c.Op==2)==true)=true->VC 112 [.agg (Af m),Aa a,.agg (Bz c.V)] (Aa d))/\BB (bif c.Op==2 then decide (y > d) else false) (LQ (Ac false) (Ac b)) (∃ (y:List Int),VC 70 [.agg (Az c)] (Ad true y)/\Ax (fc Bc O8 Tryz.f73 [] (Ac b)) [1,1,1,1,1,0,1,0] (Qa m a y (0:Int))))):=by subst e;kernel_rfl
theorem Ai4 (b:Bool)(m:D.Model)(a:Int)(s:D.Stmt){c}(d:c=BB (decide (s.B>=0)) (∃ (y:Bool),VC 73 [VV.agg (Af m),Aa a,Aa s.B,Ac (s.Kind==2)] (Ac y)/\BB (!y) (LQ (Ac false) (Ac b)) (Ax (fc Bc H5 Tryz.f72 [] (Ac b)) [1,1,1,1,1,0,1,0] (Km m a s (0:Int)))) (Ax (fc Bc H5 Tryz.f72 [] (Ac b)) [1,1,1,1,1,0,1,0] (Km m a s (0:Int)))):(fc Bc H5 Tryz.f72 [] (Ac b)).goal (St.init [] [.agg (Af m),Aa a,.agg (Au s)]) =
  (∃ (y:Bool),VC 111 [.agg (Af m),.agg (Au s)] (Ac y)/\BB (bif !y then true else bif bif bif bif a==m.Claim then s.Kind != 1 else false then s.Kind != 3 else false then s.Kind != 7 else false then s.Kind != 8 else false) (LQ (Ac false) (Ac b)) (BB (decide (s.A>=0)) (∃ (y:Bool),VC 73 [.agg (Af m),Aa a,Aa s.A,Ac (s.Kind==1)] (Ac y)/\BB (!y) (LQ (Ac false) (Ac b)) c) c)):=by subst d;kernel_rfl
theorem U4 (b:Bool)(m:D.Model)(a:Int):(fc Bc Ec Tryz.f39 [] (Ac b)).goal (St.init [] [.agg (Af m),Aa a]) =
  (inX a m.Procs.length/\Ax (fc Bc Ec Tryz.f39 [] (Ac b)) [1,1,0,1,0] (IL m a (m.Procs.getD a.toNat default) (0:Int))):=by kernel_rfl
theorem Xo (r e:Int)(m:D.Model):(fc Bc Dm Tryz.f37 [] (.tup [Aa r,Aa e])).goal (St.init [] [.agg (Af m)]) =
  (BB (bif decide ((↑m.Globals.length:Int) > 128) then true else(↑m.Init.length:Int) != (↑m.Globals.length:Int)) (LQ (VV.tup [Aa 1,Aa (-1)]) (VV.tup [Aa r,Aa e])) (∃ (y:Int),VC 67 [AC true m.Globals,Ad true m.Init] (Aa y)/\BB (decide (y>=0)) (LQ (VV.tup [Aa 1,Aa y]) (VV.tup [Aa r,Aa e])) (BB (bif decide ((↑m.Shapes.length:Int) > 32) then true else decide ((↑m.Chans.length:Int) > 32)) (LQ (VV.tup [Aa 2,Aa (-1)]) (VV.tup [Aa r,Aa e])) (Ax (fc Bc Dm Tryz.f37 [] (VV.tup [Aa r,Aa e])) [1,1,1,1,1,0,1,0] (Qc m (0:Int)))))):=by kernel_rfl
theorem AaR (r e f:Int)(m:D.Model):(fc Bc H7 Tryz.f26 [] (.tup [Aa r,Aa e,Aa f])).goal (St.init [] [.agg (Af m)]) =
  (∃ (y:Int × Int),VC 37 [VV.agg (Af m)] (VV.tup [Aa y.fst,Aa y.snd])/\BB (decide (y.fst > 0)) (LQ (VV.tup [Aa 40,Aa y.fst,Aa y.snd]) (VV.tup [Aa r,Aa e,Aa f])) (Ax (fc Bc H7 Tryz.f26 [] (VV.tup [Aa r,Aa e,Aa f])) [1,1,1,1,0,1,0] (Ld m (0:Int) (0:Int)))):=by kernel_rfl
theorem AaE (b:Bool)(m:D.Model):(fc Bc AQ Tryz.f12 [] (Ac b)).goal (St.init [] [.agg (Af m)]) =
  (∃ (y:Int × Int × Int),VC 26 [VV.agg (Af m)] (VV.tup [Aa y.fst,Aa y.snd.fst,Aa y.snd.snd])/\LQ (Ac (y.fst==0)) (Ac b)):=by kernel_rfl
theorem Xl (b:Bool)(t:List D.Type)(l:List Int):(fc Bc KN Tryz.f22 [] (Ac b)).goal (St.init [] [AC true t,Ad true l]) =
  (BB ((↑t.length:Int) != (↑l.length:Int)) (LQ (Ac false) (Ac b)) (Ax (fc Bc KN Tryz.f22 [] (Ac b)) [1,1,0,1,0] (IM t l (0:Int)))):=by kernel_rfl
theorem Ajd (b:Bool)(m:D.Model)(s:D.State):(fc Bc H6 Tryz.f9 [] (Ac b)).goal (St.init [] [.agg (Af m),.agg (Ah s)]) =
  (∃ (y:Bool),VC 22 [AC true m.Globals,Ad true s.Globals] (Ac y)/\BB (bif bif bif bif bif bif bif !y then true else decide ((↑s.Chans.length:Int) > 32) then true else decide ((↑s.Procs.length:Int) > 16) then true else decide (s.Last<0) then true else decide (s.Last > 15) then true else decide (s.Alone<(-1:Int)) then true else decide (s.Alone>=(↑s.Procs.length:Int)) then true else bif decide (m.Claim<0) then s.Claim != (-1:Int) else false) (LQ (Ac false) (Ac b)) (((true&&decide (m.Claim>=0)==true&&decide (s.Claim<0)==false)=true->inX m.Claim m.Procs.length)/\BB (bif decide (m.Claim>=0) then bif decide (s.Claim<0) then true else decide (s.Claim>=(↑(m.Procs.getD m.Claim.toNat default).Locs.length:Int)) else false) (LQ (Ac false) (Ac b)) (Ax (fc Bc H6 Tryz.f9 [] (Ac b)) [1,1,1,1,0,1,0] (Nk m s (0:Int))))):=by kernel_rfl
theorem Xv (r:Int)(m:D.Model)(s:D.State):(fc Bc AQ Tryz.f5 [] (Aa r)).goal (St.init [] [.agg (Af m),.agg (Ah s)]) =
  (∃ (y:Bool),VC 12 [VV.agg (Af m)] (Ac y)/\BB (!y) (LQ (Aa 40) (Aa r)) (∃ (y:Bool),VC 9 [VV.agg (Af m),VV.agg (Ah s)] (Ac y)/\BB (!y) (LQ (Aa 41) (Aa r)) (LQ (Aa 0) (Aa r)))):=by kernel_rfl
theorem AfH (r:List D.Trans)(e:D.Env)(esc:Int){a}(b:a=e.S.Procs.getD e.Pid.toNat default):(fc Bc AQ Tryz.f21 [] (Ap true r)).goal (St.init [] [.agg (Ae e),Aa esc]) =
  (∃ (y:D.Proc),VC 16 [.agg (Ae e)] (.agg (A4 y))/\inX e.Pid e.S.Procs.length/\inX a.Loc y.Locs.length/\BB (decide (esc<0)) (LQ (Ap true (y.Locs.getD a.Loc.toNat default).Out) (Ap true r)) (inX esc (y.Locs.getD a.Loc.toNat default).Esc.length/\LQ (Ap true ((y.Locs.getD a.Loc.toNat default).Esc.getD esc.toNat [])) (Ap true r))):=by subst b;kernel_rfl
theorem Aau (p:D.Proc)(e:D.Env):(fc Bc AQ Tryz.f16 [] (.agg (A4 p))).goal (St.init [] [.agg (Ae e)]) =
  (inX e.Pid e.S.Procs.length/\inX (e.S.Procs.getD e.Pid.toNat default).Type_ e.M.Procs.length/\LQ (VV.agg (A4 (e.M.Procs.getD (e.S.Procs.getD e.Pid.toNat default).Type_.toNat default))) (VV.agg (A4 p))):=by kernel_rfl
theorem AaJ (b:Bool)(t:D.Type)(v most n i:Int)(J:St->Prop):((fc Bc I5 Tryz.f36 [] (Ac b)).loop [1,1,1,1,1,1,0,1,0] J).goal (Lb t v most n i) =
  (BB (decide (i<n)) (J (Lb t v (IntKind.i64.wrap ((2:Int)*most)) n (IntKind.i64.wrap (i+(1:Int))))) (BB t.Signed (LQ (Ac (bif decide (v>=IntKind.i64.wrap ((0:Int) - most)) then decide (v<most) else false)) (Ac b)) (LQ (Ac (bif decide (v>=0) then decide (v<most) else false)) (Ac b)))):=by kernel_rfl
theorem Xw (r:Int)(v:D.Var)(n k:Int)(J:St->Prop){z1}(a:z1=v.Dims.getD k.toNat default):((fc Bc MO Tryz.f98 [] (Aa r)).loop [1,1,1,0,1,0] J).goal (Ni v n k) =
  (BB (decide (k<(↑v.Dims.length:Int))) (inX k v.Dims.length/\BB (bif bif bif decide (z1.Len<1) then true else decide (IntKind.i64.wrap (z1.Len - (1:Int)) > 1073741824) then true else decide (z1.Stride<0) then true else decide (z1.Stride > 1073741824)) (LQ (Aa 0) (Aa r)) (J (Ni v (IntKind.i64.wrap (n+IntKind.i64.wrap (IntKind.i64.wrap (z1.Len - (1:Int))*z1.Stride))) (IntKind.i64.wrap (k+(1:Int)))))) (LQ (Aa n) (Aa r))):=by subst a;kernel_rfl
theorem Xm (r:Int)(t:List D.Type)(v:List Int)(k:Int)(J:St->Prop):((fc Bc MM Tryz.f67 [] (Aa r)).loop [1,0,1,0] J).goal (IM t v k) =
  (BB (decide (k<(↑t.length:Int))) (inX k t.length/\inX k v.length/\∃ (y:Bool),VC 36 [VV.agg (BM (t.getD k.toNat default)),Aa (v.getD k.toNat 0)] (Ac y)/\BB (!y) (LQ (Aa k) (Aa r)) (J (IM t v (IntKind.i64.wrap (k+(1:Int)))))) (LQ (Aa (-1)) (Aa r))):=by kernel_rfl
theorem Xu (b:Bool)(s:D.Shape)(k:Int)(J:St->Prop):((fc Bc MN Tryz.f68 [] (Ac b)).loop [1,1,0,1,0] J).goal (Nh s k) =
  (BB (decide (k<(↑s.Fields.length:Int))) (inX k s.Fields.length/\∃ (y:Bool),VC 66 [VV.agg (BM (s.Fields.getD k.toNat default))] (Ac y)/\BB (!y) (LQ (Ac false) (Ac b)) (J (Nh s (IntKind.i64.wrap (k+(1:Int)))))) (LQ (Ac true) (Ac b))):=by kernel_rfl
theorem XG (b:Bool)(a:Int)(l:List Int)(k:Int)(J:St->Prop):((fc Bc MP Tryz.f107 [] (Ac b)).loop [1,0,1,0] J).goal (Nl false a l k) =
  (BB (decide (k<(↑l.length:Int))) (inX k l.length/\((true&&decide (l.getD k.toNat 0<0)==false)=true->inX k l.length)/\BB (bif decide (l.getD k.toNat 0<0) then true else decide (l.getD k.toNat 0>=a)) (LQ (Ac false) (Ac b)) (J (Nl false a l (IntKind.i64.wrap (k+(1:Int)))))) (LQ (Ac true) (Ac b))):=by kernel_rfl
theorem Rw (r:List Int)(x:D.Expr)(l:List Int)(n:Int){a}(b:a=(fc Bc Bx Tryz.f70 [] (Ad true r)).cut [1,1,1,1]):((fc Bc Bx Tryz.f70 [] (Ad true r)).cut [1,1,1,1]).goal (Gr x l n) =
  (BB (decide (n>=2)) ((l.length+1)*8<=140737488355328/\Ax a [1] (Ay [(1,.bp 0 0),(3,.ow 1 0 (l.length+1)),(4,Aa n)] [.box (Az x),.arr true 0 (l.length+1) 1 fun(i:Nat)=>bif i.blt l.length then[Aa (l.getD i 0)] else(fun(i:Nat)=>List.take 1 (List.drop (i*1) [Aa x.B])) (i - l.length)])) (Ax a [1] (Gr x l n))):=by subst b;kernel_rfl
theorem Mm (r:List Int)(x:D.Expr)(l:List Int)(n:Int){a}(b:a=(fc Bc Bx Tryz.f70 [] (Ad true r)).cut [1,1,1,1,1]):((fc Bc Bx Tryz.f70 [] (Ad true r)).cut [1,1,1,1,1]).goal (Gr x l n) =
  (BB (decide (n>=3)) ((l.length+1)*8<=140737488355328/\Ax a [1] (Ay [(1,.bp 0 0),(3,.ow 1 0 (l.length+1))] [.box (Az x),.arr true 0 (l.length+1) 1 fun(i:Nat)=>bif i.blt l.length then[Aa (l.getD i 0)] else(fun(i:Nat)=>List.take 1 (List.drop (i*1) [Aa x.C])) (i - l.length)])) (Ax a [1] (IP x l))):=by subst b;kernel_rfl
theorem AaH (r:List Int)(x:D.Expr)(l:List Int){b}(c:b=(fc Bc Bx Tryz.f70 [] (Ad true r)).cut [1,1,1,1,1,1]){a}(d:a=(l.length+x.Args.length)):((fc Bc Bx Tryz.f70 [] (Ad true r)).cut [1,1,1,1,1,1]).goal (IP x l) =
  (BB (bif x.Op==30 then true else x.Op==39) (a*8<=140737488355328/\(∀ (i:Nat),i<x.Args.length->(AJ x.Args i).all VV.mem1=true)/\Ax b [1] (Ay [(1,.bp 0 0),(3,.ow 1 0 a)] [.box (Az x),.arr true 0 a 1 fun(i:Nat)=>bif i.blt l.length then AJ l i else AJ x.Args (i - l.length)])) (Ax b [1] (IP x l))):=by subst c d;kernel_rfl
theorem AaG (r:List Int)(x:D.Expr)(l:List Int){a}(b:a=(fc Bc Bx Tryz.f70 [] (Ad true r)).cut [1,1,1,1,1,1,1]):((fc Bc Bx Tryz.f70 [] (Ad true r)).cut [1,1,1,1,1,1,1]).goal (IP x l) =
  (BB (x.Op==2) (BB (x.V.Scope==2) ((l.length+1)*8<=140737488355328/\Ax a [0,1,0,1,1,0] (Ay [(1,.bp 0 0),(3,.ow 1 0 (l.length+1)),(5,Aa 0)] [.box (Az x),.arr true 0 (l.length+1) 1 fun(i:Nat)=>bif i.blt l.length then[Aa (l.getD i 0)] else(fun(i:Nat)=>List.take 1 (List.drop (i*1) [Aa x.V.Who])) (i - l.length)])) (Ax a [0,1,0,1,1,0] (Qe x l (0:Int)))) (LQ (Ad true l) (Ad true r))):=by subst b;kernel_rfl
theorem AaI (r:List Int)(x:D.Expr)(l:List Int)(k:Int)(J:St->Prop):((fc Bc Bx Tryz.f70 [] (Ad true r)).loop [1,1,1,1,1,1,1,0,1,0,1,1,0] J).goal (Qe x l k) =
  (BB (decide (k<(↑x.V.Dims.length:Int))) (inX k x.V.Dims.length/\(l.length+1)*8<=140737488355328/\J (Ay [(1,VV.bp 0 0),(3,VV.ow 1 0 (l.length+1)),(5,Aa (IntKind.i64.wrap (k+(1:Int))))] [Ob.box (Az x),Ob.arr true 0 (l.length+1) 1 fun(i:Nat)=>bif i.blt l.length then[Aa (l.getD i 0)] else(fun(i:Nat)=>List.take 1 (List.drop (i*1) [Aa (x.V.Dims.getD k.toNat default).I])) (i - l.length)])) (LQ (Ad true l) (Ad true r))):=by kernel_rfl
theorem Aar (b:Bool)(_:D.Model)(a:Int)(v:D.Var)(k:Int)(J:St->Prop){c}(d:c=v.Dims.getD k.toNat default):((fc Bc O7 Tryz.f109 [] (Ac b)).loop [1,1,1,1,1,0,1,0] J).goal (P9 a v k) =
  (BB (decide (k<(↑v.Dims.length:Int))) (inX k v.Dims.length/\∃ (y:Bool),VC 107 [Aa a,.sl false 1 1 fun(i:Nat)=>List.take 1 (List.drop (i*1) [Aa c.I])] (Ac y)/\BB (bif bif bif bif !y then true else decide (c.Len<1) then true else decide (c.Len > 128) then true else decide (c.Stride<0) then true else decide (c.Stride > 128)) (LQ (Ac false) (Ac b)) (J (P9 a v (IntKind.i64.wrap (k+(1:Int)))))) (LQ (Ac true) (Ac b))):=by subst d;kernel_rfl
theorem SW (b:Bool)(m:D.Model)(args mt:List Int)(k:Int)(J:St->Prop){z1}(a:z1=(bif decide (mt.getD k.toNat 0<(-1:Int)) then true else decide (mt.getD k.toNat 0 > 1))){z2}(c:z2=(true&&z1==false&&(mt.getD k.toNat 0==0)==true)):((fc Bc JN Tryz.f110 [] (Ac b)).loop [1,1,1,0,1,0] J).goal (Jk m args mt k) =
  (BB (decide (k<(↑mt.length:Int))) (inX k mt.length/\((true&&decide (mt.getD k.toNat 0<(-1:Int))==false)=true->inX k mt.length)/\((true&&z1==false)=true->inX k mt.length)/\(z2=true->inX k args.length)/\(z2=true->inX (args.getD k.toNat 0) m.Exprs.length)/\BB (bif bif decide (mt.getD k.toNat 0<(-1:Int)) then true else decide (mt.getD k.toNat 0 > 1) then true else bif mt.getD k.toNat 0==0 then(m.Exprs.getD (args.getD k.toNat 0).toNat default).Op != 2 else false) (LQ (Ac false) (Ac b)) (J (Jk m args mt (IntKind.i64.wrap (k+(1:Int)))))) (LQ (Ac true) (Ac b))):=by subst a c;kernel_rfl
theorem AaL (b:Bool)(m:D.Model)(a:Int)(x:D.Expr)(n k:Int)(J:St->Prop):((fc Bc LP Tryz.f69 [] (Ac b)).loop [1,1,1,1,1,0,1,0] J).goal (Qf m a x n k) =
  (BB (decide (k<3)) (inX k 3/\∃ (y:Bool),VC 107 [Aa a,VV.sl false 1 1 fun(i:Nat)=>List.take 1 (List.drop (i*1) [Aa ([x.A,x.B,x.C].getD k.toNat 0)])] (Ac y)/\((true&&(bif decide (k<n) then !y else false)==false&&decide (k>=n)==true)=true->inX k 3)/\BB (bif bif decide (k<n) then !y else false then true else bif decide (k>=n) then[x.A,x.B,x.C].getD k.toNat 0 != (-1:Int) else false) (LQ (Ac false) (Ac b)) (J (Qf m a x n (IntKind.i64.wrap (k+(1:Int)))))) (∃ (y:Bool),VC 108 [VV.agg (Af m),Aa x.N] (Ac y)/\∃ (c:Bool),VC 107 [Aa a,Ad true x.Args] (Ac c)/\BB (x.Op==1) (LQ (Ac (bif decide (x.N>=(-2147483648:Int)) then decide (x.N<=2147483647) else false)) (Ac b)) (BB (x.Op==2) (∃ (y:Bool),VC 109 [VV.agg (Af m),Aa a,VV.agg (Bz x.V)] (Ac y)/\LQ (Ac y) (Ac b)) (BB (x.Op==30) (∃ (y:Bool),VC 110 [VV.agg (Af m),Aa a,Ad true x.Args,Ad true x.Match] (Ac y)/\LQ (Ac (bif y then bif x.N==0 then true else x.N==1 else false)) (Ac b)) (BB (x.Op==38) (BB (bif !y then true else decide ((↑x.Args.length:Int)<1)) (LQ (Ac false) (Ac b)) (inX x.N m.Procs.length/\∃ (y:Bool),VC 107 [Aa (↑(m.Procs.getD x.N.toNat default).Locs.length:Int),Ad true x.Args] (Ac y)/\LQ (Ac y) (Ac b))) (BB (x.Op==39) (((true&&(bif y then c else false)==true)=true->inX x.N m.Procs.length)/\LQ (Ac (bif bif y then c else false then(↑x.Args.length:Int)==(m.Procs.getD x.N.toNat default).Params else false)) (Ac b)) (LQ (Ac true) (Ac b)))))))):=by kernel_rfl
theorem Xs (b:Bool)(m:D.Model)(a:Int)(p:D.Proc)(many k:Int)(J:St->Prop){c}(d:c=p.Locs.getD k.toNat default):((fc Bc Fd Tryz.f38 [] (Ac b)).loop [1,1,1,1,1,1,1,0,1,0] J).goal (Ha m a p many k) =
  (BB (decide (k<(↑p.Locs.length:Int))) (inX k p.Locs.length/\BB (bif bif bif decide ((↑c.Esc.length:Int) > 8) then true else bif c.Dstep then c.Atomic else false then true else bif k==p.Final then bif decide ((↑c.Out.length:Int) > 0) then true else decide ((↑c.Esc.length:Int) > 0) else false then true else bif a==m.Claim then bif bif decide ((↑c.Esc.length:Int) > 0) then true else c.Atomic then true else c.Dstep else false) (LQ (Ac false) (Ac b)) (∃ (y:List (List D.Trans)),VC 71 [.agg (A8 c)] (Bk true y)/\Ax ((fc Bc Fd Tryz.f38 [] (Ac b)).loop [1,1,1,1,1,1,1,0,1,0] J) [1,0,0,1,1,1,1,0] (IN m a p many k y (0:Int)))) (LQ (Ac (decide (many<=1024))) (Ac b))):=by subst d;kernel_rfl
theorem Xr (b:Bool)(m:D.Model)(a:Int)(p:D.Proc)(many k:Int)(ws:List (List D.Trans))(j:Int)(J J2:St->Prop):(((fc Bc Fd Tryz.f38 [] (Ac b)).loop [1,1,1,1,1,1,1,0,1,0] J).loop [1,0,0,1,1,1,1,0] J2).goal (IN m a p many k ws j) =
  (BB (decide (j<(↑ws.length:Int))) (((true&&decide (j > 0)==true)=true->inX j ws.length)/\BB (bif decide (j > 0) then(↑(ws.getD j.toNat []).length:Int)==0 else false) (LQ (Ac false) (Ac b)) (inX j ws.length/\Ax (((fc Bc Fd Tryz.f38 [] (Ac b)).loop [1,1,1,1,1,1,1,0,1,0] J).loop [1,0,0,1,1,1,1,0] J2) [1,0,0,1,1,1,0] (La m a p (IntKind.i64.wrap (many+(↑(ws.getD j.toNat []).length:Int))) k ws j (0:Int)))) (J (Ha m a p many (IntKind.i64.wrap (k+(1:Int)))))):=by kernel_rfl
theorem Xq (b:Bool)(m:D.Model)(a:Int)(p:D.Proc)(many k:Int)(ws:List (List D.Trans))(j h:Int)(J J2 J3:St->Prop){z1}(c:z1=(ws.getD j.toNat []).getD h.toNat default):((((fc Bc Fd Tryz.f38 [] (Ac b)).loop [1,1,1,1,1,1,1,0,1,0] J).loop [1,0,0,1,1,1,1,0] J2).loop [1,0,0,1,1,1,0] J3).goal (La m a p many k ws j h) =
  (inX j ws.length/\BB (decide (h<(↑(ws.getD j.toNat []).length:Int))) (inX j ws.length/\inX h (ws.getD j.toNat []).length/\((true&&decide (z1.To<0)==false)=true->inX j ws.length)/\((true&&decide (z1.To<0)==false)=true->inX h (ws.getD j.toNat []).length)/\BB (bif decide (z1.To<0) then true else decide (z1.To>=(↑p.Locs.length:Int))) (LQ (Ac false) (Ac b)) (J3 (La m a p many k ws j (IntKind.i64.wrap (h+(1:Int)))))) (J2 (IN m a p many k ws (IntKind.i64.wrap (j+(1:Int)))))):=by subst c;kernel_rfl
theorem Aax (b:Bool)(m:D.Model)(s:D.Stmt)(k:Int)(J:St->Prop):((fc Bc LO Tryz.f111 [] (Ac b)).loop [1,1,1,1,1,1,1,0,1,0,1,1,1,1,1,1,1,1,1,0,1,1,0,1,0] J).goal (Ng m s k) =
  (BB (decide (k<(↑s.Args.length:Int))) (inX k s.Args.length/\∃ (y:Bool),VC 145 [VV.agg (Af m),Aa (s.Args.getD k.toNat 0)] (Ac y)/\inX k s.Match.length/\BB (bif s.Match.getD k.toNat 0==0 then !y else false) (LQ (Ac false) (Ac b)) (J (Ng m s (IntKind.i64.wrap (k+(1:Int)))))) (LQ (Ac true) (Ac b))):=by kernel_rfl
theorem Aas (b:Bool)(m:D.Model)(a:Int)(l:List Int)(k:Int)(J:St->Prop):((fc Bc O8 Tryz.f73 [] (Ac b)).loop [1,1,1,1,1,0,1,0] J).goal (Qa m a l k) =
  (BB (decide (k<(↑l.length:Int))) (inX k l.length/\∃ (y:Bool),VC 73 [VV.agg (Af m),Aa a,Aa (l.getD k.toNat 0),Ac false] (Ac y)/\BB (!y) (LQ (Ac false) (Ac b)) (J (Qa m a l (IntKind.i64.wrap (k+(1:Int)))))) (LQ (Ac true) (Ac b))):=by kernel_rfl
theorem Afu (b:Bool)(m:D.Model)(a:Int)(s:D.Stmt)(k:Int)(J:St->Prop):((fc Bc H5 Tryz.f72 [] (Ac b)).loop [1,1,1,1,1,0,1,0] J).goal (Km m a s k) =
  (BB (decide (k<(↑s.Args.length:Int))) (inX k s.Args.length/\∃ (y:Bool),VC 73 [VV.agg (Af m),Aa a,Aa (s.Args.getD k.toNat 0),Ac false] (Ac y)/\BB (!y) (LQ (Ac false) (Ac b)) (J (Km m a s (IntKind.i64.wrap (k+(1:Int)))))) (LQ (Ac true) (Ac b))):=by kernel_rfl
theorem Aap (b:Bool)(m:D.Model)(a:Int)(p:D.Proc)(k:Int)(J:St->Prop):((fc Bc Ec Tryz.f39 [] (Ac b)).loop [1,1,0,1,0] J).goal (IL m a p k) =
  (BB (decide (k<(↑p.Locs.length:Int))) (inX k p.Locs.length/\∃ (y:List (List D.Trans)),VC 71 [VV.agg (A8 (p.Locs.getD k.toNat default))] (Bk true y)/\Ax ((fc Bc Ec Tryz.f39 [] (Ac b)).loop [1,1,0,1,0] J) [1,0,0,1,1,0] (Kl m a p k y (0:Int))) (BB (decide (p.Provided<0)) (LQ (Ac true) (Ac b)) (∃ (y:Bool),VC 73 [VV.agg (Af m),Aa a,Aa p.Provided,Ac false] (Ac y)/\LQ (Ac y) (Ac b)))):=by kernel_rfl
theorem Aao (b:Bool)(m:D.Model)(a:Int)(p:D.Proc)(k:Int)(ws:List (List D.Trans))(j:Int)(J J2:St->Prop):(((fc Bc Ec Tryz.f39 [] (Ac b)).loop [1,1,0,1,0] J).loop [1,0,0,1,1,0] J2).goal (Kl m a p k ws j) =
  (BB (decide (j<(↑ws.length:Int))) (Ax (((fc Bc Ec Tryz.f39 [] (Ac b)).loop [1,1,0,1,0] J).loop [1,0,0,1,1,0] J2) [1,0,0,1,0] (Nf m a p k ws j (0:Int))) (J (IL m a p (IntKind.i64.wrap (k+(1:Int)))))):=by kernel_rfl
theorem Aan (b:Bool)(m:D.Model)(a:Int)(p:D.Proc)(k:Int)(ws:List (List D.Trans))(j h:Int)(J J2 J3:St->Prop):((((fc Bc Ec Tryz.f39 [] (Ac b)).loop [1,1,0,1,0] J).loop [1,0,0,1,1,0] J2).loop [1,0,0,1,0] J3).goal (Nf m a p k ws j h) =
  (inX j ws.length/\BB (decide (h<(↑(ws.getD j.toNat []).length:Int))) (inX j ws.length/\inX h (ws.getD j.toNat []).length/\∃ (y:Bool),VC 72 [VV.agg (Af m),Aa a,VV.agg (Au ((ws.getD j.toNat []).getD h.toNat default).S)] (Ac y)/\BB (!y) (LQ (Ac false) (Ac b)) (J3 (Nf m a p k ws j (IntKind.i64.wrap (h+(1:Int)))))) (J2 (Kl m a p k ws (IntKind.i64.wrap (j+(1:Int)))))):=by kernel_rfl
theorem AfA (r e:Int)(m:D.Model)(k:Int)(J:St->Prop):((fc Bc Dm Tryz.f37 [] (.tup [Aa r,Aa e])).loop [1,1,1,1,1,0,1,0] J).goal (Qc m k) =
  (BB (decide (k<(↑m.Shapes.length:Int))) (inX k m.Shapes.length/\∃ (y:Bool),VC 68 [VV.agg (D0 (m.Shapes.getD k.toNat default))] (Ac y)/\BB (!y) (LQ (VV.tup [Aa 2,Aa k]) (VV.tup [Aa r,Aa e])) (J (Qc m (IntKind.i64.wrap (k+(1:Int)))))) (Ax (fc Bc Dm Tryz.f37 [] (VV.tup [Aa r,Aa e])) [1,1,1,1,1,1,0,1,0] (Qb m (0:Int)))):=by kernel_rfl
theorem Afz (r e:Int)(m:D.Model)(k:Int)(J:St->Prop){z1}(a:z1=(↑m.Exprs.length:Int)){b}(c:b=fc Bc Dm Tryz.f37 [] (VV.tup [Aa r,Aa e])):((fc Bc Dm Tryz.f37 [] (.tup [Aa r,Aa e])).loop [1,1,1,1,1,1,0,1,0] J).goal (Qb m k) =
  (BB (decide (k<(↑m.Chans.length:Int))) (inX k m.Chans.length/\((true&&decide (m.Chans.getD k.toNat 0<0)==false)=true->inX k m.Chans.length)/\BB (bif decide (m.Chans.getD k.toNat 0<0) then true else decide (m.Chans.getD k.toNat 0>=(↑m.Shapes.length:Int))) (LQ (.tup [Aa 2,Aa k]) (.tup [Aa r,Aa e])) (J (Qb m (IntKind.i64.wrap (k+(1:Int)))))) (BB (bif bif bif bif decide ((↑m.Procs.length:Int)<1) then true else decide ((↑m.Procs.length:Int) > 16) then true else decide (m.Claim<(-1:Int)) then true else decide (m.Claim>=(↑m.Procs.length:Int)) then true else decide (z1 > 4096)) (LQ (.tup [Aa 3,Aa (-1)]) (.tup [Aa r,Aa e])) (((0:Int)<=z1/\z1<=z1/\z1*(↑1:Int)<=140737488355328)/\Ax b [1,1,1,1,1,1,1,1,1,0,1,0] (Ay [(1,.bp 0 0),(8,.ow 1 0 z1.toNat),(9,Aa 0)] [.box (Af m),.arr true 0 z1.toNat 1 fun(_:Nat)=>(b.T 4).zero])))):=by subst a c;kernel_rfl
theorem Afy (r e:Int)(m:D.Model)(had:List Bool)(k:Int)(J:St->Prop):((fc Bc Dm Tryz.f37 [] (.tup [Aa r,Aa e])).loop [1,1,1,1,1,1,1,1,1,0,1,0] J).goal (UZ m had k) =
  (BB (decide (k<(↑m.Exprs.length:Int))) (∃ (y:Bool),VC 69 [VV.agg (Af m),Aa k] (Ac y)/\BB (!y) (LQ (VV.tup [Aa 3,Aa k]) (VV.tup [Aa r,Aa e])) (inX k m.Exprs.length/\∃ (y:List Int),VC 70 [VV.agg (Az (m.Exprs.getD k.toNat default))] (Ad true y)/\Ax ((fc Bc Dm Tryz.f37 [] (VV.tup [Aa r,Aa e])).loop [1,1,1,1,1,1,1,1,1,0,1,0] J) [1,0,0,1,1,1,1,0] (UY m had k y (0:Int)))) (LQ (VV.tup [Aa 0,Aa 0]) (VV.tup [Aa r,Aa e]))):=by kernel_rfl
theorem Afx (r e:Int)(m:D.Model)(had:List Bool)(k:Int)(l:List Int)(j:Int)(J J2:St->Prop){a}(b:a=l.getD j.toNat 0):(((fc Bc Dm Tryz.f37 [] (.tup [Aa r,Aa e])).loop [1,1,1,1,1,1,1,1,1,0,1,0] J).loop [1,0,0,1,1,1,1,0] J2).goal (UY m had k l j) =
  (BB (decide (j<(↑l.length:Int))) (inX j l.length/\inX a had.length/\BB (had.getD a.toNat false) (LQ (.tup [Aa 3,Aa k]) (.tup [Aa r,Aa e])) (inX j l.length/\inX a had.length/\J2 (Ay [(1,.bp 0 0),(8,.ow 1 0 had.length),(9,Aa k),(11,Ad true l),(12,Aa (IntKind.i64.wrap (j+(1:Int))))] [.box (Af m),.arr true 0 had.length 1 fun(j_1:Nat)=>bif j_1.beq a.toNat then[Ac true] else[Ac (had.getD j_1 false)]]))) (J (UZ m had (IntKind.i64.wrap (k+(1:Int)))))):=by subst b;kernel_rfl
theorem XF (r e f:Int)(m:D.Model)(many k:Int)(J:St->Prop){a}(b:a=[Aa r,Aa e,Aa f]):((fc Bc H7 Tryz.f26 [] (.tup [Aa r,Aa e,Aa f])).loop [1,1,1,1,0,1,0] J).goal (Ld m many k) =
  (BB (decide (k<(↑m.Procs.length:Int))) (∃ (y:Bool),VC 38 [.agg (Af m),Aa k] (Ac y)/\BB (!y) (LQ (.tup [Aa 40,Aa 4,Aa k]) (.tup a)) (inX k m.Procs.length/\J (Ld m (IntKind.i64.wrap (many+(m.Procs.getD k.toNat default).Active)) (IntKind.i64.wrap (k+(1:Int)))))) (BB (decide (many > 16)) (LQ (.tup [Aa 40,Aa 5,Aa (-1)]) (.tup a)) (Ax (fc Bc H7 Tryz.f26 [] (.tup a)) [1,1,1,1,1,1,0,1,0] (Lc m (0:Int))))):=by subst b;kernel_rfl
theorem XE (r e f:Int)(m:D.Model)(k:Int)(J:St->Prop):((fc Bc H7 Tryz.f26 [] (.tup [Aa r,Aa e,Aa f])).loop [1,1,1,1,1,1,0,1,0] J).goal (Lc m k) =
  (BB (decide (k<(↑m.Procs.length:Int))) (∃ (y:Bool),VC 39 [VV.agg (Af m),Aa k] (Ac y)/\BB (!y) (LQ (VV.tup [Aa 40,Aa 6,Aa k]) (VV.tup [Aa r,Aa e,Aa f])) (J (Lc m (IntKind.i64.wrap (k+(1:Int)))))) (LQ (VV.tup [Aa 0,Aa 0,Aa 0]) (VV.tup [Aa r,Aa e,Aa f]))):=by kernel_rfl
theorem U6 (b:Bool)(t:List D.Type)(l:List Int)(k:Int)(J:St->Prop):((fc Bc KN Tryz.f22 [] (Ac b)).loop [1,1,0,1,0] J).goal (Tt t l k) =
  (BB (decide (k<(↑t.length:Int))) (inX k t.length/\inX k l.length/\∃ (y:Bool),VC 36 [VV.agg (BM (t.getD k.toNat default)),Aa (l.getD k.toNat 0)] (Ac y)/\BB (!y) (LQ (Ac false) (Ac b)) (J (IM t l (IntKind.i64.wrap (k+(1:Int)))))) (LQ (Ac true) (Ac b))):=by kernel_rfl
theorem AfG (b:Bool)(m:D.Model)(s:D.State)(k:Int)(J:St->Prop){a}(c:a=s.Chans.getD k.toNat default):((fc Bc H6 Tryz.f9 [] (Ac b)).loop [1,1,1,1,0,1,0] J).goal (Nk m s k) =
  (BB (decide (k<(↑s.Chans.length:Int))) (inX k s.Chans.length/\((true&&(bif decide (a.Shape<0) then true else decide (a.Shape>=(↑m.Shapes.length:Int)))==false)=true->inX a.Shape m.Shapes.length)/\BB (bif bif decide (a.Shape<0) then true else decide (a.Shape>=(↑m.Shapes.length:Int)) then true else decide ((↑a.Queue.length:Int) > (m.Shapes.getD a.Shape.toNat default).Room)) (LQ (Ac false) (Ac b)) (Ax ((fc Bc H6 Tryz.f9 [] (Ac b)).loop [1,1,1,1,0,1,0] J) [1,0,0,1,1,1,0] (Qd m s k a (0:Int)))) (Ax (fc Bc H6 Tryz.f9 [] (Ac b)) [1,1,1,1,1,0,1,0] (Nj m s (0:Int)))):=by subst c;kernel_rfl
theorem AfF (b:Bool)(m:D.Model)(s:D.State)(k:Int)(c:D.Chan)(j:Int)(J J2:St->Prop):(((fc Bc H6 Tryz.f9 [] (Ac b)).loop [1,1,1,1,0,1,0] J).loop [1,0,0,1,1,1,0] J2).goal (Qd m s k c j) =
  (BB (decide (j<(↑c.Queue.length:Int))) (inX c.Shape m.Shapes.length/\inX j c.Queue.length/\∃ (y:Bool),VC 22 [AC true (m.Shapes.getD c.Shape.toNat default).Fields,Ad true (c.Queue.getD j.toNat [])] (Ac y)/\BB (!y) (LQ (Ac false) (Ac b)) (J2 (Qd m s k c (IntKind.i64.wrap (j+(1:Int)))))) (J (Nk m s (IntKind.i64.wrap (k+(1:Int)))))):=by kernel_rfl
theorem AfE (b:Bool)(m:D.Model)(s:D.State)(k:Int)(J:St->Prop){a}(d:a=s.Procs.getD k.toNat default){c}(e:c=m.Procs.getD a.Type_.toNat default):((fc Bc H6 Tryz.f9 [] (Ac b)).loop [1,1,1,1,1,0,1,0] J).goal (Nj m s k) =
  (BB (decide (k<(↑s.Procs.length:Int))) (inX k s.Procs.length/\BB (bif bif decide (a.Type_<0) then true else decide (a.Type_>=(↑m.Procs.length:Int)) then true else a.Type_==m.Claim) (LQ (Ac false) (Ac b)) (inX a.Type_ m.Procs.length/\∃ (y:Bool),VC 22 [AC true c.Frame,Ad true a.Frame] (Ac y)/\BB (bif bif bif !y then true else decide (a.Loc<0) then true else decide (a.Loc>=(↑c.Locs.length:Int)) then true else a.Prio != c.Prio) (LQ (Ac false) (Ac b)) (J (Nj m s (IntKind.i64.wrap (k+(1:Int))))))) (LQ (Ac true) (Ac b))):=by subst d e;kernel_rfl
end Go.Proofs.YtnhamlpcpngafaaGreatDoor
namespace Go.Proofs.YtnhamlpcpngafaaGreatDoor
open Go.RowKit
theorem Tz (t:D.Type):Aj Tryz.prog 66 [] [.agg (BM t)] [] (Ac (Ft t)):=by
 refine Aq Tryz.func66 (Ai6 _ t) (Aw ?_);unfold Ft;grind
theorem Rx (t:D.Type)(v:Int):Aj Tryz.prog 36 [] [.agg (BM t),Aa v] [] (Ac (CO t v)):=by
 refine Aq Tryz.func36 (AfJ _ t v) ⟨Ft t,Tz t,fun h=>Aw ?_,fun h=>?_⟩
 ·have a:Ft t=false:=by simpa using h
  simp[CO,a]
 have a:Ft t=true:=by simpa using h
 obtain⟨h1,h2,h3⟩:=Aia a;have b:∀ n:Nat,(n:Int)=(bif t.Signed then t.Bits - 1 else t.Bits)->Ax (B8 Tryz.prog tb Bc I5 true Tryz.f36 [] (Ac (CO t v))) [1,1,1,1,1,1,0,1,0] (Lb t v 1 n 0):=by
  intro n f;have i:n<=32:=by grind
  refine Ar (fun g st=>∃ k:Nat,k<=n/\g=n - k/\st=Lb t v (2 ^ k) n k) ⟨n,Up.of ⟨0,ApD _,rfl,rfl⟩⟩ ?_;rintro g st ⟨k,l,rfl,rfl⟩;have hp:=Abz (n:=k) (by omega);refine ApI (AaJ _ t v (2 ^ k) n k _) ⟨fun d=>?_,fun e=>?_⟩
  ·have c:k<n:=by have:=AL d;omega
   refine⟨n - (k+1),by omega,Up.of ⟨k+1,c,rfl,?_⟩⟩;grind [Al,AK,Int.pow_succ]
  ·obtain rfl:k=n:=by have:=AP e;omega
   refine⟨fun hs=>Aw ?_,fun hs=>Aw ?_⟩
   ·rw[hs,Apy]at f;rw[AK (by omega) (by omega)];simp only[CO,a,hs,Apy,Ap7,AqM];grind
   ·rw[hs,Apw]at f;simp only[CO,a,hs,Apw,Ap7,AqM];grind
 refine⟨fun hs=>?_,fun hs=>?_⟩
 ·have j:IntKind.i64.wrap (t.Bits - 1)=t.Bits - 1:=AK (by omega) (by omega);have:=b (t.Bits - 1).toNat (by rw[hs,Apy];omega);rw[j]
  rwa [show(((t.Bits - 1).toNat:Nat):Int)=t.Bits - 1 by omega]at this
 ·have:=b t.Bits.toNat (by rw[hs,Apw];omega)
  rwa [show((t.Bits.toNat:Nat):Int)=t.Bits by omega]at this
theorem Px {v:D.Var}(hv:Jd v):Aj Tryz.prog 98 [] [.agg (Bz v)] [] (Aa (DC v)):=by
 have hd:=hv.Dims;refine Aq Tryz.func98 (AaA _ v) ⟨fun h=>BK ?_,fun h=>?_⟩
 ·unfold DC;grind
 ·have x:0<=v.Slot/\v.Slot<=1073741824/\v.Dims.length<=4:=by simp at h;omega
  have e:DC v=DX (v.Slot+1) v.Dims:=by
   unfold DC;grind
  rw[e,AK (by omega) (by omega)];refine Ar (fun g st=>∃ (k:Nat) (n:Int),k<=v.Dims.length/\g=v.Dims.length - k/\0<=n/\n<=1073741825+k*1152921504606846976/\DX n (v.Dims.drop k)=DX (v.Slot+1) v.Dims/\st=Ni v n k)
   ⟨_,Up.of ⟨0,v.Slot+1,ApD _,rfl,by omega,by omega,rfl,rfl⟩⟩ ?_
  rintro g st ⟨k,n,y,rfl,r,s,c,rfl⟩;refine ApI (Xw _ v n k _ rfl) ⟨fun j=>?_,fun l=>BK ?_⟩
  ·have b:k<v.Dims.length:=by have:=AL j;omega
   have m:(k:Int).toNat=k:=by omega
   rw[m];rw[Bs (d:=default) b]at c;have q:=hd.2 _ (Av (d:=default) b);generalize v.Dims.getD k default=d at c q ⊢;have t:=AmH q.Len;refine⟨⟨by omega,by omega⟩,fun o=>BK ?_,fun o=>?_⟩
   ·rw[← c];have:HM d=true:=by
     unfold HM;grind [AK]
    show _=DX n (d::_);unfold DX;rw[this]<;>rfl
   ·have z:1<=d.Len:=by grind
    have p:IntKind.i64.wrap (d.Len - 1)=d.Len - 1:=AK (by omega) (by omega);rw[p]at o ⊢;have a:d.Len - 1<=1073741824/\0<=d.Stride/\d.Stride<=1073741824:=by simp at o;omega
    have f:HM d=false:=by unfold HM;simp;omega
    have u:0<=(d.Len - 1)*d.Stride:=Int.mul_nonneg (by omega) a.2.1;have w:(d.Len - 1)*d.Stride<=1073741824*1073741824:=Int.mul_le_mul a.1 a.2.2 a.2.1 (by omega);rw[AK (n:=(d.Len - 1)*d.Stride) (by omega) (by omega),AK (n:=n+_) (by omega) (by omega),Al (by omega)];refine⟨v.Dims.length - (k+1),by omega,Up.of ⟨k+1,n+(d.Len - 1)*d.Stride,by omega,rfl,by omega,by omega,?_,rfl⟩⟩;rw[← c];show _=DX n (d::_)
    conv=>rhs;unfold DX
    rw[f]<;>rfl
  ·have i:v.Dims.length<=k:=by have:=AP l;omega
   rw[Aqz i]at c;rw[← c]<;>rfl
theorem Pv {t:List D.Type}{init:List Int}(h:t.length<=init.length)(hs:t.length<=1048576):Aj Tryz.prog 67 [] [AC true t,Ad true init] [] (Aa (EZ t init)):=by
 refine Aq Tryz.func67 (Aat _ t init) ?_;refine As t.length (fun k=>IM t init k) (fun k=>∀ i,i<k->CO (t.getD i default) (init.getD i 0)=true) (fun i hi=>by omega) ?_;intro k j b J next
 refine ApI (Xm _ t init k J) ⟨fun c=>?_,fun d=>BK ?_⟩
 ·have a:k<t.length:=by have:=AL c;omega
  refine⟨⟨by omega,by omega⟩,⟨by omega,by omega⟩,CO (t.getD k default) (init.getD k 0),Rx _ _,fun e=>BK ?_,fun e=>next _ a (BO b (by simpa using e)) (Up.of ?_)⟩
  ·exact(Ek (f:=fun i=>CO (t.getD i default) (init.getD i 0)) b a (by simpa using e)).symm
  grind [Al]
 ·have g:t.length<=k:=by have:=AP d;omega
  exact(DE (f:=fun i=>CO (t.getD i default) (init.getD i 0)) fun i hi=>b i (by omega)).symm
theorem Xt {s:D.Shape}(hs:MY s):Aj Tryz.prog 68 [] [.agg (D0 s)] [] (Ac (Di s)):=by
 have j:=hs.Fields.1;refine Aq Tryz.func68 (Aay _ s) ⟨fun h=>Aw ?_,fun h=>?_⟩
 ·symm;rw[Aqn];intro d;simp[Di]at d h;omega
 ·have e:Di s=Cu s.Fields.length fun i=>Ft (s.Fields.getD i default):=by
   unfold Di;grind
  rw[e];refine As s.Fields.length (fun k=>Nh s k) (fun k=>∀ i,i<k->Ft (s.Fields.getD i default)=true) (fun i hi=>by omega) ?_;intro k l f J next
  refine ApI (Xu _ s k J) ⟨fun b=>?_,fun g=>Aw ?_⟩
  ·have a:k<s.Fields.length:=by have:=AL b;omega
   refine⟨⟨by omega,by omega⟩,Ft (s.Fields.getD k default),Tz _,fun c=>Aw ?_,fun c=>next _ a (BO f (by simpa using c)) (Up.of ?_)⟩
   ·grind [BG]
   grind [Al]
  grind [AP,AO]
theorem NB (m:D.Model)(n:Int):Aj Tryz.prog 108 [] [.agg (Af m),Aa n] [] (Ac (CR m n)):=by
 refine Aq Tryz.func108 (Xx _ m n) (Aw ?_);rw[Aqe];simp[CR]
theorem NI {a:Int}{l:List Int}(n:l.length<=1099511627776):Aj Tryz.prog 107 [] [Aa a,Ad false l] [] (Ac (Cr a l)):=by
 refine Aq Tryz.func107 (AaS _ a l) ?_;refine As l.length (fun k=>Nl false a l k) (fun k=>∀ i,i<k->inP a (l.getD i 0)=true) (fun i hi=>by omega) ?_;intro k o h J next
 refine ApI (XG _ a l k J) ⟨fun c=>?_,fun d=>Aw ?_⟩
 ·have b:k<l.length:=by have:=AL c;omega
  have e:(k:Int).toNat=k:=by omega
  rw[e];refine⟨⟨by omega,by omega⟩,fun _=>⟨by omega,by omega⟩,fun g=>Aw ?_,fun g=>next _ b (BO h ?_) (Up.of ?_)⟩
  ·exact(BG (f:=fun i=>inP a (l.getD i 0)) b (by rw[Aqn];intro m;simp[inP]at m g;omega)).symm
  ·simp[inP]at g ⊢;omega
  grind [Al]
 ·have j:l.length<=k:=by have:=AP d;omega
  exact(AO.2 fun i hi=>h i (by omega)).symm
theorem Ik {a:Int}{l:List Int}(d:l.length<=1099511627776):Aj Tryz.prog 107 [] [Aa a,Ad true l] [] (Ac (Cr a l)) :=
 (NI d).frz rfl fun j x y b c=>by
  match j,b,c with
  | 0,b,c=>grind [ApU,DJ]
  | 1,b,c=>obtain rfl:=ApU b;obtain rfl:=ApU c;exact OO
  | j+2,b,_=>simp at b
theorem Mn {a x:Int}:Aj Tryz.prog 107 [] [Aa a,.sl false 1 1 fun i=>List.take 1 (List.drop (i*1) [.sc (.int .i64 x)])] [] (Ac (inP a x)):=by
 have h:=NI (a:=a) (l:=[x]) (by simp);have e:Cr a [x]=inP a x:=by simp[Cr,Cu,List.getD]
 rw[e]at h;refine h.le trivial ⟨VV.le_refl _,AqD (.inl rfl) fun i hi=>AV ?_,trivial⟩ trivial (VV.le_refl _);obtain rfl:i=0:=by omega
 rfl
theorem Py (op:Int):Aj Tryz.prog 106 [] [Aa op] [] (Aa (AZ op)):=by
 refine Aq Tryz.func106 (AaB _ op rfl rfl) ?_;have a:∀ {p:Prop},(op=1∨op=2∨op=31∨op=32∨op=33∨op=34∨op=35∨op=39)->leO [] []/\VV.le (.sc (.int .i64 0)) (.sc (.int .i64 (AZ op:Nat))):=fun h=>BK (by unfold AZ;rw[Aqc h]<;>rfl)
 have kx:¬(op=1∨op=2∨op=31∨op=32∨op=33∨op=34∨op=35∨op=39)->((op==(24:Int))=true->leO [] []/\(VV.sc (.int .i64 3)).le (.sc (.int .i64 (AZ op:Nat))))/\((op==(24:Int))=false ->
   ((bif decide (op>=(6:Int)) then decide (op<=(23:Int)) else false)=true->leO [] []/\(VV.sc (.int .i64 2)).le (.sc (.int .i64 (AZ op:Nat))))/\((bif decide (op>=(6:Int)) then decide (op<=(23:Int)) else false)=false->leO [] []/\(VV.sc (.int .i64 1)).le (.sc (.int .i64 (AZ op:Nat))))):=by
  intro c;refine⟨fun h=>BK ?_,fun h=>⟨fun h2=>BK ?_,fun h2=>BK ?_⟩⟩
  ·unfold AZ;grind
  ·unfold AZ;grind
  ·unfold AZ;grind
 refine⟨fun h1=>⟨fun _=>a (p:=True) (by simp at h1;omega),fun h=>bt h1 h⟩,fun h1=>⟨fun h2=>⟨fun _=>a (p:=True) (by simp at h2;omega),fun h=>bt h2 h⟩,fun h2=>⟨fun h3=>⟨fun _=>a (p:=True) (by simp at h3;omega),fun h=>bt h3 h⟩,fun h3=>⟨fun h4=>⟨fun _=>a (p:=True) (by simp at h4;omega),fun h=>bt h4 h⟩,fun h4=>⟨fun h5=>⟨fun _=>a (p:=True) (by simp at h5;omega),fun h=>bt h5 h⟩,fun h5 =>
  ⟨fun h6=>⟨fun _=>a (p:=True) (by simp at h6;omega),fun h=>bt h6 h⟩,fun h6=>⟨fun h7=>⟨fun _=>a (p:=True) (by simp at h7;omega),fun h=>bt h7 h⟩,fun h7=>⟨fun b=>a (p:=True) (by simp at b;omega),fun b=>kx (by grind)⟩⟩⟩⟩⟩⟩⟩⟩
theorem Aaq {m:D.Model}{a:Int}{v:D.Var}(hv:Jd v):Aj Tryz.prog 109 [] [.agg (Af m),Aa a,.agg (Bz v)] [] (Ac (Dn m a v)):=by
 have o:=hv.Dims.1;refine Aq Tryz.func109 (Afv _ m a v) ⟨fun h=>Aw ?_,fun h=>⟨inP a v.Who,Mn,CR m v.Type_,NB _ _,fun f=>Aw ?_,fun f=>?_⟩⟩
 ·unfold Dn;grind
 ·unfold Dn;grind
 ·have e:Dn m a v=Cu v.Dims.length fun i=>N7 a (v.Dims.getD i default):=by
   unfold Dn;have p:(decide (0<=v.Scope)&&decide (v.Scope<=2)&&decide (0<=v.Slot)&&decide (v.Slot<=128)&&decide (v.Dims.length<=4))=true:=by simp at h ⊢;omega
   grind
  rw[e];refine As v.Dims.length (fun k=>P9 a v k) (fun k=>∀ i,i<k->N7 a (v.Dims.getD i default)=true) (fun i hi=>by omega) ?_;intro k q l J next
  refine ApI (Aar _ m a v k J rfl) ⟨fun g=>?_,fun n=>Aw ?_⟩
  ·have b:k<v.Dims.length:=by have:=AL g;omega
   have j:(k:Int).toNat=k:=by omega
   rw[j];have c:∀ d:D.Dim,N7 a d=!(bif bif bif bif !(inP a d.I) then true else decide (d.Len<1) then true else decide (d.Len > 128) then true else decide (d.Stride<0) then true else decide (d.Stride > 128)):=by
    intro d;unfold N7;grind
   refine⟨⟨by omega,by omega⟩,inP a (v.Dims.getD k default).I,Mn,fun f=>Aw ?_,fun f=>next _ b (BO l ?_) (Up.of ?_)⟩
   ·grind [BG]
   ·rw[c,f]<;>rfl
   grind [Al]
  grind [AP,AO]
theorem L2 {m:D.Model}{a:Int}{args mt:List Int}(r:a<=m.Exprs.length)(h1:args.length<=1048576)(_:mt.length<=1048576) :
  Aj Tryz.prog 110 [] [.agg (Af m),Aa a,Ad true args,Ad true mt] [] (Ac (B4 m a args mt)):=by
 refine Aq Tryz.func110 (Va _ m a args mt) ⟨Cr a args,Ik (by omega),fun h=>Aw ?_,fun h=>?_⟩
 ·unfold B4;grind
 ·have l:Cr a args=true:=by grind
  have b:1<=args.length/\args.length<=8/\mt.length=args.length:=by grind
  have e:B4 m a args mt=Cu mt.length fun i=>Jv m (args.getD i 0) (mt.getD i 0):=by
   unfold B4;rw[l];simp[b]
  rw[e];have f:=Fc.1 l;refine As mt.length (fun k=>Jk m args mt k) (fun k=>∀ i,i<k->Jv m (args.getD i 0) (mt.getD i 0)=true) (fun i hi=>by omega) ?_;intro k s o J next
  refine ApI (SW _ m args mt k J rfl rfl) ⟨fun g=>?_,fun p=>Aw ?_⟩
  ·have c:k<mt.length:=by have:=AL g;omega
   have j:(k:Int).toNat=k:=by omega
   rw[j];have t:=f _ (Av (d:=(0:Int)) (show k<args.length by omega));have q:Jv m (args.getD k 0) (mt.getD k 0)=!(bif bif decide (mt.getD k 0 < -1) then true else decide (mt.getD k 0 > 1) then true else bif mt.getD k 0==0 then(m.Exprs.getD (args.getD k 0).toNat default).Op != 2 else false):=by
    unfold Jv Ao;grind
   refine⟨⟨by omega,by omega⟩,fun _=>⟨by omega,by omega⟩,fun _=>⟨by omega,by omega⟩,fun _=>⟨by omega,by omega⟩,fun _=>⟨by omega,by omega⟩,fun n=>Aw ?_,fun n=>next _ c (BO o ?_) (Up.of ?_)⟩
   ·grind [BG]
   ·rw[q,n]<;>rfl
   grind [Al]
  grind [AP,AO]
theorem Rv {x:D.Expr}(h1:x.Args.length<=1048576)(h2:x.V.Dims.length<=1048576):Aj Tryz.prog 70 [] [.agg (Az x)] [] (Ad true (BC x)):=by
 have N:=RR x.Op;have loop:∀ (L:List Int),L.length<=2097152->L++x.V.Dims.map D.Dim.I=BC x->Ax (B8 Tryz.prog tb Bc Bx true Tryz.f70 [] (Ad true (BC x))) [1,1,1,1,1,1,1,0,1,0,1,1,0] (Qe x L 0):=by
  intro L H b;generalize BC x=R at b ⊢;refine As x.V.Dims.length (fun k=>Qe x (L++(x.V.Dims.take k).map D.Dim.I) k) (fun _=>True) trivial ?_ |> fun h=>by simpa using h
  intro k P _ J next
  have p:(L++(x.V.Dims.take k).map D.Dim.I).length=L.length+k:=by simp;omega
  refine ApI (AaI _ x _ k J) ⟨fun v=>?_,fun w=>⟨trivial,?_⟩⟩
  ·have j:k<x.V.Dims.length:=by have:=AL v;omega
   have y:(k:Int).toNat=k:=by omega
   rw[y];refine⟨⟨by omega,by omega⟩,by rw[p];omega,next _ j trivial ?_⟩;have m:(x.V.Dims.take (k+1)).map D.Dim.I=(x.V.Dims.take k).map D.Dim.I++[(x.V.Dims.getD k default).I]:=by rw[Fj (d:=default) j];simp
   have e:L++(x.V.Dims.take (k+1)).map D.Dim.I=(L++(x.V.Dims.take k).map D.Dim.I)++[(x.V.Dims.getD k default).I]:=by rw[m,Aqp]
   rw[e,Al (by omega)];generalize L++(x.V.Dims.take k).map D.Dim.I=M;generalize (x.V.Dims.getD k default).I=z;refine Up.mk (l':=[(1,.bp 0 0),(3,.ow 1 0 (M++[z]).length),(5,Aa ((k+1:Nat):Int))]) (hs':=[.box (Az x),.arr true 0 (M++[z]).length 1 (AJ (M++[z]))]) ?_ ?_ rfl
   ·rw[show M.length+1=(M++[z]).length by simp];exact AS _
   ·rw[show M.length+1=(M++[z]).length by simp];exact⟨Ob.le_refl _,Ap6 fun i hi=>AV (BR (f:=fun n=>[Aa n]) (d:=0) (l:=M) (r:=[z]) (F:=fun i=>[.sc (.int .i64 (M.getD i 0))]) (fun i hi=>rfl) EX hi),trivial⟩
  ·have s:x.V.Dims.length<=k:=by have:=AP w;omega
   rw[Aqq s,b];exact VV.le_refl _
 have dD:∀ st,Ax ((B8 Tryz.prog tb Bc Bx true Tryz.f70 [] (Ad true (BC x))).cut [1,1,1,1,1,1,1]) [0,1,0,1,1,0] st=Ax (B8 Tryz.prog tb Bc Bx true Tryz.f70 [] (Ad true (BC x))) [1,1,1,1,1,1,1,0,1,0,1,1,0] st:=fun st=>by kernel_rfl
 have dC:∀ st,Ax ((B8 Tryz.prog tb Bc Bx true Tryz.f70 [] (Ad true (BC x))).cut [1,1,1,1,1,1]) [1] st=Ax (B8 Tryz.prog tb Bc Bx true Tryz.f70 [] (Ad true (BC x))) [1,1,1,1,1,1,1] st:=fun st=>by kernel_rfl
 have dB:∀ st,Ax ((B8 Tryz.prog tb Bc Bx true Tryz.f70 [] (Ad true (BC x))).cut [1,1,1,1,1]) [1] st=Ax (B8 Tryz.prog tb Bc Bx true Tryz.f70 [] (Ad true (BC x))) [1,1,1,1,1,1] st:=fun st=>by kernel_rfl
 have dA:∀ st,Ax ((B8 Tryz.prog tb Bc Bx true Tryz.f70 [] (Ad true (BC x))).cut [1,1,1,1]) [1] st=Ax (B8 Tryz.prog tb Bc Bx true Tryz.f70 [] (Ad true (BC x))) [1,1,1,1,1] st:=fun st=>by kernel_rfl
 have a:BC x=[x.A,x.B,x.C].take (AZ x.Op)++((if x.Op=30∨x.Op=39 then x.Args else[])++(if x.Op=2 then(if x.V.Scope=2 then[x.V.Who] else[])++x.V.Dims.map D.Dim.I else[])):=rfl;generalize BC x=R at a loop dA dB dC dD ⊢;have push:∀ {c:Ctx} {rel:List Nat} (l:List (Nat × VV)) (M:List Int) (z:Int) (F:Nat->List VV),(∀ i,F i=[VV.sc (.int .i64 (M.getD i 0))])->Ax c rel (Ay ((1,.bp 0 0)::(3,.ow 1 0 (M++[z]).length)::l) [.box (Az x),.arr true 0 (M++[z]).length 1 (AJ (M++[z]))]) ->
   Ax c rel (Ay ((1,.bp 0 0)::(3,.ow 1 0 (M.length+1))::l) [.box (Az x),.arr true 0 (M.length+1) 1 (fun i=>bif i.blt M.length then F i else(fun i=>List.take 1 (List.drop (i*1) [.sc (.int .i64 z)])) (i - M.length))]):=by
  intro c rel l M z F O h;rw[show M.length+1=(M++[z]).length by simp];exact Ax.le (hs':=[.box (Az x),.arr true 0 (M++[z]).length 1 (AJ (M++[z]))]) (AS _) ⟨Ob.le_refl _,Ap6 fun i hi=>AV (BR (f:=fun n=>[Aa n]) (d:=0) (l:=M) (r:=[z]) (F:=F) (fun i _=>O i) EX hi),trivial⟩ h
 have K:∀ (L:List Int),L.length<=2097151->L++(if x.Op=2 then(if x.V.Scope=2 then[x.V.Who] else[])++x.V.Dims.map D.Dim.I else[])=R->Ax (B8 Tryz.prog tb Bc Bx true Tryz.f70 [] (Ad true R)) [1,1,1,1,1,1,1] (IP x L):=by
  intro L H b;refine DU Ai Ak (by kernel_rfl) (AaG _ x L rfl) ⟨fun k=>⟨fun q=>⟨by omega,?_⟩,fun q=>?_⟩,fun k=>⟨trivial,?_⟩⟩
  ·refine push _ L _ _ (fun _=>rfl) (Eq.mpr (dD _) (loop _ (by simp;omega) ?_));rw[Aqc (by simpa using k),Aqc (by simpa using q)]at b;rw[← b,Aqp]
  ·refine Eq.mpr (dD _) (loop _ (by omega) ?_);rw[Aqc (by simpa using k),ApT (by simpa using q)]at b;exact b
  ·rw[ApT (by simpa using k),Aq1]at b;rw[b];exact VV.le_refl _
 have t:∀ (L:List Int),L.length<=3->L++((if x.Op=30∨x.Op=39 then x.Args else[])++(if x.Op=2 then(if x.V.Scope=2 then[x.V.Who] else[])++x.V.Dims.map D.Dim.I else[]))=R->Ax (B8 Tryz.prog tb Bc Bx true Tryz.f70 [] (Ad true R)) [1,1,1,1,1,1] (IP x L):=by
  intro L H b;refine DU Ai Ak (by kernel_rfl) (AaH _ x L rfl rfl) ⟨fun k=>⟨by omega,fun _ _=>rfl,?_⟩,fun k=>Eq.mpr (dC _) (K L (by omega) ?_)⟩
  ·have e:L.length+x.Args.length=(L++x.Args).length:=by simp
   rw[e];refine Ax.le (hs':=[.box (Az x),.arr true 0 (L++x.Args).length 1 (AJ (L++x.Args))]) (AS _) ⟨Ob.le_refl _,Ap6 fun i hi=>AV (V5 (fun i _=>rfl) hi),trivial⟩ (Eq.mpr (dC _) (K (L++x.Args) (by simp;omega) ?_));rw[Aqc (by simpa using k)]at b;rw[← b,Aqp]
  ·rw[ApT (by simpa using k),Aq0]at b;exact b
 refine Aq Tryz.func70 (AfI _ x rfl) ⟨(AZ x.Op:Nat),Py _,fun g1=>⟨by omega,?_⟩,fun g1=>?_⟩
 ·have u:1<=AZ x.Op:=by simp at g1;omega
  refine Ax.le (l':=[(1,.bp 0 0),(3,.ow 1 0 [x.A].length),(4,Aa (AZ x.Op:Nat))]) (hs':=[.box (Az x),.arr true 0 [x.A].length 1 (AJ [x.A])]) (AS _) ⟨Ob.le_refl _,Ap6 fun i hi=>AV (EX i hi),trivial⟩ ?_;change Ax _ _ (Gr x [x.A] (AZ x.Op:Nat));refine DU Ai Ak (by kernel_rfl) (Rw _ x [x.A] _ rfl) ⟨fun o=>⟨by simp,push _ [x.A] _ _ (fun _=>rfl) (Eq.mpr (dA _) ?_)⟩,fun o=>Eq.mpr (dA _) ?_⟩
  ·have E:2<=AZ x.Op:=by simp at o;omega
   change Ax _ _ (Gr x [x.A,x.B] (AZ x.Op:Nat));refine DU Ai Ak (by kernel_rfl) (Mm _ x [x.A,x.B] _ rfl) ⟨fun g=>⟨by simp,push _ [x.A,x.B] _ _ (fun _=>rfl) (Eq.mpr (dB _) (t [x.A,x.B,x.C] (by simp) ?_))⟩,fun g=>Eq.mpr (dB _) (t [x.A,x.B] (by simp) ?_)⟩
   ·have G:AZ x.Op=3:=by simp at g;omega
    rw[a,G]<;>rfl
   ·have G:AZ x.Op=2:=by simp at g;omega
    rw[a,G]<;>rfl
  ·have E:AZ x.Op=1:=by simp at o;omega
   change Ax _ _ (Gr x [x.A] (AZ x.Op:Nat));refine DU Ai Ak (by kernel_rfl) (Mm _ x [x.A] _ rfl) ⟨fun g=>absurd g (by rw[E];decide),fun g=>Eq.mpr (dB _) (t [x.A] (by simp) ?_)⟩;rw[a,E]<;>rfl
 ·have u:AZ x.Op=0:=by simp at g1;omega
  refine Ax.own 1 3 1 (AJ []) rfl ?_;change Ax _ _ (Gr x [] (AZ x.Op:Nat));refine DU Ai Ak (by kernel_rfl) (Rw _ x [] _ rfl) ⟨fun o=>absurd o (by rw[u];decide),fun o=>Eq.mpr (dA _) ?_⟩;change Ax _ _ (Gr x [] (AZ x.Op:Nat));refine DU Ai Ak (by kernel_rfl) (Mm _ x [] _ rfl) ⟨fun g=>absurd g (by rw[u];decide),fun g=>Eq.mpr (dB _) (t [] (by simp) ?_)⟩;rw[a,u]<;>rfl
theorem Rt {l:D.Loc}(h1:l.Esc.length<=1048576):Aj Tryz.prog 71 [] [.agg (A8 l)] [] (Bk true (BN l)):=by
 refine Aq Tryz.func71 (Afs _ l) ⟨by omega,by omega,fun i hi=>rfl,trivial,?_⟩;have e:1+l.Esc.length=(BN l).length:=by simp[BN];omega
 rw[e];refine AqD (.inl rfl) fun i hi=>AV ?_
 refine BR (l:=[l.Out]) (r:=l.Esc) (f:=fun w=>[Ap true w]) (d:=[]) (F:=fun i=>List.take 1 (List.drop (i*1) [Ap true l.Out])) (G:=fun i=>[Ap true (l.Esc.getD i [])]) (fun i hi=>?_) (fun i hi=>rfl) hi;grind
theorem AaK {m:D.Model}{a:Int}(h0:0<=a)(z:a<m.Exprs.length)(n:KW (Ao m a))(I:m.Procs.length<=1048576):Aj Tryz.prog 69 [] [.agg (Af m),Aa a] [] (Ac (Ep m a)):=by
 refine Aq Tryz.func69 (AfK _ m a rfl) ⟨⟨h0,z⟩,fun h=>Aw ?_,fun h=>?_⟩
 ·symm;rw[Aqn];intro f;unfold Ep at f;simp only[Apv,ApB]at f;have r:(bif decide ((Ao m a).Op<1) then true else decide ((Ao m a).Op > 39))=true:=h;simp at r;omega
 ·have s:1<=(Ao m a).Op/\(Ao m a).Op<=39:=by
   have r:(bif decide ((Ao m a).Op<1) then true else decide ((Ao m a).Op > 39))=false:=h;simp at r;omega
  have c:=n.Args.1;have g:=n.Match.1;have j:=n.V;have t:=n.N;generalize d:Ep m a=b;unfold Ep at d;simp only at d;refine⟨(AZ (Ao m a).Op:Nat),Py _,?_⟩;show Ax _ _ (Ay [(1,Aa a),(2,.bp 0 0),(5,.bp 1 0),(6,Aa (AZ (Ao m a).Op:Nat)),(7,.ow 2 0 3),(8,Aa 0)] [.box (Af m),.box (Az (Ao m a)),.arr true 0 3 1 (fun i=>List.take 1 (List.drop (i*1) [VV.sc (.int .i64 (Ao m a).A),.sc (.int .i64 (Ao m a).B),.sc (.int .i64 (Ao m a).C)]))]);generalize Ao m a=x at s c g j t d ⊢;have e:(decide (1<=x.Op)&&decide (x.Op<=39))=true:=by simp;omega
  rw[e,Ap7]at d;have st0:Ax (B8 Tryz.prog tb Bc LP true Tryz.f69 [] (Ac b)) [1,1,1,1,1,0,1,0] (Qf m a x (AZ x.Op:Nat) 0):=by
   refine As 3 (fun k=>Qf m a x (AZ x.Op:Nat) k) (fun k=>∀ i,i<k->EQ a x.Op i ([x.A,x.B,x.C].getD i 0)=true) (fun i hi=>by omega) ?_;intro k K o J next
   refine ApI (AaL _ m a x _ k J) ⟨fun E=>?_,fun u=>?_⟩
   ·have l:k<3:=by grind
    have v:(k:Int).toNat=k:=by omega
    rw[v];refine⟨⟨by omega,by omega⟩,inP a ([x.A,x.B,x.C].getD k 0),Mn,fun _=>⟨by omega,by omega⟩,fun p=>Aw ?_,fun p=>next _ l (BO o ?_) (Up.of ?_)⟩
    ·have hp:EQ a x.Op k ([x.A,x.B,x.C].getD k 0)=false:=by rw[Gw];exact congrArg (!·) p
     grind
    ·rw[Gw];exact congrArg (!·) p
    grind [Al]
   ·have w:3<=k:=by simp at u;omega
    have p0:EQ a x.Op 0 x.A=true:=o 0 (by omega);have F:EQ a x.Op 1 x.B=true:=o 1 (by omega);have G:EQ a x.Op 2 x.C=true:=o 2 (by omega);rw[p0,F,G]at d;simp only[Bool.and_self,Ap7]at d;subst d;refine⟨CR m x.N,NB _ _,Cr a x.Args,Ik (by omega),fun h1=>Aw ?_,fun h1=>⟨fun h2=>⟨_,Aaq j,Aw ?_⟩,fun h2=>⟨fun h3=>⟨_,L2 (by omega) c g,Aw ?_⟩,fun h3=>⟨fun h4=>⟨fun h5=>Aw ?_,fun h5=>⟨?_,Cr (FD m x.N).length x.Args,Ik (by omega),Aw ?_⟩⟩,fun h4 =>
     ⟨fun h5=>⟨fun p=>?_,Aw ?_⟩,fun h5=>Aw ?_⟩⟩⟩⟩⟩
    ·rw[Aqc (by simpa using h1)];rw[Aqe];simp[CO,Ft];omega
    ·grind
    ·grind
    ·rw[ApT (by simpa using h1),ApT (by simpa using h2),ApT (by simpa using h3),Aqc (by simpa using h4)];symm;rw[Aqn];intro f;simp[Lp]at f h5;simp[f]at h5;omega
    ·have:CR m x.N=true:=by grind
     simp[CR]at this;omega
    ·have q:CR m x.N=true:=by grind
     rw[ApT (by simpa using h1),ApT (by simpa using h2),ApT (by simpa using h3),Aqc (by simpa using h4)];have y:0<=x.N/\x.N<1073741824:=by simp[CR]at q;omega
     have H:1<=x.Args.length:=by grind
     unfold Lp;rw[q];simp[y,H]
    ·have:CR m x.N=true:=by grind
     simp[CR]at this;omega
    ·rw[ApT (by simpa using h1),ApT (by simpa using h2),ApT (by simpa using h3),ApT (by simpa using h4),Aqc (by simpa using h5)];cases q:CR m x.N
     ·rw[Aqe];simp
     ·have y:0<=x.N/\x.N<1073741824:=by simp[CR]at q;omega
      grind
    grind
  exact Ax.le (hs':=[.box (Af m),.box (Az x),.arr true 0 3 1 (AJ [x.A,x.B,x.C])]) (AS _) ⟨Ob.le_refl _,Ob.le_refl _,Ap6 fun i hi=>AV (by rcases(show i=0∨i=1∨i=2 by omega) with rfl | rfl | rfl<;>rfl),trivial⟩ st0
theorem NA (m:D.Model)(a:Int):Aj Tryz.prog 145 [] [.agg (Af m),Aa a] [] (Ac (Ca m a)):=by
 have b:(bif decide (a>=0) then decide (a<(m.Exprs.length:Int)) else false)=true->0<=a/\a<m.Exprs.length:=fun h=>by simpa using h
 refine Aq Tryz.func145 (Xn _ m a rfl) ⟨fun h=>b (by simpa using h),fun h=>b ?_,Aw ?_⟩
 ·grind
 ·show _=Ca m a;unfold Ca Ao DP inP;grind
theorem Aaw {m:D.Model}{s:D.Stmt}(hs:Pg s):Aj Tryz.prog 111 [] [.agg (Af m),.agg (Au s)] [] (Ac (AA m s)):=by
 have u:=hs.a;have v:=hs.m;have c:∀ {k:Int},(s.Kind==k)=true->s.Kind=k:=fun h=>by simpa using h
 have w:∀ {k:Int},(s.Kind==k)=false->s.Kind≠k:=fun h=>by simpa using h
 have len0:((bif (s.Args.length:Int)==0 then(s.Match.length:Int)==0 else false))=decide (s.Args.length+s.Match.length=0):=by grind
 have pl:(bif decide (s.A>=0) then decide (s.A<(m.Exprs.length:Int)) else false)=DP m s.A:=by rw[Bh]<;>rfl
 have plB:(bif decide (s.B>=0) then decide (s.B<(m.Exprs.length:Int)) else false)=DP m s.B:=by rw[Bh]<;>rfl
 have em:DR s true true true=(decide (s.Args.length+s.Match.length=0)&&decide (s.N=0)&&decide (s.Text.size=0)):=by simp only[DR,AqW,Aq3]
 have emn:DR s true false true=(decide (s.Args.length+s.Match.length=0)&&decide (s.Text.size=0)):=by simp only[DR,AqW,Bool.not_false,Bool.true_or,Bool.and_true,Aq3]
 refine Aq Tryz.func111 (AfB _ m s rfl rfl rfl) ⟨Ca m s.A,NA m s.A,Cr m.Exprs.length s.Args,Ik (by omega),?_⟩;have d:s.Kind=1∨s.Kind=3->AA m s=(DP m s.A&&decide (s.B=-1)&&DR s true true true):=fun h=>by unfold AA;rw[Aqc h]
 have t2:s.Kind=2->AA m s=(Ca m s.A&&DP m s.B&&DR s true true true):=fun h=>by unfold AA;grind
 have q:s.Kind=4->AA m s=(decide (s.A=-1)&&decide (s.B=-1)&&Cr m.Exprs.length s.Args&&decide (s.Match.length=0)&&decide (s.Text.size<=256)&&decide (s.N=0)):=fun h=>by unfold AA;grind
 have l:s.Kind=5->AA m s=(DP m s.A&&decide (s.B=-1)&&decide (1<=s.Args.length)&&decide (s.Args.length<=8)&&Cr m.Exprs.length s.Args&&decide (s.Match.length=0)&&(decide (s.N=0)||decide (s.N=1))&&decide (s.Text.size=0)):=fun h=>by unfold AA;grind
 have t6:s.Kind=6->AA m s=(DP m s.A&&decide (s.B=-1)&&GH m s&&decide (0<=s.N)&&decide (s.N<=3)&&decide (s.Text.size=0)):=fun h=>by unfold AA;grind
 have j:s.Kind=7∨s.Kind=8->AA m s=(decide (s.A=-1)&&decide (s.B=-1)&&DR s true true true):=fun h=>by unfold AA;grind
 have t9:s.Kind=9->AA m s=(Ca m s.A&&decide (s.B=-1)&&decide (0<=s.N)&&decide (s.N<m.Shapes.length)&&DR s true false true):=fun h=>by unfold AA;grind
 have tx:¬(s.Kind=1∨s.Kind=3)->s.Kind≠2->s.Kind≠4->s.Kind≠5->s.Kind≠6->¬(s.Kind=7∨s.Kind=8)->s.Kind≠9->AA m s=false:=fun h1 h2 h3 h4 h5 h6 h7=>by unfold AA;grind
 generalize AA m s=b at d t2 q l t6 j t9 tx ⊢;rw[len0,pl,plB,M9];rw[em]at d t2 j;rw[emn]at t9;generalize decide (s.Args.length+s.Match.length=0)=eLen at d t2 j t9 ⊢;generalize decide (s.Text.size=0)=eText at d t2 l t6 j t9 ⊢;refine⟨fun h1=>⟨fun _=>Aw ?_,fun h=>bt h1 h⟩,fun h1=>⟨fun h3=>Aw ?_,fun h3=>⟨fun h2=>Aw ?_,fun h2=>⟨fun h4=>Aw ?_,fun h4=>⟨fun h5=>Aw ?_,fun h5=>⟨fun h6=>⟨B4 m m.Exprs.length s.Args s.Match,L2 (Aq7 _) u v,fun n=>Aw ?_,fun n=>?_⟩,fun h6=>⟨fun h7=>⟨fun _=>Aw ?_,fun h=>bt h7 h⟩,fun h7=>⟨fun x=>Aw ?_,fun x=>⟨fun y=>Aw ?_,fun y=>Aw ?_⟩⟩⟩⟩⟩⟩⟩⟩⟩
 ·grind
 ·grind
 ·grind
 ·rw[q (c h4)];grind
 ·rw[l (c h5)];grind
 ·rw[t6 (c h6)];symm;rw[Aqn];intro z;simp only[GH,Apv,ApB]at z;grind
 ·have f:DP m s.A=true/\s.B=-1/\B4 m m.Exprs.length s.Args s.Match=true/\0<=s.N/\s.N<=3/\eText=true:=by simp_all
  obtain⟨C,E,r,F,G,H⟩:=f;have t:s.Match.length=s.Args.length:=by
   unfold B4 at r;grind
  have e:b=Cu s.Match.length fun i=>!decide (s.Match.getD i 0=0)||Ca m (s.Args.getD i 0):=by
   rw[t6 (c h6),C,H];unfold GH;rw[r];simp[E,F,G]
  rw[e];refine As s.Args.length (fun k=>Ng m s k) (fun k=>∀ i,i<k->(!decide (s.Match.getD i 0=0)||Ca m (s.Args.getD i 0))=true) (fun i hi=>by omega) ?_;intro k K L J next
  refine ApI (Aax _ m s k J) ⟨fun o=>?_,fun I=>Aw ?_⟩
  ·have g:k<s.Args.length:=by have:=AL o;omega
   have p:(k:Int).toNat=k:=by omega
   rw[p];have M:(!decide (s.Match.getD k 0=0)||Ca m (s.Args.getD k 0))=!(bif s.Match.getD k 0==0 then !(Ca m (s.Args.getD k 0)) else false):=by grind
   refine⟨⟨by omega,by omega⟩,Ca m (s.Args.getD k 0),NA _ _,⟨by omega,by omega⟩,fun n=>Aw ?_,fun n=>next _ g (fun i hi=>?_) (Up.of ?_)⟩
   ·grind [BG]
   ·grind
   grind [Al]
  grind [AP,AO]
 ·grind
 ·grind
 ·grind
 grind
theorem Aaz {m:D.Model}{i:Int}{v:D.Var}(h1:v.Scope=1->0<=i/\i<m.Procs.length)(h2:v.Scope≠0->v.Scope≠1->0<=v.Type_/\v.Type_<m.Procs.length):Aj Tryz.prog 112 [] [.agg (Af m),Aa i,.agg (Bz v)] [] (Aa (Fx m i v)):=by
 refine Aq Tryz.func112 (AfC _ m i v) ⟨fun h=>BK ?_,fun h=>⟨fun k=>⟨h1 (by simpa using k),BK ?_⟩,fun k=>⟨h2 (by simpa using h) (by simpa using k),BK ?_⟩⟩⟩
 ·unfold Fx;grind
 ·unfold Fx;grind
 ·unfold Fx;grind
def P2 (m:D.Model)(a k:Int)(run:Bool):Bool :=
 bif bif (Ao m k).Op==39 then !run else false then true else bif a==m.Claim then bif bif (Ao m k).Op==31 then true else(Ao m k).Op==39 then true else bif (Ao m k).Op==2 then(Ao m k).V.Scope==1 else false else false
def LX (m:D.Model)(a:Int):Nat->Int->Bool->Bool
 | 0,_,_=>true
 | g+1,k,run=>!P2 m a k run&&(!(bif (Ao m k).Op==2 then decide (DC (Ao m k).V > Fx m a (Ao m k).V) else false) &&
   Cu (BC (Ao m k)).length fun i=>LX m a g ((BC (Ao m k)).getD i 0) false)
def Gq (m:D.Model)(a k:Int)(run:Bool):Bool:=LX m a (k.toNat+1) k run
theorem Ty {m:D.Model}(o:EW m){a:Int}(p:0<=a)(v:a<m.Procs.length):∀ (g:Nat) (k:Int) (run:Bool),0<=k->k<m.Exprs.length->k.toNat<g->Aj Tryz.prog 73 [] [.agg (Af m),Aa a,Aa k,Ac run] [] (Ac (LX m a g k run))
 | 0,_,_,_,_,h=>absurd h (AqZ _)
 | g+1,k,run,h0,q,hg=>by
  have ih:=Ty o p v g;have x:=o.at h0 q;have c:=o.small _ (N5 h0 q);have r:=(o.wf.Exprs.2 _ (N5 h0 q)).V;have e:=o.slots h0 q;have b:=N0 x;have s:=NZ c.1 c.2;refine Aq Tryz.func73 (Afw _ m a k run rfl) ⟨⟨h0,q⟩,?_⟩;show((P2 m a k run)=true->_)/\((P2 m a k run)=false->_);change(_->_)/\(_->∃ y,(_->Aj _ _ _ [.agg (Bz (Ao m k).V)] _ _)/\∃ z,(_->Aj _ _ _ [_,_,.agg (Bz (Ao m k).V)] _ _)/\_);refine⟨fun h=>Aw ?_,fun h=>⟨DC (Ao m k).V,fun _=>Px r,Fx m a (Ao m k).V,fun h2=>Aaz (fun _=>⟨p,v⟩) (e (by simpa[Ao] using h2)),fun h2=>Aw ?_,fun h2=>⟨BC (Ao m k),Rv c.1 c.2,?_⟩⟩⟩
  ·unfold LX;rw[h]<;>rfl
  ·unfold LX;have n:(bif (Ao m k).Op==2 then decide (DC (Ao m k).V > Fx m a (Ao m k).V) else false)=true:=h2;rw[n,h]<;>rfl
  ·have n:(bif (Ao m k).Op==2 then decide (DC (Ao m k).V > Fx m a (Ao m k).V) else false)=false:=h2;unfold LX;rw[n,h];simp only[Bool.not_false,Ap7];generalize BC (Ao m k)=l at b s;refine As l.length (fun j=>Qa m a l j) (fun j=>∀ i,i<j->LX m a g (l.getD i 0) false=true) (fun i hi=>by omega) ?_;intro j E A J next
   refine ApI (Aas _ m a l j J) ⟨fun t=>?_,fun B=>Aw ?_⟩
   ·have f:j<l.length:=by have:=AL t;omega
    have u:(j:Int).toNat=j:=by omega
    rw[u];have C:=b _ (Av (d:=(0:Int)) f);refine⟨⟨by omega,by omega⟩,LX m a g (l.getD j 0) false,ih _ _ (by omega) (by omega) (by omega),fun w=>Aw ?_,fun w=>next _ f (BO A (by simpa using w)) (Up.of ?_)⟩
    ·grind [BG]
    grind [Al]
   grind [AP,AO]
theorem Hq {m:D.Model}(c:EW m){a:Int}(b:0<=a)(d:a<m.Procs.length){k:Int}{run:Bool}(h0:0<=k)(e:k<m.Exprs.length):Aj Tryz.prog 73 [] [.agg (Af m),Aa a,Aa k,Ac run] [] (Ac (Gq m a k run)) :=
 Ty c b d _ k run h0 e (Aqx _)
def Uu (m:D.Model)(a:Int)(s:D.Stmt):Bool:=bif bif bif bif a==m.Claim then s.Kind != 1 else false then s.Kind != 3 else false then s.Kind != 7 else false then s.Kind != 8 else false
def UF (m:D.Model)(a:Int)(s:D.Stmt):Bool :=
 AA m s&&(!Uu m a s&&((!decide (s.A>=0)||Gq m a s.A (s.Kind==1))&&((!decide (s.B>=0)||Gq m a s.B (s.Kind==2))&&Cu s.Args.length fun i=>Gq m a (s.Args.getD i 0) false)))
theorem Aft {m:D.Model}{a:Int}{s:D.Stmt}(k:EW m)(c:0<=a)(l:a<m.Procs.length)(hs:Pg s):Aj Tryz.prog 72 [] [.agg (Af m),Aa a,.agg (Au s)] [] (Ac (UF m a s)):=by
 have v:=hs.a;refine Aq Tryz.func72 (Ai4 _ m a s rfl) ⟨AA m s,Aaw hs,?_⟩;change((bif !(AA m s) then true else Uu m a s)=true->_)/\((bif !(AA m s) then true else Uu m a s)=false->_);have o:UF m a s=(AA m s&&(!Uu m a s&&((!decide (s.A>=0)||Gq m a s.A (s.Kind==1))&&((!decide (s.B>=0)||Gq m a s.B (s.Kind==2))&&Cu s.Args.length fun i=>Gq m a (s.Args.getD i 0) false)))):=rfl;generalize UF m a s=b at o ⊢;refine⟨fun h=>Aw ?_,fun h=>?_⟩
 ·grind
 have p:AA m s=true:=by grind
 have q:Uu m a s=false:=by rw[p]at h;simpa using h
 rw[p,q]at o;simp only[Bool.not_false,Ap7]at o;obtain⟨r,x,hB⟩:=K6 p;have loop:b=(Cu s.Args.length fun i=>Gq m a (s.Args.getD i 0) false)->Ax (B8 Tryz.prog tb Bc H5 true Tryz.f72 [] (Ac b)) [1,1,1,1,1,0,1,0] (Km m a s 0):=by
  intro e;rw[e];refine As s.Args.length (fun j=>Km m a s j) (fun j=>∀ i,i<j->Gq m a (s.Args.getD i 0) false=true) (fun i hi=>by omega) ?_;intro j C y J next
  refine ApI (Afu _ m a s j J) ⟨fun t=>?_,fun z=>Aw ?_⟩
  ·have f:j<s.Args.length:=by have:=AL t;omega
   have u:(j:Int).toNat=j:=by omega
   rw[u];have w:=r _ (Av (d:=(0:Int)) f);refine⟨⟨by omega,by omega⟩,Gq m a (s.Args.getD j 0) false,Hq k c l w.1 w.2,fun n=>Aw ?_,fun n=>next _ f (BO y (by simpa using n)) (Up.of ?_)⟩
   ·grind [BG]
   grind [Al]
  grind [AP,AO]
 refine⟨fun h1=>⟨Gq m a s.A (s.Kind==1),Hq k c l (by simpa using h1) (x (by simpa using h1)),fun n=>Aw ?_,fun n=>⟨fun h2=>⟨Gq m a s.B (s.Kind==2),Hq k c l (by simpa using h2) (hB (by simpa using h2)),fun g=>Aw ?_,fun g=>loop ?_⟩,fun h2=>loop ?_⟩⟩,fun h1=>⟨fun h2=>⟨Gq m a s.B (s.Kind==2),Hq k c l (by simpa using h2) (hB (by simpa using h2)),fun g=>Aw ?_,fun g=>loop ?_⟩,fun h2=>loop ?_⟩⟩
 all_goals grind
 all_goals grind
def Oo (m:D.Model)(a:Int)(w:List D.Trans):Bool:=Cu w.length fun h=>UF m a (w.getD h default).S
def Yl (m:D.Model)(a:Int)(l:D.Loc):Bool:=Cu (BN l).length fun j=>Oo m a ((BN l).getD j [])
def J9 (m:D.Model)(a:Int):Bool:=(Cu (A3 m a).Locs.length fun k=>Yl m a ((A3 m a).Locs.getD k default))&&(decide ((A3 m a).Provided<0)||Gq m a (A3 m a).Provided false)
theorem Ae2 {s:D.Stmt}(h:P1 s):Pg s:=⟨h.Args.1,h.Match.1⟩
theorem SV {m:D.Model}{a:Int}(G:EW m)(s:0<=a)(H:a<m.Procs.length)(v:(A3 m a).Provided<m.Exprs.length):Aj Tryz.prog 39 [] [.agg (Af m),Aa a] [] (Ac (J9 m a)):=by
 have u:GU (A3 m a):=G.wf.Procs.2 _ (Av (by omega));refine Aq Tryz.func39 (U4 _ m a) ⟨⟨s,H⟩,?_⟩;have x:J9 m a=((Cu (A3 m a).Locs.length fun k=>Yl m a ((A3 m a).Locs.getD k default))&&(decide ((A3 m a).Provided<0)||Gq m a (A3 m a).Provided false)):=rfl;change Ax _ _ (IL m a (A3 m a) 0);generalize J9 m a=b at x ⊢;generalize A3 m a=p at x u v ⊢;have Y:=u.Locs.1;refine As p.Locs.length (fun k=>IL m a p k) (fun k=>∀ i,i<k->Yl m a (p.Locs.getD i default)=true) (fun i hi=>by omega) ?_;intro k Z T J next
 refine ApI (Aap _ m a p k J) ⟨fun I=>?_,fun K=>?_⟩
 ·have o:k<p.Locs.length:=by have:=AL I;omega
  have L:(k:Int).toNat=k:=by omega
  rw[L];have g:=u.Locs.2 _ (Av (d:=default) o);have no:Yl m a (p.Locs.getD k default)=false->false=b:=fun h=>by grind [BG]
  have yes:Yl m a (p.Locs.getD k default)=true->J (IL m a p ((k:Int)+1)):=fun h=>next _ o (BO T h) (Up.of rfl)
  generalize p.Locs.getD k default=l at g no yes ⊢;have ho:=g.Out.1;have M:=g.Esc.1;refine⟨⟨by omega,by omega⟩,BN l,Rt M,?_⟩;have y:(BN l).length<=1048577:=by simp[BN];omega
  have q:∀ w∈BN l,w.length<=1048576/\∀ t∈w,MX t:=by
   intro w N;rcases Aqk.1 N with rfl | N
   ·exact g.Out
   ·exact g.Esc.2 w N
  unfold Yl at no yes;generalize BN l=ws at no yes y q ⊢;refine As ws.length (fun j=>Kl m a p k ws j) (fun j=>∀ i,i<j->Oo m a (ws.getD i [])=true) (fun i hi=>by omega) ?_;intro j hj O J2 next2;refine ApI (Aao _ m a p k ws j J J2) ⟨fun z=>?_,fun U=>?_⟩
  ·have c:j<ws.length:=by have:=AL z;omega
   have A:(j:Int).toNat=j:=by omega
   have r:=q _ (Av (d:=[]) c);have no2:Oo m a (ws.getD j [])=false->false=b:=fun h=>no (BG (f:=fun j=>Oo m a (ws.getD j [])) c h)
   have yes2:Oo m a (ws.getD j [])=true->J2 (Kl m a p k ws ((j:Int)+1)):=fun h=>next2 _ c (BO O h) (Up.of rfl)
   refine As (ws.getD j []).length (fun h=>Nf m a p k ws j h) (fun h=>∀ i,i<h->UF m a ((ws.getD j []).getD i default).S=true) (fun i hi=>by omega) ?_;intro h3 X B J3 next3;refine ApI (Aan _ m a p k ws j h3 J J2 J3) ?_;rw[A];have V:=r.1;refine⟨⟨by omega,by omega⟩,fun C=>?_,fun E=>?_⟩
   ·have e:h3<(ws.getD j []).length:=by have:=AL C;omega
    have F:(h3:Int).toNat=h3:=by omega
    rw[F];have P:=(r.2 _ (Av (d:=default) e)).S;refine⟨⟨by omega,by omega⟩,⟨by omega,by omega⟩,UF m a ((ws.getD j []).getD h3 default).S,Aft G s H (Ae2 P),fun Q=>Aw (no2 ?_),fun Q=>next3 _ e (BO B (by simpa using Q)) (Up.of ?_)⟩
    ·exact BG (f:=fun h=>UF m a ((ws.getD j []).getD h default).S) e (by simpa using Q)
    grind [Al]
   ·have R:(ws.getD j []).length<=h3:=by have:=AP E;omega
    rw[Al (by omega)];exact yes2 (AO.2 fun i hi=>B i (by omega))
  grind [AP,Al,AO]
 ·have W:p.Locs.length<=k:=by have:=AP K;omega
  rw[(AO (n:=p.Locs.length) (f:=fun k=>Yl m a (p.Locs.getD k default))).2 fun i hi=>T i (by omega),Ap7]at x;refine⟨fun h2=>Aw ?_,fun h2=>⟨Gq m a p.Provided false,Hq G s H ?_ v,Aw ?_⟩⟩
  ·rw[x,h2]<;>rfl
  ·grind
  ·rw[x,h2]<;>rfl
def AeO (p:D.Proc):Bool :=
 bif bif bif bif bif decide ((p.Frame.length:Int) > 128) then true else(p.Init.length:Int) != (p.Frame.length:Int) then true else decide (p.Params<0) then true else decide (p.Params > (p.Frame.length:Int)) then true else decide ((p.Locs.length:Int)<1) then true else decide ((p.Locs.length:Int) > 256)
def AeN (m:D.Model)(p:D.Proc)(y:Int):Bool :=
 bif bif bif bif bif bif bif bif bif bif decide (y>=0) then true else decide (p.Start<0) then true else decide (p.Start>=(p.Locs.length:Int)) then true else decide (p.Final<0) then true else decide (p.Final>=(p.Locs.length:Int)) then true else decide (p.Active<0) then true else decide (p.Active > 16) then true else decide (p.Prio<1) then true else decide (p.Prio > 255) then true else decide (p.Provided<(-1:Int)) then true else decide (p.Provided>=(m.Exprs.length:Int))
def Aid (m:D.Model)(a:Int)(p:D.Proc):Bool :=
 bif a==m.Claim then bif bif decide ((p.Frame.length:Int) > 0) then true else decide (p.Active > 0) then true else decide (p.Provided>=0) else false
def PU (m:D.Model)(a:Int)(p:D.Proc)(k:Int)(l:D.Loc):Bool :=
 bif bif bif decide ((l.Esc.length:Int) > 8) then true else bif l.Dstep then l.Atomic else false then true else bif k==p.Final then bif decide ((l.Out.length:Int) > 0) then true else decide ((l.Esc.length:Int) > 0) else false then true else bif a==m.Claim then bif bif decide ((l.Esc.length:Int) > 0) then true else l.Atomic then true else l.Dstep else false
def Kg (p:D.Proc)(t:D.Trans):Bool:=bif decide (t.To<0) then true else decide (t.To>=(p.Locs.length:Int))
def Ka (j:Int)(w:List D.Trans):Bool:=bif decide (j > 0) then(w.length:Int)==0 else false
def SS (p:D.Proc)(ws:List (List D.Trans)):Bool:=Cu ws.length fun j=>!Ka j (ws.getD j [])&&Cu (ws.getD j []).length fun h=>!Kg p ((ws.getD j []).getD h default)
def IE (ws:List (List D.Trans)):Nat:=(ws.map List.length).sum
def ON (ls:List D.Loc):Nat:=(ls.map fun l=>IE (BN l)).sum
def E3 (m:D.Model)(a:Int):Bool :=
 !AeO (A3 m a)&&(!AeN m (A3 m a) (EZ (A3 m a).Frame (A3 m a).Init)&&(!Aid m a (A3 m a) &&
  ((Cu (A3 m a).Locs.length fun k=>!PU m a (A3 m a) k ((A3 m a).Locs.getD k default)&&SS (A3 m a) (BN ((A3 m a).Locs.getD k default)))&&decide ((ON (A3 m a).Locs:Int)<=1024))))
theorem AgK {ws:List (List D.Trans)}{j:Nat}(a:j<ws.length):IE (ws.take (j+1))=IE (ws.take j)+(ws.getD j []).length:=by
 unfold IE;grind [Fj,Arb]
theorem AgL {ls:List D.Loc}{j:Nat}(a:j<ls.length):ON (ls.take (j+1))=ON (ls.take j)+IE (BN (ls.getD j default)):=by
 unfold ON;grind [Fj,Arb]
theorem Xp {m:D.Model}{a:Int}(z:AG m)(K:0<=a)(Y:a<m.Procs.length):Aj Tryz.prog 38 [] [.agg (Af m),Aa a] [] (Ac (E3 m a)):=by
 have u:GU (A3 m a):=z.Procs.2 _ (Av (by omega));refine Aq Tryz.func38 (Aav _ m a rfl rfl rfl rfl) ⟨⟨K,Y⟩,?_⟩;have e:E3 m a=(!AeO (A3 m a)&&(!AeN m (A3 m a) (EZ (A3 m a).Frame (A3 m a).Init)&&(!Aid m a (A3 m a) &&
  ((Cu (A3 m a).Locs.length fun k=>!PU m a (A3 m a) k ((A3 m a).Locs.getD k default)&&SS (A3 m a) (BN ((A3 m a).Locs.getD k default)))&&decide ((ON (A3 m a).Locs:Int)<=1024))))):=rfl
 change(AeO (A3 m a)=true->_)/\(AeO (A3 m a)=false->∃ y,Aj _ _ _ [AC true (A3 m a).Frame,Ad true (A3 m a).Init] _ _/\(AeN m (A3 m a) y=true->_)/\(AeN m (A3 m a) y=false->(Aid m a (A3 m a)=true->_)/\(Aid m a (A3 m a)=false->Ax _ _ (Ha m a (A3 m a) 0 0))));generalize E3 m a=b at e ⊢;generalize A3 m a=p at e u ⊢;have L:=u.Frame.1;refine⟨fun h=>Aw (by rw[e,h]<;>rfl),fun h=>?_⟩;have hA:p.Init.length=p.Frame.length/\p.Locs.length<=256:=by
  unfold AeO at h;simp at h;omega
 rw[h]at e;refine⟨EZ p.Frame p.Init,Pv (by omega) L,fun h2=>Aw (by rw[e,h2]<;>rfl),fun h2=>?_⟩;rw[h2]at e;refine⟨fun h3=>Aw (by rw[e,h3]<;>rfl),fun h3=>?_⟩;rw[h3]at e;simp only[Bool.not_false,Ap7]at e;refine As p.Locs.length (fun k=>Ha m a p (ON (p.Locs.take k)) k) (fun k=>(∀ i,i<k->(!PU m a p i (p.Locs.getD i default)&&SS p (BN (p.Locs.getD i default)))=true)/\ON (p.Locs.take k)<=k*9437184) ⟨fun i hi=>by omega,by simp[ON]⟩ ?_;intro k hk ⟨Z,N⟩ J next
 refine ApI (Xs _ m a p _ k J rfl) ⟨fun O=>?_,fun P=>?_⟩
 ·have g:k<p.Locs.length:=by have:=AL O;omega
  have Q:(k:Int).toNat=k:=by omega
  rw[Q];have r:=u.Locs.2 _ (Av (d:=default) g);have no:(!PU m a p k (p.Locs.getD k default)&&SS p (BN (p.Locs.getD k default)))=false->false=b:=fun h=>by grind [BG]
  have A:=AgL g;have yes:(!PU m a p k (p.Locs.getD k default)&&SS p (BN (p.Locs.getD k default)))=true->IE (BN (p.Locs.getD k default))<=9437184->J (Ha m a p ((ON (p.Locs.take k):Int)+IE (BN (p.Locs.getD k default))) ((k:Int)+1)):=fun h h'=>next _ g (by grind) (Up.of (by rw[A]<;>rfl))
  clear next
  generalize ON (p.Locs.take k)=many at N yes ⊢;generalize p.Locs.getD k default=l at r no yes ⊢;have ho:=r.Out.1;have R:=r.Esc.1;refine⟨⟨by omega,by omega⟩,fun v=>Aw (no ?_),fun v=>⟨BN l,Rt R,?_⟩⟩
  ·rw[show PU m a p k l=true from v]<;>rfl
  have S:l.Esc.length<=8:=by grind
  rw[show PU m a p k l=false from v]at no yes;simp only[Bool.not_false,Ap7]at no yes;have B:(BN l).length<=9:=by simp[BN];omega
  have s:∀ w∈BN l,w.length<=1048576:=by
   intro w z;rcases Aqk.1 z with rfl | z
   ·exact ho
   ·exact(r.Esc.2 w z).1
  generalize BN l=ws at no yes B s ⊢;unfold SS at no yes;refine As ws.length (fun j=>IN m a p ((many:Int)+IE (ws.take j)) k ws j) (fun j=>(∀ i:Nat,i<j->(!Ka i (ws.getD i [])&&Cu (ws.getD i []).length fun h=>!Kg p ((ws.getD i []).getD h default))=true)/\IE (ws.take j)<=j*1048576) ⟨fun i hi=>by omega,by simp[IE]⟩ ?_ |> fun h=>by rw[show(many:Int)+(IE (ws.take 0):Nat)=many by simp[IE]]at h;exact h
  intro j hj ⟨C,T⟩ J2 next2;refine ApI (Xr _ m a p _ k ws j J J2) ⟨fun E=>?_,fun F=>?_⟩
  ·have c:j<ws.length:=by have:=AL E;omega
   have t:(j:Int).toNat=j:=by omega
   rw[t];have W:=s _ (Av (d:=[]) c);have U:=AgK c;have no2:(!Ka j (ws.getD j [])&&Cu (ws.getD j []).length fun h=>!Kg p ((ws.getD j []).getD h default))=false->false=b:=fun h=>no (BG (f:=fun j:Nat=>!Ka j (ws.getD j [])&&Cu (ws.getD j []).length fun h=>!Kg p ((ws.getD j []).getD h default)) c h)
   have yes2:(!Ka j (ws.getD j [])&&Cu (ws.getD j []).length fun h=>!Kg p ((ws.getD j []).getD h default))=true->J2 (IN m a p ((many:Int)+(IE (ws.take j)+(ws.getD j []).length:Nat)) k ws ((j:Int)+1)):=fun h=>next2 _ c ⟨fun i hi=>by
    rcases AqO.1 hi with h2 | rfl
    ·exact C i h2
    ·exact h,by omega⟩ (Up.of (by rw[U]<;>rfl))
   refine⟨fun _=>⟨by omega,by omega⟩,fun x=>Aw (no2 ?_),fun x=>⟨⟨by omega,by omega⟩,?_⟩⟩
   ·rw[show Ka j (ws.getD j [])=true from x]<;>rfl
   rw[show Ka j (ws.getD j [])=false from x]at no2 yes2;simp only[Bool.not_false,Ap7]at no2 yes2;have hN:IntKind.i64.wrap ((many:Int)+IE (ws.take j)+((ws.getD j []).length:Int))=(many:Int)+(IE (ws.take j)+(ws.getD j []).length:Nat):=by
    rw[AK (by omega) (by omega)];omega
   rw[hN];generalize (many:Int)+(IE (ws.take j)+(ws.getD j []).length:Nat)=M at yes2 ⊢;refine As (ws.getD j []).length (fun h=>La m a p M k ws j h) (fun h=>∀ i,i<h->(!Kg p ((ws.getD j []).getD i default))=true) (fun i hi=>by omega) ?_;intro h3 hh3 V J3 next3;refine ApI (Xq _ m a p M k ws j h3 J J2 J3 rfl) ?_;rw[t];refine⟨⟨by omega,by omega⟩,fun G=>?_,fun X=>?_⟩
   ·have o:h3<(ws.getD j []).length:=by have:=AL G;omega
    have H:(h3:Int).toNat=h3:=by omega
    rw[H];refine⟨⟨by omega,by omega⟩,⟨by omega,by omega⟩,fun _=>⟨by omega,by omega⟩,fun _=>⟨by omega,by omega⟩,fun v=>Aw (no2 ?_),fun v=>next3 _ o (BO V ?_) (Up.of ?_)⟩
    ·exact BG (f:=fun h=>!Kg p ((ws.getD j []).getD h default)) o (by show(!Kg p _)=false;rw[show Kg p ((ws.getD j []).getD h3 default)=true from v]<;>rfl)
    ·rw[show Kg p ((ws.getD j []).getD h3 default)=false from v]<;>rfl
    grind [Al]
   grind [AP,Al,AO]
  ·have q:ws.length<=j:=by have:=AP F;omega
   rw[Al (by omega),Aqq q];rw[Aqq q]at T;exact yes (AO.2 fun i hi=>C i (by omega)) (by omega)
 ·have I:p.Locs.length<=k:=by have:=AP P;omega
  rw[(AO (n:=p.Locs.length) (f:=fun k:Nat=>!PU m a p k (p.Locs.getD k default)&&SS p (BN (p.Locs.getD k default)))).2 fun i hi=>Z i (by omega),Ap7]at e;rw[Aqq I];exact Aw e.symm
theorem Ot {m:D.Model}{a:Int}(h:E3 m a=true):(A3 m a).Provided<m.Exprs.length/\0<=(A3 m a).Active/\(A3 m a).Active<=16:=by
 unfold E3 at h;simp only[Apv,Aqt]at h;have b:=h.2.1;unfold AeN at b;simp_all
theorem U7 {m:D.Model}(A:AG m):Aj Tryz.prog 37 [] [.agg (Af m)] [] (.tup [Aa (BZ m).1,Aa (BZ m).2]):=by
 have U:=A.Globals.1;have hS:=A.Shapes.1;have hC:=A.Chans.1;have hE:=A.Exprs.1;have O:=A.Procs.1;refine Aq Tryz.func37 (Xo _ _ m) ?_;have W:(bif decide ((m.Globals.length:Int) > 128) then true else(m.Init.length:Int) != (m.Globals.length:Int))=(decide (128<m.Globals.length)||!decide (m.Init.length=m.Globals.length)):=by grind
 have t2:(bif decide ((m.Shapes.length:Int) > 32) then true else decide ((m.Chans.length:Int) > 32))=(decide (32<m.Shapes.length)||decide (32<m.Chans.length)):=by grind
 have Y:(bif bif bif bif decide ((m.Procs.length:Int)<1) then true else decide ((m.Procs.length:Int) > 16) then true else decide (m.Claim<(-1:Int)) then true else decide (m.Claim>=(m.Procs.length:Int)) then true else decide ((m.Exprs.length:Int) > 4096)) =
   (decide (m.Procs.length<1)||(decide (16<m.Procs.length)||(decide (m.Claim < -1)||(decide ((m.Procs.length:Int)<=m.Claim)||decide (4096<m.Exprs.length))))):=by grind
 rw[W,t2];generalize B:BZ m=R;unfold BZ at B;refine⟨fun h=>FT (by grind),fun h=>⟨EZ m.Globals m.Init,Pv (by simp at h;omega) U,fun h2=>FT (by grind),fun h2=>⟨fun h3=>FT ?_,fun h3=>?_⟩⟩⟩
 ·grind
 rw[h,Apw,h2,Apw,h3,Apw]at B;refine As m.Shapes.length (fun k=>Qc m k) (fun k=>∀ i,i<k->Di (m.Shapes.getD i default)=true) (fun i hi=>by omega) ?_;intro k T v J next
 refine ApI (AfA _ _ m k J) ⟨fun q=>?_,fun r=>?_⟩
 ·have b:k<m.Shapes.length:=by have:=AL q;omega
  refine⟨⟨by omega,by omega⟩,Di (m.Shapes.getD k default),Xt (A.Shapes.2 _ (Av b)),fun n=>FT ?_,fun n=>next _ b (BO v (by simpa using n)) (Up.of ?_)⟩
  ·have e:GV m=k:=Ek (f:=fun i=>Di (m.Shapes.getD i default)) v b (by simpa using n);grind
  grind [Al]
 have x:m.Shapes.length<=k:=by have:=AP r;omega
 have es:GV m=-1:=DE (f:=fun i=>Di (m.Shapes.getD i default)) fun i hi=>v i (by omega)
 rw[es,show decide ((0:Int)<=-1)=false from rfl,Apw]at B;clear v next
 refine As m.Chans.length (fun k=>Qb m k) (fun k=>∀ i,i<k->inP m.Shapes.length (m.Chans.getD i 0)=true) (fun i hi=>by omega) ?_;intro k T v J next
 refine ApI (Afz _ _ m k J rfl rfl) ⟨fun q=>?_,fun r=>?_⟩
 ·have b:k<m.Chans.length:=by have:=AL q;omega
  have s:(k:Int).toNat=k:=by omega
  rw[s];have c:inP m.Shapes.length (m.Chans.getD k 0)=!(bif decide (m.Chans.getD k 0<0) then true else decide (m.Chans.getD k 0>=(m.Shapes.length:Int))):=by unfold inP;rw[Aqe];simp
  refine⟨⟨by omega,by omega⟩,fun _=>⟨by omega,by omega⟩,fun n=>FT ?_,fun n=>next _ b (BO v (by rw[c,n]<;>rfl)) (Up.of ?_)⟩
  ·have e:JK m=k:=Ek (f:=fun i=>inP m.Shapes.length (m.Chans.getD i 0)) v b (by grind);grind
  grind [Al]
 have x:m.Chans.length<=k:=by have:=AP r;omega
 have ec:JK m=-1:=DE (f:=fun i=>inP m.Shapes.length (m.Chans.getD i 0)) fun i hi=>v i (by omega)
 rw[ec,show decide ((0:Int)<=-1)=false from rfl,Apw]at B;rw[Y];refine⟨fun h4=>FT (by grind),fun h4=>⟨⟨by omega,by omega,by omega⟩,?_⟩⟩;rw[h4,Apw]at B;clear v next
 have G:((m.Exprs.length:Int).toNat)=(A9 m).length:=by simp[A9]
 have H:(A9 m).length=m.Exprs.length:=by simp[A9]
 refine Ax.le (l':=[(1,.bp 0 0),(8,.ow 1 0 (A9 m).length),(9,Aa 0)]) (hs':=[.box (Af m),.arr true 0 (A9 m).length 1 (Ex (A9 m))]) ?_ ?_ ?_
 ·rw[G];exact AS _
 ·rw[G];refine⟨Ob.le_refl _,Ap6 fun i hi=>AV ?_,trivial⟩;have:(A9 m).getD i false=false:=by
   have P:i<m.Exprs.length:=by rw[← H];exact hi
   simp[A9,List.getD,P]
  show _=[Ac ((A9 m).getD i false)];rw[this]<;>rfl
 generalize Z:JB m=X at B;have fin:∀ {y:Int × Int},(bif decide (0<=X) then((3:Int),X) else(0,0))=y->y=R:=fun h=>by rw[← h];exact B
 refine Ar (fun g st=>∃ (k:Nat) (had:List Bool),k<=m.Exprs.length/\g=m.Exprs.length - k/\had.length=m.Exprs.length/\Gc m (m.Exprs.length - k) k had=X/\st=UZ m had k) ⟨_,Up.of ⟨0,A9 m,ApD _,rfl,H,Z,rfl⟩⟩ ?_;rintro g st ⟨k,had,T,rfl,Q,w,rfl⟩;refine ApI (Afy _ _ m had k _) ⟨fun q=>?_,fun r=>FT (fin ?_)⟩
 ·have b:k<m.Exprs.length:=by have:=AL q;omega
  have s:(k:Int).toNat=k:=by omega
  rw[s];have t:KW (m.Exprs.getD k default):=A.Exprs.2 _ (Av b);rw[show m.Exprs.length - k=(m.Exprs.length - (k+1))+1 by omega]at w;unfold Gc at w;refine⟨Ep m k,AaK (by omega) (by omega) (by unfold Ao;rw[s];exact t) O,fun n=>FT (fin ?_),fun n=>⟨⟨by omega,by omega⟩,BC (m.Exprs.getD k default),Rv t.Args.1 t.V.Dims.1,?_⟩⟩
  ·grind
  ·have I:Ep m k=true:=by simpa using n
   rw[I,Apy]at w;have c:=N0 I;have C:=NZ t.Args.1 t.V.Dims.1;unfold Ao at c;rw[s]at c;generalize BC (m.Exprs.getD k default)=l at c C w ⊢;generalize ho:S5 had l=o at w;refine Ar (fun g st=>∃ (j:Nat) (a:List Bool),j<=l.length/\g=l.length - j/\a.length=m.Exprs.length/\S5 a (l.drop j)=o/\st=UY m a k l j) ⟨_,Up.of ⟨0,had,ApD _,rfl,Q,ho,rfl⟩⟩ ?_;rintro g st ⟨j,a,hj,rfl,K,z,rfl⟩;refine ApI (Afx _ _ m a k l j _ _ rfl) ⟨fun L=>?_,fun M=>?_⟩
   ·have u:j<l.length:=by have:=AL L;omega
    have N:(j:Int).toNat=j:=by omega
    rw[N];have S:=c _ (Av (d:=0) u);rw[Bs (d:=0) u]at z;generalize l.getD j 0=p at S z ⊢;unfold S5 at z;refine⟨⟨by omega,by omega⟩,⟨by omega,by omega⟩,fun n=>FT (fin ?_),fun n=>⟨⟨by omega,by omega⟩,⟨by omega,by omega⟩,l.length - (j+1),by omega,?_⟩⟩
    ·grind
    ·rw[n,Apw]at z;have E:(a.set p.toNat true).length=a.length:=by simp
     rw[Al (by omega)];refine Up.mk (l':=[(1,.bp 0 0),(8,.ow 1 0 (a.set p.toNat true).length),(9,Aa k),(11,Ad true l),(12,Aa ((j+1:Nat):Int))])
      (hs':=[.box (Af m),.arr true 0 (a.set p.toNat true).length 1 (Ex (a.set p.toNat true))]) ?_ ?_ ⟨j+1,a.set p.toNat true,by omega,rfl,by rw[E];exact K,z,rfl⟩
     ·rw[E];exact AS _
     ·rw[E];exact⟨Ob.le_refl _,Ap6 fun i hi=>AV (Qm hi),trivial⟩
   ·have F:l.length<=j:=by have:=AP M;omega
    rw[Aqz F]at z;unfold S5 at z;rw[← z]at w;rw[Al (by omega)];exact⟨m.Exprs.length - (k+1),by omega,Up.of (by grind)⟩
 ·have x:m.Exprs.length<=k:=by have:=AP r;omega
  rw[show m.Exprs.length - k=0 by omega]at w;unfold Gc at w;rw[← w]<;>rfl
def Q7 (m:D.Model):Int:=I4 m.Procs.length fun i:Nat=>E3 m i
def AhD (m:D.Model):Int:=I4 m.Procs.length fun i:Nat=>J9 m i
def JH (m:D.Model):Int × Int × Int :=
 bif decide (0<(BZ m).1) then(40,BZ m) else bif decide (0<=Q7 m) then(40,4,Q7 m) else bif decide (16<EU m m.Procs.length) then(40,5,-1)
 else bif decide (0<=AhD m) then(40,6,AhD m) else(0,0,0)
def Vs (m:D.Model):Bool:=(JH m).1==0
theorem XD {m:D.Model}(q:AG m):Aj Tryz.prog 26 [] [.agg (Af m)] [] (.tup [Aa (JH m).1,Aa (JH m).2.1,Aa (JH m).2.2]):=by
 have x:=q.Procs.1;refine Aq Tryz.func26 (AaR _ _ _ m) ⟨BZ m,U7 q,?_⟩;generalize r:JH m=R;unfold JH at r;refine⟨fun h=>L4 (by grind),fun h=>?_⟩;have b:=Jh q (ApY h);rw[show decide (0<(BZ m).1)=false from h,Apw]at r;refine As m.Procs.length (fun k=>Ld m (EU m k) k) (fun k=>(∀ i:Nat,i<k->E3 m i=true)/\0<=EU m k/\EU m k<=16*k) ⟨fun i hi=>by omega,by simp[EU],by simp[EU]⟩ ?_;intro k t ⟨c,u,v⟩ J next
 refine ApI (XF _ _ _ m (EU m k) k J rfl) ⟨fun g=>?_,fun j=>?_⟩
 ·have a:k<m.Procs.length:=by have:=AL g;omega
  have n:(k:Int).toNat=k:=by omega
  rw[n];refine⟨E3 m k,Xp q (by omega) (by omega),fun l=>L4 ?_,fun l=>⟨⟨by omega,by omega⟩,?_⟩⟩
  ·have e:Q7 m=k:=Ek (f:=fun i:Nat=>E3 m i) c a (by simpa using l);grind
  ·have o:E3 m k=true:=by simpa using l
   have p:=(Ot o).2;unfold A3 at p;rw[n]at p;have w:=TX a;refine next _ a ⟨BO c o,by omega,by omega⟩ (Up.of ?_)
   grind [Al,AK]
 ·have d:k=m.Procs.length:=by have:=AP j;omega
  subst d;have e:Q7 m=-1:=DE (f:=fun i:Nat=>E3 m i) fun i hi=>c i (by omega)
  rw[e,show decide ((0:Int)<=-1)=false from rfl,Apw]at r;refine⟨fun h2=>L4 (by grind),fun h2=>?_⟩;rw[show decide (16<EU m m.Procs.length)=false from h2,Apw]at r;have s:∀ i:Nat,i<m.Procs.length->(A3 m i).Provided<m.Exprs.length:=fun i hi=>(Ot (c i hi)).1
  clear c next
  refine As m.Procs.length (fun k=>Lc m k) (fun k=>∀ i:Nat,i<k->J9 m i=true) (fun i hi=>by omega) ?_;intro k t c J next
  refine ApI (XE _ _ _ m k J) ⟨fun g=>?_,fun j=>L4 ?_⟩
  ·have a:k<m.Procs.length:=by have:=AL g;omega
   refine⟨J9 m k,SV b (by omega) (by omega) (s _ (by omega)),fun l=>L4 ?_,fun l=>next _ a (BO c (by simpa using l)) (Up.of ?_)⟩
   ·have e:AhD m=k:=Ek (f:=fun i:Nat=>J9 m i) c a (by simpa using l);grind
   grind [Al]
  ·have d:m.Procs.length<=k:=by have:=AP j;omega
   have e:AhD m=-1:=DE (f:=fun i:Nat=>J9 m i) fun i hi=>c i (by omega)
   grind
theorem Xz {m:D.Model}(a:AG m):Aj Tryz.prog 12 [] [.agg (Af m)] [] (Ac (Vs m)) :=
 Aq Tryz.func12 (AaE _ m) ⟨JH m,XD a,Aw rfl⟩
theorem Yg {m:D.Model}(h:Vs m=true):BZ m=(0,0):=by
 unfold Vs JH at h;have a:¬ 0<(BZ m).1:=by grind
 have cases2:(BZ m)=(0,0)∨0<(BZ m).1:=by
  unfold BZ;grind
 exact cases2.resolve_right a
theorem Jp {t:List D.Type}{l:List Int}(f:Len l.length):Aj Tryz.prog 22 [] [AC true t,Ad true l] [] (Ac (Bw t l)):=by
 unfold Len at f;refine Aq Tryz.func22 (Xl _ t l) ⟨fun h=>Aw ?_,fun h=>?_⟩
 ·unfold Bw;grind
 ·have c:t.length=l.length:=by simp at h;omega
  have e:Bw t l=Cu l.length fun i=>CO (t.getD i default) (l.getD i 0):=by unfold Bw;grind
  rw[e];refine As t.length (fun k=>Tt t l k) (fun k=>∀ i,i<k->CO (t.getD i default) (l.getD i 0)=true) (fun i hi=>by omega) ?_;intro k m g J next
  refine ApI (U6 _ t l k J) ⟨fun b=>?_,fun j=>Aw ?_⟩
  ·have a:k<t.length:=by have:=AL b;omega
   refine⟨⟨by omega,by omega⟩,⟨by omega,by omega⟩,CO (t.getD k default) (l.getD k 0),Rx _ _,fun d=>Aw ?_,fun d=>next _ a (BO g (by simpa using d)) (Up.of ?_)⟩
   ·grind [BG]
   ·rw[Al (by omega)]<;>rfl
  grind [AP,AO]
theorem TB {m:D.Model}{s:D.State}(hs:Bq s)(O:m.Claim<m.Procs.length):Aj Tryz.prog 9 [] [.agg (Af m),.agg (Ah s)] [] (Ac (C8 m s)):=by
 have F:=hs.c;have hp:=hs.p;unfold Len at F hp;have P:(bif bif bif bif bif bif bif !(Bw m.Globals s.Globals) then true else decide ((s.Chans.length:Int) > 32) then true else decide ((s.Procs.length:Int) > 16) then true else decide (s.Last<0) then true else decide (s.Last > 15) then true else decide (s.Alone<(-1:Int)) then true else decide (s.Alone>=(s.Procs.length:Int)) then true else bif decide (m.Claim<0) then s.Claim != (-1:Int) else false) =
   !(I0 m s&&(bif decide (m.Claim<0) then decide (s.Claim=-1) else true)):=by
  unfold I0;grind
 refine Aq Tryz.func9 (Ajd _ m s) ⟨Bw m.Globals s.Globals,Jp hs.g,?_⟩;rw[P];have x:C8 m s=(I0 m s&&(Cu s.Chans.length fun i=>Dg m (s.Chans.getD i default))&&(Cu s.Procs.length fun i=>Bd m (s.Procs.getD i default))&&G5 m s):=rfl;generalize C8 m s=b at x ⊢;refine⟨fun h=>Aw ?_,fun h=>⟨fun h2=>?_,fun h2=>Aw ?_,fun h2=>?_⟩⟩
 ·rw[x];unfold G5;grind
 ·grind
 ·rw[x];unfold G5;cases t:decide (m.Claim<0)
  ·rw[show decide (m.Claim>=0)=true by simp at t ⊢;omega,Apy]at h2;rw[Apw,show inP (A3 m m.Claim).Locs.length s.Claim=false from ?_,Bool.and_false];have u:(bif decide (s.Claim<0) then true else decide (s.Claim>=((A3 m m.Claim).Locs.length:Int)))=true:=h2;rw[Aqn];intro F;unfold inP at F;simp at F u;omega
  grind
 have L:I0 m s=true/\G5 m s=true:=by
  simp only[Arm,Apv]at h;refine⟨h.1,?_⟩;unfold G5;have h3:=h.2;cases t:decide (m.Claim<0)
  ·rw[show decide (m.Claim>=0)=true by simp at t ⊢;omega,Apy]at h2;rw[Apw];have u:(bif decide (s.Claim<0) then true else decide (s.Claim>=((A3 m m.Claim).Locs.length:Int)))=false:=h2;unfold inP;simp at u ⊢;omega
  grind
 rw[L.1,L.2,Ap7,Bool.and_true]at x;refine As s.Chans.length (fun k=>Nk m s k) (fun k=>∀ i,i<k->Dg m (s.Chans.getD i default)=true) (fun i hi=>by omega) ?_;intro k Q y J next
 refine ApI (AfG _ m s k J rfl) ⟨fun v=>?_,fun z=>?_⟩
 ·have a:k<s.Chans.length:=by have:=AL v;omega
  have w:(k:Int).toNat=k:=by omega
  rw[w];have e:=hs.cs _ (Av (d:=default) a);have no:Dg m (s.Chans.getD k default)=false->false=b:=fun h=>by grind [BG]
  have yes:Dg m (s.Chans.getD k default)=true->J (Nk m s ((k:Int)+1)):=fun h=>next _ a (BO y h) (Up.of rfl)
  clear next
  generalize s.Chans.getD k default=c at e no yes ⊢;have R:=e.q;unfold Len at R;have G:(m.Shapes.getD c.Shape.toNat default)=BV m c.Shape:=rfl;rw[G];have ecp:Dg m c=(inP m.Shapes.length c.Shape&&decide ((c.Queue.length:Int)<=(BV m c.Shape).Room)&&Cu c.Queue.length fun i=>Bw (BV m c.Shape).Fields (c.Queue.getD i [])):=rfl;refine⟨⟨by omega,by omega⟩,fun r=>?_,fun r=>Aw (no ?_),fun r=>?_⟩
  ·simp at r;omega
  ·grind [CT]
  have l:0<=c.Shape/\c.Shape<m.Shapes.length/\(c.Queue.length:Int)<=(BV m c.Shape).Room:=by grind
  rw[CT.2 ⟨l.1,l.2.1⟩,show decide ((c.Queue.length:Int)<=(BV m c.Shape).Room)=true by simpa using l.2.2,Ap7,Ap7]at ecp;rw[ecp]at no yes;refine As c.Queue.length (fun j=>Qd m s k c j) (fun j=>∀ i,i<j->Bw (BV m c.Shape).Fields (c.Queue.getD i [])=true) (fun i hi=>by omega) ?_;intro j S H J2 next2;refine ApI (AfF _ m s k c j J J2) ⟨fun A=>?_,fun M=>?_⟩
  ·have o:j<c.Queue.length:=by have:=AL A;omega
   have B:(j:Int).toNat=j:=by omega
   rw[B];refine⟨⟨l.1,l.2.1⟩,⟨by omega,by omega⟩,Bw (BV m c.Shape).Fields (c.Queue.getD j []),Jp (e.m _ (Av o)),fun r=>Aw (no ?_),fun r=>next2 _ o (BO H (by simpa using r)) (Up.of ?_)⟩
   ·grind [BG]
   grind [Al]
  grind [AP,Al,AO]
 have N:s.Chans.length<=k:=by have:=AP z;omega
 rw[(AO (n:=s.Chans.length) (f:=fun i=>Dg m (s.Chans.getD i default))).2 fun i hi=>y i (by omega),Ap7]at x;clear y next
 refine As s.Procs.length (fun k=>Nj m s k) (fun k=>∀ i,i<k->Bd m (s.Procs.getD i default)=true) (fun i hi=>by omega) ?_;intro k Q y J next
 refine ApI (AfE _ m s k J rfl rfl) ⟨fun v=>?_,fun z=>Aw ?_⟩
 ·have a:k<s.Procs.length:=by have:=AL v;omega
  have w:(k:Int).toNat=k:=by omega
  rw[w];have e:=hs.ps _ (Av (d:=default) a);have no:Bd m (s.Procs.getD k default)=false->false=b:=fun h=>by grind [BG]
  have yes:Bd m (s.Procs.getD k default)=true->J (Nj m s ((k:Int)+1)):=fun h=>next _ a (BO y h) (Up.of rfl)
  clear next
  generalize s.Procs.getD k default=p at e no yes ⊢;have I:m.Procs.getD p.Type_.toNat default=A3 m p.Type_:=rfl;rw[I];have ep:Bd m p=(CR m p.Type_&&inP (A3 m p.Type_).Locs.length p.Loc&&decide (p.Prio=(A3 m p.Type_).Prio)&&Bw (A3 m p.Type_).Frame p.Frame):=rfl;refine⟨⟨by omega,by omega⟩,fun r=>Aw (no ?_),fun r=>?_⟩
  ·rw[ep,show CR m p.Type_=false from ?_]
   ·rfl
   ·unfold CR;grind
  have C:0<=p.Type_/\p.Type_<m.Procs.length/\p.Type_≠m.Claim:=by simp at r;omega
  rw[show CR m p.Type_=true by unfold CR;simp;omega,Ap7]at ep;refine⟨⟨C.1,C.2.1⟩,Bw (A3 m p.Type_).Frame p.Frame,Jp e,?_⟩;have K:(bif bif bif !(Bw (A3 m p.Type_).Frame p.Frame) then true else decide (p.Loc<0) then true else decide (p.Loc>=((A3 m p.Type_).Locs.length:Int)) then true else p.Prio != (A3 m p.Type_).Prio)=!(Bd m p):=by
   rw[ep];unfold inP;grind
  rw[K];refine⟨fun E=>Aw (no (by simpa using E)),fun E=>?_⟩;grind [Al]
 grind [AP,AO]
def Hn (m:D.Model)(s:D.State):Int:=bif Vs m then(bif C8 m s then 0 else 41) else 40
theorem U8 {m:D.Model}{s:D.State}(a:AG m)(hs:Bq s):Aj Tryz.prog 5 [] [.agg (Af m),.agg (Ah s)] [] (Aa (Hn m s)):=by
 refine Aq Tryz.func5 (Xv _ m s) ⟨Vs m,Xz a,fun h=>BK ?_,fun h=>⟨C8 m s,TB hs (Ou (Yg (by simpa using h))).claim.2,fun h2=>BK ?_,fun h2=>BK ?_⟩⟩
 ·unfold Hn;grind
 ·unfold Hn;grind
 ·unfold Hn;grind
def AeE (e:D.Env):D.Proc:=A3 e.M (e.S.Procs.getD e.Pid.toNat default).Type_
def AjT (e:D.Env)(esc:Int):List D.Trans :=
 bif decide (esc<0) then((AeE e).Locs.getD (e.S.Procs.getD e.Pid.toNat default).Loc.toNat default).Out else((AeE e).Locs.getD (e.S.Procs.getD e.Pid.toNat default).Loc.toNat default).Esc.getD esc.toNat []
theorem Pw {e:D.Env}(h1:0<=e.Pid/\e.Pid<e.S.Procs.length)(h2:0<=(e.S.Procs.getD e.Pid.toNat default).Type_/\(e.S.Procs.getD e.Pid.toNat default).Type_<e.M.Procs.length):Aj Tryz.prog 16 [] [.agg (Ae e)] [] (.agg (A4 (AeE e))) :=
 Aq Tryz.func16 (Aau _ e) ⟨h1,h2,trivial,VV.le_refl _⟩
theorem AaF {e:D.Env}{esc:Int}(h1:0<=e.Pid/\e.Pid<e.S.Procs.length)(h2:0<=(e.S.Procs.getD e.Pid.toNat default).Type_/\(e.S.Procs.getD e.Pid.toNat default).Type_<e.M.Procs.length)
  (h3:0<=(e.S.Procs.getD e.Pid.toNat default).Loc/\(e.S.Procs.getD e.Pid.toNat default).Loc<(AeE e).Locs.length) (h4:0<=esc->esc<((AeE e).Locs.getD (e.S.Procs.getD e.Pid.toNat default).Loc.toNat default).Esc.length) :
  Aj Tryz.prog 21 [] [.agg (Ae e),Aa esc] [] (Ap true (AjT e esc)):=by
 refine Aq Tryz.func21 (AfH _ e esc rfl) ⟨AeE e,Pw h1 h2,h1,h3,fun h=>⟨trivial,?_⟩,fun h=>?_⟩
 ·unfold AjT;rw[h,Apy];exact VV.le_refl _
 ·have h0:0<=esc:=by grind
  refine⟨⟨h0,h4 h0⟩,trivial,?_⟩;unfold AjT;rw[h,Apw];exact VV.le_refl _
theorem YU {xs:List Int}(c:xs.length*8<=140737488355328):Aj Tryz.prog 88 [] [Ad true xs] [] (Ad true xs):=by
 refine Aj.hand ⟨_,Tryz.func88,rfl,by kernel_rfl⟩ fun w E vs d m _ _ hs=>?_
 obtain⟨n,us1,rfl,f,hs⟩:=hs.cons_inv;obtain rfl:=hs.nil_inv;obtain⟨ao,cap,rfl,h1,h2,h3⟩:=V.sl_inv f;refine(Oa h1 h2 c fun hp=>?_).mono ?_
 ·obtain⟨b,off,rfl,_,_,_,u,g,hv⟩:=h3 hp;refine⟨_,rfl,fun i hi=>?_⟩;have a:=g i 0 _ hi rfl;have h:=(hv i 0 _ hi rfl).sc_inv;rw[Addr.add_lit];rw[h]at a;simpa using a
 ·rintro e w' ⟨j,rfl,k,l⟩;exact⟨j,rfl,WE k d,l⟩
def Ew (l:List D.Chan):Nat->List VV:=fun i=>AM (l.getD i default)
def Jq (l:List D.Process):Nat->List VV:=fun i=>AF (l.getD i default)
def AaC (l:List (List Int)):Nat->List VV:=fun i=>[Ad true (l.getD i [])]
def BH (x:D.State)(c p:VV):List VV:=[Ad true x.Globals,c,p,Aa x.Last,Aa x.Alone,Aa x.Claim]
def FH (x:D.Env)(c p:VV):List VV:=[AC true x.M.Globals,Ad true x.M.Init,Bn true x.M.Shapes,Ad true x.M.Chans,BE true x.M.Procs,Aa x.M.Claim,BL true x.M.Exprs,Ad true x.S.Globals,c,p,Aa x.S.Last,Aa x.S.Alone,Aa x.S.Claim,Aa x.Pid,Ac x.Timeout,A6 true x.Able]
def obC (s:D.State):Ob:=.arr true 0 s.Chans.length 2 (Ew s.Chans)
def obP (s:D.State):Ob:=.arr true 0 s.Procs.length 4 (Jq s.Procs)
def hsE (e:D.Env):List Ob:=[.box (FH e (.ow 1 0 e.S.Chans.length) (.ow 2 0 e.S.Procs.length)),obC e.S,obP e.S]
def Aln : Shp:={ α:=D.State,enc:=fun y=>([obC y,obP y],.agg (BH y (.ow 0 0 y.Chans.length) (.ow 1 0 y.Procs.length))) }
def AoG : Shp:={ α:=D.Env × Int,enc:=fun y=>(hsE y.1,Aa y.2),lend:=true }
def Anr : Shp:={ α:=D.Env × Int × Int,enc:=fun y=>(hsE y.1,.tup [Aa y.2.1,Aa y.2.2]),lend:=true }
def Anq : Shp:={ α:=D.Env × ByteArray × Int,enc:=fun y=>(hsE y.1,.tup [Bm y.2.1,Aa y.2.2]),lend:=true }
def AmM : Shp:={ α:=D.State × ByteArray × Int,enc:=fun y=>([],.tup [.agg (Ah y.1),Bm y.2.1,Aa y.2.2]) }
def Ans : Shp:={ α:=List Bool × Int,enc:=fun y=>([],.tup [A6 true y.1,Aa y.2]) }
def AmJ : Shp:={ α:=D.State,enc:=fun y=>([],.agg (Ah y)) }
def AoB : Shp:={ α:=ByteArray,enc:=fun y=>([],Bm y) }
def Nv (f:FuncId):Shp :=
 bif Nat.beq f 49 then Aln else bif Nat.beq f 52 then Anq else bif Nat.beq f 90 then Anr else bif Nat.beq f 91||Nat.beq f 95||Nat.beq f 96||Nat.beq f 97||Nat.beq f 137 then AoG else bif Nat.beq f 48 then AmJ else bif Nat.beq f 32 then AmM else bif Nat.beq f 30 then Ans else bif Nat.beq f 13 then Aae else bif Nat.beq f 21 then AiC else  bif Nat.beq f 87||Nat.beq f 88 then AiF else bif Nat.beq f 94 then AoB else CN f
section
variable {w : World} {E:AN} {m:Option Phi} {n0:Nat}
def SM (w:World)(n0:Nat)(E:AN):Prop:=∀ k,E.fz k->k<n0∨∃ cur t,w.heap[k]?=some (.cells cur t (0,0))/\t≠Es/\t≠Ie
theorem SM.off {k:Nat}{cur:Array Value}{t:TypeId}(h:SM w n0 E)(d:n0<=k)(a:w.heap[k]?=some (.cells cur t (0,0)))(b:t=Es∨t=Ie):¬ E.fz k:=by
 intro c;rcases h k c with h1 | ⟨cur',e,h1,h2,h3⟩
 ·omega
 ·rw[a]at h1;simp only[Apx,Obj.cells.injEq]at h1;obtain⟨_,rfl,_⟩:=h1;exact b.elim h2 h3
theorem Adj {e:TypeId}{sz n:Nat}{a:Addr}{cap:Nat}{xs:List Value}(h:w.ownsRow n0 e sz (.slice (some a) n cap) n xs):∃ cur,n0<=a.block/\w.heap[a.block]?=some (.cells cur e (0,0)):=by
 rcases h.2 with⟨h1,_⟩ | ⟨g,cap',cur,h1,h2,h3,_⟩
 ·cases h1
 ·simp only[Value.slice.injEq,Apx]at h1;obtain⟨rfl,_,_⟩:=h1;exact⟨cur,h2,h3⟩
theorem ZO {v:Value}{xs:List Int}(h:JQ w n0 v xs)(d:SM w n0 E):V w E m (Ad true xs) v:=by
 obtain⟨ao,cap,rfl,h1,h2,h3⟩:=DH h;refine Arg h1 h2 fun hp=>?_
 obtain⟨g,rfl,hg,b,e⟩:=h3 hp;obtain⟨cur,c,f⟩:=Adj h;refine⟨g,0,rfl,b,d.off c f (.inl rfl),fun i _=>rfl,fun i _=>.int .i64 (xs.getD i 0),fun i j y hi a=>?_,fun i j y hi a=>?_⟩
 ·match j,a with
  | 0,_ =>
   have:=e i (by omega);simp only[Ap5,Nat.mul_one,AqJ];rw[this];simp[List.getD,hi]
  | j+1,a=>simp at a
 ·match j,a with
  | 0,a=>simp only[ApG,Apx]at a;subst a;exact .sc
  | j+1,a=>simp at a
theorem Apj {v:Value}{vs:List Value}{q:List (List Int)}(h:Ci w n0 v vs q)(e:∀ b,SM w n0 (E.at b))(f:SM w n0 E):V w E m (B3 true q) v:=by
 obtain⟨ao,cap,rfl,h1,h2,h3⟩:=DH h.row;refine Arg h1 h2 fun hp=>?_
 obtain⟨g,rfl,hg,c,k⟩:=h3 hp;obtain⟨cur,d,l⟩:=Adj h.row;refine⟨g,0,rfl,c,f.off d l (.inr rfl),fun i _=>rfl,fun i _=>vs.getD i undef,fun i j y hi a=>?_,fun i j y hi a=>?_⟩
 ·match j,a with
  | 0,_ =>
   have:=k i (by omega);have hv:i<vs.length:=by rw[h.len];exact hi
   simp only[Ap5,Nat.mul_one,AqJ];rw[this];simp[List.getD,hv]
  | j+1,a=>simp at a
 ·match j,a with
  | 0,a =>
   simp only[ApG,Apx]at a;subst a;have hv:i<vs.length:=by rw[h.len];exact hi
   exact ZO (h.each i _ _ (by simp[List.getD,hv]) (by simp[List.getD,hi])) (e true)
  | j+1,a=>simp at a
theorem Xy {e:TypeId}{sz n:Nat}{v:Value}{xs:List Value}(h:w.ownsRow n0 e sz v n xs):v.oneCell'=true:=by
 obtain⟨_,⟨rfl,_⟩ | ⟨g,cap,cur,rfl,_⟩⟩:=h<;>rfl
theorem Sq : ∀ {cs:List D.Chan} {qs:List Value},(∀ u∈qs,u.oneCell'=true)->∀ u∈FK cs qs,u.oneCell'=true
 | [],_,_,u,h=>by simp[FK]at h
 | _::_,[],_,u,h=>by simp[FK]at h
 | c::cs,q::qs,a,u,h=>by
  simp only[FK,Aqk]at h;rcases h with rfl | rfl | h
  ·rfl
  ·exact a _ ApF
  ·exact Sq (fun u b=>a u (ApM _ b)) u h
theorem Sp : ∀ {ps:List D.Process} {fs:List Value},(∀ u∈fs,u.oneCell'=true)->∀ u∈D1 ps fs,u.oneCell'=true
 | [],_,_,u,h=>by simp[D1]at h
 | _::_,[],_,u,h=>by simp[D1]at h
 | c::cs,q::qs,a,u,h=>by
  simp only[D1,Aqk]at h;rcases h with rfl | rfl | rfl | rfl | h
  ·rfl
  ·rfl
  ·rfl
  ·exact a _ ApF
  ·exact Sp (fun u b=>a u (ApM _ b)) u h
theorem Ug {l:List Value}{k:Nat}{u:Value}(h:l[k]?=some u):l.getD k undef=u:=by simp[List.getD,h]
theorem AmZ {l:List Value}{k:Nat}(h:k<l.length):l[k]?=some (l.getD k undef):=by simp[List.getD,h]
theorem AdO {α:Type}{R:Value->α->Prop}{vs:List Value}{l:List α}(c:vs.length=l.length)(h:∀ (i:Nat) x y,vs[i]?=some x->l[i]?=some y->R x y){u:Value}(b:u∈vs):∃ a,R u a:=by
 obtain⟨i,hi,rfl⟩:=Aqr b;exact⟨l[i]'(by omega),h i _ _ (ApH hi) (ApH (by omega))⟩
theorem AbJ {w0 w':World}{s:D.State}{vg vc vp:Value}{qs fs:List Value}(K:Below w0.heap.size w0 w')(Y:w0.heap.size<=n0)(hg:JQ w' n0 vg s.Globals)(v:Ig w' n0 vc qs s.Chans)(hp:Gi w' n0 vp fs s.Procs)(L:∀ k,E.fz k->k<w0.heap.size)(_:∀ k,E.br k->E.fz k) :
  ∃ pls,EG w0 E FQ 0 [obC s,obP s] pls w'/\V w' (E.up (addP FQ 0 pls)) (some (addP FQ 0 pls)) (.agg (BH s (.ow 0 0 s.Chans.length) (.ow 1 0 s.Procs.length))) (.agg #[vg,vc,vp,.int .i64 s.Last,.int .i64 s.Alone,.int .i64 s.Claim]):=by
 obtain⟨hdC,N,I,O⟩:=U9 v.row (Sq fun u C=>by obtain⟨a,vs,y⟩:=AdO (R:=fun u (c:D.Chan)=>∃ vs,Ci w' n0 u vs c.Queue) v.len v.each C;exact Xy y.row);obtain⟨e,P,J,Q⟩:=U9 hp.row (Sp fun u C=>by obtain⟨a,y⟩:=AdO (R:=fun u (p:D.Process)=>JQ w' n0 u p.Frame) hp.len hp.each C;exact Xy y);have hφ0:addP FQ 0 [Pl.arr 0 s.Chans.length hdC,Pl.arr 0 s.Procs.length e] 0=some (.arr 0 s.Chans.length hdC):=Ed (nx:=0) (i:=0) rfl;have hφ1:addP FQ 0 [Pl.arr 0 s.Chans.length hdC,Pl.arr 0 s.Procs.length e] 1=some (.arr 0 s.Procs.length e):=Ed (nx:=0) (i:=1) rfl;have hφx:∀ id,2<=id->addP FQ 0 [Pl.arr 0 s.Chans.length hdC,Pl.arr 0 s.Procs.length e] id=none:=fun id h=>D3 (.inr (by simp;omega))
 generalize hφ:addP FQ 0 [Pl.arr 0 s.Chans.length hdC,Pl.arr 0 s.Procs.length e]=φ at hφ0 hφ1 hφx;have g:∀ k,Own φ k->n0<=k/\∃ cur t,w'.heap[k]?=some (.cells cur t (0,0))/\(t=EE∨t=EP):=by
  rintro k ⟨id,F⟩;obtain⟨p,f,z⟩:=A1.1 F;rcases(show id=0∨id=1∨2<=id by omega) with rfl | rfl | h
  ·rw[hφ0]at f;obtain rfl:=ApU f;obtain⟨cap,hd⟩:=z;obtain⟨_,h1,cur,h2⟩:=I k cap hd;exact⟨h1,cur,_,h2,.inl rfl⟩
  ·rw[hφ1]at f;obtain rfl:=ApU f;obtain⟨cap,hd⟩:=z;obtain⟨_,h1,cur,h2⟩:=J k cap hd;exact⟨h1,cur,_,h2,.inr rfl⟩
  ·rw[hφx id h]at f;cases f
 have A:SM w' n0 (E.up φ):=by
  rintro k (l | l)
  ·have:=L k l;exact .inl (by omega)
  ·obtain⟨_,cur,t,h1,h2⟩:=g k l;exact .inr ⟨cur,t,h1,by rcases h2 with rfl | rfl<;>decide,by rcases h2 with rfl | rfl<;>decide⟩
 have n:∀ {b b'},SM w' n0 (((E.up φ).at b).at b'):=fun{b b'}=>by cases b<;>cases b'<;>exact A
 refine⟨[Pl.arr 0 s.Chans.length hdC,Pl.arr 0 s.Procs.length e],⟨⟨K,fun i p k hi l=>?_,fun i j p q k hi S h1 h2=>?_⟩,rfl,fun i o p r hi=>?_⟩,?_⟩
 ·have T:Own φ k:=by
   refine⟨i,A1.2 ⟨p,?_,l⟩⟩;rw[← hφ];have:=Ed (φ:=FQ) (nx:=0) hi
   rwa [Ap5]at this
  have:=(g k T).1;omega
 ·have ty:∀ (i:Nat) (p:Pl),[Pl.arr 0 s.Chans.length hdC,Pl.arr 0 s.Procs.length e][i]?=some p->PlB p k->∃ cur,w'.heap[k]?=some (.cells cur (if i=0 then EE else EP) (0,0))/\i<2:=by
   intro i p hi l
   match i,hi with
   | 0,hi=>obtain rfl:=ApU hi;obtain⟨cap,hd⟩:=l;obtain⟨_,_,cur,h2⟩:=I k cap hd;exact⟨cur,h2,by omega⟩
   | 1,hi=>obtain rfl:=ApU hi;obtain⟨cap,hd⟩:=l;obtain⟨_,_,cur,h2⟩:=J k cap hd;exact⟨cur,h2,by omega⟩
   | i+2,hi=>simp at hi
  obtain⟨cu,U,Z⟩:=ty i p hi h1;obtain⟨cv,b1,b2⟩:=ty j q S h2;rw[U]at b1;simp only[Apx,Obj.cells.injEq]at b1;have B:EE≠EP:=by decide
  rcases(show i=0∨i=1 by omega) with rfl | rfl<;>rcases(show j=0∨j=1 by omega) with rfl | rfl
  ·rfl
  ·exact absurd b1.2.1 (by simpa using B)
  ·exact absurd b1.2.1.symm (by simpa using B)
  ·rfl
 ·rw[hφ]
  match i,r,hi with
  | 0,r,hi =>
   obtain rfl:=ApU r;obtain rfl:=ApU hi;refine⟨rfl,rfl,O E φ (Ew s.Chans) (fun i _=>rfl) fun i j x hi d=>?_⟩;have hv:i<qs.length:=by rw[v.len];exact hi
   obtain⟨G,H⟩:=Sr v.len hi
   match j,d with
   | 0,d =>
    obtain rfl:=ApU d;rw[AqJ,Ug G];exact .sc
   | 1,d =>
    obtain rfl:=ApU d;rw[Ug (H.trans (AmZ hv))];obtain⟨vs,y⟩:=v.each i (qs.getD i undef) (s.Chans.getD i default) (by simp[List.getD,hv]) (by simp[List.getD,hi]);exact Apj (m:=none) (E:=(E.up φ).hold) y (fun b=>n (b:=true) (b':=b)) (n (b:=true) (b':=false))
   | j+2,d=>simp[Ew,AM]at d
  | 1,r,hi =>
   obtain rfl:=ApU r;obtain rfl:=ApU hi;refine⟨rfl,rfl,Q E φ (Jq s.Procs) (fun i _=>rfl) fun i j x hi d=>?_⟩;have hv:i<fs.length:=by rw[hp.len];exact hi
   obtain⟨G,H,W,X⟩:=MG hp.len hi
   match j,d with
   | 0,d =>
    obtain rfl:=ApU d;rw[AqJ,Ug G];exact .sc
   | 1,d =>
    obtain rfl:=ApU d;rw[Ug H];exact .sc
   | 2,d =>
    obtain rfl:=ApU d;rw[Ug W];exact .sc
   | 3,d =>
    obtain rfl:=ApU d;rw[Ug (X.trans (AmZ hv))];exact ZO (m:=none) (E:=(E.up φ).hold) (hp.each i (fs.getD i undef) (s.Procs.getD i default) (by simp[List.getD,hv]) (by simp[List.getD,hi])) (n (b:=true) (b':=false))
   | j+4,d=>simp[Jq,AF]at d
  | i+2,r,hi=>simp at r
 ·rw[hφ];refine .agg rfl fun j x d=>?_
  match j,d with
  | 0,d=>obtain rfl:=ApU d;exact ZO hg A
  | 1,d=>obtain rfl:=ApU d;exact .ow hφ0 (ApC _) N fun _=>⟨rfl,ApC _⟩
  | 2,d=>obtain rfl:=ApU d;exact .ow hφ1 (ApC _) P fun _=>⟨rfl,ApC _⟩
  | 3,d=>obtain rfl:=ApU d;exact .sc
  | 4,d=>obtain rfl:=ApU d;exact .sc
  | 5,d=>obtain rfl:=ApU d;exact .sc
  | j+6,d=>simp[BH]at d
end
theorem Q9 {e:D.Env}(f:AG e.M)(hs:Bq e.S)(x v:Int):Aj Tryz.prog 135 [] [.agg (BJ e),Aa x,Aa v] [obC (Bg e x v).1,obP (Bg e x v).1]
  (.tup [.agg (BH (Bg e x v).1 (.ow 0 0 (Bg e x v).1.Chans.length) (.ow 1 0 (Bg e x v).1.Procs.length)),Aa (Bg e x v).2]):=by
 refine Aj.handN ⟨_,Tryz.func135,rfl,by kernel_rfl⟩ fun w E vs g h hB c a=>?_
 obtain⟨i,us1,rfl,j,a⟩:=a.cons_inv;obtain⟨q,us2,rfl,k,a⟩:=a.cons_inv;obtain⟨s,us3,rfl,l,a⟩:=a.cons_inv;obtain rfl:=a.nil_inv;obtain rfl:=k.sc_inv;obtain rfl:=l.sc_inv;have b:=M8 w E i j (fun _=>False);obtain⟨t,u,y,z,A,B,C,F,G,m,rfl,d⟩:=Amo b;refine(AeS f hs h hB b d).mono ?_;rintro r w' ⟨vs,rfl,hv,n⟩;obtain⟨vg,vc,vp,qs,fs,rfl,h1,h2,h3⟩:=hv;obtain⟨pls,o,p⟩:=AbJ n (ApC _) h1 h2 h3 g c;exact⟨_,pls,rfl,o,UN p .sc⟩
def Gf : Ann:={ keep:=fun
  | [0,1,0,1,1,1,1]=>[1,2,3,19,20,21]
  | [0,1,0,1,1,0,0,1,1,0,0,1,0,1,1,1,1]=>[1,2,3,5,6,19,20,21,26,27,28]
  | [0,1,0,1,1,1,1,1]=>[2,3,49,50,51]
  | _=>[] }
def LN : Ann:={ keep:=fun
  | [0,1,0,1,1,1]=>[2,3,7,21,22]
  | _=>[] }
def AhC : Ann:={ base:=3,keep:=fun _=>[] }
def AcP (m:D.Model)(s:D.State)(l:List Bool)(k:Int):St:=Ay [(2,.bp 0 0),(3,.bp 1 0),(7,.ow 2 0 l.length),(21,Aa s.Procs.length),(22,Aa k)] [.box (Af m),.box (Ah s),.arr true 0 l.length 1 (Ex l)]
def Tb : List VV:=[.nl,.nl,.nl,Aa 0,Aa 0,Aa 0]
def Ac2 (s:D.State)(cs:List D.Chan)(k:Int):St:=Ay [(1,.bp 0 0),(2,.bp 1 0),(3,.bp 2 0),(19,A0 true s.Chans),(20,Aa s.Chans.length),(21,Aa k)] [.box (Ah s),.box Tb,.box (BH s (.ow 3 0 cs.length) .nl),.arr true 0 cs.length 2 (Ew cs)]
def Ac0 (s:D.State)(cs:List D.Chan)(ps:List D.Process)(k:Int):St:=Ay [(2,.bp 0 0),(3,.bp 1 0),(49,AI true s.Procs),(50,Aa s.Procs.length),(51,Aa k)] [.box Tb,.box (BH s (.ow 2 0 cs.length) (.ow 3 0 ps.length)),.arr true 0 cs.length 2 (Ew cs),.arr true 0 ps.length 4 (Jq ps)]
def Ac1 (s:D.State)(cs:List D.Chan)(k:Int)(c:D.Chan)(q:List (List Int))(j:Int):St:=Ay [(1,.bp 0 0),(2,.bp 1 0),(3,.bp 2 0),(5,.bp 4 0),(6,.ow 5 0 q.length),(19,A0 true s.Chans),(20,Aa s.Chans.length),(21,Aa k),(26,B3 true c.Queue),(27,Aa c.Queue.length),(28,Aa j)] [.box (Ah s),.box Tb,.box (BH s (.ow 3 0 cs.length) .nl),.arr true 0 cs.length 2 (Ew cs),.box (AM c),.arr true 0 q.length 1 (AaC q)]
set_option maxRecDepth 100000
theorem Aek (hs':List Ob)(r:VV)(s:D.State):(B8 Tryz.prog tb Nv Gf false Tryz.f49 hs' (r)).goal (St.init [] [.agg (Ah s)]) =
  (∃ (y:List Int),VC 87 [Ad true s.Globals] (Ad true y)/\Ax (B8 Tryz.prog tb Nv Gf false Tryz.f49 hs' r) [1,1,1,1,0,1,0] (Ay [(1,VV.bp 0 0),(2,VV.bp 1 0),(3,VV.bp 2 0),(19,A0 true s.Chans),(20,Aa (↑s.Chans.length:Int)),(21,Aa 0)] [Ob.box (Ah s),Ob.box [VV.nl,VV.nl,VV.nl,Aa 0,Aa 0,Aa 0],Ob.box [Ad true y,VV.nl,VV.nl,Aa s.Last,Aa s.Alone,Aa s.Claim]])):=by kernel_rfl
theorem Ak0 (r:D.State × ByteArray × Int)(e:D.Env)(w:Wy){k}(l:k=fun(a:D.Env × ByteArray × Int)=>fun(b:D.Trans)=>fun(j:Nat)=>bif j.beq w.With.toNat then[Aa (a.fst.S.Procs.getD w.With.toNat default).Type_,Aa b.To,Aa (a.fst.S.Procs.getD w.With.toNat default).Prio,Ad true (a.fst.S.Procs.getD w.With.toNat default).Frame] else AF (a.fst.S.Procs.getD j default)){d}(m:d=VV.tup [VV.agg (Ah r.fst),Bm r.snd.fst,Aa r.snd.snd]){f}(n:f=[VV.nl,VV.nl,VV.nl,Aa 0,Aa 0,Aa 0]){g}(o:g=[VV.agg (Ae e)]):(fc Nv AQ Tryz.f32 [] (.tup [.agg (Ah r.1),Bm r.2.1,Aa r.2.2])).goal (St.init [] [.agg (Ae e),.agg (AY w)]) =
  (∃ (y:Int),VC 46 g (Aa y)/\BB (y != 0) (LQ (.tup [.agg f,Bm (⟨#[]⟩:ByteArray),Aa y]) d) (∃ (y:List Wy),VC 44 g (AW true y)/\∃ (h:Bool),VC 47 [AW true y,.agg (AY w)] (Ac h)/\BB (!h) (LQ (.tup [.agg f,Bm (⟨#[]⟩:ByteArray),Aa 42]) d) (BB (w.Err != 0) (LQ (.tup [.agg f,Bm (⟨#[]⟩:ByteArray),Aa w.Err]) d) (BB (decide (w.Way<0)) (∃ (y:D.State),VC 48 g (.agg (Ah y))/\LQ (.tup [.agg (Ah y),Bm (⟨#[]⟩:ByteArray),Aa 0]) d) (∃ (y:D.State),Aj Tryz.prog 49 [] [.agg (Ah e.S)] [obC y,obP y] (.agg (BH y (.ow 0 0 y.Chans.length) (.ow 1 0 y.Procs.length)))/\∃ (i:D.Loc),VC 51 g (.agg (A8 i))/\∃ (c:D.Trans),VC 50 [.agg (A8 i),Aa w.Esc,Aa w.Way] (.agg (Dr c))/\∃ (a:D.Env × ByteArray × Int),Aj Tryz.prog 52 [.box [AC true e.M.Globals,Ad true e.M.Init,Bn true e.M.Shapes,Ad true e.M.Chans,BE true e.M.Procs,Aa e.M.Claim,BL true e.M.Exprs,Ad true y.Globals,.ow 1 0 y.Chans.length,.ow 2 0 y.Procs.length,Aa y.Last,Aa y.Alone,Aa y.Claim,Aa e.Pid,Ac e.Timeout,A6 true e.Able],obC y,obP y] [.bp 0 0,.agg (Au c.S),.agg (AY w)] (hsE a.fst) (.tup [Bm a.snd.fst,Aa a.snd.snd])/\BB (a.snd.snd != 0) (LQ (.tup [.agg f,Bm (⟨#[]⟩:ByteArray),Aa a.snd.snd]) d) (BB (decide (w.With>=0)) (∃ (y:D.Loc),VC 51 [.agg [AC true e.M.Globals,Ad true e.M.Init,Bn true e.M.Shapes,Ad true e.M.Chans,BE true e.M.Procs,Aa e.M.Claim,BL true e.M.Exprs,Ad true e.S.Globals,A0 true e.S.Chans,AI true e.S.Procs,Aa e.S.Last,Aa e.S.Alone,Aa e.S.Claim,Aa w.With,Ac e.Timeout,A6 true e.Able]] (.agg (A8 y))/\∃ (b:D.Trans),VC 50 [.agg (A8 y),Aa w.WithEsc,Aa w.WithWay] (.agg (Dr b))/\inX w.With a.fst.S.Procs.length/\inX e.Pid a.fst.S.Procs.length/\LQ (.tup [.agg [Ad true a.fst.S.Globals,A0 true a.fst.S.Chans,.sl true a.fst.S.Procs.length 4 fun(j:Nat)=>bif j.beq e.Pid.toNat then bif Nat.beq 1 4 then[Aa c.To] else List.take 1 ((k a b) e.Pid.toNat)++[Aa c.To]++List.drop 2 ((k a b) e.Pid.toNat) else(k a b) j,Aa e.Pid,Aa a.fst.S.Alone,Aa a.fst.S.Claim],Bm a.snd.fst,Aa 0]) d) (inX e.Pid a.fst.S.Procs.length/\LQ (.tup [.agg [Ad true a.fst.S.Globals,A0 true a.fst.S.Chans,.sl true a.fst.S.Procs.length 4 fun(j:Nat)=>bif j.beq e.Pid.toNat then[Aa (a.fst.S.Procs.getD e.Pid.toNat default).Type_,Aa c.To,Aa (a.fst.S.Procs.getD e.Pid.toNat default).Prio,Ad true (a.fst.S.Procs.getD e.Pid.toNat default).Frame] else AF (a.fst.S.Procs.getD j default),Aa e.Pid,Aa a.fst.S.Alone,Aa a.fst.S.Claim],Bm a.snd.fst,Aa 0]) d))))))):=by subst l m n o;kernel_rfl
theorem Aeq (l:List Bool)(r:Int)(m:D.Model)(s:D.State){a}(b:a=(↑s.Procs.length:Int)){c}(d:c=fc Nv LN Tryz.f30 [] (VV.tup [A6 true l,Aa r])):(fc Nv LN Tryz.f30 [] (.tup [A6 true l,Aa r])).goal (St.init [] [.agg (Af m),.agg (Ah s)]) =
  (∃ (y:Int),VC 13 [.agg (Af m),.agg (Ah s)] (Aa y)/\BB (y != 0) (LQ (.tup [.nl,Aa y]) (.tup [A6 true l,Aa r])) (((0:Int)<=a/\a<=a/\a*(↑1:Int)<=140737488355328)/\Ax c [1,1,1,0,1,0] (Ay [(2,.bp 0 0),(3,.bp 1 0),(7,.ow 2 0 a.toNat),(21,Aa a),(22,Aa 0)] [.box (Af m),.box (Ah s),.arr true 0 a.toNat 1 fun(_:Nat)=>(c.T 4).zero]))):=by subst b d;kernel_rfl
theorem Aej (y:D.Env)(t:ByteArray)(r:Int)(e:D.Env)(s:D.Stmt)(w:Wy){z1}(f:z1=[Bm t,Aa r]){c}(g:c=VV.tup z1){h}(j:h=(leO (hsE e) (hsE y)/\(VV.tup [Bm (⟨#[]⟩:ByteArray),Aa 0]).le c)){d}(k:d=(e.S.Chans.length+1)):(B8 Tryz.prog tb Nv AhC false Tryz.f52 (hsE y) (.tup [Bm t,Aa r])).goal (St.init (hsE e) [.bp 0 0,.agg (Au s),.agg (AY w)]) =
  (BB (s.Kind==1) (∃ (a:Bool),VC 89 [.agg (Af e.M),Aa s.A] (Ac a)/\BB a (∃ (b:D.Env × Int × Int),Aj Tryz.prog 90 (hsE e) [.bp 0 0,Aa s.A] (hsE b.fst) (vII b.snd)/\leO (hsE b.fst) (hsE y)/\(VV.tup [Bm (⟨#[]⟩:ByteArray),Aa b.snd.snd]).le c) h) (BB (s.Kind==2) (∃ (a:D.Env × Int),Aj Tryz.prog 91 (hsE e) [.bp 0 0,.agg (Au s)] (hsE a.fst) (Aa a.snd)/\leO (hsE a.fst) (hsE y)/\(VV.tup [Bm (⟨#[]⟩:ByteArray),Aa a.snd]).le c) (BB (s.Kind==3) (∃ (a:Int × Int),VC 92 [.agg (BJ e),Aa s.A] (vII a)/\BB (bif a.snd==0 then a.fst==0 else false) (leO (hsE e) (hsE y)/\(VV.tup [Bm (⟨#[]⟩:ByteArray),Aa 50]).le c) (leO (hsE e) (hsE y)/\(VV.tup [Bm (⟨#[]⟩:ByteArray),Aa a.snd]).le c)) (BB (s.Kind==4) (∃ (a:List Int × Int),Aj Tryz.prog 93 [] [.agg (BJ e),Ad true s.Args] [.arr true 0 a.fst.length 1 (AJ a.fst)] (.tup [.ow 0 0 a.fst.length,Aa a.snd])/\BB (a.snd != 0) (leO (hsE e) (hsE y)/\(VV.tup [Bm (⟨#[]⟩:ByteArray),Aa a.snd]).le c) (∃ (b:ByteArray),VC 94 [Bm s.Text,Ad false a.fst] (Bm b)/\leO (hsE e) (hsE y)/\(VV.tup [Bm b,Aa 0]).le c)) (BB (s.Kind==9) (d*32<=140737488355328/\∃ (a:D.Env × Int),Aj Tryz.prog 95 [.box (FH e (.ow 1 0 d) (.ow 2 0 e.S.Procs.length)),.arr true 0 d 2 fun(i:Nat)=>bif i.blt e.S.Chans.length then AM (e.S.Chans.getD i default) else(fun(i:Nat)=>List.take 2 (List.drop (i*2) [Aa s.N,.nl])) (i - e.S.Chans.length),obP e.S] [.bp 0 0,Aa s.A,Aa (↑d:Int)] (hsE a.fst) (Aa a.snd)/\leO (hsE a.fst) (hsE y)/\(VV.tup [Bm (⟨#[]⟩:ByteArray),Aa a.snd]).le c) (BB (s.Kind==5) (∃ (a:D.Env × Int),Aj Tryz.prog 96 (hsE e) [.bp 0 0,.agg (Au s),.agg (AY w)] (hsE a.fst) (Aa a.snd)/\leO (hsE a.fst) (hsE y)/\(VV.tup [Bm (⟨#[]⟩:ByteArray),Aa a.snd]).le c) (BB (s.Kind==6) (∃ (a:D.Env × Int),Aj Tryz.prog 97 (hsE e) [.bp 0 0,.agg (Au s)] (hsE a.fst) (Aa a.snd)/\leO (hsE a.fst) (hsE y)/\(VV.tup [Bm (⟨#[]⟩:ByteArray),Aa a.snd]).le c) h))))))):=by subst f g j k;kernel_rfl
theorem ZG (l:List Bool)(r:Int)(m:D.Model)(s:D.State)(l':List Bool)(k:Int)(J:St->Prop):((fc Nv LN Tryz.f30 [] (.tup [A6 true l,Aa r])).loop [1,1,1,0,1,0] J).goal (AcP m s l' k) =
  (BB (decide (k<(↑s.Procs.length:Int))) (∃ (y:List Wy),VC 44 [VV.agg [AC true m.Globals,Ad true m.Init,Bn true m.Shapes,Ad true m.Chans,BE true m.Procs,Aa m.Claim,BL true m.Exprs,Ad true s.Globals,A0 true s.Chans,AI true s.Procs,Aa s.Last,Aa s.Alone,Aa s.Claim,Aa k,Ac false,VV.nl]] (AW true y)/\inX k l'.length/\J (Ay [(2,VV.bp 0 0),(3,VV.bp 1 0),(7,VV.ow 2 0 l'.length),(21,Aa (↑s.Procs.length:Int)),(22,Aa (IntKind.i64.wrap (k+(1:Int))))] [Ob.box (Af m),Ob.box (Ah s),Ob.arr true 0 l'.length 1 fun(j:Nat)=>bif j.beq k.toNat then[Ac (decide ((↑y.length:Int) > 0))] else[Ac (l'.getD j false)]])) (LQ (VV.tup [A6 true l',Aa 0]) (VV.tup [A6 true l,Aa r]))):=by kernel_rfl
theorem ZC (hs':List Ob)(r:VV)(s:D.State)(cs:List D.Chan)(k:Int)(J:St->Prop){a}(b:a=s.Chans.getD k.toNat default){z2}(c:z2=B8 Tryz.prog tb Nv Gf false Tryz.f49 hs' r){z3}(d:z3=[VV.nl,VV.nl,VV.nl,Aa 0,Aa 0,Aa 0]):((B8 Tryz.prog tb Nv Gf false Tryz.f49 hs' (r)).loop [1,1,1,1,0,1,0] J).goal (Ac2 s cs k) =
  (BB (decide (k<(↑s.Chans.length:Int))) (inX k s.Chans.length/\Ax (z2.loop [1,1,1,1,0,1,0] J) [1,1,0,0,1,1,0,1,0] (Ay [(1,.bp 0 0),(2,.bp 1 0),(3,.bp 2 0),(5,.bp 4 0),(6,.nl),(19,A0 true s.Chans),(20,Aa (↑s.Chans.length:Int)),(21,Aa k),(26,B3 true a.Queue),(27,Aa (↑a.Queue.length:Int)),(28,Aa 0)] [.box (Ah s),.box z3,.box (BH s (.ow 3 0 cs.length) .nl),.arr true 0 cs.length 2 (Ew cs),.box (AM a)])) (Ax z2 [1,1,1,1,1,0,1,0] (Ay [(2,.bp 0 0),(3,.bp 1 0),(49,AI true s.Procs),(50,Aa (↑s.Procs.length:Int)),(51,Aa 0)] [.box z3,.box (BH s (.ow 2 0 cs.length) .nl),.arr true 0 cs.length 2 (Ew cs)]))):=by subst b c d;kernel_rfl
theorem ZA (hs':List Ob)(r:VV)(s:D.State)(cs:List D.Chan)(ps:List D.Process)(k:Int)(J:St->Prop){a}(b:a=s.Procs.getD k.toNat default):((B8 Tryz.prog tb Nv Gf false Tryz.f49 hs' (r)).loop [1,1,1,1,1,0,1,0] J).goal (Ac0 s cs ps k) =
  (BB (decide (k<(↑s.Procs.length:Int))) (inX k s.Procs.length/\∃ (y:List Int),VC 87 [Ad true a.Frame] (Ad true y)/\(ps.length+1)*48<=140737488355328/\J (Ay [(2,.bp 0 0),(3,.bp 1 0),(49,AI true s.Procs),(50,Aa (↑s.Procs.length:Int)),(51,Aa (IntKind.i64.wrap (k+(1:Int))))] [.box [.nl,.nl,.nl,Aa 0,Aa 0,Aa 0],.box (BH s (.ow 2 0 cs.length) (.ow 3 0 (ps.length+1))),.arr true 0 cs.length 2 (Ew cs),.arr true 0 (ps.length+1) 4 fun(i:Nat)=>bif i.blt ps.length then AF (ps.getD i default) else(fun(i:Nat)=>List.take 4 (List.drop (i*4) [Aa a.Type_,Aa a.Loc,Aa a.Prio,Ad true y])) (i - ps.length)])) (leO [.arr true 0 cs.length 2 (Ew cs),.arr true 0 ps.length 4 (Jq ps)] hs'/\(VV.agg (BH s (.ow 0 0 cs.length) (.ow 1 0 ps.length))).le r)):=by subst b;kernel_rfl
theorem ZB (hs':List Ob)(r:VV)(s:D.State)(cs:List D.Chan)(k:Int)(c:D.Chan)(q:List (List Int))(j:Int)(J J2:St->Prop){a}(b:a=[VV.nl,VV.nl,VV.nl,Aa 0,Aa 0,Aa 0]):(((B8 Tryz.prog tb Nv Gf false Tryz.f49 hs' (r)).loop [1,1,1,1,0,1,0] J).loop [1,1,0,0,1,1,0,1,0] J2).goal (Ac1 s cs k c q j) =
  (BB (decide (j<(↑c.Queue.length:Int))) (inX j c.Queue.length/\∃ (y:List Int),VC 88 [Ad true (c.Queue.getD j.toNat [])] (Ad true y)/\(q.length+1)*24<=140737488355328/\J2 (Ay [(1,.bp 0 0),(2,.bp 1 0),(3,.bp 2 0),(5,.bp 4 0),(6,.ow 5 0 (q.length+1)),(19,A0 true s.Chans),(20,Aa (↑s.Chans.length:Int)),(21,Aa k),(26,B3 true c.Queue),(27,Aa (↑c.Queue.length:Int)),(28,Aa (IntKind.i64.wrap (j+(1:Int))))] [.box (Ah s),.box a,.box (BH s (.ow 3 0 cs.length) .nl),.arr true 0 cs.length 2 (Ew cs),.box (AM c),.arr true 0 (q.length+1) 1 fun(i:Nat)=>bif i.blt q.length then[Ad true (q.getD i [])] else(fun(i:Nat)=>List.take 1 (List.drop (i*1) [Ad true y])) (i - q.length)])) ((cs.length+1)*32<=140737488355328/\J (Ay [(1,.bp 0 0),(2,.bp 1 0),(3,.bp 2 0),(19,A0 true s.Chans),(20,Aa (↑s.Chans.length:Int)),(21,Aa (IntKind.i64.wrap (k+(1:Int))))] [.box (Ah s),.box a,.box (BH s (.ow 3 0 (cs.length+1)) .nl),.arr true 0 (cs.length+1) 2 fun(i:Nat)=>bif i.blt cs.length then AM (cs.getD i default) else(fun(i:Nat)=>(List.map (fun(x:List VV × List Nat)=>x.fst) [([Aa c.Shape,B3 true q],List.flatMap (fun(x:VV × List Nat)=>x.snd) [(Aa c.Shape,[]),(B3 true q,[5])])]).getD i []) (i - cs.length)]))):=by subst b;kernel_rfl
end Go.Proofs.YtnhamlpcpngafaaGreatDoor
namespace Go.Proofs.YtnhamlpcpngafaaGreatDoor
open Go.RowKit
def JA (ids:List Nat):Nat->List Ob->List Ob
 | _,[]=>[]
 | k,o::l=>(bif ids.any (Nat.beq k) then(match o with
   | .arr _ g _ _ _=>.gone (g+1)
   | .gone g=>.gone (g+1)
   | .box cs=>.box cs) else o)::JA ids (k+1) l
theorem MA (ids:List Nat):∀ (l:List Ob) (k:Nat),(JA ids k l).length=l.length
 | [],_=>rfl
 | _::l,k=>by simp only[JA,Aqi,MA ids l (k+1)]
theorem Ud (ids:List Nat):∀ (l:List Ob) (k j:Nat),j<l.length->(JA ids k l).getD j (.gone 0)=(bif ids.any (Nat.beq (k+j)) then(match l.getD j (.gone 0) with
   | .arr _ g _ _ _=>.gone (g+1)
   | .gone g=>.gone (g+1)
   | .box cs=>.box cs) else l.getD j (.gone 0))
 | [],_,j,h=>absurd h (AqZ j)
 | o::l,k,0,_=>rfl
 | o::l,k,j+1,h=>by
  have:=Ud ids l (k+1) j (Nat.lt_of_succ_lt_succ h);rw[show k+(j+1)=k+1+j by omega];exact this
def Kt (H:Nat->Ob)(k:Nat):List Ob->Option (List Ob × List Nat)
 | []=>some ([],[])
 | .box cs::l =>
  match DY (GY H k) cs with
  | some r=>match Kt H k l with
   | some q=>some (.box (r.map (·.1))::q.1,r.flatMap (·.2)++q.2)
   | none=>none
  | none=>none
 | o::l=>match Kt H k l with
  | some q=>some (o::q.1,q.2)
  | none=>none
theorem OF {H:Nat->Ob}{k:Nat}:∀ {l l':List Ob} {ids:List Nat},Kt H k l=some (l',ids)->l'.length=l.length/\∀ j,j<l.length->(l'.getD j (.gone 0)=l.getD j (.gone 0)/\(∀ cs,l.getD j (.gone 0)≠.box cs)) ∨
  ∃ cs r,l.getD j (.gone 0)=.box cs/\l'.getD j (.gone 0)=.box (r.map (·.1))/\DY (GY H k) cs=some r/\∀ p∈r,∀ i∈p.2,i∈ids
 | [],l',ids,h=>by
  simp only[Kt,Apx,Ap8]at h;obtain⟨rfl,rfl⟩:=h;exact⟨rfl,fun j a=>absurd a (AqZ j)⟩
 | o::l,l',ids,h=>by
  have other:(∀ cs,o≠.box cs)->(match Kt H k l with
    | some q=>some (o::q.1,q.2)
    | none=>none)=some (l',ids)->l'.length=(o::l).length/\∀ j,j<(o::l).length->(l'.getD j (.gone 0)=(o::l).getD j (.gone 0)/\(∀ cs,(o::l).getD j (.gone 0)≠.box cs)) ∨
     ∃ cs r,(o::l).getD j (.gone 0)=.box cs/\l'.getD j (.gone 0)=.box (r.map (·.1))/\DY (GY H k) cs=some r/\∀ p∈r,∀ i∈p.2,i∈ids:=by
   intro e h;split at h
   ·rename_i q b;simp only[Apx,Ap8]at h;obtain⟨rfl,rfl⟩:=h;obtain⟨c,d⟩:=OF (l':=q.1) (ids:=q.2) b;refine⟨by simp[c],fun j a=>?_⟩;cases j with
    | zero=>exact .inl ⟨rfl,e⟩
    | succ j=>exact d j (Nat.lt_of_succ_lt_succ a)
   ·cases h
  cases o with
  | box cs =>
   simp only[Kt]at h;split at h
   ·rename_i r m;split at h
    ·rename_i q b;simp only[Apx,Ap8]at h;obtain⟨rfl,rfl⟩:=h;obtain⟨c,d⟩:=OF (l':=q.1) (ids:=q.2) b;refine⟨by simp[c],fun j a=>?_⟩;cases j with
     | zero=>exact .inr ⟨cs,r,rfl,rfl,m,fun p hp i hi=>List.mem_append_left _ (List.mem_flatMap.2 ⟨p,hp,hi⟩)⟩
     | succ j =>
      rcases d j (Nat.lt_of_succ_lt_succ a) with h | ⟨cs',s,h1,h2,h3,h4⟩
      ·exact .inl h
      ·exact .inr ⟨cs',s,h1,h2,h3,fun p hp i hi=>List.mem_append_right _ (h4 p hp i hi)⟩
    ·cases h
   ·cases h
  | arr fr g n sz f=>exact other (fun _ h=>by cases h) h
  | gone g=>exact other (fun _ h=>by cases h) h
theorem Cv.pubB {l:List (Nat × VV)}{hs hs':List Ob}{ids:List Nat}(k:Nat)(h:Kt (BS hs) k hs=some (hs',ids)):Cv (Ay l hs) (Ay l (JA ids 0 hs')):=by
 intro N E φ a w f;have hg:=f.hp.gone (ids:=ids);obtain⟨g,n⟩:=OF h;refine⟨CJ ids φ,⟨f.sz,f.df,f.old.ext DD,fun C=>?_,⟨hg.sub,fun id p e=>?_,hg.inj,hg.free⟩,fun j o=>?_,fun j o=>?_⟩,DD⟩
 ·have hv:V w _ _ (B9 C l) _:=f.tm C;exact hv.ext DD
 ·have h1:=hg.ob id p e;have s:id<hs.length:=ApZ fun F=>by
   have:=(Dw (ids:=ids)).2 (f.fr id (Nat.le_of_not_lt F));rw[this]at e;cases e
  have m:=Ud ids hs' 0 id (by omega);rw[Ap5]at m;show ObV w E (CJ ids φ) ((JA ids 0 hs').getD id (.gone 0)) p;rw[m];rcases n id s with⟨t,F⟩ | ⟨cs,r,t,K,L,M⟩
  ·rw[t];exact h1
  ·rw[K];have u:∀ q,φ id=some q->ObV w E φ (.box cs) q:=fun q i=>by
    have:=f.hp.ob id q i;have v:(Ay l hs).H id=.box cs:=t;rw[v]at this;exact this
   have A:(bif ids.any (Nat.beq id) then Ob.box (r.map (·.1)) else Ob.box (r.map (·.1)))=Ob.box (r.map (·.1)):=by cases ids.any (Nat.beq id)<;>rfl
   show ObV w E (CJ ids φ) (bif ids.any (Nat.beq id) then Ob.box (r.map (·.1)) else Ob.box (r.map (·.1))) p;rw[A];have hp:∃ q,φ id=some q/\(p=q∨p=VK q):=by
    unfold CJ at e;cases i:ids.any (Nat.beq id) with
    | false=>rw[i]at e;exact⟨p,e,.inl rfl⟩
    | true =>
     rw[i]at e;simp only[Apy,ApJ]at e;obtain⟨q,h1,h2⟩:=e;exact⟨q,h1,.inr h2.symm⟩
   obtain⟨q,i,B⟩:=hp;have G:=u q i;cases q with
   | arr=>exact G.elim
   | box b =>
    have:p=.box b:=by rcases B with h | h<;>exact h
    subst this;obtain⟨c,ty,k1,k2⟩:=G;obtain⟨O,P⟩:=DI L;refine⟨c,ty,k1,⟨by simp[O,k2.1],fun j y I=>?_⟩⟩;simp only[Ap3,ApJ]at I;obtain⟨z,J,rfl⟩:=I;obtain⟨x,Q,R⟩:=P j z J;exact(V.unhold (NO f.hp (ids:=ids) k _ _ _ _ (k2.2 j x Q) R (M z (Aql J)))).held
 ·have d:(JA ids 0 hs').length<=j:=o;rw[MA,g]at d;exact Dw.2 (f.fr j d)
 ·have d:j<(JA ids 0 hs').length:=o;rw[MA,g]at d;exact fun h=>f.lv j d (Dw.1 h)
theorem Ax.cv {c:Ctx}{rel:List Nat}{st a:St}(h:Cv st a)(k:Ax c rel a):Ax c rel st:=Sat.cv h k
def AgN (r:VV->VV->Bool):List VV->List VV->Bool
 | [],[]=>true
 | y::ys,x::xs=>r y x&&AgN r ys xs
 | _,_=>false
def leF : Nat->VV->VV->Bool
 | 0,_,_=>false
 | _+1,.sc u,.sc v=>AjS u v
 | _+1,.nl,.nl=>true
 | _+1,.nl,.sl _ n _ _=>Nat.beq n 0
 | k+1,.sl z n s f,.sl z' n' s' a=>(z==z')&&(Nat.beq n n'&&(Nat.beq s s'&&Cu n fun i=>AgN (leF k) (f i) (a i)))
 | k+1,.agg ys,.agg xs=>AgN (leF k) ys xs
 | _+1,_,_=>false
theorem Qv {r:VV->VV->Bool}(a:∀ y x,r y x=true->VV.le y x):∀ {ys xs:List VV},AgN r ys xs=true->leL ys xs
 | [],[],_=>trivial
 | y::ys,x::xs,h=>by
  simp only[AgN,Apv]at h;exact⟨a _ _ h.1,Qv a h.2⟩
 | [],_::_,h=>by cases h
 | _::_,[],h=>by cases h
theorem AbS : ∀ (k:Nat) (y x:VV),leF k y x=true->VV.le y x
 | 0,_,_,h=>by cases h
 | k+1,y,x,h=>by
  unfold leF at h;split at h
  ·cases h
  ·obtain rfl:=AjR h;exact VV.le_refl _
  ·exact VV.le_refl _
  ·obtain rfl:=ApA h;exact Aqd
  ·simp only[Apv,beq_iff_eq]at h;obtain⟨rfl,h1,h2,h3⟩:=h;obtain rfl:=ApA h1;exact AqD (.inl (ApA h2)) fun i hi=>Qv (fun y x h=>AbS _ y x h) (AO.1 h3 i hi)
  ·exact AqH (Qv (fun y x h=>AbS _ y x h) h)
  ·cases h
def AbR (k:Nat):List Ob->List Ob->Bool
 | [],[]=>true
 | .box cs::l,.box cs'::l'=>AgN (leF k) cs cs'&&AbR k l l'
 | .gone g::l,.gone g'::l'=>Nat.beq g g'&&AbR k l l'
 | _,_=>false
theorem VA {k:Nat}:∀ {l l':List Ob},AbR k l l'=true->leO l l'
 | [],[],_=>trivial
 | .box cs::l,.box cs'::l',h=>by
  simp only[AbR,Apv]at h;exact⟨Ob.le_box (Qv (fun y x h=>AbS _ y x h) h.1),VA h.2⟩
 | .gone g::l,.gone g'::l',h=>by
  simp only[AbR,Apv]at h;obtain rfl:=ApA h.1;exact⟨Ob.le_refl _,VA h.2⟩
 | [],_::_,h=>by cases h
 | .box _::_,[],h=>by cases h
 | .box _::_,.arr ..::_,h=>by cases h
 | .box _::_,.gone _::_,h=>by cases h
 | .gone _::_,[],h=>by cases h
 | .gone _::_,.arr ..::_,h=>by cases h
 | .gone _::_,.box _::_,h=>by cases h
 | .arr ..::_,_,h=>by simp[AbR]at h
theorem Ax.pubB {c:Ctx}{rel:List Nat}{l:List (Nat × VV)}{hs hs':List Ob}(k n:Nat)(h:(match Kt (BS hs) k hs with
  | some q=>AbR n (JA q.2 0 q.1) hs'
  | none=>false)=true) (kk:Ax c rel (Ay l hs')):Ax c rel (Ay l hs):=by
 split at h
 ·rename_i q a;exact Ax.cv (Cv.pubB (hs':=q.1) (ids:=q.2) k a) (Ax.le (AS _) (VA h) kk)
 ·cases h
theorem Ut {s:D.State}(x:Fit s):Aj Tryz.prog 49 [] [.agg (Ah s)] [obC s,obP s] (.agg (BH s (.ow 0 0 s.Chans.length) (.ow 1 0 s.Procs.length))):=by
 have hg:=x.g;have H:=x.c;have hp:=x.p;refine Aq Tryz.func49 (Aek [obC s,obP s] (.agg (BH s (.ow 0 0 s.Chans.length) (.ow 1 0 s.Procs.length))) s) ⟨s.Globals,Sn (by omega),?_⟩;refine Ar (fun g st=>∃ k:Nat,k<=s.Chans.length/\g=s.Chans.length - k/\st=Ac2 s (s.Chans.take k) k) ⟨_,Up.cv (Cv.ownBox 2 1 2 (Ew []) rfl rfl) (Up.of ⟨0,ApD _,rfl,rfl⟩)⟩ ?_;rintro g st ⟨k,E,rfl,rfl⟩;have n:(s.Chans.take k).length=k:=by simp;omega
 refine ApI (ZC _ _ s (s.Chans.take k) k _ rfl rfl rfl) ⟨fun o=>?_,fun t=>?_⟩
 ·have b:k<s.Chans.length:=by have:=AL o;omega
  have u:(k:Int).toNat=k:=by omega
  rw[u];have a:s.Chans.take (k+1)=s.Chans.take k++[s.Chans.getD k default]:=Fj b;have B:=x.q _ (Av (d:=default) b);generalize s.Chans.getD k default=c at a B ⊢;refine⟨⟨by omega,by omega⟩,?_⟩;refine Ax.own 4 6 1 (AaC []) rfl ?_;refine Ar (fun g st=>∃ j:Nat,j<=c.Queue.length/\g=c.Queue.length - j/\st=Ac1 s (s.Chans.take k) k c (c.Queue.take j) j) ⟨_,Up.of ⟨0,ApD _,rfl,rfl⟩⟩ ?_;rintro g st ⟨j,I,rfl,rfl⟩;have C:(c.Queue.take j).length=j:=by simp;omega
  refine ApI (ZB _ _ s (s.Chans.take k) k c (c.Queue.take j) j _ _ rfl) ⟨fun y=>?_,fun h=>?_⟩
  ·have m:j<c.Queue.length:=by have:=AL y;omega
   have z:(j:Int).toNat=j:=by omega
   rw[z];have e:c.Queue.take (j+1)=c.Queue.take j++[c.Queue.getD j []]:=Fj m;have J:=B.2 _ (Av (d:=[]) m);refine⟨⟨by omega,by omega⟩,c.Queue.getD j [],YU (by omega),by rw[C];omega,c.Queue.length - (j+1),by omega,?_⟩;rw[Al (by omega)];refine Up.mk (l':=[(1,.bp 0 0),(2,.bp 1 0),(3,.bp 2 0),(5,.bp 4 0),(6,.ow 5 0 (c.Queue.take (j+1)).length),(19,A0 true s.Chans),(20,Aa s.Chans.length),(21,Aa k),(26,B3 true c.Queue),(27,Aa c.Queue.length),(28,Aa ((j+1:Nat):Int))])
    (hs':=[.box (Ah s),.box Tb,.box (BH s (.ow 3 0 (s.Chans.take k).length) .nl),.arr true 0 (s.Chans.take k).length 2 (Ew (s.Chans.take k)),.box (AM c),.arr true 0 (c.Queue.take (j+1)).length 1 (AaC (c.Queue.take (j+1)))]) ?_ ?_ ⟨j+1,by omega,rfl,rfl⟩
   ·rw[e,ApP];exact AS _
   ·rw[e,ApP];refine⟨Ob.le_refl _,Ob.le_refl _,Ob.le_refl _,Ob.le_refl _,Ob.le_refl _,Ap6 fun i hi=>AV ?_,trivial⟩;refine BR (l:=c.Queue.take j) (r:=[c.Queue.getD j []]) (f:=fun w=>[Ad true w]) (d:=[]) (F:=fun i=>[Ad true ((c.Queue.take j).getD i [])]) (G:=fun i=>List.take 1 (List.drop (i*1) [Ad true (c.Queue.getD j [])])) (fun i hi=>rfl) (fun i hi=>?_) (by simpa using hi);obtain rfl:i=0:=by simpa using hi
    rfl
  ·have v:c.Queue.length<=j:=by have:=AP h;omega
   rw[Aqq v];refine⟨by rw[n];omega,s.Chans.length - (k+1),by omega,?_⟩;rw[Al (by omega)];refine Up.mk (l':=[(1,.bp 0 0),(2,.bp 1 0),(3,.bp 2 0),(19,A0 true s.Chans),(20,Aa s.Chans.length),(21,Aa ((k+1:Nat):Int))])
    (hs':=[.box (Ah s),.box Tb,.box (BH s (.ow 3 0 (s.Chans.take (k+1)).length) .nl),.arr true 0 (s.Chans.take (k+1)).length 2 (Ew (s.Chans.take (k+1)))]) ?_ ?_ ⟨k+1,by omega,rfl,rfl⟩
   ·exact AS _
   ·rw[a,ApP];refine⟨Ob.le_refl _,Ob.le_refl _,Ob.le_refl _,Ap6 fun i hi=>AV ?_,trivial⟩;exact BR (l:=s.Chans.take k) (r:=[c]) (f:=AM) (d:=default) (F:=fun i=>AM ((s.Chans.take k).getD i default)) (G:=fun i=>[AM c].getD i []) (fun i hi=>rfl) (fun i hi=>by
     obtain rfl:i=0:=by simpa using hi
     rfl) (by simpa using hi)
 ·have A:s.Chans.length<=k:=by have:=AP t;omega
  rw[Aqq A];refine Ar (fun g st=>∃ k:Nat,k<=s.Procs.length/\g=s.Procs.length - k/\st=Ac0 s s.Chans (s.Procs.take k) k) ⟨_,Up.cv (Cv.ownBox 1 2 4 (Jq []) rfl rfl) (Up.of ⟨0,ApD _,rfl,rfl⟩)⟩ ?_;rintro g st ⟨k,E,rfl,rfl⟩;have n:(s.Procs.take k).length=k:=by simp;omega
  refine ApI (ZA _ _ s s.Chans (s.Procs.take k) k _ rfl) ⟨fun o=>?_,fun t=>?_⟩
  ·have b:k<s.Procs.length:=by have:=AL o;omega
   have u:(k:Int).toNat=k:=by omega
   rw[u];have a:s.Procs.take (k+1)=s.Procs.take k++[s.Procs.getD k default]:=Fj b;have B:=x.f _ (Av (d:=default) b);generalize s.Procs.getD k default=p at a B ⊢;refine⟨⟨by omega,by omega⟩,p.Frame,Sn (by omega),by rw[n];omega,s.Procs.length - (k+1),by omega,?_⟩;rw[Al (by omega)];refine Up.mk (l':=[(2,.bp 0 0),(3,.bp 1 0),(49,AI true s.Procs),(50,Aa s.Procs.length),(51,Aa ((k+1:Nat):Int))])
    (hs':=[.box Tb,.box (BH s (.ow 2 0 s.Chans.length) (.ow 3 0 (s.Procs.take (k+1)).length)),.arr true 0 s.Chans.length 2 (Ew s.Chans),.arr true 0 (s.Procs.take (k+1)).length 4 (Jq (s.Procs.take (k+1)))]) ?_ ?_ ⟨k+1,by omega,rfl,rfl⟩
   ·exact AS _
   ·rw[a,ApP];refine⟨Ob.le_refl _,Ob.le_refl _,Ob.le_refl _,Ap6 fun i hi=>AV ?_,trivial⟩;exact BR (l:=s.Procs.take k) (r:=[p]) (f:=AF) (d:=default) (F:=fun i=>AF ((s.Procs.take k).getD i default)) (G:=fun i=>List.take 4 (List.drop (i*4) (AF p))) (fun i hi=>rfl) (fun i hi=>by
     obtain rfl:i=0:=by simpa using hi
     rfl) (by simpa using hi)
  ·have h:s.Procs.length<=k:=by have:=AP t;omega
   rw[Aqq h];exact⟨⟨Ob.le_refl _,Ob.le_refl _,trivial⟩,VV.le_refl _⟩
def Cz (l:D.Loc)(esc:Int):List D.Trans:=bif decide (esc<0) then l.Out else l.Esc.getD esc.toNat []
theorem Yd : ∀ {r:List (List D.Trans)} {k:Nat} {i:Int} {ws:List D.Trans},(i,ws)∈Si k r->∃ j:Nat,i=((k+j:Nat):Int)/\r[j]?=some ws
 | [],k,i,ws,h=>by cases h
 | w::r,k,i,ws,h=>by
  rcases Aqk.1 h with h | h
  ·simp only[Ap8]at h;obtain⟨rfl,rfl⟩:=h;exact⟨0,by omega,rfl⟩
  ·obtain⟨j,b,a⟩:=Yd h;exact⟨j+1,by omega,by simpa using a⟩
theorem IX {l:D.Loc}{i:Int}{ws:List D.Trans}(h:(i,ws)∈EA l):Cz l i=ws/\-1<=i/\i<l.Esc.length/\(ws=l.Out∨ws∈l.Esc):=by
 rcases Ap1.1 h with h | h
 ·obtain⟨j,rfl,a⟩:=Yd h;obtain⟨b,rfl⟩:=Apz.1 a;refine⟨?_,by omega,by omega,.inr (Ars _)⟩;unfold Cz;grind
 ·simp only[Ap4,Ap8]at h;obtain⟨rfl,rfl⟩:=h;exact⟨rfl,by omega,by omega,.inl rfl⟩
section
variable {e : D.Env} {mt:Int->List Int->List Pn} {ws:List D.Trans} {self:Bool}
theorem Aif {s:D.Stmt}(h:(Ce e mt s self).is=false):(Ce e mt s self).wth=[]:=by
 unfold Ce at h ⊢;split
 ·cases Dz e s.A<;>rfl
 ·rename_i n1;rw[ApT n1]at h;split
  ·cases Dz e s.B<;>rfl
  ·rename_i n2;rw[ApT n2]at h;split
   ·rfl
   ·rename_i a;rw[ApT a]at h;split
    ·rename_i b;rw[Aqc b]at h;unfold E5 at h ⊢;cases c:decide ((AB e s.A).2≠0) with
     | true=>rfl
     | false =>
     rw[c,Apw]at h;rw[Apw];cases d:decide ((Bb e (AB e s.A).1).length≠s.Args.length) with
     | true=>rfl
     | false =>
     rw[d,Apw]at h;rw[Apw];cases f:decide (0<(BV e.M (B6 e (AB e s.A).1).Shape).Room) with
     | true=>rfl
     | false =>
     rw[f,Apw]at h;rw[Apw];cases g:self with
     | true=>rfl
     | false =>
     rw[g,Apw]at h;rw[Apw];cases i:decide ((AD e s).2.2≠0) with
     | true=>rfl
     | false =>
     simp_all
    grind
theorem AeU {s:D.Stmt}(h:s.Kind=7):Ce e mt s self=⟨false,0,[]⟩:=by
 unfold Ce;grind
theorem W9 : ∀ {n:Nat},Eg e mt ws self n=false->∀ j,j<n->(Ce e mt (ws.getD j default).S self).is=false
 | 0,_,j,a=>absurd a (AqZ j)
 | n+1,h,j,a=>by
  unfold Eg at h;rw[ApN]at h;rcases AqO.1 a with b | rfl
  ·exact W9 h.1 j b
  ·exact h.2
def AmG (x:Ab):Prop:=x.is=true∨x.wth≠[]
theorem AkF {j:Nat}(a:(ws.getD j default).S.Kind=7)(h:AmG (Er e mt ws self j)):Eg e mt ws self ws.length=false:=by
 unfold Er at h;rw[AeU a,show decide ((ws.getD j default).S.Kind=7)=true by simpa using a]at h;cases hs:Eg e mt ws self ws.length with
 | false=>rfl
 | true =>
  rw[hs]at h;rcases h with h | h
  ·cases h
  ·exact absurd rfl h
theorem AkE {j:Nat}(b:j<ws.length)(hs:Eg e mt ws self ws.length=false)(h:AmG (Er e mt ws self j)):(ws.getD j default).S.Kind=7:=by
 refine ApZ fun c=>?_
 have a:=W9 hs j b;have d:=Aif a;unfold Er at h;rw[show decide ((ws.getD j default).S.Kind=7)=false by simpa using c]at h;rcases h with h | h
 ·grind
 ·exact h d
theorem AgD {i:Int}{k:Nat}{x:Ab}{w:Wy}(h:w∈Fp i k x):w.Esc=i/\w.Way=k/\AmG x:=by
 rcases Ap1.1 h with h | h
 ·cases c:(x.is&&decide (x.wth.length=0)) with
  | false=>rw[c]at h;cases h
  | true =>
   rw[c]at h;obtain rfl:=Ap4.1 h;simp only[Apv]at c;exact⟨rfl,rfl,.inl c.1⟩
 ·obtain⟨p,hp,rfl⟩:=Aqw.1 h;refine⟨rfl,rfl,.inr ?_⟩;grind
theorem RY {i:Int}:∀ {l:List Ab} {k:Nat} {w:Wy},w∈CP i k l->∃ (j:Nat) (x:Ab),l[j]?=some x/\w.Esc=i/\w.Way=((k+j:Nat):Int)/\AmG x
 | [],k,w,h=>by cases h
 | x::r,k,w,h=>by
  rcases Ap1.1 (show w∈Fp i k x++CP i (k+1) r from h) with h | h
  ·obtain⟨h1,h2,h3⟩:=AgD h;exact⟨0,x,rfl,h1,h2,h3⟩
  ·obtain⟨j,y,h1,h2,h3,h4⟩:=RY h;exact⟨j+1,y,h1,h2,by rw[h3];congr 1;omega,h4⟩
theorem VZ {j:Nat}{x:Ab}(h:(Dc e mt ws self)[j]?=some x):j<ws.length/\x=Er e mt ws self j:=by
 unfold Dc at h;grind
theorem PG : ∀ {r:List (Int × List D.Trans)},ES e r=[]∨∃ i ws,(i,ws)∈r/\ES e r=CP i 0 (Dc e (BY e) ws false)
 | []=>.inl rfl
 | (i,ws)::r=>by
  have a:ES e ((i,ws)::r)=bif decide (0<(CP i 0 (Dc e (BY e) ws false)).length) then CP i 0 (Dc e (BY e) ws false) else ES e r:=rfl
  rw[a];cases decide (0<(CP i 0 (Dc e (BY e) ws false)).length) with
  | true=>exact .inr ⟨i,ws,ApF,rfl⟩
  | false =>
   rcases PG (r:=r) with h | ⟨b,ws',h1,h2⟩
   ·exact .inl h
   ·exact .inr ⟨b,ws',ApM _ h1,h2⟩
theorem Im : Bt e=[]∨(∃ er,Bt e=[IW er])∨∃ i ws,(i,ws)∈EA (Cy e)/\Bt e=CP i 0 (Dc e (BY e) ws false):=by
 unfold Bt;grind [PG]
theorem Wu {w:Wy}(a:w∈Bt e) :
  (w.Way<0->(Bt e).length=1)/\(0<=w.Way->-1<=w.Esc/\w.Esc<(Cy e).Esc.length/\∀ w'∈Bt e,w'.Esc=w.Esc/\0<=w'.Way/\w'.Way<(Cz (Cy e) w.Esc).length /\
   (((Cz (Cy e) w.Esc).getD w.Way.toNat default).S.Kind=7->((Cz (Cy e) w.Esc).getD w'.Way.toNat default).S.Kind=7)):=by
 rcases Im (e:=e) with h | ⟨er,h⟩ | ⟨i,ws,hi,h⟩
 ·rw[h]at a;cases a
 ·rw[h]at a;obtain rfl:=Ap4.1 a;exact⟨fun _=>by rw[h]<;>rfl,fun h0=>by unfold IW at h0;simp at h0⟩
 ·rw[h]at a ⊢;obtain⟨g,h1,h2,_⟩:=IX hi;obtain⟨j,x,k,l,d,m⟩:=RY a;obtain⟨b1,rfl⟩:=VZ k;refine⟨fun n=>by rw[d]at n;omega,fun _=>⟨by omega,by omega,fun w' b=>?_⟩⟩;obtain⟨o,t,p,q,c,r⟩:=RY b;obtain⟨s,rfl⟩:=VZ p;rw[l,g];refine⟨q,by rw[c];omega,by rw[c];omega,fun f=>?_⟩;rw[show w.Way.toNat=j by rw[d];omega]at f;rw[show w'.Way.toNat=o by rw[c];omega];exact AkE s (AkF f m) r
end
section
variable {e : D.Env}
theorem Wv {i:Int}:∀ {l:List Ab} {k:Nat},(∀ x∈l,x.wth.length<=16384)->(CP i k l).length<=l.length*16385
 | [],_,_=>ApD _
 | x::r,k,h=>by
  rw[On,ApP,Aqi,Nat.succ_mul];have h1:=Wv (i:=i) (k:=k+1) fun y a=>h y (ApM _ a)
  have h2:(Fp i k x).length<=16385:=by
   have b:=h x ApF;unfold Fp;rw[ApP,AqL];cases (x.is&&decide (x.wth.length=0))
   ·simp;omega
   ·simp;omega
  omega
theorem Lr (h:CA e):(Bt e).length<=16778240:=by
 rcases Im (e:=e) with a | ⟨er,a⟩ | ⟨i,ws,hi,a⟩
 ·rw[a];simp
 ·rw[a];simp
 ·rw[a];obtain⟨_,_,_,b⟩:=IX hi;have c:=(h.ws (ws:=ws) (by rcases b with rfl | b;exact ApF;exact ApM _ b)).len;have h1:=Wv (i:=i) (k:=0) (l:=Dc e (BY e) ws false) (Su h);have h2:(Dc e (BY e) ws false).length=ws.length:=by simp[Dc]
  rw[h2]at h1;have:=ApS 16385 c;omega
end
section
variable {e : D.Env} {w:Wy}
def CU : D.State:=⟨[],[],[],0,0,0⟩
theorem R3 {c:Int}:VV.le (.tup [.agg [.nl,.nl,.nl,Aa 0,Aa 0,Aa 0],Bm ⟨#[]⟩,Aa c]) (.tup [.agg (Ah CU),Bm ⟨#[]⟩,Aa c]) :=
 Aq4 ⟨AqH ⟨Aqd,Aqd,Aqd,VV.le_refl _,VV.le_refl _,VV.le_refl _,trivial⟩,VV.le_refl _,VV.le_refl _,trivial⟩
theorem Rp {l:List D.Process}{t j:Nat}{p:D.Process}(c:j<l.length):(bif j.beq t then AF p else AF (l.getD j default))=AF ((l.set t p).getD j default):=by
 cases b:j.beq t with
 | true =>
  have:=ApA b;subst this;simp[List.getD,c]
 | false =>
  have a:t≠j:=by rintro rfl;simp at b
  simp[List.getD,a]
def AdM (m:D.Model)(s:D.State)(k:Int):D.Env:=⟨m,s,k,false,[]⟩
def Iq (m:D.Model)(s:D.State)(k:Nat):Bool:=decide (((Bt (AdM m s k)).length:Int) > 0)
def Cg (m:D.Model)(s:D.State)(k:Nat):List Bool:=(List.range s.Procs.length).map fun i=>bif Nat.blt i k then Iq m s i else false
theorem Gh {m:D.Model}{s:D.State}{k:Nat}:(Cg m s k).length=s.Procs.length:=by simp[Cg]
theorem SL {m:D.Model}{s:D.State}{k j:Nat}(a:j<s.Procs.length):(Cg m s k).getD j false=bif Nat.blt j k then Iq m s j else false:=by
 simp[Cg,List.getD,a]
theorem AhE {m:D.Model}{s:D.State}(n:AG m)(hs:Bq s)(o:Cb m s=0):Aj Tryz.prog 30 [] [.agg (Af m),.agg (Ah s)] [] (.tup [A6 true (Cg m s s.Procs.length),Aa 0]):=by
 obtain⟨q,r⟩:=MF o;have b:=VP q r;have hp:=b.p;have c:∀ k:Nat,k<s.Procs.length->CA (AdM m s k):=fun k u=>⟨⟨r,q,n,by show -1<=(k:Int);omega,by show(k:Int)<s.Procs.length;omega⟩,by show 0<=(k:Int);omega⟩
 refine Aq Tryz.func30 (Aeq (Cg m s s.Procs.length) 0 m s rfl rfl) ⟨Cb m s,Fv n hs (fun h=>(Ky h).clp),fun h1=>?_,fun _=>⟨⟨by omega,by omega,by omega⟩,?_⟩⟩
 ·rw[o]at h1;cases h1
 have f:((s.Procs.length:Int).toNat)=(Cg m s 0).length:=by rw[Gh];omega
 rw[f];refine Ax.le (l':=[(2,.bp 0 0),(3,.bp 1 0),(7,.ow 2 0 (Cg m s 0).length),(21,Aa s.Procs.length),(22,Aa 0)]) (hs':=[.box (Af m),.box (Ah s),.arr true 0 (Cg m s 0).length 1 (Ex (Cg m s 0))]) (AS _) ⟨Ob.le_refl _,Ob.le_refl _,Ap6 fun i hi=>AV ?_,trivial⟩ ?_
 ·rw[Gh]at hi;show _=[Ac ((Cg m s 0).getD i false)];rw[SL hi]<;>rfl
 refine As s.Procs.length (fun k=>AcP m s (Cg m s k) k) (fun _=>True) trivial ?_;intro k u _ J next
 refine ApI (ZG _ 0 m s (Cg m s k) k J) ⟨fun g=>?_,fun j=>?_⟩
 ·have a:k<s.Procs.length:=by have:=AL g;omega
  have l:(k:Int).toNat=k:=by omega
  rw[l];refine⟨Bt (AdM m s k),(J6 (c k a)).le trivial ⟨AqH ⟨VV.le_refl _,VV.le_refl _,VV.le_refl _,VV.le_refl _,VV.le_refl _,VV.le_refl _,VV.le_refl _,VV.le_refl _,VV.le_refl _,VV.le_refl _,VV.le_refl _,VV.le_refl _,VV.le_refl _,VV.le_refl _,VV.le_refl _,Aqd,trivial⟩,trivial⟩ trivial (VV.le_refl _),⟨by omega,by rw[Gh];omega⟩,next _ a trivial ?_⟩;rw[Al (by omega)];refine Up.mk (l':=[(2,.bp 0 0),(3,.bp 1 0),(7,.ow 2 0 (Cg m s (k+1)).length),(21,Aa s.Procs.length),(22,Aa ((k+1:Nat):Int))]) (hs':=[.box (Af m),.box (Ah s),.arr true 0 (Cg m s (k+1)).length 1 (Ex (Cg m s (k+1)))]) ?_ ?_ rfl
  ·rw[Gh,Gh];exact AS _
  ·rw[Gh,Gh];refine⟨Ob.le_refl _,Ob.le_refl _,Ap6 fun i hi=>AV ?_,trivial⟩;show _=[Ac ((Cg m s (k+1)).getD i false)];rw[SL (k:=k+1) hi];cases t:i.beq k with
   | true =>
    have:=ApA t;subst this;rw[Apy,LH (Aqx _)]<;>rfl
   | false =>
    rw[Apw,SL (k:=k) hi];have v:i≠k:=by rintro rfl;simp at t
    rcases Aqj i k with h | h
    ·rw[LH h,LH (by omega)]<;>rfl
    ·rw[QA h,QA (by omega)]<;>rfl
 ·have d:k=s.Procs.length:=by have:=AP j;omega
  subst d;exact⟨trivial,VV.le_refl _⟩
end
def IT (is:List Nat)(φ:Phi):Phi:=fun j=>(is[j]?).bind φ
def X3 (is:List Nat)(hs:List Ob):List Ob:=is.map fun i=>XB false (idx is) (fun _ g=>some g) (fun g=>g) (BS hs i)
theorem AaN (p:Pl):Gu (fun g=>g) p=p:=by cases p<;>rfl
theorem Aj.pick {P:Program}{f:FuncId}{hs d:List Ob}{xs:List VV}{r:VV}(is:List Nat)(h:Aj P f hs xs d r)(o:ET d.length is=true)
  (R:∀ j,j<hs.length->is[j]?=some j∨((∀ cs,BS hs j≠.box cs)/\∃ i,is[j]?=some i/\∀ cs,BS d i≠.box cs)) :
  Aj P f hs xs (X3 is d) (NF false (idx is) (fun _ g=>some g) 8 r):=by
 refine⟨h.callable,fun w E φ vs S Q hφ H=>(h.call w E φ vs S Q hφ H).mono ?_⟩;rintro e w' ⟨v,φ',rfl,h1,h2,h3,h4⟩;have l:∀ k,Own (IT is φ') k->Own φ' k:=by
  rintro k ⟨j,u⟩;obtain⟨p,hp,y⟩:=A1.1 u;unfold IT at hp;cases m:is[j]? with
  | none=>rw[m]at hp;cases hp
  | some i=>rw[m]at hp;exact⟨i,A1.2 ⟨p,hp,y⟩⟩
 have hrel:Ux false (idx is) (fun _ g=>some g) (E.up φ') φ' (E.up (IT is φ')) (IT is φ'):=by
  refine⟨fun k z=>z.imp id (l k),fun _ k z=>z.imp id (l k),fun id i b hi u=>?_,fun id i gen g c len hd hi hg I J=>?_⟩
  ·unfold IT;rw[Ei hi];exact u
  ·obtain rfl:=ApU hg;refine⟨c,?_,J,fun e=>e⟩;unfold IT;rw[Ei hi];exact I
 have s:∀ j i,is[j]?=some i->IT is φ' j=φ' i:=fun j i t=>by unfold IT;rw[t];rfl
 refine⟨v,IT is φ',rfl,⟨h1.sub,fun j p e=>?_,fun i j k hi t=>?_,fun k z=>h1.free k (l k z)⟩,⟨h2.os,h2.tape,h2.output,h2.size,h2.block,fun k z=>h2.new k (l k z),fun id p B e=>?_⟩,fun j=>?_,Fy hrel 8 _ _ h4⟩
 ·cases m:is[j]? with
  | none=>unfold IT at e;rw[m]at e;cases e
  | some i =>
   rw[s j i m]at e;have:=NE (og:=fun g=>g) hrel (h1.ob i p e);rw[AaN]at this;have C:BS (X3 is d) j=XB false (idx is) (fun _ g=>some g) (fun g=>g) (BS d i):=by
    unfold X3 BS;rw[ApQ,Ap3,m];rfl
   rw[C];exact this
 ·have toOld:∀ j k,Blk (IT is φ') j k->∃ i,is[j]?=some i/\Blk φ' i k:=by
   intro j k u;obtain⟨p,hp,y⟩:=A1.1 u;unfold IT at hp;cases m:is[j]? with
   | none=>rw[m]at hp;cases hp
   | some i=>rw[m]at hp;exact⟨i,rfl,A1.2 ⟨p,hp,y⟩⟩
  obtain⟨a,T,K⟩:=toOld i k hi;obtain⟨b,u,L⟩:=toOld j k t;obtain rfl:=h1.inj a b k K L;have C:=My o i a T;have G:=My o j a u;rw[C]at G;exact ApU G
 ·rcases R id B with hi | ⟨n1,i,hi,n2⟩
  ·obtain⟨p',C,G⟩:=h2.kind id p B e;exact⟨p',by rw[s id id hi];exact C,G⟩
  ·have A:i<d.length:=by
    have:=(h3 i);exact ApZ fun M=>by
     have t:=Gx o _ _ hi;exact M t
   obtain⟨q,m⟩:∃ q,φ' i=some q:=Ard.1 ((h3 i).2 A);refine⟨q,by rw[s id i hi];exact m,?_⟩;have N:=Q.ob id p e;have O:=h1.ob i q m;cases p with
   | box b =>
    exfalso;generalize U:BS hs id=x at N n1;cases x with
    | box cs=>exact n1 cs rfl
    | arr=>exact N.elim
    | gone=>exact N.elim
   | arr c n hd =>
    cases q with
    | arr c' n' hd'=>exact⟨c',n',hd',rfl⟩
    | box b =>
     exfalso;generalize U:BS d i=x at O n2;cases x with
     | box cs=>exact n2 cs rfl
     | arr=>exact O.elim
     | gone=>exact O.elim
 ·have F:(X3 is d).length=is.length:=by simp[X3]
  rw[F];constructor
  ·intro M;refine ApZ fun V=>M ?_
   unfold IT;rw[AqK (by omega)];rfl
  ·intro A;have t:is[j]?=some is[j]:=ApH A;rw[s j _ t];exact(h3 _).2 (Gx o _ _ t)
def AiE : Shp:={ α:=D.State × Int,enc:=fun y=>([obC y.1,obP y.1],.tup [.agg (BH y.1 (.ow 0 0 y.1.Chans.length) (.ow 1 0 y.1.Procs.length)),Aa y.2]) }
def Anj : Shp:={ α:=D.Chan × Int,enc:=fun y=>([],.tup [.agg (AM y.1),Aa y.2]) }
def Xe (f:FuncId):Shp:=bif Nat.beq f 135 then AiE else bif Nat.beq f 136 then AiG else bif Nat.beq f 138 then Anj else Nv f
def ML : Ann:={ base:=3,keep:=fun
  | [0,1,0,1]=>[0,2,4,11,12,13]
  | _=>[] }
def Lg (e:D.Env)(s:D.Stmt)(m:List Int)(k:Int):St:=Ay [(0,.bp 0 0),(2,Ad true m),(4,.bp 3 0),(11,Ad true s.Args),(12,Aa s.Args.length),(13,Aa k)] (hsE e++[.box (Au s)])
set_option maxRecDepth 100000
theorem QE (hs':List Ob)(r:Int)(e:D.Env)(x v:Int):(B8 Tryz.prog tb Xe AhC false Tryz.f95 hs' (Aa r)).goal (St.init (hsE e) [.bp 0 0,Aa x,Aa v]) =
  (∃ (y:D.State × Int),Aj Tryz.prog 135 [] [VV.agg (BJ e),Aa x,Aa v] [obC y.fst,obP y.fst] (VV.tup [VV.agg (BH y.fst (VV.ow 0 0 y.fst.Chans.length) (VV.ow 1 0 y.fst.Procs.length)),Aa y.snd])/\BB (y.snd==0) (leO [Ob.box [AC true e.M.Globals,Ad true e.M.Init,Bn true e.M.Shapes,Ad true e.M.Chans,BE true e.M.Procs,Aa e.M.Claim,BL true e.M.Exprs,Ad true y.fst.Globals,VV.ow 3 0 y.fst.Chans.length,VV.ow 4 0 y.fst.Procs.length,Aa y.fst.Last,Aa y.fst.Alone,Aa y.fst.Claim,Aa e.Pid,Ac e.Timeout,A6 true e.Able],obC e.S,obP e.S,obC y.fst,obP y.fst] hs'/\(Aa y.snd).le (Aa r)) (leO (hsE e) hs'/\(Aa y.snd).le (Aa r))):=by kernel_rfl
theorem Zx (y:D.Env)(r:Int)(e:D.Env)(s:D.Stmt)(m:List Int):(B8 Tryz.prog tb Xe ML false Tryz.f137 (hsE y) (Aa r)).goal (St.init (hsE e) [.bp 0 0,.agg (Au s),Ad true m]) =
  (Ax (B8 Tryz.prog tb Xe ML false Tryz.f137 (hsE y) (Aa r)) [1,0,1,0] (Lg e s m (0:Int))):=by kernel_rfl
theorem Wj (y:D.Env)(r:Int)(e:D.Env)(s:D.Stmt)(m:List Int)(k:Int)(J:St->Prop):((B8 Tryz.prog tb Xe ML false Tryz.f137 (hsE y) (Aa r)).loop [1,0,1,0] J).goal (Lg e s m k) =
  (BB (decide (k<(↑s.Args.length:Int))) (inX k s.Args.length/\inX k s.Match.length/\BB (s.Match.getD k.toNat 0 != 0) (J (Lg e s m (IntKind.i64.wrap (k+(1:Int))))) (inX k m.length/\∃ (a:D.Env × Int),Aj Tryz.prog 95 (hsE e) [VV.bp 0 0,Aa (s.Args.getD k.toNat 0),Aa (m.getD k.toNat 0)] (hsE a.fst) (Aa a.snd)/\BB (a.snd != 0) (leO (hsE a.fst) (hsE y)/\(Aa a.snd).le (Aa r)) (J (Lg a.fst s m (IntKind.i64.wrap (k+(1:Int))))))) (leO (hsE e) (hsE y)/\(Aa 0).le (Aa r))):=by kernel_rfl
theorem Ad2 (hs':List Ob)(r:Int)(e:D.Env)(s:D.Stmt)(w:Wy){c}(f:c=fun(y:Int × List Int × Int)=>IntKind.i64.wrap (y.fst - (1:Int))):(B8 Tryz.prog tb Xe AhC false Tryz.f96 hs' (Aa r)).goal (St.init (hsE e) [.bp 0 0,.agg (Au s),.agg (AY w)]) =
  (∃ (y:Int × List Int × Int),VC 136 [.agg (BJ e),.agg (Au s)] (.tup [Aa y.fst,Ad true y.snd.fst,Aa y.snd.snd])/\BB (y.snd.snd != 0) (leO (hsE e) hs'/\(Aa y.snd.snd).le (Aa r)) (BB (decide (w.With>=0)) (∃ (b:D.Loc),VC 51 [.agg [AC true e.M.Globals,Ad true e.M.Init,Bn true e.M.Shapes,Ad true e.M.Chans,BE true e.M.Procs,Aa e.M.Claim,BL true e.M.Exprs,Ad true e.S.Globals,A0 false e.S.Chans,AI false e.S.Procs,Aa e.S.Last,Aa e.S.Alone,Aa e.S.Claim,Aa w.With,Ac e.Timeout,A6 true e.Able]] (.agg (A8 b))/\∃ (d:D.Trans),VC 50 [.agg (A8 b),Aa w.WithEsc,Aa w.WithWay] (.agg (Dr d))/\∃ (a:D.Env × Int),Aj Tryz.prog 137 [.box [AC true e.M.Globals,Ad true e.M.Init,Bn true e.M.Shapes,Ad true e.M.Chans,BE true e.M.Procs,Aa e.M.Claim,BL true e.M.Exprs,Ad true e.S.Globals,.ow 1 0 e.S.Chans.length,.ow 2 0 e.S.Procs.length,Aa e.S.Last,Aa e.S.Alone,Aa e.S.Claim,Aa w.With,Ac e.Timeout,A6 true e.Able],obC e.S,obP e.S] [.bp 0 0,.agg (Au d.S),Ad true y.snd.fst] (hsE a.fst) (Aa a.snd)/\leO [.box [AC true e.M.Globals,Ad true e.M.Init,Bn true e.M.Shapes,Ad true e.M.Chans,BE true e.M.Procs,Aa e.M.Claim,BL true e.M.Exprs,Ad true a.fst.S.Globals,.ow 1 0 a.fst.S.Chans.length,.ow 2 0 a.fst.S.Procs.length,Aa a.fst.S.Last,Aa a.fst.S.Alone,Aa a.fst.S.Claim,Aa e.Pid,Ac e.Timeout,A6 true e.Able],obC a.fst.S,obP a.fst.S] hs'/\(Aa a.snd).le (Aa r)) (inX (c y) e.S.Chans.length/\inX (e.S.Chans.getD (c y).toNat default).Shape e.M.Shapes.length/\∃ (b:D.Chan × Int),VC 138 [.agg (D0 (e.M.Shapes.getD (e.S.Chans.getD (c y).toNat default).Shape.toNat default)),.agg (AM (e.S.Chans.getD (c y).toNat default)),Ad true y.snd.fst,Ac (s.N==1)] (.tup [.agg (AM b.fst),Aa b.snd])/\inX (c y) e.S.Chans.length/\leO [.box (FH e (.ow 1 0 e.S.Chans.length) (.ow 2 0 e.S.Procs.length)),.arr true 0 e.S.Chans.length 2 fun(j:Nat)=>bif j.beq (c y).toNat then AM b.fst else AM (e.S.Chans.getD j default),obP e.S] hs'/\(Aa b.snd).le (Aa r)))):=by subst f;kernel_rfl
theorem Aee (l:D.Loc)(e:D.Env){z1}(a:z1=e.S.Procs.getD e.Pid.toNat default):(fc Xe AQ Tryz.f51 [] (.agg (A8 l))).goal (St.init [] [.agg (BJ e)]) =
  (inX e.Pid e.S.Procs.length/\inX z1.Type_ e.M.Procs.length/\inX z1.Loc (e.M.Procs.getD z1.Type_.toNat default).Locs.length/\LQ (.agg (A8 ((e.M.Procs.getD z1.Type_.toNat default).Locs.getD z1.Loc.toNat default))) (.agg (A8 l))):=by subst a;kernel_rfl
end Go.Proofs.YtnhamlpcpngafaaGreatDoor
namespace Go.Proofs.YtnhamlpcpngafaaGreatDoor
open Go.RowKit
def stE (e:D.Env)(x v:Int):D.Env:=bif decide ((Bg e x v).2=0) then{ e with S:=(Bg e x v).1 } else e
def GO (m mt:List Int):Nat->List Int->D.Env->D.Env × Int
 | _,[],e=>(e,0)
 | k,x::r,e=>bif decide (mt.getD k 0≠0) then GO m mt (k+1) r e
   else bif decide ((Bg e x (m.getD k 0)).2≠0) then(e,(Bg e x (m.getD k 0)).2) else GO m mt (k+1) r (stE e x (m.getD k 0))
def DZ (e:D.Env)(s:D.Stmt)(m:List Int):D.Env × Int:=GO m s.Match 0 s.Args e
structure PZ (e e':D.Env):Prop where
 M:e'.M=e.M
 pid:e'.Pid=e.Pid
 t:e'.Timeout=e.Timeout
 a:e'.Able=e.Able
 chans:e'.S.Chans=e.S.Chans
 procs:e'.S.Procs.length=e.S.Procs.length
theorem PZ.refl (e:D.Env):PZ e e:=⟨rfl,rfl,rfl,rfl,rfl,rfl⟩
theorem PZ.trans {a b c:D.Env}(h:PZ a b)(k:PZ b c):PZ a c:=⟨k.M.trans h.M,k.pid.trans h.pid,k.t.trans h.t,k.a.trans h.a,k.chans.trans h.chans,k.procs.trans h.procs⟩
theorem Afb (m:D.Model)(s:D.State)(who k v:Int):(PV m s who k v).Chans=s.Chans/\(PV m s who k v).Procs.length=s.Procs.length:=by
 unfold PV;cases decide (who<0) with
 | true=>exact⟨rfl,rfl⟩
 | false=>exact⟨rfl,by simp[setO]⟩
theorem Z3 {e:D.Env}{x v:Int}(h:(Bg e x v).2=0):(Bg e x v).1.Chans=e.S.Chans/\(Bg e x v).1.Procs.length=e.S.Procs.length:=by
 unfold Bg at h ⊢;cases a:decide (CE e x≠0) with
 | true =>
  grind
 | false =>
  rw[a,Apw]at h;rw[Apw];cases b:decide ((BP e (FP e) (Ao e.M x)).2.2≠0) with
  | true =>
   grind
  | false=>rw[Apw];exact Afb _ _ _ _ _
theorem Rk (e:D.Env)(x v:Int):PZ e (stE e x v):=by
 unfold stE;cases c:decide ((Bg e x v).2=0) with
 | true =>
  obtain⟨h1,h2⟩:=Z3 (ApK c);exact⟨rfl,rfl,rfl,rfl,h1,h2⟩
 | false=>exact PZ.refl e
theorem KA (m mt:List Int):∀ (l:List Int) (k:Nat) (e:D.Env),PZ e (GO m mt k l e).1
 | [],_,e=>PZ.refl e
 | x::r,k,e=>by
  unfold GO;cases decide (mt.getD k 0≠0) with
  | true=>exact KA m mt r (k+1) e
  | false =>
   rw[Apw];cases decide ((Bg e x (m.getD k 0)).2≠0) with
   | true=>exact PZ.refl e
   | false=>exact(Rk e x _).trans (KA m mt r (k+1) _)
theorem TH {e:D.Env}{c:Int}{m:List Int}{i:Int}{p:Pn}:∀ {ws:List D.Trans} {k:Nat},p∈DA e c m i k ws->p.pid=e.Pid/\p.esc=i/\∃ j:Nat,p.way=((k+j:Nat):Int)/\j<ws.length/\E0 e (ws.getD j default).S c m=true
 | [],_,h=>by cases h
 | t::r,k,h=>by
  rcases Ap1.1 (show p∈(bif E0 e t.S c m then[(⟨e.Pid,i,k⟩:Pn)] else[])++DA e c m i (k+1) r from h) with h | h
  ·cases q:E0 e t.S c m with
   | false=>rw[q]at h;cases h
   | true =>
    rw[q]at h;obtain rfl:=Ap4.1 h;exact⟨rfl,rfl,0,rfl,Nat.succ_pos _,q⟩
  ·obtain⟨h1,h2,j,h3,h4,h5⟩:=TH h;exact⟨h1,h2,j+1,by rw[h3];congr 1;omega,Nat.succ_lt_succ h4,h5⟩
theorem TF {e:D.Env}{c:Int}{m:List Int}{p:Pn}:∀ {l:List (Int × List D.Trans)},p∈Hu e c m l->∃ i ws,(i,ws)∈l/\p∈DA e c m i 0 ws
 | [],h=>by cases h
 | (i,ws)::r,h=>by
  have b:Hu e c m ((i,ws)::r)=bif decide (0<(DA e c m i 0 ws).length)||isSome (Dc e GZ ws true) then DA e c m i 0 ws else Hu e c m r:=rfl
  rw[b]at h;cases a:(decide (0<(DA e c m i 0 ws).length)||isSome (Dc e GZ ws true)) with
  | true=>rw[a]at h;exact⟨i,ws,ApF,h⟩
  | false =>
   rw[a]at h;obtain⟨d,ws',h1,h2⟩:=TF h;exact⟨d,ws',ApM _ h1,h2⟩
theorem AfN {e:D.Env}{c:Int}{m:List Int}{p:Pn}(h:p∈Ey e c m):p.pid=e.Pid/\-1<=p.esc/\p.esc<(Cy e).Esc.length/\0<=p.way/\p.way<(Cz (Cy e) p.esc).length /\
  ((Cz (Cy e) p.esc).getD p.way.toNat default).S.Kind=6/\((Cz (Cy e) p.esc).getD p.way.toNat default).S.Args.length=m.length:=by
 unfold Ey at h;cases b:(!(AX e).1||decide ((AX e).2≠0)) with
 | true=>rw[b]at h;cases h
 | false =>
  rw[b,Apw]at h;obtain⟨i,ws,hi,hp⟩:=TF h;obtain⟨d,f,j,a,l,g⟩:=TH hp;obtain⟨l1,l2,k,_⟩:=IX hi;rw[f,l1];refine⟨d,l2,k,by rw[a];omega,by rw[a];omega,?_⟩;rw[show p.way.toNat=j by rw[a];omega];unfold E0 at g;grind
theorem RZ {e:D.Env}{c:Int}{m:List Int}{p:Pn}:∀ {n:Nat},p∈CD e c m n->∃ q:Nat,q<n/\(q:Int)≠e.Pid/\p∈Ey (BA e q) c m
 | 0,h=>by cases h
 | n+1,h=>by
  rcases Ap1.1 (show p∈CD e c m n++(bif decide ((n:Int)≠e.Pid) then Ey (BA e n) c m else[]) from h) with h | h
  ·obtain⟨q,h1,h2⟩:=RZ h;exact⟨q,by omega,h2⟩
  ·cases a:decide ((n:Int)≠e.Pid) with
   | true=>rw[a]at h;exact⟨n,Aqx _,ApK a,h⟩
   | false=>rw[a]at h;cases h
theorem Zb {ev:Evl}:∀ {l out:List Int},(JP ev out l).2=0->(JP ev out l).1.length=out.length+l.length
 | [],out,_=>rfl
 | x::l,out,h=>by
  have a:JP ev out (x::l)=bif decide ((ev x).2≠0) then([],(ev x).2) else JP ev (out++[(ev x).1]) l:=rfl
  rw[a]at h ⊢;cases c:decide ((ev x).2≠0) with
  | true=>rw[c]at h;exact absurd h (ApK c)
  | false =>
   rw[c,Apw]at h;rw[Apw,Zb h];simp;omega
theorem Kx {e:D.Env}{s:D.Stmt}(h:(AD e s).2.2=0):(AD e s).2.1.length=s.Args.length:=by
 unfold AD at h ⊢;cases b:decide ((AB e s.A).2≠0) with
 | true=>grind
 | false =>
  rw[b,Apw]at h;rw[Apw];cases a:decide ((Bb e (AB e s.A).1).length≠s.Args.length) with
  | true=>rw[a]at h;cases h
  | false =>
   rw[a,Apw]at h;rw[Apw];cases c:decide ((BQ e s.Args).2≠0) with
   | true=>grind
   | false =>
    rw[Apw];have h0:(BQ e s.Args).2=0:=by simpa using c
    have:=Zb (ev:=Be e) (l:=s.Args) (out:=[]) h0;rw[AqB,Ap5]at this;show(G4 _ _).length=_;unfold G4;rw[AqL,Aro];exact this
theorem AeT {e:D.Env}{mt:Int->List Int->List Pn}{s:D.Stmt}{self:Bool}{p:Pn}(h:p∈(Ce e mt s self).wth):s.Kind=5/\(AD e s).2.2=0/\p∈mt (AB e s.A).1 (AD e s).2.1:=by
 have no:∀ {q:Prop},p∈([]:List Pn)->q:=fun h=>by cases h
 unfold Ce at h;split at h
 ·cases q:Dz e s.A<;>rw[q]at h<;>exact no h
 split at h
 ·cases q:Dz e s.B<;>rw[q]at h<;>exact no h
 split at h
 ·exact no h
 split at h
 ·rename_i a;refine⟨a,?_⟩;unfold E5 at h;grind
 grind
theorem AjN {e:D.Env}{w:Wy}(f:w∈Bt e) :
  (w.With<0->w.WithEsc=-1/\w.WithWay=-1) /\
  (0<=w.With->0<=w.Way/\w.With≠e.Pid/\w.With<e.S.Procs.length/\((Cz (Cy e) w.Esc).getD w.Way.toNat default).S.Kind=5/\-1<=w.WithEsc/\w.WithEsc<(Cy (BA e w.With)).Esc.length/\0<=w.WithWay /\
   w.WithWay<(Cz (Cy (BA e w.With)) w.WithEsc).length/\((Cz (Cy (BA e w.With)) w.WithEsc).getD w.WithWay.toNat default).S.Kind=6 /\
   ((Cz (Cy e) w.Esc).getD w.Way.toNat default).S.Args.length=((Cz (Cy (BA e w.With)) w.WithEsc).getD w.WithWay.toNat default).S.Args.length):=by
 rcases Im (e:=e) with h | ⟨er,h⟩ | ⟨i,ws,hi,h⟩
 ·rw[h]at f;cases f
 ·rw[h]at f;obtain rfl:=Ap4.1 f;exact⟨fun _=>⟨rfl,rfl⟩,fun h0=>by unfold IW at h0;simp at h0⟩
 ·rw[h]at f;obtain⟨A,h1,h2,_⟩:=IX hi;have n:∀ {l:List Ab} {k:Nat},w∈CP i k l->∃ (j:Nat) (x:Ab),l[j]?=some x/\w∈Fp i (k+j) x:=by
   intro l
   induction l with
   | nil=>intro k h;cases h
   | cons x r ih =>
    intro k h;rcases Ap1.1 (show w∈Fp i k x++CP i (k+1) r from h) with h | h
    ·exact⟨0,x,rfl,h⟩
    ·obtain⟨j,y,a,b⟩:=ih h;exact⟨j+1,y,a,by grind⟩
  obtain⟨j,x,s,d⟩:=n f;obtain⟨b1,rfl⟩:=VZ s;rw[Ap5]at d;rcases Ap1.1 d with d | d
  ·cases c:((Er e (BY e) ws false j).is&&decide ((Er e (BY e) ws false j).wth.length=0)) with
   | false=>rw[c]at d;cases d
   | true =>
    grind
  ·obtain⟨p,hp,rfl⟩:=Aqw.1 d;have g:(Er e (BY e) ws false j).wth=(Ce e (BY e) (ws.getD j default).S false).wth:=by
    unfold Er;grind
   rw[g]at hp;obtain⟨s1,s2,t⟩:=AeT hp;obtain⟨q,B,C,u⟩:=RZ (show p∈CD e _ _ e.S.Procs.length from t);obtain⟨v,E,F,G,H,I,J⟩:=AfN u;have m:p.pid=q:=v;have z:BA e p.pid=BA e q:=by rw[m]
   refine⟨fun h0=>?_,fun _=>?_⟩
   ·have o:p.pid<0:=h0;rw[m]at o;omega
   ·show 0<=(j:Int)/\p.pid≠e.Pid/\p.pid<e.S.Procs.length/\((Cz (Cy e) i).getD (j:Int).toNat default).S.Kind=5/\-1<=p.esc/\p.esc<(Cy (BA e p.pid)).Esc.length/\0<=p.way/\p.way<(Cz (Cy (BA e p.pid)) p.esc).length /\
     ((Cz (Cy (BA e p.pid)) p.esc).getD p.way.toNat default).S.Kind=6/\((Cz (Cy e) i).getD (j:Int).toNat default).S.Args.length=((Cz (Cy (BA e p.pid)) p.esc).getD p.way.toNat default).S.Args.length
    grind [Kx]
end Go.Proofs.YtnhamlpcpngafaaGreatDoor
namespace Go.Proofs.YtnhamlpcpngafaaGreatDoor.Ch
def FE : List Int->List Int->Bool
 | a::aa,b::bs=>if a=b then FE aa bs else decide (a<b)
 | [],_::_=>true
 | _,[]=>false
theorem Mw : ∀ (n:Nat) (xs ys:List Int),n<=xs.length->n<=ys.length->(∀ j,j<n->xs.getD j 0=ys.getD j 0)->FE xs ys=FE (xs.drop n) (ys.drop n)
 | 0,_,_,_,_,_=>rfl
 | n+1,a::aa,b::bs,h1,h2,h=>by
  have h0:=h 0 (by omega);simp only[List.getD_cons_zero]at h0;subst h0;rw[FE,Aqc rfl,List.drop_succ_cons,List.drop_succ_cons];exact Mw n aa bs (by simpa using h1) (by simpa using h2) fun j c=>by simpa using h (j+1) (by omega)
 | n+1,[],_,h1,_,_=>by simp at h1
 | n+1,_::_,[],_,h2,_=>by simp at h2
theorem Qy {α:Type}[Inhabited α](xs:List α)(n:Nat)(d:α)(h:n<xs.length):xs.drop n=xs.getD n d::xs.drop (n+1):=by
 rw[List.drop_eq_getElem_cons h];simp[List.getD,h]
theorem Vx (n:Nat)(xs ys:List Int)(h1:n<xs.length)(h2:n<ys.length)(h:∀ j,j<n->xs.getD j 0=ys.getD j 0)(a:xs.getD n 0≠ys.getD n 0):FE xs ys=decide (xs.getD n 0<ys.getD n 0):=by
 rw[Mw n xs ys (by omega) (by omega) h,Qy xs n 0 h1,Qy ys n 0 h2,FE,ApT a]
theorem T6 (n:Nat)(xs ys:List Int)(h1:n<=xs.length)(h2:n<=ys.length)(h3:n=xs.length∨n=ys.length)(h:∀ j,j<n->xs.getD j 0=ys.getD j 0):FE xs ys=decide (xs.length<ys.length):=by
 rw[Mw n xs ys h1 h2 h]
 by_cases b:n=xs.length
 ·rw[b,Aq9]
  by_cases a:xs.length<ys.length
  ·rw[Qy ys _ 0 a,FE];simp[a]
  ·rw[Aqz (by omega),FE];simp[a]
 ·have a:n=ys.length:=by omega
  subst a;rw[Aq9,Qy xs _ 0 (by omega),FE];simp;omega
def ED (x:List Int):List (List Int)->Nat
 | []=>0
 | y::q=>if FE x y then 0 else ED x q+1
theorem Uj (x:List Int):∀ q,ED x q<=q.length
 | []=>ApC _
 | y::q=>by
  unfold ED;have:=Uj x q;split<;>simp;omega
theorem Sc (x:List Int):∀ (q:List (List Int)) (k:Nat) (y:List Int),q[k]?=some y->(∀ j a,j<k->q[j]?=some a->FE x a=false)->FE x y=true->ED x q=k
 | [],k,y,h,_,_=>by simp at h
 | z::q,0,y,h,_,h2=>by
  simp at h;subst h;simp[ED,h2]
 | z::q,k+1,y,h,h1,h2=>by
  have h0:=h1 0 z (by omega) rfl;rw[ED,h0];simp only[Arn,if_false];rw[Sc x q k y (by simpa using h) (fun j a c b=>h1 (j+1) a (by omega) (by simpa using b)) h2]
theorem PM (x:List Int):∀ (q:List (List Int)),(∀ (j:Nat) (a:List Int),q[j]?=some a->FE x a=false)->ED x q=q.length
 | [],_=>rfl
 | z::q,h=>by
  rw[ED,h 0 z rfl];simp only[Arn,if_false];rw[PM x q fun j a b=>h (j+1) a (by simpa using b)];rfl
def Jz (x:List Int)(q:List (List Int)):Int:=if ED x q<q.length then ED x q else -1
end Go.Proofs.YtnhamlpcpngafaaGreatDoor.Ch
namespace Go.Proofs.YtnhamlpcpngafaaGreatDoor.Ch
open Go.RowKit
def pM : Pkg (List Int):=Pkg.slice 1 8 (Pkg.int .i64)
def pQ : Pkg (List (List Int)):=Pkg.slice 1 24 pM
theorem Na : Pkg.Stays pM:=Pkg.stays_slice (Pkg.stays_int _)
theorem AcO : Pkg.Stays pQ:=Pkg.stays_slice Na
set_option maxHeartbeats 400000 in
theorem AbP {w:World}{va vb:Value}{xs ys:List Int}(q:Is pM w [va] xs)(r:Is pM w [vb] ys) :
  Calls Tryz.prog 174 #[va,vb] w fun e w'=>e=.returned (.bool (FE xs ys))/\∃ n,w'=w.drewN n:=by
 obtain⟨ao,ca,rfl,x,m,_,a⟩:=Lx q;obtain⟨bo,cb,rfl,y,o,_,c⟩:=Lx r;clear q r;unfold maxLen at m o
 go_enter Tryz.func174,Tryz.ntmps174
 go_wp2
 go_step3
 go_wp2
 refine wp_label ?_;rename_i K s;refine s _ _ ?_;clear s K
 go_wp2
 go_loopw [5] (fun i wr=>∃ k:Nat,k<=xs.length/\k<=ys.length/\i=.int .i64 k/\(∀ j,j<k->xs.getD j 0=ys.getD j 0)/\∃ n,wr=w.drewN n) (fun i _=>xs.length - (intOf i).toNat)
 case atStart=>exact⟨0,ApD _,ApD _,rfl,fun j h=>by omega,0,rfl⟩
 case round =>
  obtain⟨k,g,l,rfl,hs,nq,rfl⟩:=hrel
  by_cases t:k<xs.length
  ·by_cases u:k<ys.length
   ·obtain⟨b,off,rfl,A,p⟩:=a (by omega);obtain⟨b',off',rfl,v,d⟩:=c (by omega);have E:=p k t;have B:=d k u
    by_cases f:xs.getD k 0=ys.getD k 0
    ·have HS:Hid (∀ j,j<k+1->xs.getD j 0=ys.getD j 0):=fun j F=>by
      by_cases e:j=k
      ·subst e;exact f
      ·exact hs j (by omega)
     rw[← f]at B;clear hs p d a c f;generalize xs.getD k 0=z at *
     go_wp2
     go_quiet (fail)
     go_wp2
     go_roundw
     case rel=>exact⟨k+1,by omega,by omega,by go_num,HS.out,_,rfl⟩
     case measure=>simp[intOf];omega
    ·have HL:=Lib.hid (Vx k xs ys t u hs f);have C:(xs.getD k 0 != ys.getD k 0)=true:=by simpa using f
     clear hs p d a c f;generalize xs.getD k 0=z at *;generalize ys.getD k 0=G at *
     go_wp2
     go_quiet (fail)
     go_wp2
     go_quiet (fail)
     go_wp2
     rw[Exit.noGoto_ret]
     go_ret
     exact⟨by rw[HL.out];rfl,_,World.drewN_drewN _ _ _⟩
   ·have HL:=Lib.hid (T6 k xs ys g l (.inr (by omega)) hs);clear hs a c
    go_wp2
    rw[Exit.noGoto_ret]
    go_ret
    exact⟨by rw[HL.out];rfl,_,rfl⟩
  ·have HL:=Lib.hid (T6 k xs ys g l (.inl (by omega)) hs);clear hs a c
   go_wp2
   rw[Exit.noGoto_ret]
   go_ret
   exact⟨by rw[HL.out];rfl,_,rfl⟩
def typeP (t:D.Type):Bool:=decide (1<=t.Bits)&&decide (t.Bits<=32)&&(!t.Signed||decide (t.Bits=16)||decide (t.Bits=32))
def tyV (t:D.Type):Value:=.agg #[.int .i64 t.Bits,.bool t.Signed]
theorem Aje {a b:Bool}(h:a=b):Ending.returned (.bool a)=.returned (.bool b):=by rw[h]
set_option maxHeartbeats 400000 in
theorem Yx (t:D.Type)(w:World) :
  Calls Tryz.prog 120 #[tyV t] w fun e w'=>e=.returned (.bool (typeP t))/\Below w.heap.size w w':=by
 obtain⟨b,s⟩:=t;unfold tyV
 go_enter Tryz.func120,Tryz.ntmps120
 go_wp2
 all_goals
  go_ret
  refine⟨Aje ?_,Fb _ _⟩
  first
   | (simp[typeP, *];done)
   | (rw[Aqe];simp[typeP, *];done)
   | (rw[Aqe];simp[typeP, *];omega)
end Go.Proofs.YtnhamlpcpngafaaGreatDoor.Ch
namespace Go.Proofs.YtnhamlpcpngafaaGreatDoor
open Go.RowKit
section
variable {P : Program} (w:World)
theorem Acp (base:Nat)(t ty e:TypeId)(i:TypeInfo)(z:Value)(size bytes:Nat)(s:P.underlying t=some (.slice e))(hi:P.info? e=some i)(E:i.zero=some z)
  (l:i.size=size) (y:i.bytes=bytes) (v:Value) (n:Nat) (xs:List Value) (h:w.ownsRow base e size v n xs)
  (a:Addr) (m c:Nat) (news:List Value) (q:news.length=m*size) (d:∀ j u,news[j]?=some u->w.cell? (a.add j)=some u) (h1:∀ u∈news,u.oneCell'=true)
  (A:n+m<=maxLen) (f:(n+m)*bytes<=140737488355328)
  (B:Value) (w':World) (b:(Builtin.append_ #[t,t] ty #[v,.slice (some a) m c]).run P w=.ok B w') :
  B.ownBlock=v.ownBlock∨B.ownBlock=some w.heap.size:=by
 subst l;subst y;have x:n+m<=9223372036854775807:=by simp only[maxLen]at A;omega
 rcases h.2 with⟨rfl,rfl⟩ | ⟨g,cap,cur,rfl,_,hg,F,G,C,_⟩
 ·by_cases H:m=0
  ·subst H;have o:(Builtin.append_ #[t,t] ty #[.slice none 0 0,.slice (some a) 0 c]).run P w=.ok (.slice none 0 0) w:=by
    have I:news=[]:=ApV (by simpa using q);subst I;simp[Builtin.append_,run_underlying s,sizeOf,typeInfo,hi,Builtin.lenOf,Builtin.firstCells,loadCells,loadCellsFrom]
   rw[o]at b;simp only[Result.ok.injEq]at b;exact .inl (by rw[← b.1])
  ·have o:=run_append_nil (P:=P) w t ty e i z s hi E a m c news q d (by omega) (by omega) (by have J:=f;simp only[Ap5]at J;omega);rw[o]at b;simp only[Result.ok.injEq]at b;exact .inr (by rw[← b.1];rfl)
 ·by_cases k:n+m<=cap
  ·have r:n*i.size+news.length<=cur.size:=by rw[q,C,← Aq6];exact ApS _ k
   have o:=run_append_room (P:=P) w t ty e i s hi g n cap cur hg a m c news q d h1 k r;rw[o]at b;simp only[Result.ok.injEq]at b;exact .inl (by rw[← b.1];rfl)
  ·have p:∀ j u,xs[j]?=some u->w.cell? ((⟨g,0,none⟩:Addr).add j)=some u:=h.cells (g:=g) rfl;have o:=run_append_grow (P:=P) w t ty e i z s hi E ⟨g,0,none⟩ n cap xs h.1 p a m c news q d (by omega) (by omega) (growslice_fits (by omega) f);rw[o]at b;simp only[Result.ok.injEq]at b;exact .inr (by rw[← b.1];rfl)
theorem QM {ops:Array Oper}{rest:List Oper}{o:Oper}{a:Act}{Q:Exit->Act->World->Prop}(r:o.guard=none)(s x:Operand)(t:TypeId)
  (G:o.op=.call { callee:=.builtin .append,args:=#[s,x],argTypes:=#[t,t] })
  (base:Nat) (e:TypeId) (i:TypeInfo) (z:Value) (size bytes:Nat) (B:P.underlying t=some (.slice e)) (hi:P.info? e=some i) (C:i.zero=some z)
  (d:i.size=size) (p:i.bytes=bytes) (y:z.cells.size=size) (A:0<size)
  (v:Value) (n:Nat) (xs:List Value) (hs:a.eval s=v) (g:w.ownsRow base e size v n xs)
  (ad:Addr) (m c:Nat) (news:List Value) (H:a.eval x=.slice (some ad) m c) (E:news.length=m*size) (f:∀ j u,news[j]?=some u->w.cell? (ad.add j)=some u) (h1:∀ u∈news,u.oneCell'=true)
  (q:n+m<=maxLen) (b:(n+m)*bytes<=140737488355328) (k:base<=w.heap.size)
  (h:∀ l w',w'.ownsRow base e size l (n+m) (xs++news)->w.grownBy w' v.ownBlock->(l.ownBlock=v.ownBlock∨l.ownBlock=some w.heap.size)->wpList P ops Q rest (a.put o.dst l) w'):wpList P ops Q (o::rest) a w:=by
 refine wpList_plain r fun K I=>?_
 obtain⟨l,w',F,h2,h3,_⟩:=run_append_own (P:=P) w base t o.type e i z size bytes B hi C d p y A v n xs g ad m c news E f h1 q b k;have h4:=Acp w base t o.type e i z size bytes B hi C d p v n xs g ad m c news E f h1 q b l w' F;unfold Oper.wp execOp;simp only[G,resolve,invoke,builtin,Sem.run_bind,Sem.run_pure,Result.andThen_ok,Are,Aqm,AqY,hs,H,F];exact I _ _ (h l w' h2 h3 h4)
end
end Go.Proofs.YtnhamlpcpngafaaGreatDoor
namespace Go.Proofs.YtnhamlpcpngafaaGreatDoor.Ch
open Go.RowKit
theorem Cs {P:Program}{t:TypeId}{z:Value}{s b:Nat}(h:(P.info? t).map (fun i=>(i.zero,i.size,i.bytes))=some (some z,s,b)):∃ i,P.info? t=some i/\i.zero=some z/\i.size=s/\i.bytes=b:=by
 cases hi:P.info? t with
 | none=>rw[hi]at h;cases h
 | some i=>rw[hi]at h;simp only[Ari,Apx,Ap8]at h;exact⟨i,rfl,h⟩
theorem Kz : (Tryz.prog.info? 2).map (fun i=>(i.zero,i.size,i.bytes))=some (some (.int .i64 0),1,8):=by kernel_rfl
theorem HA : (Tryz.prog.info? 87).map (fun i=>(i.zero,i.size,i.bytes))=some (some (.slice none 0 0),1,24):=by kernel_rfl
structure GD (w:World) (n0:Nat) (v:Value) (xs:List Int):Prop where
 row:w.ownsRow n0 2 1 v xs.length (xs.map (Value.int .i64))
 wf:∀ i,i<xs.length->(Lit.int .i64 (xs.getD i 0)).wf=true
structure Ci (w:World) (n0:Nat) (v:Value) (vs:List Value) (q:List (List Int)):Prop where
 row:w.ownsRow n0 87 1 v q.length vs
 len:vs.length=q.length
 each:∀ (i:Nat) (u:Value) (m:List Int),vs[i]?=some u->q[i]?=some m->GD w n0 u m
theorem GD.same {w w':World}{n0:Nat}{v:Value}{xs:List Int}(h:GD w n0 v xs)(hs:∀ k,v.ownBlock=some k->w'.heap[k]?=w.heap[k]?):GD w' n0 v xs :=
 ⟨CS h.row hs,h.wf⟩
theorem GD.base {w:World}{n0 n1:Nat}{v:Value}{xs:List Int}(h:GD w n0 v xs)(a:n1<=n0):GD w n1 v xs :=
 ⟨⟨h.row.1,h.row.2.imp id fun⟨g,cap,cur,e,h1,h2⟩=>⟨g,cap,cur,e,Ap0 a h1,h2⟩⟩,h.wf⟩
theorem EK {w:World}{n0:Nat}{e:TypeId}{v:Value}{n:Nat}{xs:List Value}(h:w.ownsRow n0 e 1 v n xs) :
  ∃ ao cap,v=.slice ao n cap/\n<=cap/\cap<=maxLen/\(0<n->∃ g,ao=some ⟨g,0,none⟩/\n0<=g/\g<w.heap.size/\∀ j,j<n->w.cell? ⟨g,j,none⟩=xs[j]?):=by
 rcases h.2 with⟨rfl,rfl⟩ | ⟨g,cap,cur,rfl,a,hg,h1,h2,_⟩
 ·exact⟨none,0,rfl,ApC _,ApD _,fun h=>by omega⟩
 ·exact⟨_,cap,rfl,h1,h2,fun _=>⟨g,rfl,a,Cc hg,fun j b=>h.cellAt j (by omega)⟩⟩
theorem GD.is {w:World}{n0:Nat}{v:Value}{xs:List Int}(h:GD w n0 v xs):Is pM w [v] xs:=by
 obtain⟨ao,cap,rfl,h1,h2,h3⟩:=EK h.row;refine⟨ao,cap,rfl,h1,h2,fun hp=>?_⟩;obtain⟨g,rfl,c,hg,b⟩:=h3 hp;refine⟨g,0,rfl,hg,fun i x a=>⟨[.int .i64 x],rfl,fun k d=>?_,rfl,?_⟩⟩
 ·obtain rfl:k=0:=by omega
  have hi:i<xs.length:=(Apz.1 a).1;have:=b i hi;rw[Ap3,a]at this;simpa using this
 ·obtain⟨hi,rfl⟩:=Apz.1 a;have:=h.wf i hi;simpa[List.getD,hi] using this
theorem Ci.is {w:World}{n0:Nat}{v:Value}{vs:List Value}{q:List (List Int)}(h:Ci w n0 v vs q):Is pQ w [v] q:=by
 obtain⟨ao,cap,rfl,h1,h2,h3⟩:=EK h.row;refine⟨ao,cap,rfl,h1,h2,fun hp=>?_⟩;obtain⟨g,rfl,c,hg,b⟩:=h3 hp;refine⟨g,0,rfl,hg,fun i x a=>?_⟩;have hi:i<q.length:=(Apz.1 a).1;have hv:i<vs.length:=by rw[h.len];exact hi
 refine⟨[vs[i]],rfl,fun k d=>?_,(h.each i vs[i] x (by simp[hv]) a).is⟩;obtain rfl:k=0:=by omega
 have:=b i hi;simpa[hv] using this
theorem Ci.same {w w':World}{n0:Nat}{v:Value}{vs:List Value}{q:List (List Int)}(h:Ci w n0 v vs q)(hs:∀ k,n0<=k->k<w.heap.size->w'.heap[k]?=w.heap[k]?):Ci w' n0 v vs q :=
 ⟨CS h.row fun k a=>hs k (h.row.lt k a).1 (h.row.lt k a).2,h.len,fun i u m b c=>(h.each i u m b c).same fun _ a=>hs _ ((h.each i u m b c).row.lt _ a).1 ((h.each i u m b c).row.lt _ a).2⟩
theorem AbV {w:World}{b off:Nat}{xs:List Int}(c:∀ i,i<xs.length->w.cell? ⟨b,off+i,none⟩=some (.int .i64 (xs.getD i 0))) :
  ∀ (j:Nat) (u:Value),(xs.map (Value.int .i64))[j]?=some u->w.cell? ((⟨b,off,none⟩:Addr).add j)=some u:=by
 intro j u a;rw[Ap3]at a;obtain⟨x,d,rfl⟩:=ApJ.1 a;obtain⟨hi,rfl⟩:=Apz.1 d;rw[Addr.add_lit,c j hi];simp[List.getD,hi]
set_option maxHeartbeats 1000000 in
theorem Gz {w:World}{v:Value}{xs:List Int}(h:Is pM w [v] xs)(A:xs.length*8<=140737488355328) :
  Calls Tryz.prog 88 #[v] w fun e w'=>∃ l,e=.returned l/\GD w' w.heap.size l xs/\Below w.heap.size w w':=by
 obtain⟨ao,cap,rfl,h1,h2,s,h3⟩:=Lx h;have t:∀ (w:World) (a:Option Addr) (n c o p:Nat),(binOp .eql 87 (.slice a n c) (.slice none o p)).run Tryz.prog w=.ok (.bool a.isNone) w:=fun w a n c o p=>Lib.run_eql_slice_nil w _ _ a n c o p Tryz.underlying87
 obtain⟨ki,khi,khz0,khz1,khz2⟩:=Cs Kz;cases ao with
 | none =>
  have h0:xs=[]:=by
   apply ApV;apply ApZ;intro hp;obtain⟨_,_,e,_⟩:=h3 (by omega);cases e
  subst h0;clear h3
  go_enter Tryz.func88,Tryz.ntmps88
  go_wp2
  go_ret
  exact⟨_,rfl,⟨World.ownsRow_nil _ _ _ _,fun i hi=>by simp at hi⟩,Below.refl _ _⟩
 | some a =>
  have q:∀ (j:Nat) (u:Value),(xs.map (Value.int .i64))[j]?=some u->w.cell? (a.add j)=some u:=by
   intro j u m;have hp:0<xs.length:=by have:=(Apz.1 m).1;simp at this;omega
   obtain⟨b,off,e,_,y⟩:=h3 hp;simp only[Apx]at e;subst e;exact AbV y j u m
  have HN:=Lib.hid q;clear h3 q h;have f:=h2;unfold maxLen at f
  go_enter Tryz.func88,Tryz.ntmps88
  go_wp2_with (at_builtin;refine wpList_append_own _ rfl _ _ 87 rfl w.heap.size 2 ki (.int .i64 0) 1 8 Tryz.underlying87 khi khz0 khz1 khz2 rfl (by decide) _ _ _ rfl (World.ownsRow_made w #[] 0 (ApC _) (ApD _) (by simp)) a xs.length cap (xs.map (Value.int .i64)) rfl ?qc1 ?qc2 ?qc3 ?qc4 ?qc5 ?qc6 ?_)
  case qc1=>simp
  case qc2=>intro j u m;have:=HN.out j u m;exact Lib.cell?_alloc_some _ this
  case qc3=>intro u r;simp at r;obtain⟨x,_,rfl⟩:=r;rfl
  case qc4=>unfold maxLen;omega
  case qc5=>omega
  case qc6=>simp
  intro l B g d _
  go_wp2
  go_ret
  exact⟨l,rfl,⟨by simpa using g,s⟩,((Below.refl _ w).alloc (ApC _) _).grown d (by simp) (by intro k z;simp[Value.ownBlock]at z;omega)⟩
def Small (q:List (List Int)):Prop:=q.length*24<=140737488355328/\∀ m∈q,m.length*8<=140737488355328
theorem G9 {α:Type}{q:List α}{k:Nat}{m:α}(h:q[k]?=some m):q.take (k+1)=q.take k++[m]:=by
 obtain⟨a,rfl⟩:=Apz.1 h;rw[List.take_succ_eq_append_getElem a]
theorem Ci.more {w w':World}{n0:Nat}{v c u:Value}{vs:List Value}{q:List (List Int)}{m:List Int}(h:Ci w n0 v vs q)(f:GD w n0 u m)
  (g:w'.ownsRow n0 87 1 c (q.length+1) (vs++[u])) (hg:w.grownBy w' v.ownBlock):Ci w' n0 c (vs++[u]) (q++[m]):=by
 have sep:∀ (x:Value) (l:List Int),GD w n0 x l->GD w' n0 x l:=fun x l a=>a.same fun k d=>hg.block k (a.row.lt k d).2 fun e=>by
  obtain⟨p,j⟩:=Bf a.row d;obtain⟨r,n⟩:=Bf h.row e.symm;exact FL j n (by decide) rfl
 refine⟨by simpa using g,by simp[h.len],fun i x l a b=>?_⟩
 by_cases hi:i<q.length
 ·rw[ApL (by rw[h.len];exact hi)]at a;rw[ApL hi]at b;exact sep x l (h.each i x l a b)
 ·have o:i<q.length+1:=by have:=(Apz.1 b).1;simpa using this
  obtain rfl:i=q.length:=by omega
  rw[ApX (ApC _)]at b;rw[ApX (by rw[h.len];exact ApC _)]at a;simp[h.len]at a b;subst a b;exact sep _ _ f
theorem Ci.set {w:World}{n0 B i:Nat}{v:Value}{vs:List Value}{q:List (List Int)}{c:Array Value}{t:TypeId}{f:Nat × Nat}(h:Ci w n0 v vs q)(hB:w.heap[B]?=some (.cells c t f))
  (h1:87≠t) (h2:2≠t) (u:Value):Ci (w.setCell ⟨B,i,none⟩ u) n0 v vs q :=
 ⟨CS h.row fun k b=>Below.heap_setCell _ _ _ _ (by rintro rfl;obtain⟨cur,a⟩:=Bf h.row b;exact FL a hB h1 rfl),h.len,fun j x m d e=>(h.each j x m d e).same fun k b =>
  Below.heap_setCell _ _ _ _ (by rintro rfl;obtain⟨cur,a⟩:=Bf (h.each j x m d e).row b;exact FL a hB h2 rfl)⟩
theorem Ci.alloc {w:World}{n0:Nat}{v:Value}{vs:List Value}{q:List (List Int)}(h:Ci w n0 v vs q)(o:Obj):Ci (w.alloc o) n0 v vs q :=
 h.same fun _ _ a=>Below.heap_alloc _ _ _ a
theorem GD.alloc {w:World}{n0:Nat}{v:Value}{m:List Int}(h:GD w n0 v m)(o:Obj):GD (w.alloc o) n0 v m :=
 h.same fun _ a=>Below.heap_alloc _ _ _ (h.row.lt _ a).2
theorem Ci.nil (w:World)(n0:Nat):Ci w n0 (.slice none 0 0) [] []:=⟨World.ownsRow_nil _ _ _ _,rfl,fun i x m h=>by simp at h⟩
set_option maxRecDepth 100000 in
set_option maxHeartbeats 1000000 in
theorem N9 {w:World}{qv:Value}{q:List (List Int)}(sh:Int)(h:Is pQ w [qv] q)(S:Small q) :
    Calls Tryz.prog 171 #[.agg #[.int .i64 sh,qv]] w fun e w'=>∃ ov vs,e=.returned (.agg #[.int .i64 sh,ov])/\Ci w' w.heap.size ov vs q/\Below w.heap.size w w':=by
  obtain⟨ao,cap,rfl,h1,h2,h3⟩:=Hh h;obtain⟨ki,khi,khz0,khz1,khz2⟩:=Cs HA;have A:=h2;unfold maxLen at A;obtain⟨T,B⟩:=S
  go_enter Tryz.func171,Tryz.ntmps171
  go_wp2
  go_loopw [12] (fun i wr=>∃ k:Nat,k<=q.length/\i=.int .i64 k/\∃ ov vs,wr.heap[w.heap.size+1]?=some (.cells #[.int .i64 0,.slice none 0 0] 84 (0,0))/\wr.heap[w.heap.size+2]?=some (.cells #[.int .i64 sh,ov] 84 (0,0))/\Ci wr w.heap.size ov vs (q.take k)/\Below w.heap.size w wr) (fun i _=>q.length - (intOf i).toNat)
  case atStart =>
    refine⟨0,ApD _,rfl,.slice none 0 0,[],?_,?_,by simpa using Ci.nil _ _,?_⟩
    · have:=heap_alloc_new (w.alloc (.cells #[.int .i64 sh,.slice ao q.length cap] 84)) (.cells #[.int .i64 0,.slice none 0 0] 84);rw[Below.heap_alloc _ _ _ (by simp)];simpa using this
    · have:=heap_alloc_new ((w.alloc (.cells #[.int .i64 sh,.slice ao q.length cap] 84)).alloc (.cells #[.int .i64 0,.slice none 0 0] 84)) (.cells #[.int .i64 sh,.slice none 0 0] 84);simpa using this
    · exact(((Below.refl _ w).alloc (ApC _) _).alloc (by simp) _).alloc (by simp;omega) _
  case round =>
    obtain⟨k,I,rfl,ov,vs,a,f,r,v⟩:=hrel
    by_cases C:k<q.length
    · obtain⟨b,off,rfl,K,Q⟩:=h3 (by omega);obtain⟨u,J,U⟩:=Q k q[k] (by simp[C]);rw[← v.cell (p:=⟨b,off+k,none⟩) K]at J;have L:=U.below Na v;have M:=B q[k] (by simp);have N:wr.cell? ⟨w.heap.size+2,1,none⟩=some ov:=Am f rfl;have V:wr.frozen? ⟨w.heap.size+2,1,none⟩=false:=AH f;have E:=Cc f;have F:(q.take k).length=k:=by simp;omega
      have HQ:Hid (q[k]?=some q[k]):=by unfold Hid;simp[C]
      clear B Q h3 h;generalize q[k]=m at *
      go_wp2
      go_region_law (first
        | (go_simp;go_at_call 88;refine(Gz (L.drewN Na _) M).mono ?_;rintro e w2 ⟨v',rfl,x,n⟩
           obtain⟨ao',cap',rfl,_⟩:=EK x.row;obtain⟨O,P⟩:=AkM n;have d:Ci w2 w.heap.size ov vs (q.take k):=r.same fun _ _ I=>n.block _ I
           have G:=n.size;simp at G;have j:w2.heap[w.heap.size+2]?=some (.cells #[.int .i64 sh,ov] 84 (0,0)):=(n.block _ E).trans f;have W:w2.cell? ⟨w.heap.size+2,1,none⟩=some ov:=Am j rfl;have X:=Cc j;have c3:=Lib.cell?_alloc_some (.cells #[.slice ao' m.length cap'] 87) W)
        | (refine step_append_lies _ rfl (.tmp 17) (.tmp 20) 82 rfl w.heap.size 87 ki (.slice none 0 0) 1 24 Tryz.underlying82 khi khz0 khz1 khz2 rfl (by decide) ov k vs (by simp[Act.eval]) (by have:=d.row.alloc (.cells #[.slice ao' m.length cap'] 87);rwa [F]at this) ⟨w2.heap.size,0,none⟩ 1 1 [.slice ao' m.length cap'] (by simp[Act.eval]) rfl (cell_one_new _ _ _) (by intro u J;simp at J;subst J;rfl) (by decide) (by unfold maxLen;omega) (by omega) (by simp;omega) _ rfl ?_
           intro g cap3 y s c H R;have l:y.heap[w.heap.size+2]?=some (.cells #[.int .i64 sh,ov] 84 (0,0)):=by
             rw[c.block _ (by simp;omega) (fun e=>by obtain⟨cur,t⟩:=Bf d.row e.symm;exact FL t j (by decide) rfl),Below.heap_alloc _ _ _ (Cc j)];exact j
           have Y:y.cell? ⟨w.heap.size+2,1,none⟩=some ov:=Am l rfl;have e1:y.frozen? ⟨w.heap.size+2,1,none⟩=false:=AH l))
      all_goals
        have HO:Hid (Ci (y.setCell ⟨w.heap.size+2,1,none⟩ (.slice (some ⟨g,0,none⟩) (k+1) cap3)) w.heap.size (.slice (some ⟨g,0,none⟩) (k+1) cap3) (vs++[.slice ao' m.length cap']) (q.take (k+1))):=by
          unfold Hid;rw[G9 HQ.out];exact((d.alloc _).more ((x.base v.size).alloc _) (by rw[F];exact s) c).set l (by decide) (by decide) _
        have HB:Hid (Below w.heap.size w (y.setCell ⟨w.heap.size+2,1,none⟩ (.slice (some ⟨g,0,none⟩) (k+1) cap3))) :=
          ((((below_drewN v 1).trans (n.mono v.size)).alloc (Ap0 v.size G) _).grown c (by simp;have:=v.size;omega) (fun k I=>(d.row.lt k I).1)).setCell (by simp) _
        have HK:Hid ((y.setCell ⟨w.heap.size+2,1,none⟩ (.slice (some ⟨g,0,none⟩) (k+1) cap3)).heap[w.heap.size+2]?=some (.cells #[.int .i64 sh,.slice (some ⟨g,0,none⟩) (k+1) cap3] 84 (0,0))):=by
          unfold Hid;rw[Bp l];rfl
        have HR:Hid ((y.setCell ⟨w.heap.size+2,1,none⟩ (.slice (some ⟨g,0,none⟩) (k+1) cap3)).heap[w.heap.size+1]?=some (.cells #[.int .i64 0,.slice none 0 0] 84 (0,0))):=by
          unfold Hid;have o:w2.heap[w.heap.size+1]?=_:=(n.block _ (Cc a)).trans a;rw[Below.heap_setCell _ _ _ _ (by simp),c.block _ (by simp;omega) (fun e=>by obtain⟨cur,t⟩:=Bf d.row e.symm;exact FL t o (by decide) rfl),Below.heap_alloc _ _ _ (Cc o)];exact o
        clear c s d x n O P H Y l
        go_wp2
        go_roundw
        case rel=>exact⟨k+1,by omega,by go_num,_,_,HR.out,HK.out,HO.out,HB.out⟩
        case measure=>simp[intOf];omega
    · obtain rfl:k=q.length:=by omega
      have Z:wr.cell? ⟨w.heap.size+2,0,none⟩=some (.int .i64 sh):=Am f rfl;have N:wr.cell? ⟨w.heap.size+2,1,none⟩=some ov:=Am f rfl;have E:=Cc f;have r0:wr.cell? ⟨w.heap.size+1,0,none⟩=some (.int .i64 0):=Am a rfl;have r1:wr.cell? ⟨w.heap.size+1,1,none⟩=some (.slice none 0 0):=Am a rfl;have f0:wr.frozen? ⟨w.heap.size+1,0,none⟩=false:=AH a;have f1:wr.frozen? ⟨w.heap.size+1,1,none⟩=false:=AH a;obtain⟨ao',cap',rfl,_⟩:=EK r.row;rw[AqS]at r
      go_wp2
      have z:((wr.setCell ⟨w.heap.size+1,0,none⟩ (.int .i64 sh)).setCell ⟨w.heap.size+1,1,none⟩ (.slice ao' q.length cap')).heap[w.heap.size+1]?=some (.cells #[.int .i64 sh,.slice ao' q.length cap'] 84 (0,0)):=by
        rw[Bp (Bp a _)];rfl
      refine TC rfl rfl z Tryz.underlying84 rfl (by kernel_rfl) rfl ⟨_,vs,rfl,?_,?_⟩
      · exact(r.set a (by decide) (by decide) _).set (Bp a _) (by decide) (by decide) _
      · exact(v.setCell (by simp) _).setCell (by simp) _
end Go.Proofs.YtnhamlpcpngafaaGreatDoor.Ch
namespace Go.Proofs.YtnhamlpcpngafaaGreatDoor.Ch
open Go.RowKit Go.Lib
section
variable {P : Program}
theorem Kk {ops:Array Oper}{o:Oper}{a:Act}{w:World}{K:Act->World->Prop}{Q:Exit->Act->World->Prop}{E:Prop}
  (hg:o.guard=none) (d x:Operand) (dT sT:TypeId) (b:o.op=Op.call { callee:=Callee.builtin Builtin.copy,args:=#[d,x],argTypes:=#[dT,sT] })
  (v u:Value) (hd:a.eval d=v) (e:a.eval x=u) {c:Value} {w':World} (f:(Builtin.copy_ #[dT,sT] o.type #[v,u]).run P w=.ok c w') (g:K (a.put o.dst c) w') :
  if Region.wanted o (yielded ops a.tmps)=true then Oper.wp P o a w K Q else E:=by
 have h:Region.wanted o (yielded ops a.tmps)=true:=by simp[Region.wanted,hg]
 rw[Aqc h];unfold Oper.wp;simp[execOp,b,resolve,invoke,builtin,hd,e,f,Result.andThen];exact g
theorem L7 (b:Nat):∀ (vs:List Value) (o:Nat) (w:World),(w.setCells b o vs).drew=w.drew.setCells b o vs
 | [],_,_=>rfl
 | v::r,o,w=>by rw[World.setCells,World.setCells,L7 b r];rfl
theorem GM (b:Nat)(vs:List Value)(o:Nat)(w:World)(h:∀ j,j<vs.length->(w.cell? ⟨b,o+j,none⟩).isSome=true)(k:Nat)(a:(w.cell? ⟨b,k,none⟩).isSome=true):((w.setCells b o vs).cell? ⟨b,k,none⟩).isSome=true:=by
 by_cases c:o<=k/\k<o+vs.length
 ·have:=World.cell?_setCells_in b vs o w h (k - o) (by omega);rw[show o+(k - o)=k by omega]at this;rw[this];rfl
 ·rw[World.cell?_setCells_out b vs o w ⟨b,k,none⟩ (fun _ _=>by show k<o∨o+vs.length<=k;omega)];exact a
end
set_option maxHeartbeats 4000000 in
set_option maxRecDepth 100000 in
theorem VG (b off n c i vb voff m vc:Nat)(cs vs:List Value)(w:World)(hi:i<n)(hm:0<m)(t:n+m<=c)(N:c<=9223372036854775807)(l:vb≠b)
  (u:cs.length=n) (y:vs.length=m)
  (z:∀ j v,cs[j]?=some v->w.cell? ⟨b,off+j,none⟩=some v) (g:∀ j,j<n+m->(w.cell? ⟨b,off+j,none⟩).isSome=true) (o:∀ j,j<n+m->w.frozen? ⟨b,off+j,none⟩=false)
  (A:∀ j v,vs[j]?=some v->w.cell? ⟨vb,voff+j,none⟩=some v) (B:∀ v∈cs,v.oneCell'=true) (C:∀ v∈vs,v.oneCell'=true)
  (tA tB:TypeId) (kA kB:Nat) (E:w.shape? vb=some (tA,kA)) (F:w.shape? b=some (tB,kB)) (G:kB≠0) (H:w.frozen? ⟨vb,voff,none⟩=false) (I:w.frozen? ⟨vb,kA,none⟩=false) :
  Calls Tryz.prog 175 #[.slice (some ⟨b,off,none⟩) n c,.int .i64 i,.slice (some ⟨vb,voff,none⟩) m vc] w fun e w' =>
   e=.returned (.slice (some ⟨b,off,none⟩) (n+m) c)/\w'=(w.drew.setCells b (off+(i+m)) (cs.drop i)).setCells b (off+i) vs:=by
 have O:¬ ((m:Int)=0):=by omega
 have Q:¬ ((i:Int)=(n:Int)):=by omega
 have p:(Tryz.prog.info? 87).map (·.size)=some 1:=by
  obtain⟨i0,J,h0,h1,h2⟩:=Cs HA;rw[J];simp[h1]
 have K:∀ lb cb,(callFunc 198 #[.slice (some ⟨vb,voff,none⟩) m vc,.slice (some ⟨b,off+(i+m),none⟩) lb cb]).run Tryz.prog w=.ok (.value (.bool false)) w:=fun lb cb=>by
  rw[run_callFunc_extern Tryz.func198 (by kernel_rfl) (by kernel_rfl) (by kernel_rfl) (e:=Extern.SlicesOverlaps.overlaps #[82,82] #[4]) (by kernel_rfl),
   Lib.run_overlaps_apart w 82 4 87 Tryz.underlying82 1 Tryz.sizeOf87 ⟨vb,voff,none⟩ ⟨b,off+(i+m),none⟩ m vc lb cb l tA tB kA kB E F G H I]
  rfl
 have L:(cs.drop i).length=n - i:=by rw[List.length_drop,u]
 have R:IntKind.i64.wrap ((i:Int)+(m:Int))=(i:Int)+(m:Int):=by rw[IntKind.wrap_i64];omega
 have S:(0:Int)<=(i:Int)+(m:Int):=by omega
 have T:i<=n:=by omega
 have U:((i:Int)+(m:Int)).toNat=i+m:=by omega
 have V:¬ (c=i+m):=by omega
 have X:(i:Int)<=(n:Int)+(m:Int):=by omega
 have Y:¬ (c=i):=by omega
 have d:∀ ty dc sc,(Builtin.copy_ #[82,82] ty #[.slice (some ⟨b,off+(i+m),none⟩) (n+m - (i+m)) dc,.slice (some ⟨b,off+i,none⟩) (n+m - i) sc]).run Tryz.prog w.drew=.ok (goInt (cs.drop i).length) (w.drew.setCells b (off+(i+m)) (cs.drop i)):=fun ty dc sc =>
  run_copy_cells w.drew _ _ ty 87 b (off+(i+m)) (n+m - (i+m)) dc ⟨b,off+i,none⟩ (n+m - i) sc (cs.drop i) Tryz.underlying82 p (by rw[L];simp only[Nat.min_def];split<;>omega)
   (fun j v f=>by rw[Addr.add_lit,AqF];exact z (i+j) v (by rwa [Aqg]at f))
   (fun j f=>by rw[AqF];exact g _ (by omega)) (fun j f=>by rw[AqF];exact o _ (by omega)) (fun v hv=>B v (Aru hv))
 obtain⟨W1,a⟩:∃ W1,W1=w.drew.setCells b (off+(i+m)) (cs.drop i):=⟨_,rfl⟩;have q:∀ k,k<n+m->(W1.cell? ⟨b,off+k,none⟩).isSome=true:=fun k Z=>by
  rw[a];exact GM b _ _ _ (fun j f=>by rw[AqF];exact g _ (by omega)) _ (g k Z)
 have r:∀ (W:World),(∀ x,W.cell? x=W1.cell? x)->(∀ x,W.frozen? x=W1.frozen? x)->∀ ty dc,(Builtin.copy_ #[82,82] ty #[.slice (some ⟨b,off+i,none⟩) (n+m - i) dc,.slice (some ⟨vb,voff,none⟩) m vc]).run Tryz.prog W=.ok (goInt vs.length) (W.setCells b (off+i) vs):=fun W s M ty dc =>
  run_copy_cells W _ _ ty 87 b (off+i) (n+m - i) dc ⟨vb,voff,none⟩ m vc vs Tryz.underlying82 p (by rw[y];simp only[Nat.min_def];split<;>omega)
   (fun j v f=>by
    rw[Addr.add_lit,s,a,World.cell?_setCells_out b _ _ _ _ (fun h _=>absurd h l)];exact A j v f)
   (fun j f=>by rw[s,AqF];exact q _ (by omega)) (fun j f=>by rw[M,a,World.frozen?_setCells,AqF];exact o _ (by omega)) C
 rw[← a]at d
 go_enter Tryz.func175,Tryz.ntmps175
 go_wp2_with (simp only[K])
 go_region_law (refine Kk rfl _ _ 82 82 rfl _ _ (by simp[Act.eval,Act.put]) (by simp[Act.eval,Act.put]) (d _ _ _) ?_)
 go_wp2_with (at_builtin;refine wpList_copy_runI _ rfl _ _ 82 82 rfl _ _ rfl rfl (r _ (fun _=>rfl) (fun _=>rfl) _ _) ?_)
 go_ret
 first | exact⟨rfl,rfl⟩ | exact⟨rfl,by rw[a]⟩
set_option maxHeartbeats 4000000 in
set_option maxRecDepth 100000 in
theorem Yq (b off n c i vb voff m vc:Nat)(cs vs:List Value)(w:World)(hi:i<n)(hm:0<m)(hnc:n<=c)(o:c<n+m)(s:(n+m)*24<=140737488355328)
  (I:cs.length=n) (J:vs.length=m)
  (p:∀ j v,cs[j]?=some v->w.cell? ⟨b,off+j,none⟩=some v)
  (u:∀ j v,vs[j]?=some v->w.cell? ⟨vb,voff+j,none⟩=some v) (K:∀ v∈cs,v.oneCell'=true) (L:∀ v∈vs,v.oneCell'=true) :
  Calls Tryz.prog 175 #[.slice (some ⟨b,off,none⟩) n c,.int .i64 i,.slice (some ⟨vb,voff,none⟩) m vc] w fun e w' =>
   e=.returned (.slice (some ⟨w.heap.size,0,none⟩) (n+m) (grownCap w (n+m) c 87)) /\
   w'=(((w.alloc (.cells ((cs.take i).toArray++Builtin.zeroCells (Value.slice none 0 0).cells (n+m - i)++Builtin.zeroCells (Value.slice none 0 0).cells (grownCap w (n+m) c 87 - (n+m))) 87)).drew.setCells w.heap.size i vs).drew).setCells w.heap.size (i+m) (cs.drop i):=by
 obtain⟨i0,y,M,z,A⟩:=Cs HA;have hz1:¬ ((m:Int)=0):=by omega
 have hz2:¬ ((i:Int)=(n:Int)):=by omega
 have hz3:(c:Int)<(n:Int)+(m:Int):=by omega
 have B:(Tryz.prog.info? 87).map (·.size)=some 1:=by rw[y];simp[z]
 have N:b<w.heap.size:=block_lt_of_cell (p 0 _ (ApH (by omega)));have O:vb<w.heap.size:=block_lt_of_cell (u 0 _ (ApH (by omega)));have C:(n:Int)+(m:Int) - (i:Int)=((n+m - i:Nat):Int):=by omega
 have q:i+(n+m - i)=n+m:=by omega
 have hold:(Builtin.firstCells i0.size i (.slice (some ⟨b,off,none⟩) i c)).run Tryz.prog w.drew=.ok (cs.take i).toArray w.drew:=by
  rw[z];exact run_firstCells_some w.drew 1 i ⟨b,off,none⟩ i c (cs.take i) (by rw[Arr];omega) (fun j v a=>by
   rw[Addr.add_lit];rw[AqP]at a;split at a
   ·exact p j v a
   ·cases a)
 have k:∀ ty,(Builtin.append_ #[82,3] ty #[.slice (some ⟨b,off,none⟩) i c,.int .i64 ((n:Int)+(m:Int) - (i:Int))]).run Tryz.prog w =
   .ok (.slice (some ⟨w.heap.size,0,none⟩) (n+m) (grownCap w (n+m) c 87)) (w.drew.alloc (.cells ((cs.take i).toArray++Builtin.zeroCells (Value.slice none 0 0).cells (n+m - i)++Builtin.zeroCells (Value.slice none 0 0).cells (grownCap w (n+m) c 87 - (n+m))) 87)):=fun ty=>by
  have h:=Lib.run_append_grow_zeros w 82 3 ty 87 i0 _ .i64 .i64 Tryz.underlying82 Tryz.underlying3 y M (some ⟨b,off,none⟩) i c (cs.take i) hold (n+m - i) (by omega) (by omega) (by omega) (by omega) (by rw[A];omega) (by rw[A,q];exact growslice_fits o s);rw[q]at h;rw[C];exact h
 obtain⟨G,H⟩:∃ G,G=grownCap w (n+m) c 87:=⟨_,rfl⟩;obtain⟨ROW,f⟩:∃ ROW:Array Value,ROW=(cs.take i).toArray++Builtin.zeroCells (Value.slice none 0 0).cells (n+m - i)++Builtin.zeroCells (Value.slice none 0 0).cells (G - (n+m)):=⟨_,rfl⟩;rw[← H]at k ⊢;rw[← f]at k ⊢;have Q:n+m<=ROW.size:=by
  rw[f];simp[Builtin.zeroCells,Value.cells];omega
 obtain⟨W1,d⟩:∃ W1,W1=w.drew.alloc (.cells ROW 87):=⟨_,rfl⟩;rw[← d]at k;have R:∀ j,j<n+m->(W1.cell? ⟨w.heap.size,j,none⟩).isSome=true:=fun j a=>by
  rw[d,World.cell?_alloc_at (w:=w.drew) ROW _ w.heap.size j rfl,AqC (by omega)];rfl
 have E:∀ j,W1.frozen? ⟨w.heap.size,j,none⟩=false:=fun j=>by rw[d];exact World.frozen?_alloc_at (w:=w.drew) ROW _ w.heap.size j rfl
 have S:∀ j v,w.cell? ⟨b,j,none⟩=some v->W1.cell? ⟨b,j,none⟩=some v:=fun j v h=>by rw[d,World.cell?_alloc_past (w:=w.drew) _ b j N];exact h
 have T:∀ j v,w.cell? ⟨vb,j,none⟩=some v->W1.cell? ⟨vb,j,none⟩=some v:=fun j v h=>by rw[d,World.cell?_alloc_past (w:=w.drew) _ vb j O];exact h
 have F:∀ (W:World),(∀ x,W.cell? x=W1.cell? x)->(∀ x,W.frozen? x=W1.frozen? x)->∀ ty dc,(Builtin.copy_ #[82,82] ty #[.slice (some ⟨w.heap.size,i,none⟩) (n+m - i) dc,.slice (some ⟨vb,voff,none⟩) m vc]).run Tryz.prog W=.ok (goInt vs.length) (W.setCells w.heap.size i vs):=fun W g r ty dc =>
  run_copy_cells W _ _ ty 87 w.heap.size i (n+m - i) dc ⟨vb,voff,none⟩ m vc vs Tryz.underlying82 B (by rw[J];simp only[Nat.min_def];split<;>omega)
   (fun j v a=>by rw[Addr.add_lit,g];exact T _ v (u j v a))
   (fun j a=>by rw[g];exact R _ (by omega)) (fun j a=>by rw[r];exact E _) L
 have hGn:n+m<=G:=by rw[H];exact grownCap_ge w _ _ _
 have hG63:G<=9223372036854775807:=by
  have:=grownCap_le_maxLen w (n+m) c 87 (by unfold maxLen;omega);rw[← H]at this;unfold maxLen at this;omega
 have hGi:¬ (G=i):=by omega
 have hGim:¬ (G=i+m):=by omega
 have hci:¬ (c=i):=by omega
 have U:b≠w.heap.size:=by omega
 have V:(cs.drop i).length=n - i:=by rw[List.length_drop,I]
 have l:∀ (W:World),(∀ x,W.cell? x=(W1.setCells w.heap.size i vs).cell? x)->(∀ x,W.frozen? x=(W1.setCells w.heap.size i vs).frozen? x)->∀ ty dc sc,(Builtin.copy_ #[82,82] ty #[.slice (some ⟨w.heap.size,i+m,none⟩) (n+m - (i+m)) dc,.slice (some ⟨b,off+i,none⟩) (n - i) sc]).run Tryz.prog W=.ok (goInt (cs.drop i).length) (W.setCells w.heap.size (i+m) (cs.drop i)):=fun W g r ty dc sc =>
  run_copy_cells W _ _ ty 87 w.heap.size (i+m) (n+m - (i+m)) dc ⟨b,off+i,none⟩ (n - i) sc (cs.drop i) Tryz.underlying82 B (by rw[V];simp only[Nat.min_def];split<;>omega)
   (fun j v a=>by
    rw[Addr.add_lit,g,World.cell?_setCells_out _ _ _ _ _ (fun h _=>absurd h U),AqF];exact S _ v (p (i+j) v (by rwa [Aqg]at a)))
   (fun j a=>by rw[g];exact GM _ _ _ _ (fun t ht=>R _ (by omega)) _ (R _ (by omega)))
   (fun j a=>by rw[r,World.frozen?_setCells];exact E _) (fun v hv=>K v (Aru hv))
 subst d;have X:∀ x,((w.alloc (.cells ROW 87)).drew).cell? x=(w.drew.alloc (.cells ROW 87)).cell? x:=fun x=>rfl
 have Y:∀ x,((w.alloc (.cells ROW 87)).drew).frozen? x=(w.drew.alloc (.cells ROW 87)).frozen? x:=fun x=>rfl
 have Z:∀ x,(((w.alloc (.cells ROW 87)).drew.setCells w.heap.size i vs).drew).cell? x=((w.drew.alloc (.cells ROW 87)).setCells w.heap.size i vs).cell? x:=fun x=>rfl
 have hF2:∀ x,(((w.alloc (.cells ROW 87)).drew.setCells w.heap.size i vs).drew).frozen? x=((w.drew.alloc (.cells ROW 87)).setCells w.heap.size i vs).frozen? x:=fun x=>rfl
 have hw1:IntKind.i64.wrap ((i:Int)+(m:Int))=(i:Int)+(m:Int):=by rw[IntKind.wrap_i64];omega
 have hb1:(0:Int)<=(i:Int)+(m:Int):=by omega
 have hin:i<=n:=by omega
 have htn:((i:Int)+(m:Int)).toNat=i+m:=by omega
 have hb3:(i:Int)<=(n:Int):=by omega
 clear C q hold f H Q
 go_enter Tryz.func175,Tryz.ntmps175
 go_wp2_with (first
  | (at_builtin;refine Lib.wpList_append_run _ rfl _ _ _ _ rfl _ _ rfl rfl _ _ (k _) ?_)
  | (at_builtin;refine wpList_copy_runI _ rfl _ _ 82 82 rfl _ _ rfl rfl (F _ X Y _ _) ?_)
  | (at_builtin;refine wpList_copy_runI _ rfl _ _ 82 82 rfl _ _ rfl rfl (l _ (fun _=>rfl) (fun _=>rfl) _ _ _) ?_))
 go_region_law (refine Kk rfl _ _ 82 82 rfl (.slice (some ⟨w.heap.size,i+m,none⟩) (n+m - (i+m)) (G - (i+m))) (.slice (some ⟨b,off+i,none⟩) (n - i) (c - i)) (by simp[Act.eval,Act.put]) (by simp[Act.eval,Act.put]) (l _ Z hF2 3 (G - (i+m)) (c - i)) ?_)
 go_wp2
 go_ret
 exact⟨rfl,rfl⟩
end Go.Proofs.YtnhamlpcpngafaaGreatDoor.Ch
namespace Go.Proofs.YtnhamlpcpngafaaGreatDoor.Ch
open Go.RowKit
theorem F6 {w:World}{n0 g cap n:Nat}{e:TypeId}{cur:Array Value}{xs:List Value}(hg:w.heap[g]?=some (.cells cur e (0,0)))(a:n0<=g)(b:n<=cap)(c:cap<=maxLen)(hs:cur.size=cap)(d:xs.length=n)
  (f:∀ j,j<n->w.cell? ⟨g,j,none⟩=xs[j]?):w.ownsRow n0 e 1 (.slice (some ⟨g,0,none⟩) n cap) n xs:=by
 refine⟨by simpa using d,.inr ⟨g,cap,cur,rfl,a,hg,b,c,by simpa using hs,?_⟩⟩;apply List.ext_getElem?;intro j;rw[AqP]
 by_cases h:j<n
 ·rw[Aqc (by omega),← f j h];simp[World.cell?,hg]
 ·rw[ApT (by omega),AqK (by omega)]
theorem D8 {g:Nat}{t:TypeId}:∀ (vs:List Value) (o:Nat) (w:World) (cur:Array Value),w.heap[g]?=some (.cells cur t (0,0))->∃ cur',(w.setCells g o vs).heap[g]?=some (.cells cur' t (0,0))/\cur'.size=cur.size
 | [],_,_,cur,h=>⟨cur,h,rfl⟩
 | v::r,o,w,cur,h=>by
  obtain⟨a,h1,h2⟩:=D8 r (o+1) (w.setCell ⟨g,o,none⟩ v) _ (heap_setCell_same w g o cur t v h);exact⟨a,h1,by simpa using h2⟩
theorem Gt {g o j:Nat}{vs:List Value}{w:World}(h:∀ j,j<vs.length->(w.cell? ⟨g,o+j,none⟩).isSome=true)(h1:o<=j)(h2:j<o+vs.length):(w.setCells g o vs).cell? ⟨g,j,none⟩=vs[j - o]?:=by
 have:=World.cell?_setCells_in g vs o w h (j - o) (by omega);rw[show o+(j - o)=j by omega]at this;rw[this,ApH (by omega)]
theorem DG {g o j:Nat}{vs:List Value}{w:World}(h:j<o∨o+vs.length<=j):(w.setCells g o vs).cell? ⟨g,j,none⟩=w.cell? ⟨g,j,none⟩ :=
 World.cell?_setCells_out g vs o w _ fun _ _=>h
theorem LZ {g o k:Nat}{vs:List Value}{w:World}(h:∀ j,j<vs.length->(w.cell? ⟨g,o+j,none⟩).isSome=true)(a:(w.cell? ⟨g,k,none⟩).isSome=true):((w.setCells g o vs).cell? ⟨g,k,none⟩).isSome=true :=
 GM g vs o w h k a
theorem D7 {g k:Nat}(a:k≠g):∀ (vs:List Value) (o:Nat) (w:World),(w.setCells g o vs).heap[k]?=w.heap[k]?
 | [],_,_=>rfl
 | v::r,o,w=>by rw[World.setCells,D7 a r,Below.heap_setCell _ _ _ _ a]
theorem DO : ∀ (vs:List Value) (o g:Nat) (w:World),(w.setCells g o vs).os=w.os/\(w.setCells g o vs).tape=w.tape/\(w.setCells g o vs).output=w.output/\(w.setCells g o vs).heap.size=w.heap.size
 | [],_,_,_=>⟨rfl,rfl,rfl,rfl⟩
 | v::r,o,g,w=>by
  obtain⟨h1,h2,h3,h4⟩:=DO r (o+1) g (w.setCell ⟨g,o,none⟩ v);exact⟨h1,h2,h3,h4.trans (by simp[World.setCell])⟩
def putAt {α:Type}(l:List α)(i:Nat)(x:α):List α:=l.take i++x::l.drop i
theorem Hb {α:Type}{l:List α}{i:Nat}{x:α}(h:i<=l.length):(putAt l i x).length=l.length+1:=by
 unfold putAt;simp;omega
theorem RM {α:Type}{l:List α}{i j:Nat}{x:α}(h:i<=l.length)(a:j<i):(putAt l i x)[j]?=l[j]?:=by
 unfold putAt;rw[ApL (by simp;omega),AqP,Aqc a]
theorem RO {α:Type}{l:List α}{i:Nat}{x:α}(h:i<=l.length):(putAt l i x)[i]?=some x:=by
 unfold putAt;rw[ApX (by simp;omega)];simp[show i - min i l.length=0 by omega]
theorem RN {α:Type}{l:List α}{i j:Nat}{x:α}(h:i<=l.length)(a:i<j):(putAt l i x)[j]?=l[j - 1]?:=by
 unfold putAt;rw[ApX (by simp;omega),Arr,show min i l.length=i by omega,show j - i=(j - 1 - i)+1 by omega,Aqf,Aqg]
 congr 1;omega
theorem Agj {α:Type}(l:List α)(x:α):putAt l l.length x=l++[x]:=by simp[putAt]
theorem XY {w:World}{g i n:Nat}{vs:List Value}{xv:Value}(d:vs.length=n)(hi:i<n)(a:∀ j,j<n+1->(w.cell? ⟨g,j,none⟩).isSome=true)(b:∀ j,j<i->w.cell? ⟨g,j,none⟩=vs[j]?)(j:Nat)(e:j<n+1) :
  ((w.setCells g (i+1) (vs.drop i)).setCells g i [xv]).cell? ⟨g,j,none⟩=(putAt vs i xv)[j]?:=by
 have hd:(vs.drop i).length=n - i:=by simp[d]
 have h0:∀ k,k<(vs.drop i).length->(w.cell? ⟨g,i+1+k,none⟩).isSome=true:=fun k c=>a _ (by omega)
 rcases Nat.lt_trichotomy j i with h | h | h
 ·rw[DG (.inl h),DG (.inl (by omega)),b j h,RM (by omega) h]
 ·subst h;rw[Gt (fun k c=>by simp at c;subst c;exact LZ h0 (a _ (by omega))) (ApC _) (by simp),RO (by omega)];simp
 ·rw[DG (.inr (by simp;omega)),Gt h0 (by omega) (by omega),RN (by omega) h,Aqg]
  congr 1;omega
theorem Vd {w:World}{g i n:Nat}{vs:List Value}{xv:Value}(d:vs.length=n)(hi:i<n)(a:∀ j,j<n+1->(w.cell? ⟨g,j,none⟩).isSome=true)(b:∀ j,j<i->w.cell? ⟨g,j,none⟩=vs[j]?)(j:Nat)(e:j<n+1) :
  ((w.setCells g i [xv]).setCells g (i+1) (vs.drop i)).cell? ⟨g,j,none⟩=(putAt vs i xv)[j]?:=by
 have hd:(vs.drop i).length=n - i:=by simp[d]
 have h1:∀ k,k<[xv].length->(w.cell? ⟨g,i+k,none⟩).isSome=true:=fun k c=>a _ (by simp at c;omega)
 have h0:∀ k,k<(vs.drop i).length->((w.setCells g i [xv]).cell? ⟨g,i+1+k,none⟩).isSome=true:=fun k c=>LZ h1 (a _ (by omega))
 rcases Nat.lt_trichotomy j i with h | h | h
 ·rw[DG (.inl (by omega)),DG (.inl h),b j h,RM (by omega) h]
 ·subst h;rw[DG (.inl (by omega)),Gt h1 (ApC _) (by simp),RO (by omega)];simp
 ·rw[Gt h0 (by omega) (by omega),RN (by omega) h,Aqg]
  congr 1;omega
theorem Ci.putAt {w w':World}{n0 i:Nat}{v d u:Value}{vs:List Value}{q:List (List Int)}{m:List Int}(h:Ci w n0 v vs q)(g:GD w n0 u m)(hi:i<=q.length)
  (n:w'.ownsRow n0 87 1 d (q.length+1) (putAt vs i u)) (o:∀ k,k<w.heap.size->v.ownBlock≠some k->w'.heap[k]?=w.heap[k]?):Ci w' n0 d (putAt vs i u) (putAt q i m):=by
 have p:=h.len;have sep:∀ (x:Value) (l:List Int),GD w n0 x l->GD w' n0 x l:=fun x l b=>b.same fun k f=>o k (b.row.lt k f).2 fun e=>by
  obtain⟨t,r⟩:=Bf b.row f;obtain⟨y,s⟩:=Bf h.row e;exact FL r s (by decide) rfl
 refine⟨by rw[Hb hi];exact n,by rw[Hb hi,Hb (by omega),p],fun j x l b a=>?_⟩;rcases Nat.lt_trichotomy j i with c | c | c
 ·rw[RM (by omega) c]at b a;exact sep x l (h.each j x l b a)
 ·subst c;rw[RO (by omega)]at b a;cases b;cases a;exact sep _ _ g
 ·rw[RN (by omega) c]at b a;exact sep x l (h.each _ x l b a)
theorem GJ {w:World}{n0 n:Nat}{e:TypeId}{v:Value}{xs:List Value}(h:w.ownsRow n0 e 1 v n xs):v.oneCell'=true:=by
 rcases h.2 with⟨rfl,_⟩ | ⟨g,cap,cur,rfl,_⟩<;>rfl
set_option maxHeartbeats 1000000 in
set_option maxRecDepth 100000 in
theorem VH {w:World}{n0 V:Nat}{qv xv:Value}{vs:List Value}{q:List (List Int)}{x:List Int}(i:Nat)(n:Ci w n0 qv vs q)(F:w.heap[V]?=some (.cells #[xv] 87 (0,0)))(f:qv.ownBlock≠some V)
  (H:GD w n0 xv x) (hi:i<=q.length) (r:(q.length+1)*24<=140737488355328) (s:n0<=w.heap.size) :
  Calls Tryz.prog 175 #[qv,.int .i64 i,.slice (some ⟨V,0,none⟩) 1 1] w fun e w' =>
   ∃ Z,e=.returned Z/\Ci w' n0 Z (putAt vs i xv) (putAt q i x)/\Cw w w' (fun k=>qv.ownBlock=some k):=by
 have t:=GJ H.row;have y:w.cell? ⟨V,0,none⟩=some xv:=Am F rfl;have a:=n.len
 by_cases I:i=q.length
 ·subst I;obtain⟨ki,khi,khz0,khz1,khz2⟩:=Cs HA;obtain⟨ao,cap,rfl,z,_⟩:=EK n.row;rcases Nat.eq_or_lt_of_le z with rfl | z
  all_goals
   go_enter Tryz.func175,Tryz.ntmps175
   go_wp2_with (at_builtin;refine QM _ rfl (.tmp 23) (.tmp 24) 82 rfl n0 87 ki (.slice none 0 0) 1 24 Tryz.underlying82 khi khz0 khz1 khz2 rfl (by decide) _ q.length vs rfl n.row ⟨V,0,none⟩ 1 1 [xv] rfl rfl ?k1 ?k2 ?k3 ?k4 s ?kK)
   case k1 =>
    intro j u d;obtain rfl:j=0:=by have:=(Apz.1 d).1;simpa using this
    simp at d;subst d;exact y
   case k2=>intro u hu;simp at hu;subst hu;exact t
   case k3=>unfold maxLen;omega
   case k4=>omega
   case kK =>
    intro kv w2 l b _;have HQ:Hid (Ci w2 n0 kv (putAt vs q.length xv) (putAt q q.length x)) :=
     n.putAt H (ApC _) (by rw[show putAt vs q.length xv=vs++[xv] by rw[← a];exact Agj _ _];exact l) fun k c f=>b.block k c fun e=>f e.symm
    have HT:Hid (Cw w w2 (fun k=>(Value.slice ao q.length _).ownBlock=some k)):=(Cw.refl w _).grown b fun k c=>.inl c
    clear b l
    go_wp2
    go_ret
    exact⟨_,rfl,HQ.out,HT.out⟩
 ·have o:i<q.length:=by omega
  rcases n.row.2 with⟨rfl,h0⟩ | ⟨g,cap,cur,rfl,hb,hg,h1,h2,h3,h4⟩
  ·omega
  ·have A:∀ (j:Nat) (v:Value),vs[j]?=some v->w.cell? ⟨g,0+j,none⟩=some v:=by
    intro j v d;have:=n.row.cellAt j (by have:=(Apz.1 d).1;omega);rw[Ap5,this,d]
   have B:∀ (j:Nat) (v:Value),[xv][j]?=some v->w.cell? ⟨V,0+j,none⟩=some v:=by
    intro j v d;obtain rfl:j=0:=by have:=(Apz.1 d).1;simpa using this
    simp at d;subst d;exact y
   have C:∀ v∈vs,v.oneCell'=true:=by
    intro v hv;obtain⟨j,d,rfl⟩:=Aqr hv;exact GJ (n.each j vs[j] q[j] (by simp[d]) (by simp[show j<q.length by omega])).row
   have E:∀ v∈[xv],v.oneCell'=true:=by intro v hv;simp at hv;subst hv;exact t
   have J:V≠g:=by rintro rfl;exact f rfl
   have K:=h2;unfold maxLen at K
   by_cases m:q.length+1<=cap
   ·refine(VG g 0 q.length cap i V 0 1 1 vs [xv] w o (by omega) m (by omega) J a rfl A (fun j d=>?_) (fun j _=>by rw[Ap5];exact AH hg) B C E _ _ 1 cur.size (by simp[World.shape?,F];rfl) (by simp[World.shape?,hg];rfl) (by omega) (AH F) (AH F)).mono ?_
    ·rw[Ap5,Am hg (by rw[AqC (by omega)])];rfl
    ·rintro e w' ⟨rfl,rfl⟩;rw[Ap5,Ap5];obtain⟨L,M,z1⟩:=D8 (vs.drop i) (i+1) w.drew cur hg;obtain⟨c2,N,z2⟩:=D8 [xv] i _ L M;obtain⟨s1,s2,O,P⟩:=DO (vs.drop i) (i+1) g w.drew;obtain⟨Q,R,S,T⟩:=DO [xv] i g (w.drew.setCells g (i+1) (vs.drop i));have far:∀ k,k≠g->((w.drew.setCells g (i+1) (vs.drop i)).setCells g i [xv]).heap[k]?=w.heap[k]?:=fun k c=>by rw[D7 c,D7 c];rfl
     refine⟨_,rfl,n.putAt H hi (F6 N hb m h2 (by omega) (by rw[Hb (by omega),a]) fun j d=>XY a o (fun k c=>?_) (fun k c=>?_) j d) fun k _ f=>far k fun e=>f (by rw[e];rfl),
      ⟨Q.trans s1,R.trans s2,S.trans O,by rw[T,P];exact ApC _,fun k _ f=>far k fun e=>f (by rw[e];rfl)⟩⟩
     ·show(w.cell? _).isSome=true;rw[Am hg (by rw[AqC (by omega)])];rfl
     ·show w.cell? _=_;exact n.row.cellAt k (by omega)
   ·refine(Yq g 0 q.length cap i V 0 1 1 vs [xv] w o (by omega) h1 (by omega) r a rfl A B C E).mono ?_;rintro e w' ⟨rfl,rfl⟩;generalize p:(vs.take i).toArray++Builtin.zeroCells (Value.slice none 0 0).cells (q.length+1 - i)++Builtin.zeroCells (Value.slice none 0 0).cells (grownCap w (q.length+1) cap 87 - (q.length+1))=ROW;have U:=grownCap_ge w (q.length+1) cap 87;have W:=grownCap_le_maxLen w (q.length+1) cap 87 (by unfold maxLen;omega);have hsz:ROW.size=grownCap w (q.length+1) cap 87:=by rw[← p];simp[Builtin.zeroCells,Value.cells];omega
    have X:∀ k,k<i->ROW[k]?=vs[k]?:=fun k c=>by
     rw[← p,Array.append_assoc,Array.getElem?_append_left (by simp;omega)];simp[c]
    generalize grownCap w (q.length+1) cap 87=G at *;obtain⟨W1,h⟩:∃ W1,W1=(w.alloc (.cells ROW 87)).drew:=⟨_,rfl⟩;rw[← h];have Y:W1.heap[w.heap.size]?=some (.cells ROW 87 (0,0)):=by rw[h];exact heap_alloc_new w _
    have e0:(W1.setCells w.heap.size i [xv]).drew.setCells w.heap.size (i+1) (vs.drop i)=((W1.setCells w.heap.size i [xv]).setCells w.heap.size (i+1) (vs.drop i)).drew:=(L7 _ _ _ _).symm;rw[e0];obtain⟨L,M,z1⟩:=D8 [xv] i W1 ROW Y;obtain⟨c2,N,z2⟩:=D8 (vs.drop i) (i+1) _ L M;obtain⟨s1,s2,O,P⟩:=DO [xv] i w.heap.size W1;obtain⟨Q,R,S,T⟩:=DO (vs.drop i) (i+1) w.heap.size (W1.setCells w.heap.size i [xv]);have far:∀ k,k<w.heap.size->((W1.setCells w.heap.size i [xv]).setCells w.heap.size (i+1) (vs.drop i)).heap[k]?=w.heap[k]?:=fun k c=>by
     rw[D7 (by omega),D7 (by omega),h];exact Below.heap_alloc _ _ _ c
    refine⟨_,rfl,n.putAt H hi (F6 (w:=((W1.setCells w.heap.size i [xv]).setCells w.heap.size (i+1) (vs.drop i)).drew) N s U W (by omega) (by rw[Hb (by omega),a]) fun j d=>Vd a o (fun k c=>?_) (fun k c=>?_) j d) fun k c _=>far k c,
     ⟨?_,?_,?_,?_,fun k c _=>far k c⟩⟩
    ·rw[Am Y (by rw[AqC (by omega)])];rfl
    ·have:ROW[k]?=some ROW[k]:=by rw[AqC (by omega)]
     rw[Am Y this,← this];exact X k c
    ·exact(Q.trans s1).trans (by rw[h];rfl)
    ·exact(R.trans s2).trans (by rw[h];rfl)
    ·exact(S.trans O).trans (by rw[h];rfl)
    ·show w.heap.size<=(World.heap _).size;have:W1.heap.size=w.heap.size+1:=by rw[h];simp
     show w.heap.size<=((W1.setCells w.heap.size i [xv]).setCells w.heap.size (i+1) (vs.drop i)).heap.size;rw[T,P];omega
end Go.Proofs.YtnhamlpcpngafaaGreatDoor.Ch
