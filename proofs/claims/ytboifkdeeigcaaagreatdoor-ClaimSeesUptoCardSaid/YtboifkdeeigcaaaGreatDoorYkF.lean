/-
  Texts, joined: QtH, QsA, QsH, QsE1, QsE2, QsE3, QsE4, QsE5, QsW1, QsW2, QsW3, QsW4, QtW1, QtW2, QtW3, QtV, QtW4, QtW5, QtW6, QtW7, QsV4, QtW8, QtW9, EpD, EpH, EpW, EbW, EpX, QtPr, QsP, ClV, LawKit, ClLaid.
-/
import Derived.Test.YtboifkdeeigcaaaGreatDoorYkE
import Derived.KernelRfl
import Derived.Lib.AppendStr
import Derived.Deep.RegionHeld3
import Derived.Test.YtboifkdeeigcaaaGreatDoorRows
import Derived.WalkKit
import Derived.ProofKit
import Derived.OpenShut
import Derived.Test.YtboifkdeeigcaaaGreatDoorCards
import Derived.Test.YtboifkdeeigcaaaGreatDoorTie
import Derived.Deep.DeepHandedRow
import Derived.Lib.LaidTab
import Derived.Stop.LaidErr
set_option linter.defProp false
set_option maxRecDepth 100000
namespace Go.Proofs.YtboifkdeeigcaaaGreatDoor
open Go.RowKit Go.Proofs.Tryz
open IntKind(i64)
def AbV (r)(m)(typ)(args){a}(b:a=m.Procs.getD typ.toNat default):(fc CO Nf f145 [] (.agg (Ap r))).goal (St.init [] [.agg (Ag m),Aa typ,Ac false args]) =
  (inX typ m.Procs.length/\a.Init.length*8<=140737488355328/\(∀(i),i<a.Init.length->(AD a.Init i).all VV.mem1)/\Au (fc CO Nf f145 [] (.agg (Ap r))) [1,1,1,1,0,1,0] (Aq [(2,Ac false args),(6,.bp 0 0),(7,.bp 1 0),(8,.bp 2 0),(9,Aa 0)] [.box [Aa 0,Aa 0,Aa 0,.nl],.box (A9 a),.box [Aa typ,Aa a.Start,Aa a.Prio,.ow 3 0 a.Init.length],.arr true 0 a.Init.length 1 (AD a.Init)])):=by subst b;kernel_rfl
def AgW (b)(x y):(fc CO PB f189 [] (Ad b)).goal (St.init [] [Ac true x,Ac true y]) =
  Au (fc CO PB f189 [] (Ad b)) [1,0,1,0] (Vt x y (0)):=kR
def Akt (r:D.Chan×Int)(s)(c)(m)(so){z1}(a:z1=VV.tup [VV.agg (Am r.fst),Aa r.snd]):(fc CO Ld f148 [] (.tup [.agg (Am r.1),Aa r.2])).goal (St.init [] [.agg (BH s),.agg (Am c),Ac true m,Ad so]) =
  BB ((↑m.length) != (↑s.Fields.length:Int)) (LQ (.tup [.agg [Aa 0,.nl],Aa 42]) z1) (Au (fc CO Ld f148 [] z1) [1,1,1,0,1,0] (Aq [(2,Ac true m),(3,Ad so),(4,.bp 0 0),(5,.bp 1 0),(8,.bp 2 0),(10,.nl),(11,Aa 0)] [.box (BH s),.box (Am c),.box [Aa 0,.nl]])):=by subst a;kernel_rfl
def AgD (r:D.Chan×List Int×Int)(c)(n){a}(f:a=(↑c.Queue.length:Int)){d}(g:d=(n+(1:Int))){h}(j:h=VV.tup [VV.agg (Am r.fst),Ac true r.snd.fst,Aa r.snd.snd]){b}(k:b=(n-(0:Int))){l}(m:l=(λ(i:Nat)=>BE c.Queue ((i64.wrap d).toNat+i))){o}(p:o=(λ(i:Nat)=>BE c.Queue (Int.toNat (0:Int)+i))){e}(q:e=(a-i64.wrap d)):(fc CO AV f149 [] (.tup [.agg (Am r.1),Ac true r.2.1,Aa r.2.2])).goal (St.init [] [.agg (Am c),Aa n]) =
  (BB (bif decide (n<0)then true else decide (n>=a)) (LQ (.tup [.agg [Aa 0,.nl],.nl,Aa 46]) h) (((0)<=(0:Int)/\(0)<=n/\n<=a)/\b.toNat*24<=140737488355328/\(∀(i),i<b.toNat->(o i).all VV.mem1)/\((0)<=i64.wrap d/\i64.wrap d<=a/\a<=a)/\(b.toNat+e.toNat)*24<=140737488355328/\(∀(i),i<e.toNat->(l i).all VV.mem1)/\inX n c.Queue.length/\LQ (.tup [.agg [Aa c.Shape,.sl true (b.toNat+e.toNat) 1 λ(i)=>bif i.blt b.toNat then o i else l (i-b.toNat)],Ac true (c.Queue.getD n.toNat []),Aa 0]) h)):=by subst f g j k m p q;kernel_rfl
def AbG (r:D.State×Int)(e)(s)(m):(fc CO Nd f147 [] (.tup [.agg (Ae r.1),Aa r.2])).goal (St.init [] [.agg (Af e),.agg (An s),Ac true m]) =
  Au (fc CO Nd f147 [] (VV.tup [VV.agg (Ae r.fst),Aa r.snd])) [1,0,1,0] (AdF e s m (0)):=kR
def Ag3 (r:D.State×Int)(e)(x){c}(d:c=VV.tup [VV.agg (Ae r.fst),Aa r.snd]):(fc CO AV f99 [] (.tup [.agg (Ae r.1),Aa r.2])).goal (St.init [] [.agg (Af e),Aa x]) =
  (inX x e.M.Exprs.length/\∃(y:List Int×Int),VC 101 [.agg (Af e),Ac true (e.M.Exprs.getD x.toNat default).Args] (.tup [Ac true y.fst,Aa y.snd])/\BB (y.snd != 0) (LQ (.tup [.agg [.nl,.nl,.nl,Aa 0,Aa 0,Aa 0],Aa y.snd]) c) (∃(a:_),Ai prog 56 [] [.agg (Ae e.S)] [obG a,obC a,obP a] (.agg (AJ a (.ow 0 0 a.Globals.length) (.ow 1 0 a.Chans.length) (.ow 2 0 a.Procs.length)))/\inX x e.M.Exprs.length/\∃(b:_),VC 145 [.agg (Ag e.M),Aa (e.M.Exprs.getD x.toNat default).N,Ac true y.fst] (.agg (Ap b))/\(a.Procs.length+1)*48<=140737488355328/\LQ (.tup [.agg (CH a (AG true a.Chans) (.sl true (a.Procs.length+1) 4 λ(i)=>bif i.blt a.Procs.length then[Aa (a.Procs.getD i default).Type_,Aa (a.Procs.getD i default).Loc,Aa (a.Procs.getD i default).Prio,Ac true (a.Procs.getD i default).Frame]else(λ(i)=>List.take 4 (List.drop (i*4) [Aa b.Type_,Aa b.Loc,Aa b.Prio,Ac true b.Frame])) (i-a.Procs.length))),Aa 0]) c)):=by subst d;kernel_rfl
def Akr (r:D.State×Int)(e)(s){b}(f:b=VV.tup [VV.agg (Ae r.fst),Aa r.snd]){c}(g:c=λ(a:D.State×Int)=>VV.tup [VV.agg (Ae a.fst),Aa a.snd]){d}(h:d=[VV.agg (Af e),Aa s.B]){i}(j:i=[VV.nl,VV.nl,VV.nl,Aa 0,Aa 0,Aa 0]):(fc CO AV f100 [] (.tup [.agg (Ae r.1),Aa r.2])).goal (St.init [] [.agg (Af e),.agg (An s)]) =
  ∃(y:_),VC 94 d (Ad y)/\BB y (∃(y:D.State×Int),VC 99 d (.tup [.agg (Ae y.fst),Aa y.snd])/\BB (y.snd != 0) (LQ (.tup [.agg i,Aa y.snd]) b) (∃(a:_),VC 105 [.agg [AE true e.M.Globals,Ac true e.M.Init,A1 true e.M.Shapes,Ac true e.M.Chans,Bb true e.M.Procs,Aa e.M.Claim,Bf true e.M.Exprs,Ac true y.fst.Globals,AG true y.fst.Chans,Aw true y.fst.Procs,Aa y.fst.Last,Aa y.fst.Alone,Aa y.fst.Claim,Aa e.Pid,Ad e.Timeout,AM true e.Able],Aa s.A,Aa (i64.wrap ((↑y.fst.Procs.length)-(1)))] (c a)/\LQ (c a) b)) (∃(y:_),VC 54 d (vII y)/\BB (y.snd != 0) (LQ (.tup [.agg i,Aa y.snd]) b) (∃(a:_),VC 105 [.agg (Af e),Aa s.A,Aa y.fst] (c a)/\LQ (c a) b)):=by subst f g h j;kernel_rfl
def Abp (r:D.State×Int)(e)(s)(w){d}(f:d=VV.tup [VV.agg (Ae r.fst),Aa r.snd]){g}(h:g=[VV.nl,VV.nl,VV.nl,Aa 0,Aa 0,Aa 0]):(fc CO AV f103 [] (.tup [.agg (Ae r.1),Aa r.2])).goal (St.init [] [.agg (Af e),.agg (An s),.agg (AW w)]) =
  (∃(y:_),VC 96 [.agg (Af e),.agg (An s)] (vII y)/\BB (y.snd != 0) (LQ (.tup [.agg g,Aa y.snd]) d) (∃(c:List Int×Int),VC 142 [.agg (Af e),.agg (An s),Aa y.fst] (.tup [Ac true c.fst,Aa c.snd])/\BB (c.snd != 0) (LQ (.tup [.agg g,Aa c.snd]) d) (BB (decide (w.With>=0)) (∃(y:_),VC 58 [.agg (Af e),Aa w.With] (.agg (Af y))/\∃(a:_),VC 36 [.agg (Af y),Aa w.WithEsc] (Ao true a)/\inX w.WithWay a.length/\∃(b:D.State×Int),VC 147 [.agg (Af y),.agg (An (a.getD w.WithWay.toNat default).S),Ac true c.fst] (.tup [.agg (Ae b.fst),Aa b.snd])/\LQ (.tup [.agg (Ae b.fst),Aa b.snd]) d) (∃(a:_),Ai prog 56 [] [.agg (Ae e.S)] [obG a,obC a,obP a] (.agg (AJ a (.ow 0 0 a.Globals.length) (.ow 1 0 a.Chans.length) (.ow 2 0 a.Procs.length)))/\inX (i64.wrap (y.fst-(1))) a.Chans.length/\inX (a.Chans.getD (i64.wrap (y.fst-(1))).toNat default).Shape e.M.Shapes.length/\inX (i64.wrap (y.fst-(1))) a.Chans.length/\∃(b:D.Chan×Int),VC 148 [.agg (BH (e.M.Shapes.getD (a.Chans.getD (i64.wrap (y.fst-(1))).toNat default).Shape.toNat default)),.agg (Am (a.Chans.getD (i64.wrap (y.fst-(1))).toNat default)),Ac true c.fst,Ad (s.N==1)] (.tup [.agg (Am b.fst),Aa b.snd])/\inX (i64.wrap (y.fst-(1))) a.Chans.length/\LQ (.tup [.agg (CH a (.sl true a.Chans.length 2 λ(j)=>bif j.beq (i64.wrap (y.fst-(1))).toNat then[Aa b.fst.Shape,BI true b.fst.Queue]else[Aa (a.Chans.getD j default).Shape,BI true (a.Chans.getD j default).Queue]) (Aw true a.Procs)),Aa b.snd]) d)))):=by subst f h;kernel_rfl
def Abs (r:D.State×Int)(e)(s){i}(k:i=λ(a:D.State)=>[AE true e.M.Globals,Ac true e.M.Init,A1 true e.M.Shapes,Ac true e.M.Chans,Bb true e.M.Procs,Aa e.M.Claim,Bf true e.M.Exprs,VV.ow 1 0 a.Globals.length,VV.ow 2 0 a.Chans.length,VV.ow 3 0 a.Procs.length,Aa a.Last,Aa a.Alone,Aa a.Claim,Aa e.Pid,Ad e.Timeout,AM true e.Able]){f}(l:f=VV.tup [VV.agg (Ae r.fst),Aa r.snd]){g}(m:g=[VV.nl,VV.nl,VV.nl,Aa 0,Aa 0,Aa 0]){d}(n:d=λ(y:Int×Int)=>i64.wrap (y.fst-(1:Int))):(fc CO GG f104 [] (.tup [.agg (Ae r.1),Aa r.2])).goal (St.init [] [.agg (Af e),.agg (An s)]) =
  ∃(y:_),VC 96 [.agg (Af e),.agg (An s)] (vII y)/\BB (y.snd != 0) (LQ (.tup [.agg g,Aa y.snd]) f) (∃(c:List Int×Int),VC 97 [.agg (Af e),Ac true s.Args,Ac true s.Match] (.tup [Ac true c.fst,Aa c.snd])/\BB (c.snd != 0) (LQ (.tup [.agg g,Aa c.snd]) f) (inX (d y) e.S.Chans.length/\∃(h:_),VC 98 [.agg (Am (e.S.Chans.getD (d y).toNat default)),Ac true c.fst,Ac true s.Match,Ad (bif s.N==1 then true else s.N==3)] (Aa h)/\∃(a:_),Ai prog 56 [] [.agg (Ae e.S)] [obG a,obC a,obP a] (.agg (AJ a (.ow 0 0 a.Globals.length) (.ow 1 0 a.Chans.length) (.ow 2 0 a.Procs.length)))/\inX (d y) a.Chans.length/\∃(b:D.Chan×List Int×Int),VC 149 [.agg (Am (a.Chans.getD (d y).toNat default)),Aa h] (.tup [.agg (Am b.fst),Ac true b.snd.fst,Aa b.snd.snd])/\BB (b.snd.snd != 0) (LQ (.tup [.agg g,Aa b.snd.snd]) f) (BB (decide (s.N<2)) (inX (d y) a.Chans.length/\Au (fc CO GG f104 [] f) [1,1,1,1,1,1,1,1,1,1,1] (Aq [(2,.bp 0 0),(3,.bp 4 0),(4,.bp 5 0),(12,Ac true b.snd.fst)] [.box (i a),obG a,.arr true 0 a.Chans.length 2 λ(j)=>bif j.beq (d y).toNat then Am b.fst else Am (a.Chans.getD j default),obP a,.box (An s),.box g])) (Au (fc CO GG f104 [] f) [1,1,1,1,1,1,1,1,1,1,1] (Aq [(2,.bp 0 0),(3,.bp 4 0),(4,.bp 5 0),(12,Ac true b.snd.fst)] [.box (i a),obG a,obC a,obP a,.box (An s),.box g]))))):=by subst k l m n;kernel_rfl
def AgZ (r:D.State×ByteArray×Int)(e)(s)(w){a}(d:a=VV.tup [VV.agg (Ae r.fst),AI r.snd.fst,Aa r.snd.snd]){f}(g:f=LQ (VV.tup [VV.agg (Ae e.S),AI (⟨#[]⟩:ByteArray),Aa 0]) a){b}(h:b=Af e):(fc CO Jj f57 [] (.tup [.agg (Ae r.1),AI r.2.1,Aa r.2.2])).goal (St.init [] [.agg (Af e),.agg (An s),.agg (AW w)]) =
  (∃(y:_),VC 94 [.agg b,Aa s.A] (Ad y)/\BB (s.Kind==1) (BB y (∃(y:D.State×Int),VC 99 [.agg b,Aa s.A] (.tup [.agg (Ae y.fst),Aa y.snd])/\LQ (.tup [.agg (Ae y.fst),AI (⟨#[]⟩),Aa y.snd]) a) f) (BB (s.Kind==2) (∃(y:D.State×Int),VC 100 [.agg b,.agg (An s)] (.tup [.agg (Ae y.fst),Aa y.snd])/\LQ (.tup [.agg (Ae y.fst),AI (⟨#[]⟩),Aa y.snd]) a) (BB (s.Kind==3) (∃(y:_),VC 54 [.agg b,Aa s.A] (vII y)/\BB (bif y.snd==0 then y.fst==0 else false) (LQ (.tup [.agg (Ae e.S),AI (⟨#[]⟩),Aa 50]) a) (LQ (.tup [.agg (Ae e.S),AI (⟨#[]⟩),Aa y.snd]) a)) (BB (s.Kind==4) (∃(y:List Int×Int),VC 101 [.agg b,Ac true s.Args] (.tup [Ac true y.fst,Aa y.snd])/\∃(c:_),VC 102 [AI s.Text,Ac true y.fst] (AI c)/\LQ (.tup [.agg (Ae e.S),AI c,Aa y.snd]) a) (BB (s.Kind==5) (∃(y:D.State×Int),VC 103 [.agg b,.agg (An s),.agg (AW w)] (.tup [.agg (Ae y.fst),Aa y.snd])/\LQ (.tup [.agg (Ae y.fst),AI (⟨#[]⟩),Aa y.snd]) a) (BB (s.Kind==6) (∃(y:D.State×Int),VC 104 [.agg b,.agg (An s)] (.tup [.agg (Ae y.fst),Aa y.snd])/\LQ (.tup [.agg (Ae y.fst),AI (⟨#[]⟩),Aa y.snd]) a) (BB (s.Kind==9) (∃(y:_),Ai prog 56 [] [.agg (Ae e.S)] [obG y,obC y,obP y] (.agg (AJ y (.ow 0 0 y.Globals.length) (.ow 1 0 y.Chans.length) (.ow 2 0 y.Procs.length)))/\(y.Chans.length+1)*32<=140737488355328/\Au (fc CO Jj f57 [] a) [1,1,0,1,0,1,1,1,1,1,1,1,1,1,1,1,1,1,0,1,1,1] (Aq [(3,.bp 0 0),(4,.bp 4 0),(6,.bp 5 0),(22,.bp 6 0)] [.box [AE true e.M.Globals,Ac true e.M.Init,A1 true e.M.Shapes,Ac true e.M.Chans,Bb true e.M.Procs,Aa e.M.Claim,Bf true e.M.Exprs,.ow 1 0 y.Globals.length,.ow 2 0 (y.Chans.length+1),.ow 3 0 y.Procs.length,Aa y.Last,Aa y.Alone,Aa y.Claim,Aa e.Pid,Ad e.Timeout,AM true e.Able],obG y,.arr true 0 (y.Chans.length+1) 2 λ(i)=>bif i.blt y.Chans.length then Am (y.Chans.getD i default)else(λ(i)=>List.take 2 (List.drop (i*2) [Aa s.N,.nl])) (i-y.Chans.length),obP y,.box (An s),.box [.nl,.nl,.nl,Aa 0,Aa 0,Aa 0],.box (AJ y (.ow 1 0 y.Globals.length) (.ow 2 0 (y.Chans.length+1)) (.ow 3 0 y.Procs.length))])) f))))))):=by subst d g h;kernel_rfl
def Ang (r:D.State×ByteArray×Int)(e)(w){g}(h:g=λ(a:D.State)=>λ(c:List D.Trans)=>λ(j:Nat)=>bif j.beq w.With.toNat then[Aa (a.Procs.getD w.With.toNat default).Type_,Aa (c.getD w.WithWay.toNat default).To,Aa (a.Procs.getD w.With.toNat default).Prio,Ac true (a.Procs.getD w.With.toNat default).Frame]else Ap (a.Procs.getD j default)){d}(i:d=VV.tup [VV.agg (Ae r.fst),AI r.snd.fst,Aa r.snd.snd]){k}(l:k=[VV.nl,VV.nl,VV.nl,Aa 0,Aa 0,Aa 0]):(fc CO AV f37 [] (.tup [.agg (Ae r.1),AI r.2.1,Aa r.2.2])).goal (St.init [] [.agg (Af e),.agg (AW w)]) =
  BB (w.Err != 0) (LQ (.tup [.agg k,AI (⟨#[]⟩),Aa w.Err]) d) (BB (decide (w.Way<0)) (∃(y:_),Ai prog 56 [] [.agg (Ae e.S)] [obG y,obC y,obP y] (.agg (AJ y (.ow 0 0 y.Globals.length) (.ow 1 0 y.Chans.length) (.ow 2 0 y.Procs.length)))/\((0)<=e.Pid/\e.Pid<=(↑y.Procs.length))/\BB (decide (y.Alone>=(↑e.Pid.toNat))) (LQ (.tup [.agg [Ac true y.Globals,AG true y.Chans,.sl true e.Pid.toNat 4 (B2 y.Procs),Aa e.Pid,Aa (-1),Aa y.Claim],AI (⟨#[]⟩),Aa 0]) d) (LQ (.tup [.agg [Ac true y.Globals,AG true y.Chans,.sl true e.Pid.toNat 4 (B2 y.Procs),Aa e.Pid,Aa y.Alone,Aa y.Claim],AI (⟨#[]⟩),Aa 0]) d)) (∃(y:_),VC 36 [.agg (Af e),Aa w.Esc] (Ao true y)/\inX w.Way y.length/\∃(b:D.State×ByteArray×Int),VC 57 [.agg (Af e),.agg (An (y.getD w.Way.toNat default).S),.agg (AW w)] (.tup [.agg (Ae b.fst),AI b.snd.fst,Aa b.snd.snd])/\BB (b.snd.snd != 0) (LQ (.tup [.agg k,AI (⟨#[]⟩),Aa b.snd.snd]) d) (∃(a:_),Ai prog 56 [] [.agg (Ae b.fst)] [obG a,obC a,obP a] (.agg (AJ a (.ow 0 0 a.Globals.length) (.ow 1 0 a.Chans.length) (.ow 2 0 a.Procs.length)))/\BB (decide (w.With>=0)) (∃(f:_),VC 58 [.agg (Af e),Aa w.With] (.agg (Af f))/\∃(c:_),VC 36 [.agg (Af f),Aa w.WithEsc] (Ao true c)/\inX w.WithWay c.length/\inX w.With a.Procs.length/\inX e.Pid a.Procs.length/\LQ (.tup [.agg [Ac true a.Globals,AG true a.Chans,.sl true a.Procs.length 4 λ(j)=>bif j.beq e.Pid.toNat then bif Nat.beq 1 4 then[Aa (y.getD w.Way.toNat default).To]else List.take 1 ((g a c) e.Pid.toNat)++[Aa (y.getD w.Way.toNat default).To]++List.drop 2 ((g a c) e.Pid.toNat)else(g a c) j,Aa e.Pid,Aa a.Alone,Aa a.Claim],AI b.snd.fst,Aa 0]) d) (inX e.Pid a.Procs.length/\LQ (.tup [.agg [Ac true a.Globals,AG true a.Chans,.sl true a.Procs.length 4 λ(j)=>bif j.beq e.Pid.toNat then[Aa (a.Procs.getD e.Pid.toNat default).Type_,Aa (y.getD w.Way.toNat default).To,Aa (a.Procs.getD e.Pid.toNat default).Prio,Ac true (a.Procs.getD e.Pid.toNat default).Frame]else Ap (a.Procs.getD j default),Aa e.Pid,Aa a.Alone,Aa a.Claim],AI b.snd.fst,Aa 0]) d)))):=by subst h i l;kernel_rfl
def Akz (r)(m)(s)(l)(t):(fc CO Tf f17 [] (Ac true r)).goal (St.init [] [.agg (Ag m),.agg (Ae s),AM true l,Ad t]) =
  Au (fc CO Tf f17 [] (Ac true r)) [1,1,1,0,1,0] (Aq [(2,AM true l),(3,Ad t),(4,VV.bp 0 0),(5,VV.bp 1 0),(9,VV.nl),(10,Aa 0),(11,Aa 0)] [Ob.box (Ag m),Ob.box (Ae s)]):=kR
def Anh (r:D.Loc×Bool)(m)(s)(pid){z1}(a:z1=s.Procs.getD pid.toNat default){z2}(b:z2=VV.tup [VV.agg (A4 r.fst),Ad r.snd]):(fc CO AV f39 [] (.tup [.agg (A4 r.1),Ad r.2])).goal (St.init [] [.agg (Ag m),.agg (Ae s),Aa pid]) =
  BB (bif decide (pid<0)then true else decide (pid>=(↑s.Procs.length))) (LQ (.tup [.agg [.nl,.nl,Ad false,Ad false,Ad false,Ad false,Ad false],Ad false]) z2) (inX pid s.Procs.length/\inX z1.Type_ m.Procs.length/\inX pid s.Procs.length/\inX z1.Loc (m.Procs.getD z1.Type_.toNat default).Locs.length/\LQ (.tup [.agg (A4 ((m.Procs.getD z1.Type_.toNat default).Locs.getD z1.Loc.toNat default)),Ad true]) z2):=by subst a b;kernel_rfl
def Anf (r:D.State×ByteArray×Int)(m)(s)(pid):(fc CO OC f38 [] (.tup [.agg (Ae r.1),AI r.2.1,Aa r.2.2])).goal (St.init [] [.agg (Ag m),.agg (Ae s),Aa pid]) =
  Au (fc CO OC f38 [] (VV.tup [VV.agg (Ae r.fst),AI r.snd.fst,Aa r.snd.snd])) [1,1,0,1,0] (Xu m s pid (⟨#[]⟩) (0)):=kR
def AgG (r)(e)(w){g}(h:g=λ(y:D.State×ByteArray×Int)=>(↑(y.snd.fst.size+(⟨#[]⟩:ByteArray).size):Int)<=(9223372036854775807:Int)/\LQ (VV.agg [Aa e.Pid,Aa w.Esc,Aa w.Way,Aa w.With,Aa w.WithEsc,Aa w.WithWay,Aa (-1),Ac true y.fst.Globals,AG true y.fst.Chans,Aw true y.fst.Procs,Aa y.fst.Last,Aa w.With,Aa y.fst.Claim,Aa 0,AI (y.snd.fst++(⟨#[]⟩:ByteArray))]) (VV.agg (Bz r))){d}(i:d=VV.agg (Bz r)){j}(k:j=λ(y:D.State×ByteArray×Int)=>[Ac true y.fst.Globals,AG true y.fst.Chans,Aw true y.fst.Procs,Aa y.fst.Last,Aa (-1),Aa y.fst.Claim]){f}(l:f=Ag e.M):(fc CO AV f19 [] (.agg (Bz r))).goal (St.init [] [.agg (Af e),.agg (AW w)]) =
  (∃(y:_),VC 37 [.agg (Af e),.agg (AW w)] (.tup [.agg (Ae y.fst),AI y.snd.fst,Aa y.snd.snd])/\BB (y.snd.snd==0) (∃(a:D.State×ByteArray×Int),VC 38 [.agg f,.agg (Ae y.fst),Aa e.Pid] (.tup [.agg (Ae a.fst),AI a.snd.fst,Aa a.snd.snd])/\BB (a.snd.snd != 0) (LQ (.agg [Aa e.Pid,Aa w.Esc,Aa w.Way,Aa w.With,Aa w.WithEsc,Aa w.WithWay,Aa (-1),.nl,.nl,.nl,Aa 0,Aa 0,Aa 0,Aa a.snd.snd,AI ByteArray.empty]) d) (∃(b:D.Loc×Bool),VC 39 [.agg f,.agg [Ac true a.fst.Globals,AG true a.fst.Chans,Aw true a.fst.Procs,Aa a.fst.Last,Aa (-1),Aa a.fst.Claim],Aa e.Pid] (.tup [.agg (A4 b.fst),Ad b.snd])/\∃(c:D.Loc×Bool),VC 39 [.agg f,.agg [Ac true a.fst.Globals,AG true a.fst.Chans,Aw true a.fst.Procs,Aa a.fst.Last,Aa (-1),Aa a.fst.Claim],Aa w.With] (.tup [.agg (A4 c.fst),Ad c.snd])/\BB (bif b.snd then b.fst.Atomic else false) (BB (bif c.snd then c.fst.Atomic else false) ((↑(y.snd.fst.size+a.snd.fst.size))<=(9223372036854775807:Int)/\LQ (.agg [Aa e.Pid,Aa w.Esc,Aa w.Way,Aa w.With,Aa w.WithEsc,Aa w.WithWay,Aa (-1),Ac true a.fst.Globals,AG true a.fst.Chans,Aw true a.fst.Procs,Aa a.fst.Last,Aa w.With,Aa a.fst.Claim,Aa 0,AI (y.snd.fst++a.snd.fst)]) d) ((↑(y.snd.fst.size+a.snd.fst.size))<=(9223372036854775807:Int)/\LQ (.agg [Aa e.Pid,Aa w.Esc,Aa w.Way,Aa w.With,Aa w.WithEsc,Aa w.WithWay,Aa (-1),Ac true a.fst.Globals,AG true a.fst.Chans,Aw true a.fst.Procs,Aa a.fst.Last,Aa e.Pid,Aa a.fst.Claim,Aa 0,AI (y.snd.fst++a.snd.fst)]) d)) (BB (bif c.snd then c.fst.Atomic else false) ((↑(y.snd.fst.size+a.snd.fst.size))<=(9223372036854775807:Int)/\LQ (.agg [Aa e.Pid,Aa w.Esc,Aa w.Way,Aa w.With,Aa w.WithEsc,Aa w.WithWay,Aa (-1),Ac true a.fst.Globals,AG true a.fst.Chans,Aw true a.fst.Procs,Aa a.fst.Last,Aa w.With,Aa a.fst.Claim,Aa 0,AI (y.snd.fst++a.snd.fst)]) d) ((↑(y.snd.fst.size+a.snd.fst.size))<=(9223372036854775807:Int)/\LQ (.agg [Aa e.Pid,Aa w.Esc,Aa w.Way,Aa w.With,Aa w.WithEsc,Aa w.WithWay,Aa (-1),Ac true a.fst.Globals,AG true a.fst.Chans,Aw true a.fst.Procs,Aa a.fst.Last,Aa (-1),Aa a.fst.Claim,Aa 0,AI (y.snd.fst++a.snd.fst)]) d)))) (BB (y.snd.snd != 0) (LQ (.agg [Aa e.Pid,Aa w.Esc,Aa w.Way,Aa w.With,Aa w.WithEsc,Aa w.WithWay,Aa (-1),.nl,.nl,.nl,Aa 0,Aa 0,Aa 0,Aa y.snd.snd,AI ByteArray.empty]) d) (∃(a:D.Loc×Bool),VC 39 [.agg f,.agg (j y),Aa e.Pid] (.tup [.agg (A4 a.fst),Ad a.snd])/\∃(b:D.Loc×Bool),VC 39 [.agg f,.agg (j y),Aa w.With] (.tup [.agg (A4 b.fst),Ad b.snd])/\BB (bif a.snd then a.fst.Atomic else false) (BB (bif b.snd then b.fst.Atomic else false) (g y) ((↑(y.snd.fst.size+(⟨#[]⟩:ByteArray).size):Int)<=(9223372036854775807:Int)/\LQ (.agg [Aa e.Pid,Aa w.Esc,Aa w.Way,Aa w.With,Aa w.WithEsc,Aa w.WithWay,Aa (-1),Ac true y.fst.Globals,AG true y.fst.Chans,Aw true y.fst.Procs,Aa y.fst.Last,Aa e.Pid,Aa y.fst.Claim,Aa 0,AI (y.snd.fst++(⟨#[]⟩:ByteArray))]) d)) (BB (bif b.snd then b.fst.Atomic else false) (g y) ((↑(y.snd.fst.size+(⟨#[]⟩:ByteArray).size):Int)<=(9223372036854775807:Int)/\LQ (.agg [Aa e.Pid,Aa w.Esc,Aa w.Way,Aa w.With,Aa w.WithEsc,Aa w.WithWay,Aa (-1),Ac true y.fst.Globals,AG true y.fst.Chans,Aw true y.fst.Procs,Aa y.fst.Last,Aa (-1),Aa y.fst.Claim,Aa 0,AI (y.snd.fst++(⟨#[]⟩:ByteArray))]) d))))):=by subst h i k l;kernel_rfl
def Abj (r)(m)(s){e}(f:e=fc CO FL f7 [] (AX true r)){b}(g:b=Ag m){c}(h:c=Ae s):(fc CO FL f7 [] (AX true r)).goal (St.init [] [.agg (Ag m),.agg (Ae s)]) =
  ∃(y:_),VC 16 [.agg b,.agg c] (AM true y)/\∃(a:_),VC 17 [.agg b,.agg c,AM true y,Ad false] (Ac true a)/\BB ((↑a.length:Int)==0) (∃(d:_),VC 17 [.agg b,.agg c,AM true y,Ad true] (Ac true d)/\Au e [1,1,1,1,1,1,0,1,0] (Aq [(2,.bp 0 0),(3,.bp 1 0),(5,AM true y),(6,Ad true),(7,Ac true d),(8,.nl),(9,Aa 0)] [.box b,.box c])) (Au e [1,1,1,1,1,1,0,1,0] (Aq [(2,.bp 0 0),(3,.bp 1 0),(5,AM true y),(6,Ad false),(7,Ac true a),(8,.nl),(9,Aa 0)] [.box b,.box c])):=by subst f g h;kernel_rfl
def Ag0 (hs')(r)(s):(BO prog tb CO EH false f56 hs' (r)).goal (St.init [] [.agg (Ae s)]) =
  (s.Globals.length*8<=140737488355328/\(∀(i),i<s.Globals.length->(AD s.Globals i).all VV.mem1)/\Au (BO prog tb CO EH false f56 hs' r) [1,1,1,0,1,0] (Aq [(1,VV.bp 0 0),(2,VV.bp 1 0),(3,VV.bp 2 0),(4,Aa 0)] [Ob.box (Ae s),Ob.box [VV.nl,VV.nl,VV.nl,Aa 0,Aa 0,Aa 0],Ob.box (AJ s (VV.ow 3 0 s.Globals.length) VV.nl VV.nl),obG s])):=kR
def AbR (hs')(r)(s)(cs)(k)(J){z1}(a:z1=AJ s (VV.ow 3 0 s.Globals.length) (VV.ow 4 0 cs.length) VV.nl){z2}(b:z2=BO prog tb CO EH false f56 hs' r){z3}(c:z3=[VV.nl,VV.nl,VV.nl,Aa 0,Aa 0,Aa 0]):((BO prog tb CO EH false f56 hs' (r)).loop [1,1,1,0,1,0] J).goal (Aos s cs k) =
  BB (decide (k<(↑s.Chans.length))) (inX k s.Chans.length/\Au (z2.loop [1,1,1,0,1,0] J) [1,0,0,1,0,1,0] (Aq [(1,.bp 0 0),(2,.bp 1 0),(3,.bp 2 0),(4,Aa k),(5,.bp 5 0),(6,Aa 0)] [.box (Ae s),.box z3,.box z1,obG s,.arr true 0 cs.length 2 (Cn cs),.box [Aa (s.Chans.getD k.toNat default).Shape,.nl]])) (Au z2 [1,1,1,1,0,1,0] (Aq [(1,.bp 0 0),(2,.bp 1 0),(3,.bp 2 0),(8,Aa 0)] [.box (Ae s),.box z3,.box z1,obG s,.arr true 0 cs.length 2 (Cn cs)])):=by subst a b c;kernel_rfl
def AbQ (hs')(r)(s)(cs)(k)(c)(q)(j)(J J2){a}(b:a=(s.Chans.getD k.toNat default).Queue.getD j.toNat []){d}(e:d=[(Aa c,[]),(VV.sl true q.length 1 (BE q),[6])]){f}(g:f=[VV.nl,VV.nl,VV.nl,Aa 0,Aa 0,Aa 0]):(((BO prog tb CO EH false f56 hs' (r)).loop [1,1,1,0,1,0] J).loop [1,0,0,1,0,1,0] J2).goal (Aor s cs k c q j) =
  (inX k s.Chans.length/\BB (decide (j<(↑(s.Chans.getD k.toNat default).Queue.length))) (inX k s.Chans.length/\inX j (s.Chans.getD k.toNat default).Queue.length/\a.length*8<=140737488355328/\(∀(i),i<a.length->(AD a i).all VV.mem1)/\(q.length+1)*24<=140737488355328/\J2 (Aq [(1,.bp 0 0),(2,.bp 1 0),(3,.bp 2 0),(4,Aa k),(5,.bp 5 0),(6,Aa (i64.wrap (j+(1))))] [.box (Ae s),.box f,.box (AJ s (.ow 3 0 s.Globals.length) (.ow 4 0 cs.length) .nl),obG s,.arr true 0 cs.length 2 (Cn cs),.box [Aa c,.ow 6 0 (q.length+1)],.arr true 0 (q.length+1) 1 λ(i)=>bif i.blt q.length then[Ac true (q.getD i [])]else(λ(i)=>(List.map (λ(x)=>x.fst) [([Ac true a],List.flatMap (λ(x)=>x.snd) [(Ac true a,[7])])]).getD i []) (i-q.length)])) ((cs.length+1)*32<=140737488355328/\J (Aq [(1,.bp 0 0),(2,.bp 1 0),(3,.bp 2 0),(4,Aa (i64.wrap (k+(1))))] [.box (Ae s),.box f,.box (AJ s (.ow 3 0 s.Globals.length) (.ow 4 0 (cs.length+1)) .nl),obG s,.arr true 0 (cs.length+1) 2 λ(i)=>bif i.blt cs.length then Cn cs i else(λ(i)=>(List.map (λ(x)=>x.fst) [(List.map (λ(x)=>x.fst) d,List.flatMap (λ(x)=>x.snd) d)]).getD i []) (i-cs.length)]))):=by subst b e g;kernel_rfl
def Sg (hs')(r)(s)(cs)(ps)(k)(J){a}(b:a=s.Procs.getD k.toNat default):((BO prog tb CO EH false f56 hs' (r)).loop [1,1,1,1,0,1,0] J).goal (T7 s cs ps k) =
  BB (decide (k<(↑s.Procs.length))) (inX k s.Procs.length/\inX k s.Procs.length/\a.Frame.length*8<=140737488355328/\(∀(i),i<a.Frame.length->(AD a.Frame i).all VV.mem1)/\(ps.length+1)*48<=140737488355328/\J (Aq [(1,.bp 0 0),(2,.bp 1 0),(3,.bp 2 0),(8,Aa (i64.wrap (k+(1))))] [.box (Ae s),.box [.nl,.nl,.nl,Aa 0,Aa 0,Aa 0],.box (AJ s (.ow 3 0 s.Globals.length) (.ow 4 0 cs.length) (.ow 5 0 (ps.length+1))),obG s,.arr true 0 cs.length 2 (Cn cs),.arr true 0 (ps.length+1) 4 λ(i)=>bif i.blt ps.length then Ap (ps.getD i default)else(λ(i)=>(List.map (λ(x)=>x.fst) [(Ap a,List.flatMap (λ(x)=>x.snd) [(Aa a.Type_,[]),(Aa a.Loc,[]),(Aa a.Prio,[]),(Ac true a.Frame,[7])])]).getD i []) (i-ps.length)])) (leO [obG s,.arr true 0 cs.length 2 (Cn cs),.arr true 0 ps.length 4 (B2 ps)] hs'/\(VV.agg (AJ s (.ow 0 0 s.Globals.length) (.ow 1 0 cs.length) (.ow 2 0 ps.length))).le r):=by subst b;kernel_rfl
def Yw (r)(m)(typ)(args l)(k)(J){a}(b:a=AY m typ):((fc CO Nf f145 [] (.agg (Ap r))).loop [1,1,1,1,0,1,0] J).goal (AdH m typ args l k) =
  BB (decide (k<(↑args.length))) (inX k a.Frame.length/\inX k args.length/\∃(y:_),VC 150 [.agg (Bp (a.Frame.getD k.toNat default)),Aa (args.getD k.toNat 0)] (Aa y)/\inX k l.length/\J (Aq [(2,Ac false args),(6,.bp 0 0),(7,.bp 1 0),(8,.bp 2 0),(9,Aa (i64.wrap (k+(1))))] [.box [Aa 0,Aa 0,Aa 0,.nl],.box (A9 a),.box [Aa typ,Aa a.Start,Aa a.Prio,.ow 3 0 l.length],.arr true 0 l.length 1 λ(j)=>bif j.beq k.toNat then[Aa y]else[Aa (l.getD j 0)]])) (LQ (.agg [Aa typ,Aa a.Start,Aa a.Prio,Ac true l]) (.agg (Ap r))):=by subst b;kernel_rfl
def AbF (b)(x y)(k)(J):((fc CO PB f189 [] (Ad b)).loop [1,0,1,0] J).goal (Vt x y k) =
  BB (bif decide (k<(↑x.length))then decide (k<(↑y.length))else false) (inX k x.length/\inX k y.length/\BB (x.getD k.toNat 0 != y.getD k.toNat 0) (inX k x.length/\inX k y.length/\LQ (Ad (decide (x.getD k.toNat 0<y.getD k.toNat 0))) (Ad b)) (J (Vt x y (i64.wrap (k+(1)))))) (LQ (Ad (decide ((↑x.length)<(↑y.length:Int)))) (Ad b)):=kR
def AgO (r:D.Chan×Int)(s)(c)(m)(so)(x)(k)(J){a}(b:a=VV.tup [VV.agg (Am r.fst),Aa r.snd]):((fc CO Ld f148 [] (.tup [.agg (Am r.1),Aa r.2])).loop [1,1,1,0,1,0] J).goal (AdB s c m so x k) =
  BB (decide (k<(↑m.length))) (inX k s.Fields.length/\∃(y:_),VC 70 [.agg (Bp (s.Fields.getD k.toNat default))] (Ad y)/\BB (!y) (LQ (.tup [.agg [Aa 0,.nl],Aa 42]) a) (inX k s.Fields.length/\inX k m.length/\∃(y:_),VC 150 [.agg (Bp (s.Fields.getD k.toNat default)),Aa (m.getD k.toNat 0)] (Aa y)/\(x.length+1)*8<=140737488355328/\J (Aq [(2,Ac true m),(3,Ad so),(4,.bp 0 0),(5,.bp 1 0),(8,.bp 2 0),(10,.ow 3 0 (x.length+1)),(11,Aa (i64.wrap (k+(1))))] [.box (BH s),.box (Am c),.box [Aa 0,.nl],.arr true 0 (x.length+1) 1 λ(i)=>bif i.blt x.length then[Aa (x.getD i 0)]else(λ(i)=>List.take 1 (List.drop (i*1) [Aa y])) (i-x.length)]))) (BB (decide ((↑c.Queue.length)>=s.Room)) (LQ (.tup [.agg [Aa 0,.nl],Aa 45]) a) (Au (fc CO Ld f148 [] a) [1,1,1,1,1,1,1,0,1,0] (Aq [(3,Ad so),(5,.bp 0 0),(8,.bp 1 0),(10,.ow 2 0 x.length),(13,.bp 3 0),(14,Ad false),(15,Aa 0)] [.box (Am c),.box [Aa 0,.nl],.arr true 0 x.length 1 (AD x),.box [Aa c.Shape,.nl]]))):=by subst b;kernel_rfl
def AgN (r:D.Chan×Int)(c)(so)(x)(out)(dn)(k)(J){a}(b:a=out.length+1){d}(e:d=λ(i:Nat)=>List.take 1 (List.drop (i*1) [Ac true (c.Queue.getD k.toNat [])])){f}(g:f=λ(i:Nat)=>List.take 1 (List.drop (i*1) [Ac true x])){h}(j:h=VV.tup [VV.agg (Am r.fst),Aa r.snd]):((fc CO Ld f148 [] (.tup [.agg (Am r.1),Aa r.2])).loop [1,1,1,1,1,1,1,0,1,0] J).goal (Xt c so x out dn k) =
  BB (decide (k<(↑c.Queue.length))) (inX k c.Queue.length/\∃(y:_),VC 189 [Ac true x,Ac true (c.Queue.getD k.toNat [])] (Ad y)/\BB (bif bif so then !dn else false then y else false) (a*24<=140737488355328/\inX k c.Queue.length/\(out.length+1+1)*24<=140737488355328/\J (Aq [(3,Ad so),(5,.bp 0 0),(8,.bp 1 0),(10,Ac true x),(13,.bp 2 0),(14,Ad true),(15,Aa (i64.wrap (k+(1))))] [.box (Am c),.box [Aa 0,.nl],.box [Aa c.Shape,.ow 3 0 (out.length+1+1)],.arr true 0 (out.length+1+1) 1 λ(i)=>bif i.blt a then(λ(i)=>bif i.blt out.length then[Ac true (out.getD i [])]else f (i-out.length)) i else d (i-a)])) (inX k c.Queue.length/\a*24<=140737488355328/\J (Aq [(3,Ad so),(5,.bp 0 0),(8,.bp 1 0),(10,Ac true x),(13,.bp 2 0),(14,Ad dn),(15,Aa (i64.wrap (k+(1))))] [.box (Am c),.box [Aa 0,.nl],.box [Aa c.Shape,.ow 3 0 a],.arr true 0 a 1 λ(i)=>bif i.blt out.length then[Ac true (out.getD i [])]else d (i-out.length)]))) (BB (!dn) (a*24<=140737488355328/\LQ (.tup [.agg [Aa c.Shape,.sl true a 1 λ(i)=>bif i.blt out.length then[Ac true (out.getD i [])]else f (i-out.length)],Aa 0]) h) (LQ (.tup [.agg [Aa c.Shape,BI true out],Aa 0]) h)):=by subst b e g j;kernel_rfl
def Ys (r:D.State×Int)(e)(s)(m)(k)(J){a}(b:a=VV.tup [VV.agg (Ae r.fst),Aa r.snd]){c}(d:c=[VV.nl,VV.nl,VV.nl,Aa 0,Aa 0,Aa 0]):((fc CO Nd f147 [] (.tup [.agg (Ae r.1),Aa r.2])).loop [1,0,1,0] J).goal (AdF e s m k) =
  BB (decide (k<(↑s.Args.length))) (inX k s.Match.length/\BB (s.Match.getD k.toNat 0 != 0) (J (AdF e s m (i64.wrap (k+(1))))) (inX k s.Args.length/\inX k m.length/\∃(y:D.State×Int),VC 105 [.agg (Af e),Aa (s.Args.getD k.toNat 0),Aa (m.getD k.toNat 0)] (.tup [.agg (Ae y.fst),Aa y.snd])/\BB (y.snd != 0) (LQ (.tup [.agg c,Aa y.snd]) a) (J (Aq [(2,Ac true m),(3,.bp 0 0),(4,.bp 1 0),(6,.bp 2 0),(8,Aa (i64.wrap (k+(1))))] [.box [AE true e.M.Globals,Ac true e.M.Init,A1 true e.M.Shapes,Ac true e.M.Chans,Bb true e.M.Procs,Aa e.M.Claim,Bf true e.M.Exprs,Ac true y.fst.Globals,AG true y.fst.Chans,Aw true y.fst.Procs,Aa y.fst.Last,Aa y.fst.Alone,Aa y.fst.Claim,Aa e.Pid,Ad e.Timeout,AM true e.Able],.box (An s),.box c])))) (LQ (.tup [.agg (Ae e.S),Aa 0]) a):=by subst b d;kernel_rfl
def AgV (r)(m)(s)(l)(t)(out)(most k)(J){a}(c:a=s.Procs.getD k.toNat default){b}(d:b=i64.wrap (k+(1:Int))):((fc CO Tf f17 [] (Ac true r)).loop [1,1,1,0,1,0] J).goal (Xv m s l t out most k) =
  BB (decide (k<(↑s.Procs.length))) (∃(y:_),VC 18 [.agg [AE true m.Globals,Ac true m.Init,A1 true m.Shapes,Ac true m.Chans,Bb true m.Procs,Aa m.Claim,Bf true m.Exprs,Ac true s.Globals,AG true s.Chans,Aw true s.Procs,Aa s.Last,Aa s.Alone,Aa s.Claim,Aa k,Ad t,AM true l]] (AZ true y)/\BB ((↑y.length:Int)==0) (J (Xv m s l t out most b)) (BB (k==s.Alone) (LQ (.sl true 1 1 λ(i)=>List.take 1 (List.drop (i*1) [Aa k])) (Ac true r)) (inX k s.Procs.length/\BB (decide (a.Prio > most)) (inX k s.Procs.length/\inX k s.Procs.length/\BB (a.Prio==a.Prio) (1*8<=140737488355328/\J (Aq [(2,AM true l),(3,Ad t),(4,.bp 0 0),(5,.bp 1 0),(9,.ow 2 0 1),(10,Aa a.Prio),(11,Aa b)] [.box (Ag m),.box (Ae s),.arr true 0 1 1 λ(i)=>List.take 1 (List.drop (i*1) [Aa k])])) (J (Aq [(2,AM true l),(3,Ad t),(4,.bp 0 0),(5,.bp 1 0),(9,.nl),(10,Aa a.Prio),(11,Aa b)] [.box (Ag m),.box (Ae s)]))) (inX k s.Procs.length/\BB (a.Prio==most) ((out.length+1)*8<=140737488355328/\J (Aq [(2,AM true l),(3,Ad t),(4,.bp 0 0),(5,.bp 1 0),(9,.ow 2 0 (out.length+1)),(10,Aa most),(11,Aa b)] [.box (Ag m),.box (Ae s),.arr true 0 (out.length+1) 1 λ(i)=>bif i.blt out.length then[Aa (out.getD i 0)]else(λ(i)=>List.take 1 (List.drop (i*1) [Aa k])) (i-out.length)])) (J (Xv m s l t out most b)))))) (LQ (Ac true out) (Ac true r)):=by subst c d;kernel_rfl
def Akx (r:D.State×ByteArray×Int)(m)(s)(pid)(t)(n)(J){b}(c:b=[AE true m.Globals,Ac true m.Init,A1 true m.Shapes,Ac true m.Chans,Bb true m.Procs,Aa m.Claim,Bf true m.Exprs,Ac true s.Globals,AG true s.Chans,Aw true s.Procs,Aa s.Last,Aa s.Alone,Aa s.Claim,Aa pid,Ad false,VV.nl]){a}(d:a=VV.tup [VV.agg (Ae r.fst),AI r.snd.fst,Aa r.snd.snd]){e}(f:e=[VV.nl,VV.nl,VV.nl,Aa 0,Aa 0,Aa 0]):((fc CO OC f38 [] (.tup [.agg (Ae r.1),AI r.2.1,Aa r.2.2])).loop [1,1,0,1,0] J).goal (Xu m s pid t n) =
  BB (decide (n<=200)) (∃(y:D.Loc×Bool),VC 39 [.agg (Ag m),.agg (Ae s),Aa pid] (.tup [.agg (A4 y.fst),Ad y.snd])/\BB (bif !y.snd then true else !y.fst.Dstep) (LQ (.tup [.agg (Ae s),AI t,Aa 0]) a) (∃(y:_),VC 18 [.agg b] (AZ true y)/\Au ((fc CO OC f38 [] a).loop [1,1,0,1,0] J) [1,0,0,1,1,1,1,1,0,0] (Aq [(2,Aa pid),(3,.bp 0 0),(4,.bp 1 0),(6,.bp 2 0),(9,AI t),(10,Aa n),(13,.bp 3 0),(14,AZ true y),(15,Aa 0)] [.box (Ag m),.box (Ae s),.box e,.box b]))) (LQ (.tup [.agg e,AI (⟨#[]⟩),Aa 53]) a):=by subst c d f;kernel_rfl
def Akw (r:D.State×ByteArray×Int)(m)(s)(pid)(t)(n)(e)(w)(k)(J J2){a}(b:a=VV.tup [VV.agg (Ae r.fst),AI r.snd.fst,Aa r.snd.snd]){c}(d:c=[VV.nl,VV.nl,VV.nl,Aa 0,Aa 0,Aa 0]):(((fc CO OC f38 [] (.tup [.agg (Ae r.1),AI r.2.1,Aa r.2.2])).loop [1,1,0,1,0] J).loop [1,0,0,1,1,1,1,1,0,0] J2).goal (AdC m s pid t n e w k) =
  (((true&&decide (k<(↑w.length))==true)->inX k w.length)/\BB (bif decide (k<(↑w.length))then decide ((w.getD k.toNat default).With>=0)else false) (J2 (AdC m s pid t n e w (i64.wrap (k+(1))))) (BB (bif k==(↑w.length)then true else n==200) (LQ (.tup [.agg c,AI (⟨#[]⟩),Aa 53]) a) (inX k w.length/\∃(y:D.State×ByteArray×Int),VC 37 [.agg (Af e),.agg (AW (w.getD k.toNat default))] (.tup [.agg (Ae y.fst),AI y.snd.fst,Aa y.snd.snd])/\BB (y.snd.snd != 0) (LQ (.tup [.agg c,AI (⟨#[]⟩),Aa y.snd.snd]) a) ((↑(t.size+y.snd.fst.size))<=(9223372036854775807:Int)/\J (Xu m y.fst pid (t++y.snd.fst) (i64.wrap (n+(1)))))))):=by subst b d;kernel_rfl
def Yg (r)(m)(s)(l)(t)(q)(out)(k)(J){a}(b:a=[AE true m.Globals,Ac true m.Init,A1 true m.Shapes,Ac true m.Chans,Bb true m.Procs,Aa m.Claim,Bf true m.Exprs,Ac true s.Globals,AG true s.Chans,Aw true s.Procs,Aa s.Last,Aa s.Alone,Aa s.Claim,Aa (q.getD k.toNat 0),Ad t,AM true l]):((fc CO FL f7 [] (AX true r)).loop [1,1,1,1,1,1,0,1,0] J).goal (Adz m s l t q out k) =
  BB (decide (k<(↑q.length))) (inX k q.length/\∃(y:_),VC 18 [.agg a] (AZ true y)/\Au ((fc CO FL f7 [] (AX true r)).loop [1,1,1,1,1,1,0,1,0] J) [1,0,0,1,1,1,0] (Aq [(2,.bp 0 0),(3,.bp 1 0),(5,AM true l),(6,Ad t),(7,Ac true q),(8,.ow 2 0 out.length),(9,Aa k),(10,.bp 3 0),(11,AZ true y),(12,Aa 0)] [.box (Ag m),.box (Ae s),.arr true 0 out.length 15 (CE out),.box a])) (LQ (AX true out) (AX true r)):=by subst b;kernel_rfl
def Yf (r)(m)(s)(l)(t)(q)(out)(k)(e)(w)(j)(J J2):(((fc CO FL f7 [] (AX true r)).loop [1,1,1,1,1,1,0,1,0] J).loop [1,0,0,1,1,1,0] J2).goal (Ajs m s l t q out k e w j) =
  BB (decide (j<(↑w.length))) (inX j w.length/\∃(y:_),VC 19 [VV.agg (Af e),VV.agg (AW (w.getD j.toNat default))] (VV.agg (Bz y))/\(out.length+1)*176<=140737488355328/\J2 (Aq [(2,VV.bp 0 0),(3,VV.bp 1 0),(5,AM true l),(6,Ad t),(7,Ac true q),(8,VV.ow 2 0 (out.length+1)),(9,Aa k),(10,VV.bp 3 0),(11,AZ true w),(12,Aa (i64.wrap (j+(1))))] [Ob.box (Ag m),Ob.box (Ae s),Ob.arr true 0 (out.length+1) 15 λ(i)=>bif i.blt out.length then Bz (out.getD i default)else(λ(i)=>List.take 15 (List.drop (i*15) (Bz y))) (i-out.length),Ob.box (Af e)])) (J (Adz m s l t q out (i64.wrap (k+(1))))):=kR
def P3 (r:D.State×Int)(e)(s)(m):((fc CO GG f104 [] (.tup [.agg (Ae r.1),Aa r.2])).cut Acw).goal (Aop e s m) =
  ∃(y:D.State×Int),VC 147 [VV.agg (Af e),VV.agg (An s),Ac true m] (VV.tup [VV.agg (Ae y.fst),Aa y.snd])/\LQ (VV.tup [VV.agg (Ae y.fst),Aa y.snd]) (VV.tup [VV.agg (Ae r.fst),Aa r.snd]):=kR
def AbM (r:D.State×ByteArray×Int)(e)(s):((fc CO Jj f57 [] (.tup [.agg (Ae r.1),AI r.2.1,Aa r.2.2])).cut Ali).goal (Aoq e s) =
  ∃(y:D.State×Int),VC 105 [VV.agg (Af e),Aa s.A,Aa (↑e.S.Chans.length)] (VV.tup [VV.agg (Ae y.fst),Aa y.snd])/\LQ (VV.tup [VV.agg (Ae y.fst),AI (⟨#[]⟩),Aa y.snd]) (VV.tup [VV.agg (Ae r.fst),AI r.snd.fst,Aa r.snd.snd]):=kR
end Go.Proofs.YtboifkdeeigcaaaGreatDoor
namespace Go.Proofs.YtboifkdeeigcaaaGreatDoor
open Go.RowKit Go.Proofs.Tryz
open IntKind(i64)
def Ii:Ann:={keep:=fun
  | [0,0,1]=>[0,1]
  | [0,0,1,1]=>[0,1]
  | _=>[]}
def Nc:Ann:={keep:=fun
  | [0,1,0,1,1]=>[0,1,2,7]
  | _=>[]}
def PC:Ann:={keep:=fun
  | [0,1,0,1]=>[1,2,3,4,9]
  | _=>[]}
def HC:Ann:={keep:=fun
  | [0,1,0,1,1,1,1,1,1,1]=>[2,7,9,12,13]
  | _=>[]}
def M9:Ann:={keep:=fun
  | [0,1,0,1,1]=>[1,2,3,8,9]
  | _=>[]}
def PA:Ann:={keep:=fun
  | [0,1,0,1,1,1,1,1,1,1,1]=>[3,8,9,10]
  | _=>[]}
def Bx:Ann:={cut:=(λ| [1,1,1,1,1,0,1,0,1,1]=>true | [1,1,1,1,1,1,1,0,1,0,1,1]=>true | [1,1,1,1,1,1,1,1,1,0,1,0,1,1]=>true | [1,1,1,1,1,1,1,1,1,1,1,1,1,1,1,1,1,1,1,1,1,0,1,0,1,1]=>true | [1,1,1]=>true | _=>false),keep:=fun
  | [0,1,0,0,1,1,1,1,1,1,1,1,1,1,1,1,1,1,1,1,1,0,1,0,1,1]=>[2,14]
  | [1,1,1,1,1,0,1,0,1,1]=>[2,6,28,63]
  | [1,1,1,1,1,1,1,0,1,0,1,1]=>[2,6,28,86]
  | [1,1,1,1,1,1,1,1,1,0,1,0,1,1]=>[2,6,28,95]
  | [1,1,1,1,1,1,1,1,1,1,1,1,1,1,1,1,1,1,1,1,1,0,1,0,1,1]=>[2,6,28,156]
  | [1,1,1]=>[2,6]
  | _=>[]}
def Na:Ann:={keep:=fun
  | [0,1,0,1,1,1]=>[3,4,5]
  | _=>[]}
def Tg:Ann:={keep:=fun
  | [0,1,0,1,1]=>[1,2,6,7]
  | _=>[]}
def Te:Ann:={keep:=fun
  | [0,1,0,1,1,1,1,1]=>[8,10,11,12]
  | _=>[]}
def Ji:Ann:={keep:=fun
  | [0,1,0,1,1,1,1]=>[1,2,3,9,10]
  | [0,1,0,1,1,0,0,1,0,0,1,0,1,1,1,1]=>[1,2,3,9,10,11,12,13]
  | _=>[]}
def Nb:Ann:={keep:=fun
  | [0,1,0,1,1]=>[1,2,3,7,8]
  | _=>[]}
def Pz:Ann:={keep:=fun
  | [0,1,0,1]=>[1,2,3,7]
  | _=>[]}
def Jk:Ann:={keep:=fun
  | [0,1,0,1,1,1]=>[1,2,5,6,7]
  | [0,1,0,1,1,1,1]=>[1,5,6,9]
  | _=>[]}
def EG:Ann:={keep:=fun
  | [0,1,0,1,1,1,1,1,1]=>[1,3,5,6,7]
  | [0,1,1,0,0,1,0,0,1,0,1,1,1,1,1,1]=>[1,3,5,6,7,8,9]
  | [0,1,1,1,0,0,1,0,0,1,1,0,0,1,0,0,1,0,1,1,1,1,1,1]=>[1,3,5,6,7,8,9,10,11]
  | _=>[]}
def PD:Ann:={keep:=fun
  | [0,1,0,1,1]=>[2,3,5,6]
  | _=>[]}
def NH (a n:Int):St:=Aq [(0,Aa a),(1,Aa n)] []
def AdE (x l mt:List Int)(k:Int):St:=Aq [(0,Ac true x),(1,Ac true l),(2,Ac true mt),(7,Aa k)] []
def AdG (c:D.Chan)(l mt:List Int)(any:Bool)(k:Int):St:=Aq [(1,Ac true l),(2,Ac true mt),(3,Ad any),(4,.bp 0 0),(9,Aa k)] [.box (Am c)]
def Mg (e:D.Env)(v:D.Var)(who at' k:Int):St:=Aq [(2,.bp 0 0),(7,.bp 1 0),(9,Aa who),(12,Aa at'),(13,Aa k)] [.box (Af e),.box (BP v)]
def Ajr (e:D.Env)(args mt out:List Int)(k:Int):St:=Aq [(1,Ac true args),(2,Ac true mt),(3,.bp 0 0),(8,.ow 1 0 out.length),(9,Aa k)] [.box (Af e),.arr true 0 out.length 1 (AD out)]
def Xs (x:D.Expr)(at':Int)(some:Bool)(k:Int):St:=Aq [(3,.bp 0 0),(8,Aa at'),(9,Ad some),(10,Aa k)] [.box (AL x)]
def Xw (e:D.Env)(k:Int):St:=Aq [(2,.bp 0 0),(14,Aa k)] [.box (Af e)]
def Ajt (l:D.Loc)(out:List Int)(k:Int):St:=Aq [(3,.bp 0 0),(4,.ow 1 0 out.length),(5,Aa k)] [.box (A4 l),.arr true 0 out.length 1 (AD out)]
def AdI (e:D.Env)(l out:List Int)(k:Int):St:=Aq [(1,Ac true l),(2,.bp 0 0),(6,.ow 1 0 out.length),(7,Aa k)] [.box (Af e),.arr true 0 out.length 1 (AD out)]
def Aju (f:List D.Type)(l out:List Int)(k:Int):St:=Aq [(8,Ac true l),(10,.ow 0 0 out.length),(11,AE true f),(12,Aa k)] [.arr true 0 out.length 1 (AD out)]
def AdA (e:D.Env)(c:Int)(m l:List Int)(k:Int):St:=Aq [(1,Aa c),(2,Ac true m),(3,.bp 0 0),(9,Ac true l),(10,Aa k)] [.box (Af e)]
def Xr (e:D.Env)(c:Int)(m l:List Int)(k:Int)(t:List D.Trans)(out:List Pn)(j:Int):St:=Aq [(1,Aa c),(2,Ac true m),(3,.bp 0 0),(9,Ac true l),(10,Aa k),(11,Ao true t),(12,.ow 1 0 out.length),(13,Aa j)] [.box (Af e),.arr true 0 out.length 3 (DA out)]
def AdD (e:D.Env)(c:Int)(m:List Int)(out:List Pn)(k:Int):St:=Aq [(1,Aa c),(2,Ac true m),(3,.bp 0 0),(7,.ow 1 0 out.length),(8,Aa k)] [.box (Af e),.arr true 0 out.length 3 (DA out)]
def Xq (e:D.Env)(ws:List D.Trans)(self:Bool)(k:Int):St:=Aq [(1,Ao true ws),(2,Ad self),(3,.bp 0 0),(7,Aa k)] [.box (Af e)]
def Ajv (e:D.Env)(ws:List D.Trans)(out:List Ab)(any:Bool)(k:Int):St:=Aq [(1,Ao true ws),(2,.bp 0 0),(5,.ow 1 0 out.length),(6,Ad any),(7,Aa k)] [.box (Af e),.arr true 0 out.length 3 (Ep out)]
def T6 (ws:List D.Trans)(out:List Ab)(any:Bool)(k:Int):St:=Aq [(1,Ao true ws),(5,.ow 0 0 out.length),(6,Ad any),(9,Aa k)] [.arr true 0 out.length 3 (Ep out)]
def T5 (e:D.Env)(op:Bool)(l:List Int)(out:List Wy)(k:Int):St:=Aq [(1,.bp 0 0),(3,Ad op),(5,Ac true l),(6,.ow 1 0 out.length),(7,Aa k)] [.box (Af e),.arr true 0 out.length 6 (Fa out)]
def PS (e:D.Env)(op:Bool)(l:List Int)(out:List Wy)(k:Int)(c:List Ab)(j:Int):St:=Aq [(1,.bp 0 0),(3,Ad op),(5,Ac true l),(6,.ow 1 0 out.length),(7,Aa k),(8,BG true c),(9,Aa j)] [.box (Af e),.arr true 0 out.length 6 (Fa out)]
def Xp (e:D.Env)(op:Bool)(l:List Int)(out:List Wy)(k:Int)(c:List Ab)(j:Int)(w:Wy)(h:Int):St:=Aq [(1,.bp 0 0),(3,Ad op),(5,Ac true l),(6,.ow 1 0 out.length),(7,Aa k),(8,BG true c),(9,Aa j),(10,.bp 2 0),(11,Aa h)] [.box (Af e),.arr true 0 out.length 6 (Fa out),.box (AW w)]
def Ajy (m:D.Model)(s:D.State)(out:List Bool)(k:Int):St:=Aq [(2,.bp 0 0),(3,.bp 1 0),(5,.ow 2 0 out.length),(6,Aa k)] [.box (Ag m),.box (Ae s),.arr true 0 out.length 1 (EP out)]
def JB (e:D.Env)(x:D.Expr)(i:Nat)(b:Bool):St:=Aq [(2,.bp 0 0),(6,.bp 1 0),(28,Aa x.Op),(i,Ad b)] [.box (Af e),.box (AL x)]
def Aqq (e:D.Env)(x:D.Expr):St:=Aq [(2,.bp 0 0),(6,.bp 1 0)] [.box (Af e),.box (AL x)]
def Abr (b)(t):(fc Bt AV f190 [] (Ad b)).goal (St.init [] [.agg (Bp t)]) =
  LQ (Ad (bif decide (t.Bits>=1)then decide (t.Bits<=32)else false)) (Ad b):=kR
def AkB (r)(t)(v){b}(d:b=(1:Int)*(2:Int) ^ min (IntKind.u64.wrap t.Bits).toNat i64.bits){a}(e:a=i64.wrap b){c}(f:c=v.tmod a+i64.wrap b){g}(h:g=((true&&t.Signed==true)->(2:Int)≠(0:Int))):(fc Bt AV f150 [] (Aa r)).goal (St.init [] [.agg (Bp t),Aa v]) =
  ∃(y:_),VC 190 [.agg (Bp t)] (Ad y)/\BB (!y) (LQ (Aa 0) (Aa r)) ((0)<=IntKind.u64.wrap t.Bits/\i64.wrap b≠(0)/\BB (decide (v.tmod a<0)) (g/\BB (bif t.Signed then decide (i64.wrap c>=i64.wrap (a.tdiv (2:Int)))else false) (LQ (Aa (i64.wrap (i64.wrap c-i64.wrap b))) (Aa r)) (LQ (Aa (i64.wrap c)) (Aa r))) (g/\BB (bif t.Signed then decide (v.tmod a>=i64.wrap (a.tdiv (2:Int)))else false) (LQ (Aa (i64.wrap (v.tmod a-i64.wrap b))) (Aa r)) (LQ (Aa (v.tmod a)) (Aa r)))):=by subst d e f h;kernel_rfl
def AkA (r)(v):(fc Bt AV f138 [] (Aa r)).goal (St.init [] [Aa v]) =
  ∃(y:_),VC 150 [VV.agg [Aa 32,Ad true],Aa v] (Aa y)/\LQ (Aa y) (Aa r):=kR
def AgT (r)(c):(fc Bt AV f139 [] (Aa r)).goal (St.init [] [Ad c]) =
  BB c (LQ (Aa 1) (Aa r)) (LQ (Aa 0) (Aa r)):=kR
def Abo (r)(a n):(fc Bt Ii f141 [] (Aa r)).goal (St.init [] [Aa a,Aa n]) =
  Au (fc Bt Ii f141 [] (Aa r)) [1,0,0] (NH a n):=kR
def Yb (v r)(op a j){z1}(f:z1=[Aa v,Aa r]){d}(g:d=VV.tup z1){k}(h:k=λ(b:Int)=>[Aa b,Aa 0]){e}(i:e=λ(b:Int)=>VV.tup (k b)):(fc Bt AV f93 [] (.tup [Aa v,Aa r])).goal (St.init [] [Aa op,Aa a,Aa j]) =
  ∃(y:_),VC 138 [Aa a] (Aa y)/\∃(c:_),VC 138 [Aa j] (Aa c)/\BB (bif bif op==7 then true else op==8 then c==0 else false) (LQ (.tup [Aa 0,Aa 48]) d) (BB (op==6) (∃(b:_),VC 138 [Aa (i64.wrap (y*c))] (Aa b)/\LQ (e b) d) (BB (op==7) (c≠(0)/\∃(b:_),VC 138 [Aa (i64.wrap (y.tdiv c))] (Aa b)/\LQ (e b) d) (BB (op==8) (c≠(0)/\LQ (.tup [Aa (y.tmod c),Aa 0]) d) (BB (op==9) (∃(b:_),VC 138 [Aa (i64.wrap (y+c))] (Aa b)/\LQ (e b) d) (BB (op==10) (∃(b:_),VC 138 [Aa (i64.wrap (y-c))] (Aa b)/\LQ (e b) d) (BB (op==11) (∃(b:_),VC 141 [Aa y,Aa c] (Aa b)/\LQ (e b) d) (BB (op==12) (∃(b:_),VC 141 [Aa y,Aa (i64.wrap ((0)-c))] (Aa b)/\LQ (e b) d) (BB (op==13) (∃(b:_),VC 139 [Ad (decide (y<c))] (Aa b)/\LQ (e b) d) (BB (op==14) (∃(b:_),VC 139 [Ad (decide (y<=c))] (Aa b)/\LQ (e b) d) (BB (op==15) (∃(b:_),VC 139 [Ad (decide (y > c))] (Aa b)/\LQ (e b) d) (BB (op==16) (∃(b:_),VC 139 [Ad (decide (y>=c))] (Aa b)/\LQ (e b) d) (BB (op==17) (∃(b:_),VC 139 [Ad (y==c)] (Aa b)/\LQ (e b) d) (BB (op==18) (∃(b:_),VC 139 [Ad (y != c)] (Aa b)/\LQ (e b) d) (BB (op==19) (LQ (.tup [Aa (i64.wrap (↑(BitVec.ofInt i64.bits y &&& BitVec.ofInt i64.bits c).toNat)),Aa 0]) d) (BB (op==20) (LQ (.tup [Aa (i64.wrap (↑(BitVec.ofInt i64.bits y ^^^ BitVec.ofInt i64.bits c).toNat)),Aa 0]) d) (BB (op==21) (LQ (.tup [Aa (i64.wrap (↑(BitVec.ofInt i64.bits y ||| BitVec.ofInt i64.bits c).toNat)),Aa 0]) d) (LQ (.tup [Aa 0,Aa 42]) d))))))))))))))))):=by subst f g h i;kernel_rfl
def Aku (v r)(op a):(fc Bt AV f88 [] (.tup [Aa v,Aa r])).goal (St.init [] [Aa op,Aa a]) =
  ∃(y:_),VC 138 [Aa a] (Aa y)/\BB (op==3) (∃(b:_),VC 138 [Aa (i64.wrap ((0)-y))] (Aa b)/\LQ (VV.tup [Aa b,Aa 0]) (VV.tup [Aa v,Aa r])) (BB (op==4) (∃(b:_),VC 139 [Ad (y==0)] (Aa b)/\LQ (VV.tup [Aa b,Aa 0]) (VV.tup [Aa v,Aa r])) (BB (op==5) (LQ (VV.tup [Aa (i64.wrap (i64.wrap ((0)-y)-(1))),Aa 0]) (VV.tup [Aa v,Aa r])) (LQ (VV.tup [Aa 0,Aa 42]) (VV.tup [Aa v,Aa r])))):=kR
def AbB (b)(x l mt):(fc Bt Nc f144 [] (Ad b)).goal (St.init [] [Ac true x,Ac true l,Ac true mt]) =
  BB (bif decide ((↑x.length)<(↑mt.length:Int))then true else decide ((↑l.length)<(↑mt.length:Int))) (LQ (Ad false) (Ad b)) (Au (fc Bt Nc f144 [] (Ad b)) [1,1,0,1,0] (AdE x l mt (0))):=kR
def AgX (r)(c)(l mt)(any):(fc Bt PC f98 [] (Aa r)).goal (St.init [] [.agg (Am c),Ac true l,Ac true mt,Ad any]) =
  Au (fc Bt PC f98 [] (Aa r)) [1,0,1,0] (AdG c l mt any (0)):=kR
def AgS (r)(c):(fc Bt AV f91 [] (Aa r)).goal (St.init [] [Ad c]) =
  BB c (LQ (Aa 1) (Aa r)) (LQ (Aa 0) (Aa r)):=kR
def AgI (p k r)(e)(x){b}(g:b=e.M.Exprs.getD x.toNat default){c}(h:c=LQ (VV.tup [Aa 0,Aa 0,Aa 42]) (VV.tup [Aa p,Aa k,Aa r])){d}(i:d=fc Bt HC f87 [] (VV.tup [Aa p,Aa k,Aa r])){f}(j:f=[1,1,1,1,1,1,1,0,1,0]):(fc Bt HC f87 [] (.tup [Aa p,Aa k,Aa r])).goal (St.init [] [.agg (Af e),Aa x]) =
  (inX x e.M.Exprs.length/\BB (b.Op != 2) c (inX x e.M.Exprs.length/\∃(y:_),VC 118 [.agg (BP b.V)] (Aa y)/\BB (b.V.Scope==0) (BB (decide (y > (↑e.S.Globals.length))) c (Au d f (Mg e b.V (-1) b.V.Slot (0)))) (BB (b.V.Scope==1) (((true&&decide (e.Pid<0)==false)->inX e.Pid e.S.Procs.length)/\BB (bif decide (e.Pid<0)then true else decide (y > (↑(e.S.Procs.getD e.Pid.toNat default).Frame.length))) c (Au d f (Mg e b.V e.Pid b.V.Slot (0)))) (∃(a:_),VC 54 [.agg (Af e),Aa b.V.Who] (vII a)/\BB (a.snd != 0) (LQ (.tup [Aa 0,Aa 0,Aa a.snd]) (.tup [Aa p,Aa k,Aa r])) (((true&&(bif decide (a.fst<0)then true else decide (a.fst>=(↑e.S.Procs.length)))==false)->inX a.fst e.S.Procs.length)/\BB (bif bif decide (a.fst<0)then true else decide (a.fst>=(↑e.S.Procs.length))then true else(e.S.Procs.getD a.fst.toNat default).Type_ != b.V.Type_) (LQ (.tup [Aa 0,Aa 0,Aa 52]) (.tup [Aa p,Aa k,Aa r])) (inX a.fst e.S.Procs.length/\BB (decide (y > (↑(e.S.Procs.getD a.fst.toNat default).Frame.length))) c (Au d f (Mg e b.V a.fst b.V.Slot (0))))))))):=by subst g h i j;kernel_rfl
def Ag1 (v r)(e)(x):(fc Bt AV f140 [] (.tup [Aa v,Aa r])).goal (St.init [] [.agg (Af e),Aa x]) =
  ∃(y:_),VC 54 [VV.agg (Af e),Aa x] (vII y)/\BB (y.snd != 0) (LQ (VV.tup [Aa 0,Aa y.snd]) (VV.tup [Aa v,Aa r])) (BB (bif decide (y.fst<1)then true else decide (y.fst > (↑e.S.Chans.length))) (LQ (VV.tup [Aa 0,Aa 49]) (VV.tup [Aa v,Aa r])) (LQ (VV.tup [Aa y.fst,Aa 0]) (VV.tup [Aa v,Aa r]))):=kR
def Abf (r:List Int×Int)(e)(args mt):(fc Bt M9 f97 [] (.tup [Ac true r.1,Aa r.2])).goal (St.init [] [.agg (Af e),Ac true args,Ac true mt]) =
  Au (fc Bt M9 f97 [] (VV.tup [Ac true r.fst,Aa r.snd])) [1,1,0,1,0] (Aq [(1,Ac true args),(2,Ac true mt),(3,VV.bp 0 0),(8,VV.nl),(9,Aa 0)] [Ob.box (Af e)]):=kR
def Ag4 (v r)(e)(x){z1}(d:z1=[Aa v,Aa r]){b}(f:b=VV.tup z1):(fc Bt AV f90 [] (.tup [Aa v,Aa r])).goal (St.init [] [.agg (Af e),.agg (AL x)]) =
  (∃(y:_),VC 140 [.agg (Af e),Aa x.A] (vII y)/\BB (y.snd != 0) (LQ (.tup [Aa 0,Aa y.snd]) b) (inX (i64.wrap (y.fst-(1))) e.S.Chans.length/\inX (e.S.Chans.getD (i64.wrap (y.fst-(1))).toNat default).Shape e.M.Shapes.length/\BB (x.Op==25) (LQ (.tup [Aa (↑(e.S.Chans.getD (i64.wrap (y.fst-(1))).toNat default).Queue.length),Aa 0]) b) (BB (x.Op==26) (∃(a:_),VC 91 [Ad (decide ((↑(e.S.Chans.getD (i64.wrap (y.fst-(1))).toNat default).Queue.length)>=(e.M.Shapes.getD (e.S.Chans.getD (i64.wrap (y.fst-(1))).toNat default).Shape.toNat default).Room))] (Aa a)/\LQ (.tup [Aa a,Aa 0]) b) (BB (x.Op==27) (∃(a:_),VC 91 [Ad ((↑(e.S.Chans.getD (i64.wrap (y.fst-(1))).toNat default).Queue.length:Int)==0)] (Aa a)/\LQ (.tup [Aa a,Aa 0]) b) (BB (x.Op==28) (∃(a:_),VC 91 [Ad (decide ((↑(e.S.Chans.getD (i64.wrap (y.fst-(1))).toNat default).Queue.length)<(e.M.Shapes.getD (e.S.Chans.getD (i64.wrap (y.fst-(1))).toNat default).Shape.toNat default).Room))] (Aa a)/\LQ (.tup [Aa a,Aa 0]) b) (BB (x.Op==29) (∃(a:_),VC 91 [Ad (decide ((↑(e.S.Chans.getD (i64.wrap (y.fst-(1))).toNat default).Queue.length:Int) > 0))] (Aa a)/\LQ (.tup [Aa a,Aa 0]) b) (BB ((↑(e.M.Shapes.getD (e.S.Chans.getD (i64.wrap (y.fst-(1))).toNat default).Shape.toNat default).Fields.length) != (↑x.Args.length:Int)) (LQ (.tup [Aa 0,Aa 49]) b) (∃(a:List Int×Int),VC 97 [.agg (Af e),Ac true x.Args,Ac true x.Match] (.tup [Ac true a.fst,Aa a.snd])/\BB (a.snd != 0) (LQ (.tup [Aa 0,Aa a.snd]) b) (∃(c:_),VC 98 [.agg (Am (e.S.Chans.getD (i64.wrap (y.fst-(1))).toNat default)),Ac true a.fst,Ac true x.Match,Ad (x.N==1)] (Aa c)/\∃(y:_),VC 91 [Ad (decide (c>=0))] (Aa y)/\LQ (.tup [Aa y,Aa 0]) b))))))))):=by subst d f;kernel_rfl
def AgQ (v r)(e)(x){a}(c:a=[Aa v,Aa r]):(fc Bt PA f92 [] (.tup [Aa v,Aa r])).goal (St.init [] [.agg (Af e),.agg (AL x)]) =
  ∃(y:_),VC 54 [.agg (Af e),Aa x.A] (vII y)/\BB (y.snd != 0) (LQ (.tup [Aa 0,Aa y.snd]) (.tup a)) (BB (x.Op==36) (((true&&(bif decide (y.fst>=0)then decide (y.fst<(↑e.Able.length))else false)==true)->inX y.fst e.Able.length)/\∃(b:_),VC 91 [Ad (bif bif decide (y.fst>=0)then decide (y.fst<(↑e.Able.length))else false then e.Able.getD y.fst.toNat false else false)] (Aa b)/\LQ (.tup [Aa b,Aa 0]) (.tup a)) (((true&&(bif decide (y.fst<0)then true else decide (y.fst>=(↑e.S.Procs.length)))==false&&(x.Op==38)==true)->inX y.fst e.S.Procs.length)/\BB (bif bif decide (y.fst<0)then true else decide (y.fst>=(↑e.S.Procs.length))then true else bif x.Op==38 then(e.S.Procs.getD y.fst.toNat default).Type_ != x.N else false) (LQ (.tup [Aa 0,Aa 52]) (.tup a)) (inX y.fst e.S.Procs.length/\BB (x.Op==37) (LQ (.tup [Aa (e.S.Procs.getD y.fst.toNat default).Loc,Aa 0]) (.tup a)) (Au (fc Bt PA f92 [] (.tup a)) [1,1,1,1,1,1,1,1,0,1,0] (Xs x (e.S.Procs.getD y.fst.toNat default).Loc false (0)))))):=by subst c;kernel_rfl
def AbC (v r)(e)(x){z1}(c:z1=[Aa v,Aa r]){a}(d:a=VV.tup z1):(fc Bt AV f89 [] (.tup [Aa v,Aa r])).goal (St.init [] [.agg (Af e),.agg (AL x)]) =
  ∃(y:_),VC 54 [.agg (Af e),Aa x.A] (vII y)/\BB (y.snd != 0) (LQ (.tup [Aa 0,Aa y.snd]) a) (BB (bif x.Op==24 then y.fst != 0 else false) (∃(y:_),VC 54 [.agg (Af e),Aa x.B] (vII y)/\LQ (vII y) a) (BB (x.Op==24) (∃(y:_),VC 54 [.agg (Af e),Aa x.C] (vII y)/\LQ (vII y) a) (BB (bif x.Op==22 then y.fst==0 else false) (LQ (.tup [Aa 0,Aa 0]) a) (BB (bif x.Op==23 then y.fst != 0 else false) (LQ (.tup [Aa 1,Aa 0]) a) (∃(y:_),VC 54 [.agg (Af e),Aa x.B] (vII y)/\BB (y.snd != 0) (LQ (.tup [Aa 0,Aa y.snd]) a) (∃(b:_),VC 91 [Ad (y.fst != 0)] (Aa b)/\LQ (.tup [Aa b,Aa 0]) a)))))):=by subst c d;kernel_rfl
def AgY (v r)(e)(x){a}(d:a=e.M.Exprs.getD x.toNat default){b}(f:b=fc Bt Bx f54 [] (VV.tup [Aa v,Aa r])){c}(g:c=[1,1,0,1,0,1,1,1,1,1]):(fc Bt Bx f54 [] (.tup [Aa v,Aa r])).goal (St.init [] [.agg (Af e),Aa x]) =
  (inX x e.M.Exprs.length/\BB (a.Op==1) (LQ (.tup [Aa a.N,Aa 0]) (.tup [Aa v,Aa r])) (BB (a.Op==2) (∃(y:_),VC 87 [.agg (Af e),Aa x] (Kt y)/\BB (y.snd.snd != 0) (LQ (.tup [Aa 0,Aa y.snd.snd]) (.tup [Aa v,Aa r])) (BB (decide (y.fst<0)) (inX y.snd.fst e.S.Globals.length/\LQ (.tup [Aa (e.S.Globals.getD y.snd.fst.toNat 0),Aa 0]) (.tup [Aa v,Aa r])) (inX y.fst e.S.Procs.length/\inX y.snd.fst (e.S.Procs.getD y.fst.toNat default).Frame.length/\LQ (.tup [Aa ((e.S.Procs.getD y.fst.toNat default).Frame.getD y.snd.fst.toNat 0),Aa 0]) (.tup [Aa v,Aa r])))) (BB (a.Op==3) (Au b c (JB e a 63 (a.Op==3))) (BB (a.Op==4) (Au b c (JB e a 63 (a.Op==4))) (Au b c (JB e a 63 (a.Op==5))))))):=by subst d f g;kernel_rfl
def Abz (r)(e):(fc Bt Na f34 [] (Ac true r)).goal (St.init [] [.agg (Af e)]) =
  ∃(y:_),VC 31 [VV.agg (Af e)] (VV.agg (A9 y))/\inX e.Pid e.S.Procs.length/\inX (e.S.Procs.getD e.Pid.toNat default).Loc y.Locs.length/\Au (fc Bt Na f34 [] (Ac true r)) [1,1,1,0,1,0] (Aq [(3,VV.bp 0 0),(4,VV.nl),(5,Aa 0)] [Ob.box (A4 (y.Locs.getD (e.S.Procs.getD e.Pid.toNat default).Loc.toNat default))]):=kR
def Aks (b)(e)(x):(fc Bt AV f94 [] (Ad b)).goal (St.init [] [.agg (Af e),Aa x]) =
  (((true&&decide (x>=0)==true)->inX x e.M.Exprs.length)/\LQ (Ad (bif decide (x>=0)then(e.M.Exprs.getD x.toNat default).Op==39 else false)) (Ad b)):=kR
def AkI (r:List Int×Int)(e)(l):(fc Bt Tg f101 [] (.tup [Ac true r.1,Aa r.2])).goal (St.init [] [.agg (Af e),Ac true l]) =
  Au (fc Bt Tg f101 [] (VV.tup [Ac true r.fst,Aa r.snd])) [1,1,0,1,0] (Aq [(1,Ac true l),(2,VV.bp 0 0),(6,VV.nl),(7,Aa 0)] [Ob.box (Af e)]):=kR
def Yc (v r)(e)(s):(fc Bt AV f96 [] (.tup [Aa v,Aa r])).goal (St.init [] [.agg (Af e),.agg (An s)]) =
  ∃(y:_),VC 140 [VV.agg (Af e),Aa s.A] (vII y)/\BB (y.snd != 0) (LQ (VV.tup [Aa 0,Aa y.snd]) (VV.tup [Aa v,Aa r])) (inX (i64.wrap (y.fst-(1))) e.S.Chans.length/\inX (e.S.Chans.getD (i64.wrap (y.fst-(1))).toNat default).Shape e.M.Shapes.length/\BB ((↑(e.M.Shapes.getD (e.S.Chans.getD (i64.wrap (y.fst-(1))).toNat default).Shape.toNat default).Fields.length) != (↑s.Args.length:Int)) (LQ (VV.tup [Aa 0,Aa 49]) (VV.tup [Aa v,Aa r])) (LQ (VV.tup [Aa y.fst,Aa 0]) (VV.tup [Aa v,Aa r]))):=kR
def Aky (r:List Int×Int)(e)(s)(c){a}(b:a=i64.wrap (c-(1:Int))):(fc Bt Te f142 [] (.tup [Ac true r.1,Aa r.2])).goal (St.init [] [.agg (Af e),.agg (An s),Aa c]) =
  ∃(y:List Int×Int),VC 101 [.agg (Af e),Ac true s.Args] (.tup [Ac true y.fst,Aa y.snd])/\BB (y.snd != 0) (LQ (.tup [.nl,Aa y.snd]) (.tup [Ac true r.fst,Aa r.snd])) (inX a e.S.Chans.length/\inX (e.S.Chans.getD a.toNat default).Shape e.M.Shapes.length/\Au (fc Bt Te f142 [] (.tup [Ac true r.fst,Aa r.snd])) [1,1,1,1,1,0,1,0] (Aq [(8,Ac true y.fst),(10,.nl),(11,AE true (e.M.Shapes.getD (e.S.Chans.getD a.toNat default).Shape.toNat default).Fields),(12,Aa 0)] [])):=by subst b;kernel_rfl
def AgP (r:Bool×Int)(e):(fc Bt AV f33 [] (.tup [Ad r.1,Aa r.2])).goal (St.init [] [.agg (Af e)]) =
  ∃(y:_),VC 31 [VV.agg (Af e)] (VV.agg (A9 y))/\BB (decide (y.Provided<0)) (LQ (VV.tup [Ad true,Aa 0]) (VV.tup (DP r))) (∃(a:_),VC 54 [VV.agg (Af e),Aa y.Provided] (vII a)/\LQ (VV.tup [Ad (a.fst != 0),Aa a.snd]) (VV.tup (DP r))):=kR
def Abh (b)(e)(s)(c)(m){d}(f:d=LQ (Ad false) (Ad b)):(fc Bt AV f218 [] (Ad b)).goal (St.init [] [.agg (Af e),.agg (An s),Aa c,Ac true m]) =
  BB (bif bif s.Kind != 6 then true else decide (s.N > 1)then true else(↑s.Args.length) != (↑m.length:Int)) d (∃(y:_),VC 140 [.agg (Af e),Aa s.A] (vII y)/\BB (bif y.snd != 0 then true else y.fst != c) d (∃(y:List Int×Int),VC 97 [.agg (Af e),Ac true s.Args,Ac true s.Match] (.tup [Ac true y.fst,Aa y.snd])/\BB (y.snd != 0) d (∃(a:_),VC 144 [Ac true m,Ac true y.fst,Ac true s.Match] (Ad a)/\LQ (Ad a) (Ad b)))):=by subst f;kernel_rfl
def AgL (r)(e)(c)(m):(fc Bt Ji f186 [] (BD true r)).goal (St.init [] [.agg (Af e),Aa c,Ac true m]) =
  ∃(y:Bool×Int),VC 33 [VV.agg (Af e)] (VV.tup (DP y))/\BB (bif !y.fst then true else y.snd != 0) (LQ VV.nl (BD true r)) (∃(y:_),VC 34 [VV.agg (Af e)] (Ac true y)/\Au (fc Bt Ji f186 [] (BD true r)) [1,1,1,1,0,1,0] (AdA e c m y (0))):=kR
def AbA (r)(e)(c)(m):(fc Bt Nb f143 [] (BD true r)).goal (St.init [] [.agg (Af e),Aa c,Ac true m]) =
  Au (fc Bt Nb f143 [] (BD true r)) [1,1,0,1,0] (Aq [(1,Aa c),(2,Ac true m),(3,VV.bp 0 0),(7,VV.nl),(8,Aa 0)] [Ob.box (Af e)]):=kR
def AgK (r)(e)(s)(self){d}(f:d=λ(y:Int×Int)=>e.S.Chans.getD (i64.wrap (y.fst-(1:Int))).toNat default){c}(g:c=VV.agg (A6 r)):(fc Bt AV f95 [] (.agg (A6 r))).goal (St.init [] [.agg (Af e),.agg (An s),Ad self]) =
  ∃(y:_),VC 96 [.agg (Af e),.agg (An s)] (vII y)/\BB (y.snd != 0) (LQ (.agg [Ad true,Aa y.snd,.nl]) c) (inX (i64.wrap (y.fst-(1))) e.S.Chans.length/\inX (d y).Shape e.M.Shapes.length/\BB (decide ((e.M.Shapes.getD (d y).Shape.toNat default).Room > 0)) (LQ (.agg [Ad (decide ((↑(d y).Queue.length)<(e.M.Shapes.getD (d y).Shape.toNat default).Room)),Aa 0,.nl]) c) (BB self (LQ (.agg [Ad false,Aa 0,.nl]) c) (∃(a:List Int×Int),VC 142 [.agg (Af e),.agg (An s),Aa y.fst] (.tup [Ac true a.fst,Aa a.snd])/\BB (a.snd != 0) (LQ (.agg [Ad true,Aa a.snd,.nl]) c) (∃(b:_),VC 143 [.agg (Af e),Aa y.fst,Ac true a.fst] (BD true b)/\LQ (.agg [Ad (decide ((↑b.length:Int) > 0)),Aa 0,BD true b]) c)))):=by subst f g;kernel_rfl
def AgF (r)(e)(s)(self){b}(g:b=VV.agg (A6 r)){h}(i:h=LQ (VV.agg [Ad (decide ((↑e.S.Procs.length:Int)<16)),Aa 0,VV.nl]) b){c}(j:c=Af e){k}(l:k=LQ (VV.agg [Ad true,Aa 0,VV.nl]) b):(fc Bt AV f55 [] (.agg (A6 r))).goal (St.init [] [.agg (Af e),.agg (An s),Ad self]) =
  ∃(y:_),VC 94 [.agg c,Aa s.A] (Ad y)/\∃(d:_),VC 94 [.agg c,Aa s.B] (Ad d)/\BB (s.Kind==1) (BB y h (∃(y:_),VC 54 [.agg c,Aa s.A] (vII y)/\LQ (.agg [Ad (bif y.snd != 0 then true else y.fst != 0),Aa y.snd,.nl]) b)) (BB (s.Kind==2) (BB d h k) (BB (s.Kind==5) (∃(y:_),VC 95 [.agg c,.agg (An s),Ad self] (.agg (A6 y))/\LQ (.agg (A6 y)) b) (BB (s.Kind==6) (∃(y:_),VC 96 [.agg c,.agg (An s)] (vII y)/\BB (y.snd != 0) (LQ (.agg [Ad true,Aa y.snd,.nl]) b) (∃(a:List Int×Int),VC 97 [.agg c,Ac true s.Args,Ac true s.Match] (.tup [Ac true a.fst,Aa a.snd])/\BB (a.snd != 0) (LQ (.agg [Ad true,Aa a.snd,.nl]) b) (inX (i64.wrap (y.fst-(1))) e.S.Chans.length/\∃(f:_),VC 98 [.agg (Am (e.S.Chans.getD (i64.wrap (y.fst-(1))).toNat default)),Ac true a.fst,Ac true s.Match,Ad (bif s.N==1 then true else s.N==3)] (Aa f)/\LQ (.agg [Ad (decide (f>=0)),Aa 0,.nl]) b))) (BB (s.Kind==7) (LQ (.agg [Ad false,Aa 0,.nl]) b) (BB (s.Kind==9) (LQ (.agg [Ad (decide ((↑e.S.Chans.length:Int)<32)),Aa 0,.nl]) b) k))))):=by subst g i j l;kernel_rfl
def AgH (b)(e)(ws)(self):(fc Bt Pz f219 [] (Ad b)).goal (St.init [] [.agg (Af e),Ao true ws,Ad self]) =
  Au (fc Bt Pz f219 [] (Ad b)) [1,0,1,0] (Xq e ws self (0)):=kR
def Ag2 (r)(e)(ws):(fc Bt Jk f35 [] (BG true r)).goal (St.init [] [.agg (Af e),Ao true ws]) =
  Au (fc Bt Jk f35 [] (BG true r)) [1,1,1,0,1,0] (Aq [(1,Ao true ws),(2,VV.bp 0 0),(5,VV.nl),(6,Ad false),(7,Aa 0)] [Ob.box (Af e)]):=kR
def Yn (r)(err):(fc Bt AV f32 [] (.agg (AW r))).goal (St.init [] [Aa err]) =
  LQ (VV.agg [Aa (-1),Aa (-1),Aa (-1),Aa (-1),Aa (-1),Aa err]) (VV.agg (AW r)):=kR
def AgA (r)(e)(p):(fc Bt AV f58 [] (.agg (Af r))).goal (St.init [] [.agg (Af e),Aa p]) =
  LQ (VV.agg [AE true e.M.Globals,Ac true e.M.Init,A1 true e.M.Shapes,Ac true e.M.Chans,Bb true e.M.Procs,Aa e.M.Claim,Bf true e.M.Exprs,Ac true e.S.Globals,AG true e.S.Chans,Aw true e.S.Procs,Aa e.S.Last,Aa e.S.Alone,Aa e.S.Claim,Aa p,Ad e.Timeout,AM true e.Able]) (VV.agg (Af r)):=kR
def AgB (r)(e){b}(c:b=AZ true r):(fc Bt EG f18 [] (AZ true r)).goal (St.init [] [.agg (Af e)]) =
  (inX e.Pid e.S.Procs.length/\∃(y:_),VC 31 [.agg (Af e)] (.agg (A9 y))/\BB ((e.S.Procs.getD e.Pid.toNat default).Loc==y.Final) (BB (e.Pid==i64.wrap ((↑e.S.Procs.length)-(1))) (∃(y:_),VC 32 [Aa 0] (.agg (AW y))/\LQ (.sl true 1 6 λ(i)=>List.take 6 (List.drop (i*6) (AW y))) b) (LQ .nl b)) (∃(y:Bool×Int),VC 33 [.agg (Af e)] (.tup (DP y))/\BB (y.snd != 0) (∃(a:_),VC 32 [Aa y.snd] (.agg (AW a))/\LQ (.sl true 1 6 λ(i)=>List.take 6 (List.drop (i*6) (AW a))) b) (∃(a:_),VC 34 [.agg (Af e)] (Ac true a)/\Au (fc Bt EG f18 [] b) [1,1,1,1,1,1,0,1,0] (Aq [(1,.bp 0 0),(3,Ad y.fst),(5,Ac true a),(6,.nl),(7,Aa 0)] [.box (Af e)])))):=by subst c;kernel_rfl
def Ag6 (r)(m)(s):(fc Bt PD f16 [] (AM true r)).goal (St.init [] [.agg (Ag m),.agg (Ae s)]) =
  Au (fc Bt PD f16 [] (AM true r)) [1,1,0,1,0] (Aq [(2,VV.bp 0 0),(3,VV.bp 1 0),(5,VV.nl),(6,Aa 0)] [Ob.box (Ag m),Ob.box (Ae s)]):=kR
def AkG (v r)(e)(x)(b){c}(d:c=(fc Bt Bx f54 [] (VV.tup [Aa v,Aa r])).cut [1,1,0,1,0,1,1,1,1,1]):((fc Bt Bx f54 [] (.tup [Aa v,Aa r])).cut [1,1,0,1,0,1,1,1,1,1]).goal (JB e x 63 b) =
  BB b (∃(y:_),VC 54 [.agg (Af e),Aa x.A] (vII y)/\BB (y.snd != 0) (LQ (.tup [Aa 0,Aa y.snd]) (.tup [Aa v,Aa r])) (∃(a:_),VC 88 [Aa x.Op,Aa y.fst] (vII a)/\LQ (vII a) (.tup [Aa v,Aa r]))) (BB (x.Op==22) (Au c [1,1] (JB e x 86 (x.Op==22))) (BB (x.Op==23) (Au c [1,1] (JB e x 86 (x.Op==23))) (Au c [1,1] (JB e x 86 (x.Op==24))))):=by subst d;kernel_rfl
def AkF (v r)(e)(x)(b){a}(c:a=(fc Bt Bx f54 [] (VV.tup [Aa v,Aa r])).cut [1,1,0,1,0,1,1,1,1,1,1,1]):((fc Bt Bx f54 [] (.tup [Aa v,Aa r])).cut [1,1,0,1,0,1,1,1,1,1,1,1]).goal (JB e x 86 b) =
  BB b (∃(y:_),VC 89 [.agg (Af e),.agg (AL x)] (vII y)/\LQ (vII y) (.tup [Aa v,Aa r])) (BB (x.Op==25) (Au a [1,1] (JB e x 95 (x.Op==25))) (BB (x.Op==26) (Au a [1,1] (JB e x 95 (x.Op==26))) (BB (x.Op==27) (Au a [1,1] (JB e x 95 (x.Op==27))) (BB (x.Op==28) (Au a [1,1] (JB e x 95 (x.Op==28))) (BB (x.Op==29) (Au a [1,1] (JB e x 95 (x.Op==29))) (Au a [1,1] (JB e x 95 (x.Op==30)))))))):=by subst c;kernel_rfl
def AkE (v r)(e)(x)(b){c}(f:c=(fc Bt Bx f54 [] (VV.tup [Aa v,Aa r])).cut [1,1,0,1,0,1,1,1,1,1,1,1,1,1]){d}(g:d=[1,1,1,1,1,1,1,1,1,1,1,1]){a}(h:a=[Aa v,Aa r]):((fc Bt Bx f54 [] (.tup [Aa v,Aa r])).cut [1,1,0,1,0,1,1,1,1,1,1,1,1,1]).goal (JB e x 95 b) =
  BB b (∃(y:_),VC 90 [.agg (Af e),.agg (AL x)] (vII y)/\LQ (vII y) (.tup a)) (BB (x.Op==31) (LQ (.tup [Aa e.Pid,Aa 0]) (.tup a)) (BB (x.Op==32) (LQ (.tup [Aa e.S.Last,Aa 0]) (.tup a)) (BB (x.Op==33) (LQ (.tup [Aa (↑e.S.Procs.length),Aa 0]) (.tup a)) (BB (x.Op==34) (Au c [1,1,1,1,1,1,1,1,0,0,1,0] (Xw e (0))) (BB (x.Op==35) (∃(y:_),VC 91 [Ad e.Timeout] (Aa y)/\LQ (.tup [Aa y,Aa 0]) (.tup a)) (BB (x.Op==36) (Au c d (JB e x 156 (x.Op==36))) (BB (x.Op==37) (Au c d (JB e x 156 (x.Op==37))) (Au c d (JB e x 156 (x.Op==38)))))))))):=by subst f g h;kernel_rfl
def AkD (v r)(e)(x)(b):((fc Bt Bx f54 [] (.tup [Aa v,Aa r])).cut [1,1,0,1,0,1,1,1,1,1,1,1,1,1,1,1,1,1,1,1,1,1,1,1,1,1]).goal (JB e x 156 b) =
  BB b (∃(y:_),VC 92 [VV.agg (Af e),VV.agg (AL x)] (vII y)/\LQ (vII y) (VV.tup [Aa v,Aa r])) (BB (x.Op==39) (LQ (VV.tup [Aa 0,Aa 42]) (VV.tup [Aa v,Aa r])) (Au (fc Bt Bx f54 [] (VV.tup [Aa v,Aa r])) [1,1,1] (Aqq e x))):=kR
def AkC (v r)(e)(x):((fc Bt Bx f54 [] (.tup [Aa v,Aa r])).cut [1,1,1]).goal (Aqq e x) =
  ∃(y:_),VC 54 [VV.agg (Af e),Aa x.A] (vII y)/\BB (y.snd != 0) (LQ (VV.tup [Aa 0,Aa y.snd]) (VV.tup [Aa v,Aa r])) (∃(a:_),VC 54 [VV.agg (Af e),Aa x.B] (vII a)/\BB (a.snd != 0) (LQ (VV.tup [Aa 0,Aa a.snd]) (VV.tup [Aa v,Aa r])) (∃(b:_),VC 93 [Aa x.Op,Aa y.fst,Aa a.fst] (vII b)/\LQ (vII b) (VV.tup [Aa v,Aa r]))):=kR
def Yi (r a n)(J):((fc Bt Ii f141 [] (Aa r)).loop [1,0,0] J).goal (NH a n) =
  BB (bif decide (n > 0)then a != 0 else false) (∃(y:_),VC 138 [Aa (i64.wrap ((2)*a))] (Aa y)/\J (NH y (i64.wrap (n-(1))))) (Au (fc Bt Ii f141 [] (Aa r)) [1,1,0,0] (NH a n)):=kR
def Yh (r a n)(J):((fc Bt Ii f141 [] (Aa r)).loop [1,1,0,0] J).goal (NH a n) =
  BB (bif bif decide (n<0)then a != 0 else false then a != (-1)else false) (BB (decide (a<0)) ((2)≠(0:Int)/\J (NH (i64.wrap ((i64.wrap (a-(1))).tdiv (2:Int))) (i64.wrap (n+(1))))) ((2)≠(0:Int)/\J (NH (i64.wrap (a.tdiv (2:Int))) (i64.wrap (n+(1)))))) (LQ (Aa a) (Aa r)):=kR
def Yq (b)(x l mt)(k)(J):((fc Bt Nc f144 [] (Ad b)).loop [1,1,0,1,0] J).goal (AdE x l mt k) =
  BB (decide (k<(↑mt.length))) (inX k mt.length/\((true&&(mt.getD k.toNat 0==1)==true)->inX k x.length)/\((true&&(mt.getD k.toNat 0==1)==true)->inX k l.length)/\BB (bif mt.getD k.toNat 0==1 then x.getD k.toNat 0 != l.getD k.toNat 0 else false) (LQ (Ad false) (Ad b)) (J (AdE x l mt (i64.wrap (k+(1)))))) (LQ (Ad true) (Ad b)):=kR
def AbI (r)(c)(l mt)(any)(k)(J):((fc Bt PC f98 [] (Aa r)).loop [1,0,1,0] J).goal (AdG c l mt any k) =
  BB (decide (k<(↑c.Queue.length))) (inX k c.Queue.length/\∃(y:_),VC 144 [Ac true (c.Queue.getD k.toNat []),Ac true l,Ac true mt] (Ad y)/\BB (bif y then bif k==0 then true else any else false) (LQ (Aa k) (Aa r)) (J (AdG c l mt any (i64.wrap (k+(1)))))) (LQ (Aa (-1)) (Aa r)):=kR
def Abn (p k r)(e)(v)(who at' i)(J){a}(c:a=v.Dims.getD i.toNat default){b}(d:b=[Aa p,Aa k,Aa r]):((fc Bt HC f87 [] (.tup [Aa p,Aa k,Aa r])).loop [1,1,1,1,1,1,1,0,1,0] J).goal (Mg e v who at' i) =
  BB (decide (i<(↑v.Dims.length))) (inX i v.Dims.length/\∃(y:_),VC 54 [.agg (Af e),Aa a.I] (vII y)/\BB (y.snd != 0) (LQ (.tup [Aa 0,Aa 0,Aa y.snd]) (.tup b)) (((true&&decide (y.fst<0)==false)->inX i v.Dims.length)/\BB (bif decide (y.fst<0)then true else decide (y.fst>=a.Len)) (LQ (.tup [Aa 0,Aa 0,Aa 47]) (.tup b)) (inX i v.Dims.length/\J (Mg e v who (i64.wrap (at'+i64.wrap (y.fst*a.Stride))) (i64.wrap (i+(1))))))) (LQ (.tup [Aa who,Aa at',Aa 0]) (.tup b)):=by subst c d;kernel_rfl
def Ya (r:List Int×Int)(e)(args mt out)(k)(J){a}(b:a=[(1,Ac true args),(2,Ac true mt),(3,VV.bp 0 0),(8,VV.ow 1 0 (out.length+1)),(9,Aa (i64.wrap (k+(1:Int))))]):((fc Bt M9 f97 [] (.tup [Ac true r.1,Aa r.2])).loop [1,1,0,1,0] J).goal (Ajr e args mt out k) =
  BB (decide (k<(↑args.length))) (inX k mt.length/\BB (mt.getD k.toNat 0==1) (inX k args.length/\∃(y:_),VC 54 [.agg (Af e),Aa (args.getD k.toNat 0)] (vII y)/\BB (y.snd != 0) (LQ (.tup [.nl,Aa y.snd]) (.tup [Ac true r.fst,Aa r.snd])) ((out.length+1)*8<=140737488355328/\J (Aq a [.box (Af e),.arr true 0 (out.length+1) 1 λ(i)=>bif i.blt out.length then[Aa (out.getD i 0)]else(λ(i)=>List.take 1 (List.drop (i*1) [Aa y.fst])) (i-out.length)]))) ((out.length+1)*8<=140737488355328/\J (Aq a [.box (Af e),.arr true 0 (out.length+1) 1 λ(i)=>bif i.blt out.length then[Aa (out.getD i 0)]else(λ(i)=>List.take 1 (List.drop (i*1) [Aa 0])) (i-out.length)]))) (LQ (.tup [Ac true out,Aa 0]) (.tup [Ac true r.fst,Aa r.snd])):=by subst b;kernel_rfl
def Aby (v r)(x)(at')(some)(k)(J):((fc Bt PA f92 [] (.tup [Aa v,Aa r])).loop [1,1,1,1,1,1,1,1,0,1,0] J).goal (Xs x at' some k) =
  BB (decide (k<(↑x.Args.length))) (((true&&some==false)->inX k x.Args.length)/\J (Xs x at' (bif some then true else x.Args.getD k.toNat 0==at') (i64.wrap (k+(1))))) (∃(y:_),VC 91 [Ad some] (Aa y)/\LQ (VV.tup [Aa y,Aa 0]) (VV.tup [Aa v,Aa r])):=kR
def AbJ (v r)(e)(k)(J){z1}(a:z1=e.S.Procs.getD k.toNat default):((fc Bt Bx f54 [] (.tup [Aa v,Aa r])).loop [1,1,0,1,0,1,1,1,1,1,1,1,1,1,1,1,1,1,1,1,1,1,0,0,1,0] J).goal (Xw e k) =
  BB (decide (k<(↑e.S.Procs.length))) (inX k e.S.Procs.length/\inX z1.Type_ e.M.Procs.length/\inX z1.Loc (e.M.Procs.getD z1.Type_.toNat default).Locs.length/\BB ((e.M.Procs.getD z1.Type_.toNat default).Locs.getD z1.Loc.toNat default).Progress (LQ (.tup [Aa 0,Aa 0]) (.tup [Aa v,Aa r])) (J (Xw e (i64.wrap (k+(1)))))) (LQ (.tup [Aa 1,Aa 0]) (.tup [Aa v,Aa r])):=by subst a;kernel_rfl
def Ym (r)(l)(out)(k)(J){a}(b:a=out.length+1):((fc Bt Na f34 [] (Ac true r)).loop [1,1,1,0,1,0] J).goal (Ajt l out k) =
  BB (decide (k<(↑l.Esc.length))) (a*8<=140737488355328/\J (Aq [(3,.bp 0 0),(4,.ow 1 0 a),(5,Aa (i64.wrap (k+(1))))] [.box (A4 l),.arr true 0 a 1 λ(i)=>bif i.blt out.length then[Aa (out.getD i 0)]else(λ(i)=>List.take 1 (List.drop (i*1) [Aa k])) (i-out.length)])) (a*8<=140737488355328/\LQ (.sl true a 1 λ(i)=>bif i.blt out.length then[Aa (out.getD i 0)]else(λ(i)=>List.take 1 (List.drop (i*1) [Aa (-1)])) (i-out.length)) (Ac true r)):=by subst b;kernel_rfl
def Ag5 (r:List Int×Int)(e)(l out)(k)(J):((fc Bt Tg f101 [] (.tup [Ac true r.1,Aa r.2])).loop [1,1,0,1,0] J).goal (AdI e l out k) =
  BB (decide (k<(↑l.length))) (inX k l.length/\∃(y:_),VC 54 [VV.agg (Af e),Aa (l.getD k.toNat 0)] (vII y)/\BB (y.snd != 0) (LQ (VV.tup [VV.nl,Aa y.snd]) (VV.tup [Ac true r.fst,Aa r.snd])) ((out.length+1)*8<=140737488355328/\J (Aq [(1,Ac true l),(2,VV.bp 0 0),(6,VV.ow 1 0 (out.length+1)),(7,Aa (i64.wrap (k+(1))))] [Ob.box (Af e),Ob.arr true 0 (out.length+1) 1 λ(i)=>bif i.blt out.length then[Aa (out.getD i 0)]else(λ(i)=>List.take 1 (List.drop (i*1) [Aa y.fst])) (i-out.length)]))) (LQ (VV.tup [Ac true out,Aa 0]) (VV.tup [Ac true r.fst,Aa r.snd])):=kR
def AgU (r:List Int×Int)(f)(l out)(k)(J):((fc Bt Te f142 [] (.tup [Ac true r.1,Aa r.2])).loop [1,1,1,1,1,0,1,0] J).goal (Aju f l out k) =
  BB (decide (k<(↑l.length))) (inX k f.length/\inX k l.length/\∃(y:_),VC 150 [VV.agg (Bp (f.getD k.toNat default)),Aa (l.getD k.toNat 0)] (Aa y)/\(out.length+1)*8<=140737488355328/\J (Aq [(8,Ac true l),(10,VV.ow 0 0 (out.length+1)),(11,AE true f),(12,Aa (i64.wrap (k+(1))))] [Ob.arr true 0 (out.length+1) 1 λ(i)=>bif i.blt out.length then[Aa (out.getD i 0)]else(λ(i)=>List.take 1 (List.drop (i*1) [Aa y])) (i-out.length)])) (LQ (VV.tup [Ac true out,Aa 0]) (VV.tup [Ac true r.fst,Aa r.snd])):=kR
def Abv (r)(e)(c)(m l)(k)(J):((fc Bt Ji f186 [] (BD true r)).loop [1,1,1,1,0,1,0] J).goal (AdA e c m l k) =
  BB (decide (k<(↑l.length))) (inX k l.length/\∃(y:_),VC 36 [VV.agg (Af e),Aa (l.getD k.toNat 0)] (Ao true y)/\Au ((fc Bt Ji f186 [] (BD true r)).loop [1,1,1,1,0,1,0] J) [1,0,0,1,1,0,1,0] (Aq [(1,Aa c),(2,Ac true m),(3,VV.bp 0 0),(9,Ac true l),(10,Aa k),(11,Ao true y),(12,VV.nl),(13,Aa 0)] [Ob.box (Af e)])) (LQ VV.nl (BD true r)):=kR
def Abu (r)(e)(c)(m l)(k)(t)(out)(j)(J J2):(((fc Bt Ji f186 [] (BD true r)).loop [1,1,1,1,0,1,0] J).loop [1,0,0,1,1,0,1,0] J2).goal (Xr e c m l k t out j) =
  BB (decide (j<(↑t.length))) (inX j t.length/\∃(y:_),VC 218 [VV.agg (Af e),VV.agg (An (t.getD j.toNat default).S),Aa c,Ac true m] (Ad y)/\BB y (inX k l.length/\(out.length+1)*24<=140737488355328/\J2 (Aq [(1,Aa c),(2,Ac true m),(3,VV.bp 0 0),(9,Ac true l),(10,Aa k),(11,Ao true t),(12,VV.ow 1 0 (out.length+1)),(13,Aa (i64.wrap (j+(1))))] [Ob.box (Af e),Ob.arr true 0 (out.length+1) 3 λ(i)=>bif i.blt out.length then Hf (out.getD i default)else(λ(i)=>List.take 3 (List.drop (i*3) [Aa e.Pid,Aa (l.getD k.toNat 0),Aa j])) (i-out.length)])) (J2 (Xr e c m l k t out (i64.wrap (j+(1)))))) (∃(y:_),VC 219 [VV.agg (Af e),Ao true t,Ad true] (Ad y)/\BB (bif decide ((↑out.length:Int) > 0)then true else y) (LQ (BD true out) (BD true r)) (J (AdA e c m l (i64.wrap (k+(1)))))):=kR
def Yp (r)(e)(c)(m)(out)(k)(J):((fc Bt Nb f143 [] (BD true r)).loop [1,1,0,1,0] J).goal (AdD e c m out k) =
  BB (decide (k<(↑e.S.Procs.length))) (BB (k != e.Pid) (∃(y:_),VC 58 [VV.agg (Af e),Aa k] (VV.agg (Af y))/\∃(a:_),VC 186 [VV.agg (Af y),Aa c,Ac true m] (BD true a)/\(out.length+a.length)*24<=140737488355328/\(∀(i),i<a.length->(DA a i).all VV.mem1)/\J (Aq [(1,Aa c),(2,Ac true m),(3,VV.bp 0 0),(7,VV.ow 1 0 (out.length+a.length)),(8,Aa (i64.wrap (k+(1))))] [Ob.box (Af e),Ob.arr true 0 (out.length+a.length) 3 λ(i)=>bif i.blt out.length then DA out i else DA a (i-out.length)])) (J (AdD e c m out (i64.wrap (k+(1)))))) (LQ (BD true out) (BD true r)):=kR
def Abm (b)(e)(ws)(self)(k)(J):((fc Bt Pz f219 [] (Ad b)).loop [1,0,1,0] J).goal (Xq e ws self k) =
  BB (decide (k<(↑ws.length))) (inX k ws.length/\∃(y:_),VC 55 [VV.agg (Af e),VV.agg (An (ws.getD k.toNat default).S),Ad self] (VV.agg (A6 y))/\((true&&y.is==false)->inX k ws.length)/\BB (bif y.is then true else(ws.getD k.toNat default).S.Kind==7) (LQ (Ad true) (Ad b)) (J (Xq e ws self (i64.wrap (k+(1)))))) (LQ (Ad false) (Ad b)):=kR
def AbU (r)(e)(ws)(out)(any)(k)(J):((fc Bt Jk f35 [] (BG true r)).loop [1,1,1,0,1,0] J).goal (Ajv e ws out any k) =
  BB (decide (k<(↑ws.length))) (inX k ws.length/\∃(y:_),VC 55 [VV.agg (Af e),VV.agg (An (ws.getD k.toNat default).S),Ad false] (VV.agg (A6 y))/\(out.length+1)*40<=140737488355328/\J (Aq [(1,Ao true ws),(2,VV.bp 0 0),(5,VV.ow 1 0 (out.length+1)),(6,Ad (bif any then true else y.is)),(7,Aa (i64.wrap (k+(1))))] [Ob.box (Af e),Ob.arr true 0 (out.length+1) 3 λ(i)=>bif i.blt out.length then A6 (out.getD i default)else(λ(i)=>List.take 3 (List.drop (i*3) (A6 y))) (i-out.length)])) (Au (fc Bt Jk f35 [] (BG true r)) [1,1,1,1,0,1,0] (T6 ws out any (0))):=kR
def AbT (r)(ws)(out)(any)(k)(J):((fc Bt Jk f35 [] (BG true r)).loop [1,1,1,1,0,1,0] J).goal (T6 ws out any k) =
  BB (decide (k<(↑ws.length))) (inX k ws.length/\BB ((ws.getD k.toNat default).S.Kind==7) (inX k out.length/\J (Aq [(1,Ao true ws),(5,VV.ow 0 0 out.length),(6,Ad any),(9,Aa (i64.wrap (k+(1))))] [Ob.arr true 0 out.length 3 λ(j)=>bif j.beq k.toNat then[Ad !any,Aa (out.getD k.toNat default).err,BD true (out.getD k.toNat default).wth]else A6 (out.getD j default)])) (J (T6 ws out any (i64.wrap (k+(1)))))) (LQ (BG true out) (BG true r)):=kR
def R9 (r)(e)(op)(l)(out)(k)(J):((fc Bt EG f18 [] (AZ true r)).loop [1,1,1,1,1,1,0,1,0] J).goal (T5 e op l out k) =
  BB (bif bif decide (k<(↑l.length))then op else false then(↑out.length:Int)==0 else false) (inX k l.length/\∃(y:_),VC 36 [VV.agg (Af e),Aa (l.getD k.toNat 0)] (Ao true y)/\∃(a:_),VC 35 [VV.agg (Af e),Ao true y] (BG true a)/\Au ((fc Bt EG f18 [] (AZ true r)).loop [1,1,1,1,1,1,0,1,0] J) [1,0,0,1,1,0] (PS e op l out k a (0))) (LQ (AZ true out) (AZ true r)):=kR
def Abe (r)(e)(op)(l)(out)(k)(c)(j)(J J2){a}(d:a=[Aa (l.getD k.toNat 0),Aa j,Aa (-1),Aa (-1),Aa (-1),Aa (c.getD j.toNat default).err]){f}(g:f=((fc Bt EG f18 [] (AZ true r)).loop [1,1,1,1,1,1,0,1,0] J).loop [1,0,0,1,1,0] J2){b}(h:b=c.getD j.toNat default):(((fc Bt EG f18 [] (AZ true r)).loop [1,1,1,1,1,1,0,1,0] J).loop [1,0,0,1,1,0] J2).goal (PS e op l out k c j) =
  BB (decide (j<(↑c.length))) (inX k l.length/\inX j c.length/\inX j c.length/\((true&&b.is==true)->inX j c.length)/\BB (bif b.is then(↑b.wth.length:Int)==0 else false) ((out.length+1)*48<=140737488355328/\Au f [1,0,0,1,1,1,0] (Aq [(1,.bp 0 0),(3,Ad op),(5,Ac true l),(6,.ow 1 0 (out.length+1)),(7,Aa k),(8,BG true c),(9,Aa j),(10,.bp 2 0),(11,Aa 0)] [.box (Af e),.arr true 0 (out.length+1) 6 λ(i)=>bif i.blt out.length then AW (out.getD i default)else(λ(i)=>List.take 6 (List.drop (i*6) a)) (i-out.length),.box a])) (Au f [1,0,0,1,1,1,0] (Aq [(1,.bp 0 0),(3,Ad op),(5,Ac true l),(6,.ow 1 0 out.length),(7,Aa k),(8,BG true c),(9,Aa j),(10,.bp 2 0),(11,Aa 0)] [.box (Af e),.arr true 0 out.length 6 (Fa out),.box a]))) (J (T5 e op l out (i64.wrap (k+(1))))):=by subst d g h;kernel_rfl
def Abd (r)(e)(op)(l)(out)(k)(c)(j)(w)(h)(J J2 J3){z1}(b:z1=(c.getD j.toNat default).wth.getD h.toNat default){d}(f:d=[Aa w.Esc,Aa w.Way,Aa z1.pid,Aa z1.esc,Aa z1.way,Aa w.Err]){a}(g:a=c.getD j.toNat default):((((fc Bt EG f18 [] (AZ true r)).loop [1,1,1,1,1,1,0,1,0] J).loop [1,0,0,1,1,0] J2).loop [1,0,0,1,1,1,0] J3).goal (Xp e op l out k c j w h) =
  (inX j c.length/\BB (decide (h<(↑a.wth.length))) (inX j c.length/\inX h a.wth.length/\inX j c.length/\inX h a.wth.length/\inX j c.length/\inX h a.wth.length/\(out.length+1)*48<=140737488355328/\J3 (Aq [(1,.bp 0 0),(3,Ad op),(5,Ac true l),(6,.ow 1 0 (out.length+1)),(7,Aa k),(8,BG true c),(9,Aa j),(10,.bp 2 0),(11,Aa (i64.wrap (h+(1))))] [.box (Af e),.arr true 0 (out.length+1) 6 λ(i)=>bif i.blt out.length then AW (out.getD i default)else(λ(i)=>List.take 6 (List.drop (i*6) d)) (i-out.length),.box d])) (J2 (PS e op l out k c (i64.wrap (j+(1)))))):=by subst b f g;kernel_rfl
def AbZ (r)(m)(s)(out)(k)(J):((fc Bt PD f16 [] (AM true r)).loop [1,1,0,1,0] J).goal (Ajy m s out k) =
  BB (decide (k<(↑s.Procs.length))) (∃(y:_),VC 18 [VV.agg [AE true m.Globals,Ac true m.Init,A1 true m.Shapes,Ac true m.Chans,Bb true m.Procs,Aa m.Claim,Bf true m.Exprs,Ac true s.Globals,AG true s.Chans,Aw true s.Procs,Aa s.Last,Aa s.Alone,Aa s.Claim,Aa k,Ad false,VV.nl]] (AZ true y)/\(out.length+1)*1<=140737488355328/\J (Aq [(2,VV.bp 0 0),(3,VV.bp 1 0),(5,VV.ow 2 0 (out.length+1)),(6,Aa (i64.wrap (k+(1))))] [Ob.box (Ag m),Ob.box (Ae s),Ob.arr true 0 (out.length+1) 1 λ(i)=>bif i.blt out.length then[Ad (out.getD i false)]else(λ(i)=>List.take 1 (List.drop (i*1) [Ad (decide ((↑y.length:Int) > 0))])) (i-out.length)])) (LQ (AM true out) (AM true r)):=kR
end Go.Proofs.YtboifkdeeigcaaaGreatDoor
namespace Go.Proofs.YtboifkdeeigcaaaGreatDoor
open Go.RowKit Go.Proofs.Tryz
open IntKind(i64)
def H1 {a b c d}(h1:a=c)(h2:b=d):leO [] []/\VV.le (.tup [.sc (.int .i64 a),.sc (.int .i64 b)]) (.tup [.sc (.int .i64 c),.sc (.int .i64 d)]):=⟨trivial,Asw (by rw[h1,h2])⟩
def Adn (n):wrap32 (i64.wrap n)=wrap32 n:=by rw[IntKind.wrap_i64];unfold wrap32;omega
def Yk (t):Ai prog 190 [] [.agg (Bp t)] [] (Ad (decide (1<=t.Bits)&&decide (t.Bits<=32))) :=
 Ay func190 (Abr _ t) (AB (A8 _ _))
def Hx (t)(v):Ai prog 150 [] [.agg (Bp t),Aa v] [] (Aa (F6 t.Bits t.Signed v)):=by
 refine Ay func150 (AkB _ t v rfl rfl rfl rfl) ⟨_,Yk t,λh=>BY ?_,λh=>?_⟩
 .exact(Aen _ _ _ (by simp at h;omega)).symm
 have a:1<=t.Bits/\t.Bits<=32:=by simpa using h
 have hp:=AkU _ a.1 a.2;have i:IntKind.u64.wrap t.Bits=t.Bits:=by unfold IntKind.wrap;simp[IntKind.bits];omega
 have j:i64.wrap ((1:Int)*2 ^ min (IntKind.u64.wrap t.Bits).toNat i64.bits)=2 ^ t.Bits.toNat:=by
  rw[i,Nat.min_eq_left (by show t.Bits.toNat<=64;omega),Int.one_mul,AT oM oM]
 have e:=AhW t.Bits v;have f:=AhX t.Bits v;have g:=AhV t.Bits v;rw[j];generalize(2:Int) ^ t.Bits.toNat=q at hp e f g |-;have k:=Aqn v q oM;have t2:=Aqo v q oM;have l:=Atj v (b:=q) oM;have m:=Int.emod_lt_of_pos v (b:=q) oM;have hd:i64.wrap (q.tdiv 2)=q / 2:=by rw[Int.tdiv_eq_ediv_of_nonneg oM,AT oM oM]
 rw[hd];have d:∀x,x=v % q->((bif t.Signed then decide (x>=q / 2)else false)=true->x-q=F6 t.Bits t.Signed v)/\((bif t.Signed then decide (x>=q / 2)else false)=false->x=F6 t.Bits t.Signed v):=by
  intro x c;cases hs:t.Signed with
  | true=>exact⟨λh=>e x a.1 a.2 c (ArD h),λh=>f x a.1 a.2 c (by have:=ArP h;omega)⟩
  | false=>exact⟨λh=>(by cases h),λ_=>g x a.1 a.2 c⟩
 refine⟨oM,oM,λh1=>⟨λ_=>dZ,?_⟩,λh1=>⟨λ_=>dZ,?_⟩⟩
 .have c:=k (ArD h1);rw[AT oM oM];obtain⟨k1,k2⟩:=d _ c;exact⟨λh=>BY (by rw[AT oM oM];exact k1 h),λh=>BY (k2 h)⟩
 .have c:=t2 (by have:=ArP h1;omega);obtain⟨k1,k2⟩:=d _ c;exact⟨λh=>BY (by rw[AT oM oM];exact k1 h),λh=>BY (k2 h)⟩
def E3 (v):Ai prog 138 [] [Aa v] [] (Aa (wrap32 v)) :=
 Ay func138 (AkA _ v) ⟨_,Hx ⟨32,true⟩ v,BY (AlB v)⟩
def Sd (c):Ai prog 139 [] [Ad c] [] (Aa (Iy c)) :=
 Ay func139 (AgT _ c) ⟨λh=>BY (by rw[h]<;>rfl),λh=>BY (by rw[h]<;>rfl)⟩
def AmT {a n}(h:0<n):Dp (wrap32 (2*a)) (n-1)=Dp a n:=by
 unfold Dp;rw[ArY oM,ArY oM,<- AdR,<- AdR,Adl,show n.toNat=(n-1).toNat+1 by omega,Int.pow_succ]
 congr 1
 grind
def AjX {a n}(b:-2147483648<=a/\a<=2147483647)(h:n<0):Dp (a / 2) (n+1)=Dp a n:=by
 have e:Dp a n=a / 2 ^ (-n).toNat:=by unfold Dp;rw[ArG oM,<- AdO _ _ b.1 b.2]
 rw[e]
 by_cases h0:n+1=0
 .rw[h0,show(-n).toNat=1 by omega];unfold Dp;rw[ArY oM];exact(congrArg wrap32 (Int.mul_one _)).trans (Lm oM oM)
 .have:=XC a (-(n+1)).toNat;unfold Dp;rw[ArG oM,<- AdO _ _ oM oM,show(-n).toNat=(-(n+1)).toNat+1 by omega,<- this,Int.ediv_ediv_of_nonneg oM,Int.ediv_ediv_of_nonneg (Int.le_of_lt (Int.pow_pos dZ)),Int.mul_comm]
def AmS {a n}(b:-2147483648<=a/\a<=2147483647)(h:n=0\/a=0\/a=-1/\n<0):Dp a n=a:=by
 unfold Dp;rcases h with rfl|rfl|⟨rfl,h⟩
 .exact(congrArg wrap32 (Int.mul_one _)).trans (Lm b.1 b.2)
 .split
  .rw[Int.zero_mul];exact Lm dZ dZ
  .exact Int.zero_ediv _
 .rw[ArG oM];exact Int.ediv_eq_neg_one_of_neg_of_le dZ (by have:=Int.pow_pos (n:=2) (m:=min (-n).toNat 32) dZ;omega)
def P1 {a n}(d:-2147483648<=a/\a<=2147483647)(e:-2147483648<=n/\n<=2147483648):Ai prog 141 [] [Aa a,Aa n] [] (Aa (Dp a n)):=by
 generalize b:Dp a n=r;refine Ay func141 (Abo r a n) ?_;refine Az (λg st=>∃a n:Int,g=n.toNat/\(-2147483648<=a/\a<=2147483647)/\(-2147483648<=n/\n<=2147483648)/\Dp a n=r/\st=NH a n) ⟨_,Up.of ⟨a,n,rfl,d,e,b,rfl⟩⟩ ?_;rintro g st ⟨a,n,rfl,d,e,b,rfl⟩;refine ArC (Yi r a n _) ⟨λh=>?_,λh=>?_⟩
 .have c:0<n/\a≠0:=by simpa using h
  refine⟨_,E3 _,(n-1).toNat,oM,Up.of ⟨_,n-1,rfl,BL _,oM,?_,by rw[AT (n:=n-1) oM oM]⟩⟩;rw[AT oM oM,AmT c.1,b]
 have c:n<=0\/a=0:=by
  rcases Int.lt_or_le 0 n with h0|h0
  .simp[h0]at h;exact .inr h
  .exact .inl h0
 refine Az (λg st=>∃a n:Int,g=(-n).toNat/\(-2147483648<=a/\a<=2147483647)/\(-2147483648<=n/\n<=2147483648)/\(n<=0\/a=0)/\Dp a n=r/\st=NH a n) ⟨_,Up.of ⟨a,n,rfl,d,e,c,b,rfl⟩⟩ ?_;clear e d b c h;rintro g st ⟨a,n,rfl,d,e,c,b,rfl⟩;refine ArC (Yh r a n _) ⟨λh=>?_,λh=>BY ?_⟩
 .have k:n<0/\a≠0/\a≠-1:=by simpa[A8,and_assoc]using h
  have hs:=AjX d k.1;have f:i64.wrap (n+1)=n+1:=AT oM oM;refine⟨λh1=>⟨dZ,(-(n+1)).toNat,oM,Up.of ⟨a / 2,n+1,rfl,oM,oM,.inl oM,hs.trans b,?_⟩⟩,λh1=>⟨dZ,(-(n+1)).toNat,oM,Up.of ⟨a / 2,n+1,rfl,oM,oM,.inl oM,hs.trans b,?_⟩⟩⟩
  .rw[f,AT (n:=a-1) oM oM,Aln a (ArD h1),AT oM oM]
  .have:=ArP h1;rw[f,Int.tdiv_eq_ediv_of_nonneg oM,AT oM oM]
 .rw[<- b,AmS d]
  by_cases h0:n<0
  .simp[h0]at h
   by_cases h1:a=0
   .exact .inr (.inl h1)
   .exact .inr (.inr ⟨h h1,h0⟩)
  .rcases c with c|c
   .exact .inl oM
   .exact .inr (.inl c)
def AgC (op a b):Ai prog 93 [] [Aa op,Aa a,Aa b] [] (vII (Em op a b,Gm op b)):=by
  have c:=BL a;have d:=BL b
  by_cases e:6<=op/\op<=21
  · rcases(by omega:op=6\/op=7\/op=8\/op=9\/op=10\/op=11\/op=12\/op=13\/op=14\/op=15\/op=16\/op=17\/op=18\/op=19\/op=20\/op=21)with rfl|rfl|rfl|rfl|rfl|rfl|rfl|rfl|rfl|rfl|rfl|rfl|rfl|rfl|rfl|rfl
    all_goals
      refine Ay func93 (Yb _ _ _ a b rfl rfl rfl rfl) ⟨_,E3 a,_,E3 b,λh=>?_,λh=>?_⟩
      · first
          | (exfalso;simp at h;done)
          | (have h0:wrap32 b=0:=by simpa using h
             exact H1 (by simp[Em,h0]) (by simp[Gm,h0]))
      repeat (first
        | refine⟨λh=>absurd h dZ,λ_=>?_⟩
        | refine⟨λ_=>?_,λh=>absurd h dZ⟩)
      first
        | exact⟨_,E3 _,H1 (Adn _) rfl⟩
        | exact⟨_,Sd _,H1 rfl rfl⟩
        | exact⟨_,P1 c oM,H1 rfl rfl⟩
        | exact⟨_,P1 c (by rw[AT oM oM];omega),H1 (by rw[AT oM oM,Int.zero_sub]<;>rfl) rfl⟩
        | (have h0:wrap32 b≠0:=by simpa using h
           first
             | exact⟨h0,_,E3 _,H1 (by simp only[Em,ArG h0];exact Adn _) (by simp[Gm,h0])⟩
             | exact⟨h0,H1 (by simp[Em,h0]) (by simp[Gm,h0])⟩)
        | exact H1 (Pm .and sM _ _ c d) rfl
        | exact H1 (Pm .or sM _ _ c d) rfl
        | exact H1 (Pm .xor sM _ _ c d) rfl
  · have h1:Em op a b=0:=by unfold Em;repeat (rw[ArG oM])
    have h2:Gm op b=42:=by unfold Gm;rw[ArG oM,ArG oM]
    have ne:∀{k:Int},6<=k->k<=21->(op==k)=true->False:=λh1 h2 h=>by simp at h;omega
    refine Ay func93 (Yb _ _ op a b rfl rfl rfl rfl) ⟨_,E3 a,_,E3 b,λh=>?_,λ_=>?_⟩
    · simp at h;omega
    repeat refine⟨λh=>(ne dZ dZ h).elim,λ_=>?_⟩
    exact H1 h1.symm h2.symm
def AgR (op a):Ai prog 88 [] [Aa op,Aa a] [] (vII (MM op a,VZ op)):=by
 have b:=BL a;refine Ay func88 (Aku _ _ op a) ⟨_,E3 a,λh=>⟨_,E3 _,?_⟩,λh3=>⟨λh=>⟨_,Sd _,?_⟩,λh4=>⟨λh=>?_,λh5=>?_⟩⟩⟩
 .obtain rfl:op=3:=by simpa using h
  exact H1 (by rw[AT oM oM,Int.zero_sub]<;>rfl) rfl
 .obtain rfl:op=4:=by simpa using h
  exact H1 rfl rfl
 .obtain rfl:op=5:=by simpa using h
  exact H1 (by rw[AT (n:=0-_) oM oM,AT oM oM,Int.zero_sub]<;>rfl) rfl
 .simp at h3 h4 h5;exact H1 (by unfold MM;rw[ArG h3,ArG h4,ArG h5]) (by unfold VZ;rw[ArG oM])
def P5 {x l mt}(g:Len mt.length):Ai prog 144 [] [Ac true x,Ac true l,Ac true mt] [] (Ad (Ec x l mt)):=by
 unfold Len at g;refine Ay func144 (AbB _ x l mt) ⟨λh=>AB ?_,λh=>?_⟩
 .symm;unfold Ec;grind
 .have o:mt.length<=x.length/\mt.length<=l.length:=by simp at h;omega
  have j:Ec x l mt=CL mt.length λi=>!(decide (mt.getD i 0=1)&&decide (x.getD i 0≠l.getD i 0)):=by
   unfold Ec;grind
  rw[j];refine AA mt.length (λk=>AdE x l mt k) (λk=>∀i,i<k->(!(decide (mt.getD i 0=1)&&decide (x.getD i 0≠l.getD i 0)))=true) (λi hi=>oM) ?_;intro k hk m J next
  refine ArC (Yq _ x l mt k J) ⟨λc=>?_,λn=>AB ?_⟩
  .have b:k<mt.length:=by have:=AQ c;omega
   have d:(k:Int).toNat=k:=oM
   rw[d];refine⟨⟨oM,oM⟩,λ_=>⟨oM,oM⟩,λ_=>⟨oM,oM⟩,λf=>AB ?_,λf=>next _ b (BV m ?_) (Up.of ?_)⟩
   .simp only[A8,ieq,AU]at f;grind[BW]
   .grind
   grind[Aj]
  grind[AP,A0]
def MI {c}{l mt}{any}(n:Len c.Queue.length)(o:Len mt.length):Ai prog 98 [] [.agg (Am c),Ac true l,Ac true mt,Ad any] [] (Aa (F7 c l mt any)):=by
 unfold Len at n;refine Ay func98 (AgX _ c l mt any) ?_;unfold F7;refine AA c.Queue.length (λk=>AdG c l mt any k) (λk=>(any=true\/k=0)/\Ol l mt any 0 c.Queue=Ol l mt any k (c.Queue.drop k)\/any=false/\0<k/\Ol l mt any 0 c.Queue=-1) (.inl ⟨.inr rfl,rfl⟩) ?_;intro k hk f J next
 refine ArC (AbI _ c l mt any k J) ⟨λh=>?_,λi=>BY ?_⟩
 .have b:k<c.Queue.length:=by have:=AQ h;omega
  have j:(k:Int).toNat=k:=oM
  rw[j];rw[Br (d:=[]) b,SM]at f;have m:((k:Int)==0)=decide (k=0):=gD
  rw[m];refine⟨⟨oM,oM⟩,_,P5 o,λp=>BY ?_,λp=>next _ b ?_ (Up.of ?_)⟩
  .grind
  .grind
  grind[Aj]
 .have g:c.Queue.length<=k:=by have:=AP i;omega
  rw[ArU g]at f;rcases f with⟨_,f⟩ | ⟨_,_,f⟩<;>exact f.symm
abbrev EvR (e:D.Env)(a:Int)(p:Int×Int):Prop:=Ai prog 54 [] [.agg (Af e),Aa a] [] (vII p)
def Es (c):Ai prog 91 [] [Ad c] [] (Aa (C9 c).1) :=
 Ay func91 (AgS _ c) ⟨λh=>BY (by rw[h]<;>rfl),λh=>BY (by rw[h]<;>rfl)⟩
section
variable {e : D.Env} {ev:Evl} {a:Int} {x:D.Expr}
def Si (h:EvR e a (ev a)):Ai prog 140 [] [.agg (Af e),Aa a] [] (vII (CW e ev a)):=by
 refine Ay func140 (Ag1 _ _ e a) ⟨ev a,h,λh=>A7 (ct (by simpa using h) rfl),λh=>⟨λh2=>A7 (cf (by simpa using h) (ct ?_ rfl)),λh2=>A7 (cf (by simpa using h) (cf ?_ rfl))⟩⟩
 .rw[Bj]at h2;exact h2
 grind
def Mu (ev:Evl)(args mt:List Int):List Int×Int:=bif decide (Dn ev args mt args.length≠0)then([],Dn ev args mt args.length)else(C8 ev args mt,0)
def WY {args mt}{k}(hk:k<args.length):(C8 ev args mt).take (k+1)=(C8 ev args mt).take k++[(Dr ev (args.getD k 0) (mt.getD k 0)).1]:=by
 rw[As9];simp[C8,hk]
def Gt {l}{n}{i}(hi:i<l.length+1):(bif i.blt l.length then[Aa (l.getD i 0)]else List.take 1 (List.drop ((i-l.length)*1) [Aa n]))=AD (l++[n]) i :=
 Bu (f:=λn=>[Aa n]) (d:=0) (l:=l) (r:=[n]) (F:=λi=>[Aa (l.getD i 0)]) (λ_ _=>rfl) Fs (by simp;omega)
def PY {args mt}(v:args.length<=1048576)(w:mt.length=args.length)(q:∀a∈args,EvR e a (ev a)) :
  Ai prog 97 [] [.agg (Af e),Ac true args,Ac true mt] [] (.tup [Ac true (Mu ev args mt).1,Aa (Mu ev args mt).2]):=by
 have g:Mu ev args mt=bif decide (Dn ev args mt args.length≠0)then([],Dn ev args mt args.length)else(C8 ev args mt,0):=rfl
 generalize Mu ev args mt=r at g;refine Ay func97 (Abf r e args mt) ?_;refine Au.own 3 8 1 (AD []) rfl ?_;have c:∀k,k<=args.length->((C8 ev args mt).take k).length=k:=λk hk=>by simp[C8];omega
 refine Az (λgg st=>∃k:Nat,k<=args.length/\gg=args.length-k/\(∀i,i<k->(Dr ev (args.getD i 0) (mt.getD i 0)).2=0)/\st=Ajr e args mt ((C8 ev args mt).take k) k) ⟨args.length,Up.of ⟨0,Arv _,rfl,λi hi=>oM,rfl⟩⟩ ?_;rintro gg st ⟨k,hk,rfl,o,rfl⟩;have s:=c k hk;refine ArC (Ya r e args mt _ k _ rfl) ⟨λh=>?_,λj=>?_⟩
 .have b:k<args.length:=by have:=AQ h;omega
  have l:(k:Int).toNat=k:=oM
  rw[l];have go:∀n,n=(Dr ev (args.getD k 0) (mt.getD k 0)).1->(Dr ev (args.getD k 0) (mt.getD k 0)).2=0->(((C8 ev args mt).take k).length+1)*8<=140737488355328/\∃p,p<args.length-k/\Up (λst=>∃k:Nat,k<=args.length/\p=args.length-k/\(∀i,i<k->(Dr ev (args.getD i 0) (mt.getD i 0)).2=0)/\st=Ajr e args mt ((C8 ev args mt).take k) k) (Aq [(1,Ac true args),(2,Ac true mt),(3,VV.bp 0 0),(8,VV.ow 1 0 (((C8 ev args mt).take k).length+1)),(9,Aa (i64.wrap ((k:Int)+1)))]
    [Ob.box (Af e),Ob.arr true 0 (((C8 ev args mt).take k).length+1) 1 λi=>bif i.blt ((C8 ev args mt).take k).length then[Aa (((C8 ev args mt).take k).getD i 0)]else(λi=>List.take 1 (List.drop (i*1) [Aa n])) (i-((C8 ev args mt).take k).length)]):=by
   intro n t d;refine⟨oM,args.length-(k+1),oM,Up.mk (l':=[(1,Ac true args),(2,Ac true mt),(3,VV.bp 0 0),(8,VV.ow 1 0 ((C8 ev args mt).take (k+1)).length),(9,Aa ((k+1:Nat):Int))]) (hs':=[.box (Af e),.arr true 0 ((C8 ev args mt).take (k+1)).length 1 (AD ((C8 ev args mt).take (k+1)))]) ?_ ?_ ⟨k+1,b,rfl,BV o d,rfl⟩⟩
   .grind[Aj,AH]
   .rw[WY b,<- t,ArA];exact⟨Ob.le_refl _,ArT λi hi=>AO (Gt hi),trivial⟩
  refine⟨⟨oM,oM⟩,λf=>⟨⟨oM,oM⟩,ev (args.getD k 0),q _ (Av b),λd=>?_,λd=>?_⟩,λf=>?_⟩
  .have hv:Dr ev (args.getD k 0) (mt.getD k 0)=ev (args.getD k 0):=by unfold Dr;rw[<- ieq,f]<;>rfl
   have u:(Dr ev (args.getD k 0) (mt.getD k 0)).2≠0:=by rw[hv];simpa using d
   have m:Dn ev args mt args.length=(ev (args.getD k 0)).2:=by
    unfold Dn;grind[On]
   rw[g,m,ArR (by simpa using d)];exact⟨trivial,Aso ⟨Ar2,lR,trivial⟩⟩
  .have hv:Dr ev (args.getD k 0) (mt.getD k 0)=ev (args.getD k 0):=by unfold Dr;rw[<- ieq,f]<;>rfl
   simp_all
  .have hv:Dr ev (args.getD k 0) (mt.getD k 0)=(0,0):=by unfold Dr;rw[<- ieq,f]<;>rfl
   simp_all
 .obtain rfl:k=args.length:=by have:=AP j;omega
  have m:Dn ev args mt args.length=0:=Je o;rw[g,m,Ar8 (by simp[C8])];exact⟨trivial,lR⟩
end
section
variable {e : D.Env} {ev:Evl} {x:D.Expr}
def AbX (i:BJ e)(v:25<=x.Op/\x.Op<=30)(h:EvR e x.A (ev x.A))(hp:x.Op=30->x.Args.length<=8/\x.Match.length=x.Args.length/\∀a∈x.Args,EvR e a (ev a)) :
  Ai prog 90 [] [.agg (Af e),.agg (AL x)] [] (vII (if x.Op=30 then Mk e ev x else Mp e ev x)):=by
 have b:(if x.Op=30 then Mk e ev x else Mp e ev x)=bif decide ((CW e ev x.A).2≠0)then(0,(CW e ev x.A).2)
   else if x.Op=30 then(bif decide ((B8 e.M (BS e (CW e ev x.A).1).Shape).Fields.length≠x.Args.length)then(0,49)
    else bif decide (Dn ev x.Args x.Match x.Args.length≠0)then(0,Dn ev x.Args x.Match x.Args.length)
    else C9 (decide (0<=F7 (BS e (CW e ev x.A).1) (C8 ev x.Args x.Match) x.Match (decide (x.N=1)))))
   else Aoh x.Op (B8 e.M (BS e (CW e ev x.A).1).Shape).Room (BS e (CW e ev x.A).1).Queue.length:=by
  unfold Mk Mp;cases decide ((CW e ev x.A).2≠0)<;>split<;>rfl
 generalize(if x.Op=30 then Mk e ev x else Mp e ev x)=R at b;refine Ay func90 (Ag4 _ _ e x rfl rfl) ⟨CW e ev x.A,Si h,λh=>A7 (by rw[b];exact ct (by simpa using h) rfl),λh=>?_⟩;have h0:decide ((CW e ev x.A).2≠0)=false:=by simpa using h
 rw[h0,Arq]at b;have j:=Q9 i (ArP h0);generalize(CW e ev x.A).1=n at j b;rw[AT oM oM];have f:=Av (d:=default) (show(n-1).toNat<e.S.Chans.length by omega);have hs:=(EW (i.chan f)).1;have l:=(i.fit.q _ f).1;refine⟨⟨oM,oM⟩,hs,λk=>A7 ?_,λk1=>⟨λk=>⟨_,Es _,A7 ?_⟩,λk2=>⟨λk=>⟨_,Es _,A7 ?_⟩,λm=>⟨λk=>⟨_,Es _,A7 ?_⟩,λo=>⟨λk=>⟨_,Es _,A7 ?_⟩,λp=>?_⟩⟩⟩⟩⟩
 .rw[b,show x.Op=25 by simpa using k]<;>rfl
 .rw[b,show x.Op=26 by simpa using k]<;>rfl
 .rw[b,show x.Op=27 by simpa using k,ieq]<;>rfl
 .rw[b,show x.Op=28 by simpa using k]<;>rfl
 .rw[b,show x.Op=29 by simpa using k]<;>rfl
 simp only[beq_eq_false_iff_ne]at k1 k2 m o p;have g:x.Op=30:=oM
 obtain⟨w,r,s⟩:=hp g;rw[ArY g]at b;have t:(((e.M.Shapes.getD (e.S.Chans.getD (n-1).toNat default).Shape.toNat default).Fields.length:Int) != (x.Args.length:Int))=decide ((B8 e.M (BS e n).Shape).Fields.length≠x.Args.length):=by
  rw[Ase,bne_iff_ne,Ary];unfold B8 BS;omega
 rw[t];have u:BS e n=e.S.Chans.getD (n-1).toNat default:=rfl;refine⟨λh1=>A7 (by rw[b,h1]<;>rfl),λh1=>⟨Mu ev x.Args x.Match,PY oM r s,λh2=>A7 ?_,λh2=>⟨_,MI (by unfold Len;omega) (by unfold Len;omega),_,Es _,A7 ?_⟩⟩⟩
 .rw[b,h1,Arq];unfold Mu at h2 |-;cases c:decide (Dn ev x.Args x.Match x.Args.length≠0)with
  | true=>rfl
  | false=>rw[c]at h2;cases h2
 .rw[b,h1,Arq,u];unfold Mu at h2 |-;cases c:decide (Dn ev x.Args x.Match x.Args.length≠0)with
  | true=>rw[c]at h2;exact absurd (ArD c) (by simpa using h2)
  | false=>rw[ieq]<;>rfl
def Abx (_:x.Op=36\/x.Op=37\/x.Op=38)(h:EvR e x.A (ev x.A))(g:Len x.Args.length) :
  Ai prog 92 [] [.agg (Af e),.agg (AL x)] [] (vII (if x.Op=36 then Qh e ev x else GJ e ev x)):=by
 unfold Len at g;have a:(if x.Op=36 then Qh e ev x else GJ e ev x)=bif decide ((ev x.A).2≠0)then(0,(ev x.A).2)
   else if x.Op=36 then C9 (decide (0<=(ev x.A).1)&&(decide ((ev x.A).1<e.Able.length)&&e.Able.getD (ev x.A).1.toNat false))
   else bif decide ((ev x.A).1<0)||(decide ((e.S.Procs.length:Int)<=(ev x.A).1)||(decide (x.Op=38)&&decide ((DB e (ev x.A).1).Type_≠x.N)))then(0,52)
    else bif decide (x.Op=37)then((DB e (ev x.A).1).Loc,0)else C9 (decide ((DB e (ev x.A).1).Loc∈x.Args)):=by
  unfold Qh GJ;cases decide ((ev x.A).2≠0)<;>split<;>rfl
 generalize(if x.Op=36 then Qh e ev x else GJ e ev x)=R at a;refine Ay func92 (AgQ _ _ e x rfl) ⟨ev x.A,h,λh=>A7 (by rw[a];exact ct (by simpa using h) rfl),λh=>?_⟩;have h0:decide ((ev x.A).2≠0)=false:=by simpa using h
 rw[h0,Arq]at a;generalize(ev x.A).1=n at a;refine⟨λh1=>⟨λh2=>?_,_,Es _,A7 ?_⟩,λh1=>⟨λh2=>?_,λh2=>A7 ?_,λh2=>?_⟩⟩
 .simp at h2;exact⟨oM,oM⟩
 .rw[a,ArY (by simpa using h1)];simp only[A8,AsN,Bool.and_assoc];rfl
 .simp at h2;exact⟨oM,oM⟩
 .rw[a,ArG (by simpa using h1)];simp only[Bj,A8,ieq,AU,AsN,AsP]at h2;exact ct h2 rfl
 have h3:=h2;simp only[Bj,A8,ieq,AU,AsN,AsP]at h3;rw[ArG (by simpa using h1)]at a;have a:R=bif decide (x.Op=37)then((DB e n).Loc,0)else C9 (decide ((DB e n).Loc∈x.Args)):=a.trans (cf h3 rfl).symm
 simp only[ArJ,ArV]at h3;refine⟨⟨oM,oM⟩,λh4=>A7 ?_,λh4=>?_⟩
 .rw[a,<- ieq,h4]<;>rfl
 rw[<- ieq,h4,Arq]at a;change Au _ _ (Xs x (DB e n).Loc false 0);generalize(DB e n).Loc=at' at a;refine AA x.Args.length (λk=>Xs x at' (decide (at'∈x.Args.take k)) k) (λ_=>True) trivial ?_;intro k hk _ J next
 refine ArC (Aby _ _ x at' _ k J) ⟨λc=>?_,λd=>⟨_,Es _,A7 ?_⟩⟩
 .have b:k<x.Args.length:=by have:=AQ c;omega
  have f:(k:Int).toNat=k:=oM
  rw[f];refine⟨λ_=>⟨oM,oM⟩,next _ b trivial (Up.of ?_)⟩;have i:decide (at'∈x.Args.take (k+1))=bif decide (at'∈x.Args.take k)then true else x.Args.getD k 0==at':=by
   rw[Bj,ieq,Ase,As9,Asx,Ary,Ary,Ary,ArX];simp[List.getD,b,eq_comm]
  rw[Aj oM,<- i]
 .rw[a,Ar8 (by have:=AP d;omega)]<;>rfl
def Yr (_:x.Op=22\/x.Op=23\/x.Op=24)(h:EvR e x.A (ev x.A))(hB:EvR e x.B (ev x.B))(a:x.Op=24->EvR e x.C (ev x.C)) :
  Ai prog 89 [] [.agg (Af e),.agg (AL x)] [] (vII (JR ev x)):=by
 refine Ay func89 (AbC _ _ e x rfl rfl) ⟨ev x.A,h,λh=>A7 (ct (by simpa using h) rfl),λh=>?_⟩;have h0:decide ((ev x.A).2≠0)=false:=by simpa using h
 have b:JR ev x=bif decide (x.Op=24)then(bif decide ((ev x.A).1≠0)then ev x.B else ev x.C)
   else bif(decide (x.Op=22)&&decide ((ev x.A).1=0))||(decide (x.Op=23)&&decide ((ev x.A).1≠0))then C9 (decide ((ev x.A).1≠0))
   else bif decide ((ev x.B).2≠0)then(0,(ev x.B).2)else C9 (decide ((ev x.B).1≠0)):=by unfold JR;rw[h0]<;>rfl
 rw[b];generalize(ev x.A).1=n;simp only[A8,ieq,AU];refine⟨λh1=>⟨_,hB,A7 ?_⟩,λh1=>⟨λh2=>⟨_,a (by simpa using h2),A7 ?_⟩,λh2=>⟨λh3=>A7 ?_,λh3=>⟨λh4=>A7 ?_,λh4=>⟨_,hB,λh5=>A7 ?_,λh5=>⟨_,Es _,A7 ?_⟩⟩⟩⟩⟩⟩
 .rw[Arr]at h1;exact ct h1.1 (ct h1.2 rfl)
 .rw[h2,Ar7]at h1;exact ct h2 (cf h1 rfl)
 .refine cf h2 (ct (by rw[h3,Bool.true_or]) ?_);rw[Arr,Ary,Ary]at h3;rw[h3.2]<;>rfl
 .refine cf h2 (ct (by rw[h4,Bool.or_true]) ?_);rw[Arr]at h4;rw[h4.2]<;>rfl
 .exact cf h2 (cf (by rw[h3,h4,As0]) (ct (by simpa using h5) rfl))
 .exact cf h2 (cf (by rw[h3,h4,As0]) (cf (by simpa using h5) rfl))
end
section
variable {e : D.Env} {ev:Evl} {x:Int}
def AbN {R}{v}{who}(hs:0<=v.Slot/\v.Slot<=128/\v.Dims.length<=4)(hd:∀d∈v.Dims,AeC d/\EvR e d.I (ev d.I))
  (h:R=bif decide ((D3 ev v.Slot v.Dims).2≠0)then(0,0,(D3 ev v.Slot v.Dims).2)else(who,(D3 ev v.Slot v.Dims).1,0)) :
  Au (fc Bt HC f87 [] (Kt R)) [1,1,1,1,1,1,1,0,1,0] (Mg e v who v.Slot 0):=by
 obtain⟨h0,h1,h2⟩:=hs;refine Az (λgg st=>∃(k:Nat)(n:Int),k<=v.Dims.length/\gg=v.Dims.length-k/\0<=n/\n<=128+16384*k/\D3 ev n (v.Dims.drop k)=D3 ev v.Slot v.Dims/\st=Mg e v who n k)
  ⟨v.Dims.length,Up.of ⟨0,v.Slot,Arv _,rfl,h0,oM,rfl,rfl⟩⟩ ?_
 generalize D3 ev v.Slot v.Dims=q at h;rintro gg st ⟨k,n,hk,rfl,p,r,b,rfl⟩;refine ArC (Abn _ _ _ e v who n k _ rfl rfl) ⟨λl=>?_,λm=>?_⟩
 .have c:k<v.Dims.length:=by have:=AQ l;omega
  have o:(k:Int).toNat=k:=oM
  rw[o];obtain⟨j,f⟩:=hd _ (Av (d:=default) c);rw[Br (d:=default) c,M0]at b;generalize v.Dims.getD k default=d at j f b |-;refine⟨⟨oM,oM⟩,_,f,λh2=>Gi ?_,λh2=>⟨λ_=>⟨oM,oM⟩,λh3=>Gi ?_,λh3=>⟨⟨oM,oM⟩,?_⟩⟩⟩
  .have a:decide ((ev d.I).2≠0)=true:=by simpa using h2
   rw[a,Art]at b;subst b;rw[h,a]<;>rfl
  .have a:decide ((ev d.I).2≠0)=false:=by simpa using h2
   rw[Bj]at h3;rw[a,Arq,show(decide ((ev d.I).1<0)||decide (d.Len<=(ev d.I).1))=true from h3,Art]at b;subst b;rw[h]<;>rfl
  .have a:decide ((ev d.I).2≠0)=false:=by simpa using h2
   rw[Bj]at h3;have g:(decide ((ev d.I).1<0)||decide (d.Len<=(ev d.I).1))=false:=h3;rw[a,Arq,g,Arq]at b;simp only[ArJ,ArV]at g;have t:=Ack (i:=(ev d.I).1) (s:=d.Stride) (n:=d.Len) oM oM j.l2 j.s1 j.s2;rw[AT (n:=(ev d.I).1*d.Stride) oM oM,AT oM oM,Aj oM];exact⟨v.Dims.length-(k+1),oM,Up.of ⟨k+1,n+(ev d.I).1*d.Stride,oM,rfl,oM,oM,b,rfl⟩⟩
 .obtain rfl:k=v.Dims.length:=by have:=AP m;omega
  rw[As6]at b;subst b;exact Gi h.symm
def Sb (o:BJ e)(j:0<=x/\x<e.M.Exprs.length)(l:TI e.M x (As e.M x))(g:∀a,0<=a->a<x->EvR e a (ev a)) :
  Ai prog 87 [] [.agg (Af e),Aa x] [] (Kt (B9 e ev (As e.M x))):=by
 have hp:=o.pid;have hv:=(o.wf.Exprs.2 _ (Wm j)).V;have f:B9 e ev (As e.M x)=bif decide ((As e.M x).Op≠2)then(0,0,42)else bif decide ((Dl e ev (As e.M x).V).2≠0)then(0,0,(Dl e ev (As e.M x).V).2)
   else bif decide ((D3 ev (As e.M x).V.Slot (As e.M x).V.Dims).2≠0)then(0,0,(D3 ev (As e.M x).V.Slot (As e.M x).V.Dims).2)else((Dl e ev (As e.M x).V).1,(D3 ev (As e.M x).V.Slot (As e.M x).V.Dims).1,0):=rfl
 generalize B9 e ev (As e.M x)=R at f;refine Ay func87 (AgI _ _ _ e x rfl rfl rfl rfl) ⟨j,λh=>Gi ?_,λh=>⟨j,?_⟩⟩
 .rw[f,show decide ((As e.M x).Op≠2)=true by simpa[As]using h]<;>rfl
 have h2:(As e.M x).Op=2:=by simpa[As]using h
 rw[ArK (by simpa using h2),Arq]at f;have vo:=Jv (l.var h2);have m:=vo.scope;have i:=λwho=>AbN (e:=e) (ev:=ev) (R:=R) (v:=(As e.M x).V) (who:=who) ⟨vo.slot.1,vo.slot.2,vo.dims⟩ λd hd=>⟨(vo.dim d hd).1,g _ (vo.dim d hd).2.1 (vo.dim d hd).2.2⟩
 change ∃y,Ai _ _ _ [.agg (BP (As e.M x).V)] _ _/\_;refine⟨_,PW hv,?_⟩;change BB ((As e.M x).V.Scope==0) (BB _ _ (Au _ _ (Mg e (As e.M x).V _ (As e.M x).V.Slot 0))) (BB ((As e.M x).V.Scope==1) (_/\BB _ _ (Au _ _ (Mg e (As e.M x).V _ (As e.M x).V.Slot 0))) (∃q,Ai _ _ _ [_,Aa (As e.M x).V.Who] _ _/\BB _ _ (_/\BB (bif _ then true else _ != (As e.M x).V.Type_) _ (_/\BB _ _ (Au _ _ (Mg e (As e.M x).V _ (As e.M x).V.Slot 0))))));have c:(As e.M x).V.Scope=2->EvR e (As e.M x).V.Who (ev (As e.M x).V.Who):=λh=>g _ (vo.who h).1 (vo.who h).2
 generalize(As e.M x).V=v at f m i c |-;have fin:∀{p:Int×Int},p=Dl e ev v->(p.2≠0->(0,0,p.2)=R)/\(p.2=0->R=bif decide ((D3 ev v.Slot v.Dims).2≠0)then(0,0,(D3 ev v.Slot v.Dims).2)else(p.1,(D3 ev v.Slot v.Dims).1,0)):=λhp=>by
  rw[<- hp]at f;exact⟨λh=>by rw[f,ArR h]<;>rfl,λh=>by rw[f,ArK (by simpa using h)]<;>rfl⟩
 refine⟨λk=>⟨λk1=>Gi ?_,λk1=>i _ ?_⟩,λk=>⟨λk1=>⟨λk2=>?_,λk2=>Gi ?_,λk2=>i _ ?_⟩,λk1=>⟨_,c ?_,λk2=>Gi ?_,λk2=>⟨λb=>?_,λb=>Gi ?_,λb=>⟨?_,λn=>Gi ?_,λn=>i _ ?_⟩⟩⟩⟩⟩
 .exact(fin (p:=(0,42)) (ct (by simpa using k) (ct k1 rfl))).1 dZ
 .exact(fin (p:=(-1,0)) (ct (by simpa using k) (cf k1 rfl))).2 rfl
 .simp at k2;exact⟨oM,oM⟩
 .exact(fin (p:=(0,42)) (cf (by simpa using k) (ct (by simpa using k1) (ct (by rw[Bj]at k2;exact k2) rfl)))).1 dZ
 .exact(fin (p:=(e.Pid,0)) (cf (by simpa using k) (ct (by simpa using k1) (cf (by rw[Bj]at k2;exact k2) rfl)))).2 rfl
 .simp at k k1;omega
 .exact(fin (p:=(0,(ev v.Who).2)) (cf (by simpa using k) (cf (by simpa using k1) (ct (by simpa using k2) rfl)))).1 (by simpa using k2)
 .simp at b;exact⟨oM,oM⟩
 .simp only[Bj,AU,AsN,AsP]at b;exact(fin (p:=(0,52)) (cf (by simpa using k) (cf (by simpa using k1) (cf (by simpa using k2) (ct b rfl))))).1 dZ
 .simp at b;exact⟨oM,oM⟩
 .simp only[Bj,AU,AsN,AsP]at b;exact(fin (p:=(0,42)) (cf (by simpa using k) (cf (by simpa using k1) (cf (by simpa using k2) (cf b (ct n rfl)))))).1 dZ
 .simp only[Bj,AU,AsN,AsP]at b;exact(fin (p:=((ev v.Who).1,0)) (cf (by simpa using k) (cf (by simpa using k1) (cf (by simpa using k2) (cf b (cf n rfl)))))).2 rfl
end
section
variable {e : D.Env} {ev:Evl} {x:Int}
def Abw {R}(j:BJ e)(l:R=C9 (!Gv e)):Au (fc Bt Bx f54 [] (vII R)) [1,1,0,1,0,1,1,1,1,1,1,1,1,1,1,1,1,1,1,1,1,1,0,0,1,0] (Xw e 0):=by
 have q:=j.fit.p;refine AA e.S.Procs.length (λk=>Xw e k) (λk=>∀i,i<k->(!((FE e.M (e.S.Procs.getD i default).Type_).getD (e.S.Procs.getD i default).Loc.toNat default).Progress)=true) (λi hi=>oM) ?_;intro k hk m J next
 refine ArC (AbJ _ _ e k J rfl) ⟨λb=>?_,λc=>A7 ?_⟩
 .have a:k<e.S.Procs.length:=by have:=AQ b;omega
  have g:(k:Int).toNat=k:=oM
  rw[g];have n:=DN (j.proc (Av (d:=default) a));refine⟨⟨oM,oM⟩,n.1,n.2.1,λh=>A7 ?_,λh=>next _ a (BV m ?_) (Up.of ?_)⟩
  .rw[l];unfold Gv;rw[BW (f:=λi=>!((FE e.M (e.S.Procs.getD i default).Type_).getD (e.S.Procs.getD i default).Loc.toNat default).Progress) a (by show(!_)=false;unfold FE;rw[h]<;>rfl)]<;>rfl
  .show(!_)=true;unfold FE;rw[h]<;>rfl
  .rw[Aj oM]<;>rfl
 .have o:e.S.Procs.length<=k:=by have:=AP c;omega
  rw[l];unfold Gv;rw[A0.2 λi hi=>m i oM]<;>rfl
set_option maxHeartbeats 4000000 in
def Se (j:BJ e)(m:0<=x/\x<e.M.Exprs.length)(g:∀a,0<=a->a<x->EvR e a (ev a)):EvR e x (Cu e ev (As e.M x)):=by
  have n:((x.toNat:Nat):Int)=x:=oM
  have f:TI e.M x (As e.M x):=Zi (by have:=j.expr x.toNat oM;rwa [n]at this);have p:=Sb j m f g;have q:=QR (e:=e) (ev:=ev) j (λd=>Jv (f.var d));have k:1<=Ba (As e.M x).Op->EvR e (As e.M x).A (ev (As e.M x).A):=λh=>g _ (f.a h).1 (f.a h).2
  have hB:2<=Ba (As e.M x).Op->EvR e (As e.M x).B (ev (As e.M x).B):=λh=>g _ (f.b h).1 (f.b h).2
  have u:3<=Ba (As e.M x).Op->EvR e (As e.M x).C (ev (As e.M x).C):=λh=>g _ (f.c h).1 (f.c h).2
  have hp:(As e.M x).Op=30->(As e.M x).Args.length<=8/\(As e.M x).Match.length=(As e.M x).Args.length/\∀a∈(As e.M x).Args,EvR e a (ev a):=λd =>
    ⟨(Iw (f.poll d)).1,(Iw (f.poll d)).2.1,λa s=>g _ ((Iw (f.poll d)).2.2 a s).1 ((Iw (f.poll d)).2.2 a s).2⟩
  have i:(if(As e.M x).Op=1\/(As e.M x).Op=2\/22<=(As e.M x).Op then True else Cu e ev (As e.M x)=RH ev (As e.M x)):=by
    split
    · trivial
    · have:=f.op;unfold Cu
      repeat (rw[ArG oM])
  have v:=λb=>Dm (c:=fc Bt Bx f54 [] (vII (Cu e ev (As e.M x)))) Ak Al kR (AkG _ _ e (As e.M x) b rfl)
  have w:=λb=>Dm (c:=fc Bt Bx f54 [] (vII (Cu e ev (As e.M x)))) Ak Al kR (AkF _ _ e (As e.M x) b rfl)
  have y:=λb=>Dm (c:=fc Bt Bx f54 [] (vII (Cu e ev (As e.M x)))) Ak Al kR (AkE _ _ e (As e.M x) b rfl rfl rfl)
  have z:=λb=>Dm (c:=fc Bt Bx f54 [] (vII (Cu e ev (As e.M x)))) Ak Al kR (AkD _ _ e (As e.M x) b)
  have E:=Dm (c:=fc Bt Bx f54 [] (vII (Cu e ev (As e.M x)))) Ak Al kR (AkC _ _ e (As e.M x));refine Ay func54 (AgY _ _ e x rfl rfl rfl) ⟨m,?_⟩;rcases YN (o:=(As e.M x).Op) (by have:=f.op;omega)with d|d|d|d|d|d|d|d|d|d|d|d|d|d|d|d|d|d|d|d|d|d|d|d|d|d|d|d|d|d|d|d|d|d|d|d|d|d|d
  all_goals
    have l:(e.M.Exprs.getD x.toNat default).Op=_:=d
    repeat (first
      | refine⟨λh=>absurd h (by(first | rw[l] | rw[d]);decide),λ_=>?_⟩
      | refine⟨λ_=>?_,λh=>absurd h (by(first | rw[l] | rw[d]);decide)⟩
      | refine v _ ?_
      | refine w _ ?_
      | refine y _ ?_
      | refine z _ ?_
      | refine E ?_)
    first
      | exact A7 (by unfold Cu;rw[d]<;>rfl)
      | exact⟨_,Es _,A7 (by unfold Cu;rw[d]<;>rfl)⟩
      | exact⟨_,Yr oM (k (by rw[d];decide)) (hB (by rw[d];decide)) (λh=>u (by rw[h];decide)),A7 (by unfold Cu;rw[d]<;>rfl)⟩
      | exact⟨_,AbX j oM (k (by rw[d];decide)) hp,A7 (by unfold Cu;rw[d]<;>rfl)⟩
      | exact⟨_,Abx oM (k (by rw[d];decide)) (ZE j m),A7 (by unfold Cu;rw[d]<;>rfl)⟩
      | exact Abw j (by unfold Cu;rw[d]<;>rfl)
      | (rw[ArG oM]at i
         refine⟨_,k (by rw[d];decide),λh=>A7 ?_,λh=>⟨_,AgR _ _,A7 ?_⟩⟩
         · rw[i];exact ct (by simpa using h) rfl
         · rw[i];exact cf (by simpa using h) (ct (by rw[d]<;>rfl) rfl))
      | (rw[ArG oM]at i
         refine⟨_,k (by rw[d];decide),λh=>A7 ?_,λh=>⟨_,hB (by rw[d];decide),λh2=>A7 ?_,λh2=>⟨_,AgC _ _ _,A7 ?_⟩⟩⟩
         · rw[i];exact ct (by simpa using h) rfl
         · rw[i];exact cf (by simpa using h) (cf (by rw[d]<;>rfl) (ct (by simpa using h2) rfl))
         · rw[i];exact cf (by simpa using h) (cf (by rw[d]<;>rfl) (cf (by simpa using h2) rfl)))
      | (have r:Cu e ev (As e.M x)=X5 e ev (As e.M x):=by unfold Cu;rw[d]<;>rfl
         refine⟨_,p,λh=>A7 ?_,λh=>?_⟩
         · rw[r];exact ct (by simpa using h) rfl
         · have h0:decide ((B9 e ev (As e.M x)).2.2≠0)=false:=by simpa using h
           have hi:=q (by simpa using h0);refine⟨λh1=>⟨hi.glob (ArD h1),A7 ?_⟩,λh1=>?_⟩
           · rw[r];exact cf h0 (ct h1 rfl)
           · have t:=hi.own (by have:=ArP h1;omega);refine⟨⟨by have:=ArP h1;omega,t.1⟩,t.2,A7 ?_⟩;rw[r];exact cf h0 (cf h1 rfl))
def Iv (b:BJ e):∀(n:Nat)(x:Int),0<=x->x<e.M.Exprs.length->x<n->EvR e x (Qd e n x)
 | 0,x,h0,_,h2=>oM
 | n+1,x,h0,h1,h2=>Se b ⟨h0,h1⟩ λa c d=>Iv b n a c oM oM
def Wl (a:BJ e)(b:0<=x/\x<e.M.Exprs.length):C7 e x=0:=by
 have hp:=a.pid;unfold C7 Co;rw[a.may,a.fits,ArK (show ¬e.Pid < -1 by omega),ArK (show ¬(e.S.Procs.length:Int)<=e.Pid by omega),ArK (show ¬x<0 by omega),ArK (show ¬(e.M.Exprs.length:Int)<=x by omega)]<;>rfl
def AlH (a:BJ e)(b:0<=x/\x<e.M.Exprs.length):Bc e x=Cu e (Gh e) (As e.M x):=by
 unfold Bc;rw[Wl a b]<;>rfl
def I3 (b:BJ e)(c:0<=x/\x<e.M.Exprs.length):EvR e x (Bc e x):=by
 rw[AlH b c];exact Se b c λa h0 h1=>Iv b _ a h0 oM oM
def Uq (b:BJ e)(a:0<=x/\x<e.M.Exprs.length):Ai prog 140 [] [.agg (Af e),Aa x] [] (vII (AK e x)):=by
 have:AK e x=CW e (Qd e e.M.Exprs.length) x:=by
  unfold AK;rw[Wl b a]<;>rfl
 rw[this];exact Si (Iv b _ x a.1 a.2 a.2)
end
section
variable {e : D.Env} {s:D.Stmt}
def DW.kA {m}{s}(h:DW m s)(hk:s.Kind=1\/s.Kind=5\/s.Kind=6):0<=s.A/\s.A<m.Exprs.length:=by
 have h1:=h.st;have h2:=Hy (m:=m) (a:=s.A);unfold AF at h1;grind
def DW.n6 {m}{s}(h:DW m s)(hk:s.Kind=6):0<=s.N/\s.N<=3:=by
 have h1:=h.st;unfold AF at h1;grind
def OU (h:Ci e):Ai prog 31 [] [.agg (Af e)] [] (.agg (A9 (CU e))):=PV ⟨h.p0,h.ok.pid.2⟩ h.facts.1
def Iz (l:D.Loc)(i:Int):List D.Trans:=bif decide (i<0)then l.Out else l.Esc.getD i.toNat []
def HX (h:Ci e){i:Int}(hi:0<=i->i<(CA e).Esc.length):Ai prog 36 [] [.agg (Af e),Aa i] [] (Ao true (Iz (CA e) i)) :=
 AaY ⟨h.p0,h.ok.pid.2⟩ h.facts.1 h.facts.2 hi
def I7 (n:Nat):List Int:=(List.range n).map λi=>((i:Nat):Int)
def Ahm {n}:I7 (n+1)=I7 n++[(n:Int)]:=by simp[I7,List.range_succ]
theorem N7 {n}:(I7 n).length=n:=by simp[I7]
def P4 (h:Ci e):Ai prog 34 [] [.agg (Af e)] [] (Ac true (I7 (CA e).Esc.length++[-1])):=by
 have d:=h.wloc.Esc.1;refine Ay func34 (Abz _ e) ⟨CU e,OU h,⟨h.p0,h.ok.pid.2⟩,h.facts.2,?_⟩;refine Au.own 1 4 1 (AD []) rfl ?_;change Au _ _ (Ajt (CA e) (I7 0) ((0:Nat):Int));generalize CA e=l at d;refine AA l.Esc.length (λk=>Ajt l (I7 k) k) (λ_=>True) trivial ?_;intro k hk _ J next
 have f:(I7 k).length=k:=N7;refine ArC (Ym _ l (I7 k) k J rfl) ⟨λb=>⟨oM,?_⟩,λc=>⟨oM,trivial,?_⟩⟩
 .have a:k<l.Esc.length:=by have:=AQ b;omega
  refine next _ a trivial (Up.mk (l':=[(3,.bp 0 0),(4,.ow 1 0 (I7 (k+1)).length),(5,Aa ((k+1:Nat):Int))]) (hs':=[.box (A4 l),.arr true 0 (I7 (k+1)).length 1 (AD (I7 (k+1)))]) ?_ ?_ rfl)
  .grind[N7,Aj,AH]
  .rw[Ahm,ArA];exact⟨Ob.le_refl _,ArT λi hi=>AO (Gt hi),trivial⟩
 .obtain rfl:k=l.Esc.length:=by have:=AP c;omega
  unfold Ac;rw[ArA];exact Asy (.inl rfl) λi hi=>AO (Gt hi)
def LH {x:Int}(h:0<=x->x<e.M.Exprs.length):Ai prog 94 [] [.agg (Af e),Aa x] [] (Ad (CJ e x)):=by
 refine Ay func94 (Aks _ e x) ⟨λa=>?_,AB ?_⟩
 .grind
 .unfold CJ As;rw[A8,ieq]
def N0 {err}:Ai prog 32 [] [Aa err] [] (.agg (AW (I9 err))) :=
 Ay func32 (Yn _ err) ⟨trivial,lR⟩
def MH {p}:Ai prog 58 [] [.agg (Af e),Aa p] [] (.agg (Af (BQ e p))) :=
 Ay func58 (AgA _ e p) ⟨trivial,lR⟩
def OW (n:BJ e){l}(o:l.length<=1048576)(c:InE e.M l):Ai prog 101 [] [.agg (Af e),Ac true l] [] (.tup [Ac true (BC e l).1,Aa (BC e l).2]):=by
 refine Ay func101 (AkI (BC e l) e l) ?_;refine Au.own 2 6 1 (AD []) rfl ?_;change Au _ _ (AdI e l [] 0);refine Az (λg st=>∃(k:Nat)(out:List Int),k<=l.length/\g=l.length-k/\out.length<=k/\IP (Bc e) out (l.drop k)=BC e l/\st=AdI e l out k) ⟨_,Up.of ⟨0,[],Arv _,rfl,Arv _,rfl,rfl⟩⟩ ?_;rintro g st ⟨k,out,hk,rfl,p,b,rfl⟩;refine ArC (Ag5 _ e l out k _) ⟨λf=>?_,λh=>?_⟩
 .have a:k<l.length:=by have:=AQ f;omega
  have j:(k:Int).toNat=k:=oM
  rw[j];rw[Br (d:=0) a,Ma]at b;refine⟨⟨oM,oM⟩,Bc e (l.getD k 0),I3 n (c _ (Av a)),λm=>?_,λm=>⟨oM,l.length-(k+1),oM,Up.mk (hs':=[.box (Af e),.arr true 0 (out.length+1) 1 (AD (out++[(Bc e (l.getD k 0)).1]))]) (AH _) ⟨Ob.le_refl _,ArT λi hi=>AO (Gt hi),trivial⟩ ⟨k+1,out++[(Bc e (l.getD k 0)).1],oM,rfl,by simp;omega,?_,?_⟩⟩⟩
  .rw[show decide ((Bc e (l.getD k 0)).2≠0)=true by simpa using m,Art]at b;rw[<- b];exact⟨trivial,Aso ⟨Ar2,lR,trivial⟩⟩
  .grind
  .rw[Aj oM];unfold AdI;grind
 .rw[ArU (by have:=AP h;omega)]at b;rw[<- b];exact⟨trivial,lR⟩
def Dt (e:D.Env)(s:D.Stmt):Int×Int:=bif decide ((AK e s.A).2≠0)then(0,(AK e s.A).2)else bif decide ((Bh e (AK e s.A).1).length≠s.Args.length)then(0,49)else((AK e s.A).1,0)
def Ho (d:BJ e)(f:0<=s.A/\s.A<e.M.Exprs.length):Ai prog 96 [] [.agg (Af e),.agg (An s)] [] (vII (Dt e s)):=by
 have a:Dt e s=bif decide ((AK e s.A).2≠0)then(0,(AK e s.A).2)else bif decide ((Bh e (AK e s.A).1).length≠s.Args.length)then(0,49)else((AK e s.A).1,0):=rfl
 generalize Dt e s=R at a;refine Ay func96 (Yc _ _ e s) ⟨AK e s.A,Uq d f,λh=>A7 ?_,λh=>?_⟩
 .grind
 have h0:(AK e s.A).2=0:=by simpa using h
 have b:=Fk d.wf h0;rw[h0]at a;generalize(AK e s.A).1=n at b a |-;have h1:=b.lo;have h2:=b.hi;have h3:=b.le;rw[AT oM oM];refine⟨⟨oM,oM⟩,b.sh,λc=>A7 ?_,λc=>A7 ?_⟩
 .rw[Gx]at c;rw[a,show decide ((Bh e n).length≠s.Args.length)=true from c]<;>rfl
 .rw[Gx]at c;rw[a,show decide ((Bh e n).length≠s.Args.length)=false from c]<;>rfl
def AhY {f}{l}{k}(hk:k<l.length):(Hr f l).take (k+1)=(Hr f l).take k++[H3 (f.getD k default) (l.getD k 0)]:=by
 rw[As9];simp[Hr,hk]
def Un (t:BJ e)(hs:DW e.M s)(h0:(AK e s.A).2=0)(u:(Bh e (AK e s.A).1).length=s.Args.length) :
  Ai prog 142 [] [.agg (Af e),.agg (An s),Aa (AK e s.A).1] [] (.tup [Ac true (AC e s).2.1,Aa (AC e s).2.2]):=by
 have b:(AC e s).2=bif decide ((BC e s.Args).2≠0)then([],(BC e s.Args).2)else(Hr (Bh e (AK e s.A).1) (BC e s.Args).1,0):=by
  unfold AC;grind
 generalize(AC e s).2=r at b;have c:=Fk t.wf h0;generalize(AK e s.A).1=n at c b u |-;have h1:=c.lo;have h2:=c.hi;have h3:=c.le;have m:=hs.args;refine Ay func142 (Aky r e s n rfl) ⟨BC e s.Args,OW t m (Jy hs.st).1,λh=>?_,λh=>?_⟩
 .rw[b,show decide ((BC e s.Args).2≠0)=true by simpa using h];exact⟨trivial,Aso ⟨Ar2,lR,trivial⟩⟩
 have d:(BC e s.Args).2=0:=by simpa using h
 have g:=Jq d;rw[d]at b;rw[AT oM oM];refine⟨⟨oM,oM⟩,c.sh,?_⟩;refine Au.own 1 10 1 (AD []) rfl ?_;change Au _ _ (Aju (Bh e n) (BC e s.Args).1 ((Hr (Bh e n) (BC e s.Args).1).take 0) ((0:Nat):Int));generalize Bh e n=f at b u |-;generalize(BC e s.Args).1=l at b g |-;have o:∀k,k<=l.length->((Hr f l).take k).length=k:=λk hk=>by simp[Hr];omega
 refine AA l.length (λk=>Aju f l ((Hr f l).take k) k) (λ_=>True) trivial ?_;intro k hk _ J next
 have v:=o k hk;refine ArC (AgU r f l _ k J) ⟨λj=>?_,λp=>?_⟩
 .have a:k<l.length:=by have:=AQ j;omega
  have q:(k:Int).toNat=k:=oM
  rw[q];refine⟨⟨oM,oM⟩,⟨oM,oM⟩,H3 (f.getD k default) (l.getD k 0),Hx _ _,oM,next _ a trivial (Up.mk (l':=[(8,Ac true l),(10,.ow 0 0 ((Hr f l).take (k+1)).length),(11,AE true f),(12,Aa ((k+1:Nat):Int))]) (hs':=[.arr true 0 ((Hr f l).take (k+1)).length 1 (AD ((Hr f l).take (k+1)))]) ?_ ?_ rfl)⟩
  .grind[Aj,AH]
  .rw[AhY a,ArA];exact⟨ArT λi hi=>AO (Gt hi),trivial⟩
 .rw[b,Ar8 (by simp[Hr];have:=AP p;omega)];exact⟨trivial,lR⟩
def Sc (h:Ci e):Ai prog 33 [] [.agg (Af e)] [] (.tup [Ad (Be e).1,Aa (Be e).2]):=by
 have a:Be e=bif decide ((CU e).Provided<0)then(true,0)else(decide ((Bc e (CU e).Provided).1≠0),(Bc e (CU e).Provided).2):=rfl
 generalize Be e=r at a;have d:Jg e.M.Procs.length (λi=>!D1 e.M i)=-1:=(Dj h.ok.may).2.1;have b:=Ge (n:=e.M.Procs.length) (f:=λi=>!D1 e.M i) oM (DB e e.Pid).Type_.toNat (by have:=h.facts.1;omega);have c:(CU e).Provided<e.M.Exprs.length:=by
  unfold D1 at b;simp only[Asu,ArJ,ArV]at b;have:=b.2.2.2.1;unfold CU AY;omega
 refine Ay func33 (AgP r e) ⟨CU e,OU h,λh1=>⟨trivial,?_⟩,λh1=>⟨Bc e (CU e).Provided,I3 h.ok gD,trivial,?_⟩⟩
 .rw[a,h1];exact lR
 .rw[a,h1,AU];exact lR
def VJ (b:BJ e)(hs:DW e.M s)(hk:s.Kind=6):Ai prog 97 [] [.agg (Af e),Ac true s.Args,Ac true s.Match] [] (.tup [Ac true (B7 e s).1,Aa (B7 e s).2]) :=
 PY (ev:=Bc e) hs.args (hs.k6 hk) λa c=>I3 b ((Jy hs.st).1 a c)
def AlE {m l mt}:decide (F7 ⟨0,[m]⟩ l mt false=0)=Ec m l mt:=by
 show decide ((bif Ec m l mt then((0:Nat):Int)else -1)=0)=_;cases Ec m l mt<;>rfl
def Yd {c}{m}(a:BJ e)(hs:DW e.M s):Ai prog 218 [] [.agg (Af e),.agg (An s),Aa c,Ac true m] [] (Ad (Fy e s c m)):=by
 have d:Fy e s c m=bif decide (s.Kind≠6)||(decide (1<s.N)||decide (s.Args.length≠m.length))then false
  else bif decide ((AK e s.A).2≠0)||decide ((AK e s.A).1≠c)then false
  else bif decide ((B7 e s).2≠0)then false else decide (F7 ⟨0,[m]⟩ (B7 e s).1 s.Match false=0):=rfl
 generalize Fy e s c m=b at d;have f:=hs.args;have g:(bif bif s.Kind != (6:Int)then true else decide (s.N > (1:Int))then true else(s.Args.length:Int) != (m.length:Int))=(decide (s.Kind≠6)||(decide (1<s.N)||decide (s.Args.length≠m.length))):=gD
 refine Ay func218 (Abh b e s c m rfl) ⟨λh=>AB ?_,λh=>?_⟩
 .grind
 rw[g]at h;have hk:s.Kind=6:=gD
 have i:=hs.k6 hk;rw[h,Arq]at d;refine⟨AK e s.A,Uq a (hs.kA (.inr (.inr hk))),λh2=>AB ?_,λh2=>⟨B7 e s,VJ a hs hk,λh3=>AB ?_,λh3=>⟨_,P5 (by unfold Len;omega),AB ?_⟩⟩⟩
 .grind
 .grind
 simp_all[AU,AlE]
end
section
variable {e : D.Env} {s:D.Stmt} {ws:List D.Trans} {mt:Int->List Int->List Pn} {self:Bool}
abbrev MtR (e:D.Env)(mt:Int->List Int->List Pn):Prop:=∀c m,Ai prog 143 [] [.agg (Af e),Aa c,Ac true m] [] (BD true (mt c m))
def Abq (g:BJ e)(hs:DW e.M s)(hk:s.Kind=5)(h:self=false->MtR e mt) :
  Ai prog 95 [] [.agg (Af e),.agg (An s),Ad self] [] (.agg (A6 (FB e mt s self))):=by
 have c:FB e mt s self=bif decide ((Dt e s).2≠0)then⟨true,(Dt e s).2,[]⟩
  else bif decide (0<(B8 e.M (BS e (AK e s.A).1).Shape).Room)then⟨decide (((BS e (AK e s.A).1).Queue.length:Int)<(B8 e.M (BS e (AK e s.A).1).Shape).Room),0,[]⟩
  else bif self then⟨false,0,[]⟩
  else bif decide ((AC e s).2.2≠0)then⟨true,(AC e s).2.2,[]⟩
  else⟨decide (0<(mt (AK e s.A).1 (AC e s).2.1).length),0,mt (AK e s.A).1 (AC e s).2.1⟩:=by
  unfold FB Dt;grind
 generalize FB e mt s self=r at c;refine Ay func95 (AgK r e s self rfl rfl) ⟨Dt e s,Ho g (hs.kA (.inr (.inl hk))),λh1=>Dq ?_,λh1=>?_⟩
 .grind
 have h0:decide ((Dt e s).2≠0)=false:=by simpa using h1
 rw[h0,Arq]at c;have k:(AK e s.A).2=0/\(Bh e (AK e s.A).1).length=s.Args.length/\(Dt e s).1=(AK e s.A).1:=by
  unfold Dt at h0 |-;grind
 obtain⟨j,t2,l⟩:=k;have b:=Un g hs j t2;have d:=Fk g.wf j;rw[l];generalize(AK e s.A).1=n at d c b |-;have h2:=d.lo;have h3:=d.hi;have h4:=d.le;rw[AT oM oM];refine⟨⟨oM,oM⟩,d.sh,λf=>Dq ?_,λf=>⟨λa=>Dq ?_,λa=>⟨(AC e s).2,b,λi=>Dq ?_,λi=>⟨mt n (AC e s).2.1,h a _ _,AoE ?_⟩⟩⟩⟩
 .rw[c,show decide (0<(B8 e.M (BS e n).Shape).Room)=true from f]<;>rfl
 .rw[c,show decide (0<(B8 e.M (BS e n).Shape).Room)=false from f,a]<;>rfl
 .rw[c,show decide (0<(B8 e.M (BS e n).Shape).Room)=false from f,a,show decide ((AC e s).2.2≠0)=true by simpa using i]<;>rfl
 .rw[c,show decide (0<(B8 e.M (BS e n).Shape).Room)=false from f,a,show decide ((AC e s).2.2≠0)=false by simpa using i];simp_all
def Sa (b:BJ e)(hs:DW e.M s)(i:self=false->MtR e mt) :
  Ai prog 55 [] [.agg (Af e),.agg (An s),Ad self] [] (.agg (A6 (Cg e mt s self))):=by
 have d:Cg e mt s self=if s.Kind=1 then(bif CJ e s.A then I1 e else⟨decide ((Bc e s.A).1≠0)||decide ((Bc e s.A).2≠0),(Bc e s.A).2,[]⟩)
  else if s.Kind=2 then(bif CJ e s.B then I1 e else⟨true,0,[]⟩)
  else if s.Kind=9 then⟨decide (e.S.Chans.length<32),0,[]⟩
  else if s.Kind=5 then FB e mt s self
  else if s.Kind=6 then⟨decide (0<=(Bg e s).2.1)||decide ((Bg e s).2.2≠0),(Bg e s).2.2,[]⟩
  else if s.Kind=7 then⟨false,0,[]⟩else⟨true,0,[]⟩:=rfl
 generalize Cg e mt s self=r at d;have lf:∀{a:Ab},a=r->leO [] []/\VV.le (.agg (A6 a)) (.agg (A6 r)):=λh=>by subst h;exact⟨trivial,lR⟩
 have j:(⟨decide ((e.S.Procs.length:Int)<16),0,[]⟩:Ab)=I1 e:=by
  unfold I1;have:decide ((e.S.Procs.length:Int)<16)=decide (e.S.Procs.length<16):=gD
  rw[this]
 obtain⟨_,t,u⟩:=Jy hs.st;refine Ay func55 (AgF r e s self rfl rfl rfl rfl) ⟨CJ e s.A,LH t,CJ e s.B,LH u,λk1=>⟨λl=>Dq ?_,λl=>⟨Bc e s.A,I3 b (hs.kA (.inl (by simpa using k1))),Dq ?_⟩⟩,
  λk1=>⟨λk2=>⟨λl=>Dq ?_,λl=>Dq ?_⟩,λk2=>⟨λo=>⟨FB e mt s self,Abq b hs (by simpa using o) i,lf ?_⟩,λo=>⟨λk6=>?_,λk6=>⟨λv=>Dq ?_,λv=>⟨λp=>Dq ?_,λp=>Dq ?_⟩⟩⟩⟩⟩⟩
 .grind
 .grind
 .grind
 .grind
 .grind
 .have k:s.Kind=6:=by simpa using k6
  have E:=hs.n6 k;have w:=hs.args;have x:=hs.k6 k;rw[ArG oM,ArG oM,ArG oM,ArG oM,ArY k]at d;have f:Bg e s=bif decide ((Dt e s).2≠0)then(0,-1,(Dt e s).2)else bif decide ((B7 e s).2≠0)then(0,-1,(B7 e s).2)
    else((Dt e s).1,F7 (BS e (Dt e s).1) (B7 e s).1 s.Match (decide (s.N.tmod 2=1)),0):=by
   unfold Bg Dt;grind
  have m:(Dt e s).2=0->AiJ e (Dt e s).1:=by
   intro h;unfold Dt at h |-;cases y:decide ((AK e s.A).2≠0)with
   | true=>grind
   | false =>
    rw[y,Arq]at h;rw[Arq];cases z:decide ((Bh e (AK e s.A).1).length≠s.Args.length)with
    | true=>rw[z]at h;cases h
    | false=>exact Fk b.wf gD
  refine⟨Dt e s,Ho b (hs.kA (.inr (.inr k))),λh1=>Dq ?_,λh1=>⟨B7 e s,VJ b hs k,λh2=>Dq ?_,λh2=>?_⟩⟩
  .grind
  .grind
  .have g:=m (by simpa using h1);rw[show decide ((Dt e s).2≠0)=false by simpa using h1,Arq,show decide ((B7 e s).2≠0)=false by simpa using h2,Arq]at f;rw[f]at d;generalize(Dt e s).1=n at g d |-;have h2:=g.lo;have h3:=g.hi;have h4:=g.le;have h5:=g.q;rw[AT oM oM];have C:(bif s.N==(1:Int)then true else s.N==3)=decide (s.N.tmod 2=1):=gD
   rw[C];refine⟨⟨oM,oM⟩,_,MI (c:=BS e n) (by unfold Len;omega) (by unfold Len;omega),Dq ?_⟩;grind
 .grind
 .have k:s.Kind=9:=by simpa using p
  rw[d,ArG oM,ArG oM,ArY k];have:decide ((e.S.Chans.length:Int)<32)=decide (e.S.Chans.length<32):=gD
  rw[this]
 grind
def AjI:isSome (Dv e Hp ws true)=ws.any λt=>(Cg e Hp t.S true).is||decide (t.S.Kind=7):=by
 have a:∀n,n<=ws.length->Ez e Hp ws true n=(ws.take n).any λt=>(Cg e Hp t.S true).is:=by
  intro n
  induction n with
  | zero=>intro _;rfl
  | succ n ih =>
   intro c;unfold Ez;rw[ih oM,show ws.take (n+1)=ws.take n++[ws.getD n default]by grind[As9],List.any_append,Ata,List.any_nil,Bool.or_false]
 have k:=a _ (Arx _);rw[AsH]at k;rw[Ase];unfold isSome Dv;rw[List.any_map,List.any_eq_true,List.any_eq_true];constructor
 .rintro⟨i,hi,h⟩;have hi:=Ass.1 hi;refine⟨_,Av (d:=default) hi,?_⟩;have h:(Ek e Hp ws true i).is=true:=h;unfold Ek at h;grind
 .rintro⟨t,b,h⟩
  by_cases hs:Ez e Hp ws true ws.length=true
  .rw[k,List.any_eq_true]at hs;obtain⟨t,b,h⟩:=hs;obtain⟨i,hi,rfl⟩:=AsA b;refine⟨i,Ass.2 hi,?_⟩;show(Ek e Hp ws true i).is=true;unfold Ek;grind
  .have hs:Ez e Hp ws true ws.length=false:=by simpa using hs
   obtain⟨i,hi,rfl⟩:=AsA b;refine⟨i,Ass.2 hi,?_⟩;show(Ek e Hp ws true i).is=true;unfold Ek;grind
def Abl {n}(g:BJ e)(f:ZJ e.M n ws):Ai prog 219 [] [.agg (Af e),Ao true ws,Ad true] [] (Ad (isSome (Dv e Hp ws true))):=by
 have i:=f.len;rw[AjI];refine Ay func219 (AgH _ e ws true) ?_;change Au _ _ (Xq e ws true ((0:Nat):Int));refine AA ws.length (λk=>Xq e ws true k) (λk=>(ws.any λt=>(Cg e Hp t.S true).is||decide (t.S.Kind=7))=(ws.drop k).any λt=>(Cg e Hp t.S true).is||decide (t.S.Kind=7)) rfl ?_;intro k hk j J next
 refine ArC (Abm _ e ws true k J) ⟨λb=>?_,λl=>AB ?_⟩
 .have a:k<ws.length:=by have:=AQ b;omega
  have c:(k:Int).toNat=k:=oM
  rw[c];rw[Br (d:=default) a,Ata]at j;refine⟨⟨oM,oM⟩,Cg e Hp (ws.getD k default).S true,Sa g (f.st _ (Av a)) (λh=>by cases h),λ_=>⟨oM,oM⟩,λm=>AB ?_,λm=>next _ a ?_ (Up.of ?_)⟩
  .grind
  .grind
  grind[Aj]
 grind
def Pj (e:D.Env)(mt:Int->List Int->List Pn)(ws:List D.Trans)(k:Nat):List Ab:=(List.range k).map λi=>Cg e mt (ws.getD i default).S false
theorem Zv {k}:(Pj e mt ws k).length=k:=by simp[Pj]
def Ais {k}:Pj e mt ws (k+1)=Pj e mt ws k++[Cg e mt (ws.getD k default).S false]:=by simp[Pj,List.range_succ]
def Amb:Pj e mt ws ws.length=H8 e mt ws false 0:=by
 unfold Pj H8;grind
def ApB {out}{x}{i}(hi:i<out.length+1):(bif i.blt out.length then A6 (out.getD i default)else List.take 3 (List.drop ((i-out.length)*3) (A6 x)))=Ep (out++[x]) i :=
 Bu (f:=A6) (d:=default) (l:=out) (r:=[x]) (F:=λi=>A6 (out.getD i default)) (G:=λi=>List.take 3 (List.drop (i*3) (A6 x))) (λ_ _=>rfl) (λj hj=>by
  obtain rfl:j=0:=by simpa using hj
  rfl) (by simp;omega)
def AbS {n}(o:BJ e)(m:ZJ e.M n ws)(h:MtR e mt):Ai prog 35 [] [.agg (Af e),Ao true ws] [] (BG true (Dv e mt ws false)):=by
 have p:=m.len;refine Ay func35 (Ag2 _ e ws) ?_;refine Au.own 2 5 3 (Ep []) rfl ?_;change Au _ _ (Ajv e ws (Pj e mt ws 0) false ((0:Nat):Int));refine AA ws.length (λk=>Ajv e ws (Pj e mt ws k) (Ez e mt ws false k) k) (λ_=>True) trivial ?_;intro k hk _ J next
 have q:(Pj e mt ws k).length=k:=Zv;refine ArC (AbU _ e ws _ _ k J) ⟨λb=>?_,λf=>?_⟩
 .have a:k<ws.length:=by have:=AQ b;omega
  have c:(k:Int).toNat=k:=oM
  rw[c];refine⟨⟨oM,oM⟩,Cg e mt (ws.getD k default).S false,Sa o (m.st _ (Av a)) (λ_=>h),oM,next _ a trivial (Up.mk (l':=[(1,Ao true ws),(2,.bp 0 0),(5,.ow 1 0 (Pj e mt ws (k+1)).length),(6,Ad (Ez e mt ws false (k+1))),(7,Aa ((k+1:Nat):Int))]) (hs':=[.box (Af e),.arr true 0 (Pj e mt ws (k+1)).length 3 (Ep (Pj e mt ws (k+1)))]) ?_ ?_ rfl)⟩
  .have:Ez e mt ws false (k+1)=bif Ez e mt ws false k then true else(Cg e mt (ws.getD k default).S false).is:=by rw[Bj]<;>rfl
   grind[Zv,Aj,AH]
  .rw[Ais,ArA];exact⟨Ob.le_refl _,ArT λi hi=>AO (ApB hi),trivial⟩
 .obtain rfl:k=ws.length:=by have:=AP f;omega
  clear next
  generalize d:Ez e mt ws false ws.length=some;rw[Amb];change Au _ _ (T6 ws (H8 e mt ws false 0) some ((0:Nat):Int));refine AA ws.length (λk=>T6 ws (H8 e mt ws false k) some k) (λ_=>True) trivial ?_;intro k hk _ J next
  refine ArC (AbT _ ws _ some k J) ⟨λb=>?_,λf=>⟨trivial,?_⟩⟩
  .have a:k<ws.length:=by have:=AQ b;omega
   have c:(k:Int).toNat=k:=oM
   rw[c];have ea:Ek e mt ws false k=bif decide ((ws.getD k default).S.Kind=7)&&!(Ez e mt ws false ws.length)then{Cg e mt (ws.getD k default).S false with is:=true}else Cg e mt (ws.getD k default).S false:=rfl
   refine⟨⟨oM,oM⟩,λj=>⟨⟨oM,by rw[H7];omega⟩,next _ a trivial (Up.mk (hs':=[.arr true 0 (H8 e mt ws false k).length 3 (Ep (H8 e mt ws false (k+1)))]) (AH _) ⟨ArT λi hi=>AO ?_,trivial⟩ ?_)⟩,λj=>next _ a trivial (Up.of ?_)⟩
   .rw[H7]at hi;rw[Jf a,ArG (Atu _)];unfold Ep;rw[Jf hi,Jf hi]
    by_cases g:i=k
    .subst g;have h7:(ws.getD i default).S.Kind=7:=by simpa using j
     have l:Cg e mt (ws.getD i default).S false=⟨false,0,[]⟩:=by
      unfold Cg;grind
     rw[ArY (Asq _),Asz,Art,ea,l,d,ArR h7];cases some<;>rfl
    .rw[Ac8 g,Arq];grind
   .rw[Aj oM];unfold T6;grind[H7]
   .have h7:decide ((ws.getD k default).S.Kind=7)=false:=by rw[<- ieq];exact j
    have em:H8 e mt ws false k=H8 e mt ws false (k+1):=by
     unfold H8;grind
    grind[Aj]
  grind[AP,Zu,VV.le_refl]
end
def Zl:∀{r} {k},SO k r=(List.range r.length).map λj=>(((k+j:Nat):Int),r.getD j [])
 | [],_=>rfl
 | w::r,k=>by
  rw[show SO k (w::r)=((k:Int),w)::SO (k+1) r from rfl,Zl,Asc,List.range_succ_eq_map,Ask,List.map_map];refine congrArg (List.cons _) (As2 λj _=>?_);grind
def UC {l}:Fb l=(I7 l.Esc.length++[-1]).map λi=>(i,Iz l i):=by
 unfold Fb I7;rw[Zl,AsJ,List.map_map];refine congrArg (·++_) (As2 λj _=>?_);rw[Ar4];show((j:Int),_)=((j:Int),Iz l j);unfold Iz;grind
def AkZ {n}{i:Int}(h:i∈I7 n++[-1]):0<=i->i<n:=λh0=>by
 rcases ArX.1 h with h|h
 .obtain⟨j,hj,rfl⟩:=AsD.1 h;grind
 grind
def UD {l}{i}(h:0<=i->i<l.Esc.length):Iz l i∈B4 l:=by
 unfold Iz
 by_cases h0:i<0
 .rw[ArR h0];exact Arw ..
 .rw[ArK h0];exact ArI _ (Av (by have:=h oM;omega))
section
variable {e : D.Env} {c:Int} {m:List Int}
def Agj {out}{x}{i}(hi:i<out.length+1):(bif i.blt out.length then Hf (out.getD i default)else List.take 3 (List.drop ((i-out.length)*3) (Hf x)))=DA (out++[x]) i :=
 Akl (x:=x) (G:=λi=>List.take 3 (List.drop (i*3) (Hf x))) rfl hi
def Abt (h:Ci e):Ai prog 186 [] [.agg (Af e),Aa c,Ac true m] [] (BD true (ER e c m)):=by
 have b:ER e c m=bif !(Be e).1||decide ((Be e).2≠0)then[]else HU e c m (Fb (CA e)):=rfl
 rw[UC]at b;generalize ER e c m=r at b;have q:=h.wloc.Esc.1;have o:=λi=>AkZ (n:=(CA e).Esc.length) (i:=i)
 refine Ay func186 (AgL r e c m) ⟨Be e,Sc h,λh1=>?_,λh1=>⟨_,P4 h,?_⟩⟩
 .rw[Bj,AU]at h1;rw[b,h1];exact⟨trivial,Ar2⟩
 rw[Bj,AU]at h1;rw[h1,Arq]at b;have y:(I7 (CA e).Esc.length++[-1]).length<=1048577:=by rw[ArA,N7];exact AsF q
 generalize I7 (CA e).Esc.length++[-1]=L at b o y |-;refine Az (λg st=>∃k:Nat,k<=L.length/\g=L.length-k/\r=HU e c m ((L.drop k).map λi=>(i,Iz (CA e) i))/\st=AdA e c m L k) ⟨_,Up.of ⟨0,Arv _,rfl,b,rfl⟩⟩ ?_;rintro g st ⟨k,hk,rfl,b,rfl⟩;refine ArC (Abv r e c m L k _) ⟨λz=>?_,λA=>?_⟩
 .have f:k<L.length:=by have:=AQ z;omega
  have p:(k:Int).toNat=k:=oM
  rw[p];rw[Br (d:=0) f,Ask,JK]at b;have hi:=o _ (Av (d:=0) f);have w:=h.ws (UD hi);have B:L.getD k 0=L.getD (k:Int).toNat 0:=by rw[p]
  refine⟨⟨oM,oM⟩,_,HX h hi,?_⟩;generalize Iz (CA e) (L.getD k 0)=ws at b w;have C:=w.len;refine Au.own 6 12 3 (DA []) rfl ?_;change Au _ _ (Xr e c m L k ws [] 0);generalize E:DS e c m (L.getD k 0) 0 ws=G at b;refine Az (λg st=>∃(j:Nat)(out:List Pn),j<=ws.length/\g=ws.length-j/\out.length<=j/\out++DS e c m (L.getD k 0) j (ws.drop j)=G/\st=Xr e c m L k ws out j) ⟨_,Up.of ⟨0,[],Arv _,rfl,Arv _,E,rfl⟩⟩ ?_;rintro g st ⟨j,out,hj,rfl,F,l,rfl⟩;refine ArC (Abu r e c m L k ws out j _ _) ⟨λs=>?_,λt=>?_⟩
  .have a:j<ws.length:=by have:=AQ s;omega
   have u:(j:Int).toNat=j:=oM
   rw[u,p];rw[Br (d:=default) a,R7]at l;refine⟨⟨oM,oM⟩,Fy e (ws.getD j default).S c m,Yd h.ok (w.st _ (Av a)),λv=>⟨⟨oM,oM⟩,oM,ws.length-(j+1),oM,
    Up.mk (hs':=[.box (Af e),.arr true 0 (out.length+1) 3 (DA (out++[Pn.mk e.Pid (L.getD k 0) j]))]) (AH _) ⟨Ob.le_refl _,ArT λi hi=>AO (Agj (x:=Pn.mk e.Pid (L.getD k 0) j) hi),trivial⟩ ⟨j+1,out++[Pn.mk e.Pid (L.getD k 0) j],a,rfl,by simp;omega,?_,?_⟩⟩,λv=>⟨ws.length-(j+1),oM,Up.of ⟨j+1,out,a,rfl,oM,?_,?_⟩⟩⟩
   .grind
   .rw[Aj oM];unfold Xr;grind
   .grind
   grind[Aj]
  .rw[ArU (by have:=AP t;omega)]at l;have l:out=G:=by simpa[DS]using l
   subst l;have hp:decide ((out.length:Int) > 0)=decide (0<out.length):=gD
   rw[hp];refine⟨_,Abl h.ok w,λv=>?_,λv=>⟨L.length-(k+1),oM,Up.of ⟨k+1,f,rfl,?_,?_⟩⟩⟩
   .rw[Bj]at v;rw[b,v];exact⟨trivial,lR⟩
   .grind
   grind[Aj]
 .rw[b,ArU (by have:=AP A;omega)];exact⟨trivial,Ar2⟩
def Yo (h:Ci e):MtR e (B0 e):=by
 intro c m;have hp:=h.ok.fit.p;refine Ay func143 (AbA _ e c m) ?_;refine Au.own 3 7 3 (DA []) rfl ?_;refine Az (λg st=>∃k:Nat,k<=e.S.Procs.length/\g=e.S.Procs.length-k/\st=AdD e c m (CP e c m k) k) ⟨e.S.Procs.length,Up.of ⟨0,Arv _,rfl,rfl⟩⟩ ?_;rintro g st ⟨k,hk,rfl,rfl⟩;have o:=JP (c:=c) (m:=m) h hk;refine ArC (Yp _ e c m _ k _) ⟨λj=>?_,λn=>⟨trivial,?_⟩⟩
 .have a:k<e.S.Procs.length:=by have:=AQ j;omega
  have s:=OT (c:=c) (m:=m) (h.at a);refine⟨λb=>⟨_,MH,ER (BQ e k) c m,Abt (h.at a),oM,λi _=>rfl,e.S.Procs.length-(k+1),oM,
   Up.mk (hs':=[.box (Af e),.arr true 0 ((CP e c m k).length+(ER (BQ e k) c m).length) 3 (DA (CP e c m k++ER (BQ e k) c m))]) (AH _) ⟨Ob.le_refl _,ArT λi hi=>AO ?_,trivial⟩ ⟨k+1,a,rfl,?_⟩⟩,λb=>⟨e.S.Procs.length-(k+1),oM,Up.of ⟨k+1,a,rfl,?_⟩⟩⟩
  .exact Bu (f:=Hf) (d:=default) (l:=CP e c m k) (r:=ER (BQ e k) c m) (F:=DA (CP e c m k)) (λ_ _=>rfl) (λ_ _=>rfl) (by simpa using hi)
  .rw[AU]at b;have q:CP e c m (k+1)=CP e c m k++ER (BQ e k) c m:=by
    show CP e c m k++(bif decide ((k:Int)≠e.Pid)then _ else _)=_;rw[b,Art]
   rw[Aj oM,q];unfold AdD;grind
  .rw[AU]at b;have q:CP e c m (k+1)=CP e c m k:=by
    show CP e c m k++(bif decide ((k:Int)≠e.Pid)then _ else _)=_;grind
   grind[Aj]
 .obtain rfl:k=e.S.Procs.length:=by have:=AP n;omega
  exact lR
end
section
variable {e : D.Env}
def Ud {out}{x}{i}(hi:i<out.length+1):(bif i.blt out.length then AW (out.getD i default)else List.take 6 (List.drop ((i-out.length)*6) (AW x)))=Fa (out++[x]) i :=
 AaW (x:=x) (G:=λi=>List.take 6 (List.drop (i*6) (AW x))) rfl hi
def AbD {r}{L}{i}{C}{k:Nat}(hk:k<L.length)(hi:i=L.getD k 0)(hC:C.length<=1024)(s:∀x∈C,x.wth.length<=16384){J}
  (hJ:∀b,Up (λst=>st=T5 e true L (C6 i 0 C) (i64.wrap ((k:Int)+1))) b->J b) :
  Au ((fc Bt EG f18 [] (AZ true r)).loop [1,1,1,1,1,1,0,1,0] J) [1,0,0,1,1,0] (PS e true L [] k C 0):=by
 refine Az (λg st=>∃(j:Nat)(out:List Wy),j<=C.length/\g=C.length-j/\out.length<=j*16385/\out++C6 i j (C.drop j)=C6 i 0 C/\st=PS e true L out k C j) ⟨C.length,Up.of ⟨0,[],Arv _,rfl,Arv _,rfl,rfl⟩⟩ ?_;rintro g st ⟨j,out,hj,rfl,P,m,rfl⟩;refine ArC (Abe r e true L out k C j _ _ rfl rfl rfl) ⟨λF=>?_,λG=>?_⟩
 .have c:j<C.length:=by have:=AQ F;omega
  have u:(j:Int).toNat=j:=oM
  have H:(k:Int).toNat=k:=oM
  have a:inX (j:Int) C.length:=⟨oM,oM⟩;have Q:=s _ (Av (d:=default) c);rw[u,H,<- hi];rw[Br (d:=default) c,OJ]at m;generalize R:C.getD j default=x at m Q |-;have S:j*16385<=1024*16385:=ArO _ oM;have v:∀(J2:St->Prop)(out1:List Wy),out1.length<=j*16385+1->out1++(x.wth.map (FO i j x.err)++C6 i (j+1) (C.drop (j+1)))=C6 i 0 C ->
    (∀b,Up (λst=>∃out2:List Wy,out2.length<=(j+1)*16385/\out2++C6 i (j+1) (C.drop (j+1))=C6 i 0 C/\st=PS e true L out2 k C ((j+1:Nat):Int)) b->J2 b) ->
    Au (((fc Bt EG f18 [] (AZ true r)).loop [1,1,1,1,1,1,0,1,0] J).loop [1,0,0,1,1,0] J2) [1,0,0,1,1,1,0] (Xp e true L out1 k C j ⟨i,j,-1,-1,-1,x.err⟩ 0):=by
   intro J2 out1 I K T;refine Az (λg st=>∃(h:Nat)(w:Wy)(o:List Wy),h<=x.wth.length/\g=x.wth.length-h/\o.length<=j*16385+1+h/\o++((x.wth.drop h).map (FO i j x.err)++C6 i (j+1) (C.drop (j+1)))=C6 i 0 C/\(w.Esc=i/\w.Way=j/\w.Err=x.err)/\st=Xp e true L o k C j w h)
    ⟨x.wth.length,Up.of ⟨0,_,out1,Arv _,rfl,I,K,⟨rfl,rfl,rfl⟩,rfl⟩⟩ ?_
   rintro g st ⟨h,w,o,hh,rfl,U,y,⟨V,W,X⟩,rfl⟩;refine ArC (Abd r e true L o k C j w h _ _ _ rfl rfl rfl) ?_;rw[u,R];refine⟨a,λz=>?_,λA=>?_⟩
   .have f:h<x.wth.length:=by have:=AQ z;omega
    have B:(h:Int).toNat=h:=oM
    have l:inX (h:Int) x.wth.length:=⟨oM,oM⟩;rw[B];rw[Br (d:=default) f,Ask,AsM]at y;generalize x.wth.getD h default=p at y |-;rw[V,W,X];refine⟨a,l,a,l,a,l,oM,x.wth.length-(h+1),oM,Up.mk (hs':=[.box (Af e),.arr true 0 (o.length+1) 6 (Fa (o++[FO i j x.err p])),.box (AW (FO i j x.err p))]) (AH _)
     ⟨Ob.le_refl _,ArT λt M=>AO (Ud (x:=FO i j x.err p) M),Ob.le_refl _,trivial⟩ ⟨h+1,FO i j x.err p,o++[FO i j x.err p],f,rfl,by simp;omega,gD,⟨rfl,rfl,rfl⟩,?_⟩⟩
    rw[Aj oM];unfold Xp;grind
   .have N:x.wth.length<=h:=by have:=AP A;omega
    grind[ArU,AsL,AsZ,Up.of,Aj]
  have next:∀b,Up (λst=>∃out2:List Wy,out2.length<=(j+1)*16385/\out2++C6 i (j+1) (C.drop (j+1))=C6 i 0 C/\st=PS e true L out2 k C ((j+1:Nat):Int)) b ->
    ∃O,O<C.length-j/\Up (λst=>∃(j:Nat)(out:List Wy),j<=C.length/\O=C.length-j/\out.length<=j*16385/\out++C6 i j (C.drop j)=C6 i 0 C/\st=PS e true L out k C j) b:=by
   rintro b ⟨Y,Z,out2,h1,h2,h3⟩;exact⟨C.length-(j+1),oM,Y,Z,j+1,out2,c,rfl,h1,h2,h3⟩
  have ez:((x.wth.length:Int)==0)=decide (x.wth.length=0):=gD
  refine⟨⟨oM,oM⟩,a,a,λ_=>a,λE=>⟨oM,?_⟩,λE=>?_⟩
  .rw[A8,ez]at E;have n:FV i j x=Wy.mk i j (-1) (-1) (-1) x.err::x.wth.map (FO i j x.err):=by unfold FV;rw[E]<;>rfl
   rw[n]at m;refine Au.le (hs':=[.box (Af e),.arr true 0 (out.length+1) 6 (Fa (out++[Wy.mk i j (-1) (-1) (-1) x.err])),.box (AW (Wy.mk i j (-1) (-1) (-1) x.err))]) (AH _)
     ⟨Ob.le_refl _,ArT λt M=>AO (Ud (x:=Wy.mk i j (-1) (-1) (-1) x.err) M),Ob.le_refl _,trivial⟩ ?_
   have q:=v _ (out++[Wy.mk i j (-1) (-1) (-1) x.err]) (by simp;omega) (by rw[Asf];exact m) next
   unfold Xp at q;rw[ArA]at q;exact q
  .rw[A8,ez]at E;have n:FV i j x=x.wth.map (FO i j x.err):=by unfold FV;rw[E]<;>rfl
   rw[n]at m;exact v _ out (Nat.le_succ_of_le P) m next
 .rw[ArU (by have:=AP G;omega)]at m;have m:out=C6 i 0 C:=by simpa[C6]using m
  grind[Up.of]
def JL (h:Ci e):Ai prog 18 [] [.agg (Af e)] [] (AZ true (A5 e)):=by
 have hp:=h.ok.fit.p;have a:A5 e=bif decide ((DB e e.Pid).Loc=(CU e).Final)then(bif decide (e.Pid=(e.S.Procs.length:Int)-1)then[I9 0]else[])
  else bif decide ((Be e).2≠0)then[I9 (Be e).2]else bif !(Be e).1 then[]else Ff e (Fb (CA e)):=rfl
 rw[UC]at a;generalize A5 e=r at a;have l:=h.wloc.Esc.1;have f:=λi=>AkZ (n:=(CA e).Esc.length) (i:=i)
 refine Ay func18 (AgB r e rfl) ⟨⟨h.p0,h.ok.pid.2⟩,CU e,OU h,λh1=>⟨λh2=>⟨_,N0,V9 ?_⟩,λh2=>?_⟩,λh1=>⟨Be e,Sc h,λh2=>⟨_,N0,V9 ?_⟩,λh2=>⟨_,P4 h,?_⟩⟩⟩
 .rw[AT oM oM,ieq]at h2;rw[a,show decide ((DB e e.Pid).Loc=(CU e).Final)=true by rw[<- ieq];exact h1,h2]<;>rfl
 .rw[AT oM oM,ieq]at h2;rw[a,show decide ((DB e e.Pid).Loc=(CU e).Final)=true by rw[<- ieq];exact h1,h2];exact⟨trivial,Ar2⟩
 .rw[a,show decide ((DB e e.Pid).Loc=(CU e).Final)=false by rw[<- ieq];exact h1,show decide ((Be e).2≠0)=true by simpa using h2]<;>rfl
 rw[show decide ((DB e e.Pid).Loc=(CU e).Final)=false by rw[<- ieq];exact h1,show decide ((Be e).2≠0)=false by simpa using h2,Arq,Arq]at a;have m:(I7 (CA e).Esc.length++[-1]).length<=1048577:=by rw[ArA,N7];exact AsF l
 generalize I7 (CA e).Esc.length++[-1]=L at a f m |-;refine Au.own 3 6 6 (Fa []) rfl ?_;change Au _ _ (T5 e (Be e).1 L [] ((0:Nat):Int));generalize(Be e).1=op at a |-;cases op with
 | false =>
  refine Az (λ_ st=>st=T5 e false L [] ((0:Nat):Int)) ⟨0,Up.of rfl⟩ ?_;rintro g st rfl;refine ArC (R9 r e false L [] ((0:Nat):Int) _) ⟨λj=>?_,λ_=>?_⟩
  .grind
  .rw[a];exact⟨trivial,lR⟩
 | true =>
  change r=Ff e (L.map λi=>(i,Iz (CA e) i))at a;refine Az (λg st=>∃(k:Nat)(out:List Wy),k<=L.length/\g=L.length-k/\r=(bif decide (out.length=0)then Ff e ((L.drop k).map λi=>(i,Iz (CA e) i))else out)/\st=T5 e true L out k) ⟨_,Up.of ⟨0,[],Arv _,rfl,a,rfl⟩⟩ ?_;rintro g st ⟨k,out,hk,rfl,a,rfl⟩;have ez:((out.length:Int)==0)=decide (out.length=0):=gD
  refine ArC (R9 r e true L out k _) ⟨λj=>?_,λj=>?_⟩
  .rw[A8,A8,Bool.and_true,ez,Arr]at j;have b:k<L.length:=by have:=AQ j.1;omega
   have h0:out=[]:=gD;subst h0;have o:(k:Int).toNat=k:=oM
   rw[o];have a:r=Ff e ((L.drop k).map λi=>(i,Iz (CA e) i)):=a;rw[Br (d:=0) b,Ask,MK]at a;have hi:=f _ (Av (d:=0) b);have q:=h.ws (UD hi);refine⟨⟨oM,oM⟩,_,HX h hi,_,AbS h.ok q (Yo h),?_⟩;generalize Iz (CA e) (L.getD k 0)=ws at a q;refine AbD b rfl (by rw[SY];exact q.len) (SX h) λt s=>⟨L.length-(k+1),oM,?_⟩
   obtain⟨v,u,rfl⟩:=s;refine⟨_,u,k+1,_,b,rfl,?_,by rw[Aj oM]⟩;grind
  .rw[A8,A8,Bool.and_true,ez]at j;rw[a];refine⟨trivial,Asw ?_⟩;cases c:decide (out.length=0)with
   | false=>rfl
   | true =>
    rw[c,Bool.and_true]at j;have h0:out=[]:=gD;rw[h0,ArU gD]<;>rfl
end
def Sf {s}(y:Fit s){hs'}{r}(h:Au (BO prog tb CO EH false f56 hs' r) [1,1,1,1,0,1,0] (T7 s s.Chans [] 0)):Ai prog 56 [] [.agg (Ae s)] hs' r:=by
 have hg:=y.g;have E:=y.c;refine Ay func56 (Ag0 hs' r s) ⟨oM,λ_ _=>rfl,?_⟩;refine Az (λg st=>∃k:Nat,k<=s.Chans.length/\g=s.Chans.length-k/\st=Aos s (s.Chans.take k) k) ⟨_,Up.cv (Atd 2 1 2 (Cn []) rfl rfl) (Up.of ⟨0,Arv _,rfl,rfl⟩)⟩ ?_;rintro g st ⟨k,hk,rfl,rfl⟩;have z:(s.Chans.take k).length=k:=by simp;omega
 have o:(k:Int).toNat=k:=oM
 refine ArC (AbR _ _ s (s.Chans.take k) k _ rfl rfl rfl) ⟨λA=>?_,λB=>?_⟩
 .have m:k<s.Chans.length:=by have:=AQ A;omega
  have a:s.Chans.take (k+1)=s.Chans.take k++[s.Chans.getD k default]:=Dh m;have C:=y.q _ (Av (d:=default) m);rw[o];refine⟨⟨oM,oM⟩,?_⟩;refine Az (λg st=>∃j:Nat,j<=(s.Chans.getD k default).Queue.length/\g=(s.Chans.getD k default).Queue.length-j/\st=Aor s (s.Chans.take k) k (s.Chans.getD k default).Shape ((s.Chans.getD k default).Queue.take j) j) ⟨_,Up.cv (Atd 5 1 1 (BE []) rfl rfl) (Up.of ⟨0,Arv _,rfl,rfl⟩)⟩ ?_;rintro g st ⟨j,hj,rfl,rfl⟩;have p:((s.Chans.getD k default).Queue.take j).length=j:=by rw[Ast];omega
  have t:(j:Int).toNat=j:=oM
  refine ArC (AbQ _ _ s (s.Chans.take k) k (s.Chans.getD k default).Shape ((s.Chans.getD k default).Queue.take j) j _ _ rfl rfl rfl) ?_;rw[o,t];generalize s.Chans.getD k default=c at a C hj p |-;refine⟨⟨oM,oM⟩,λu=>?_,λv=>?_⟩
  .have b:j<c.Queue.length:=by have:=AQ u;omega
   have e:c.Queue.take (j+1)=c.Queue.take j++[c.Queue.getD j []]:=Dh b;have H:=C.2 _ (Av (d:=[]) b);refine⟨⟨oM,oM⟩,⟨oM,oM⟩,oM,λ_ _=>rfl,by rw[p];omega,c.Queue.length-(j+1),oM,?_⟩;rw[Aj oM];refine Up.mk (l':=[(1,.bp 0 0),(2,.bp 1 0),(3,.bp 2 0),(4,Aa k),(5,.bp 5 0),(6,Aa ((j+1:Nat):Int))])
    (hs':=[.box (Ae s),.box DY,.box (AJ s (.ow 3 0 s.Globals.length) (.ow 4 0 (s.Chans.take k).length) .nl),obG s,.arr true 0 (s.Chans.take k).length 2 (Cn (s.Chans.take k)),.box [Aa c.Shape,.ow 6 0 (c.Queue.take (j+1)).length],.arr true 0 (c.Queue.take (j+1)).length 1 (BE (c.Queue.take (j+1)))]) (AH _) ?_ ⟨j+1,oM,rfl,rfl⟩
   rw[e,ArA];refine⟨Ob.le_refl _,Ob.le_refl _,Ob.le_refl _,Ob.le_refl _,Ob.le_refl _,Ob.le_refl _,ArT λi hi=>AO ?_,trivial⟩;exact Bu (l:=c.Queue.take j) (r:=[c.Queue.getD j []]) (f:=λw=>[Ac true w]) (d:=[]) (F:=λi=>[Ac true ((c.Queue.take j).getD i [])]) (G:=λi=>[[Ac true (c.Queue.getD j [])]].getD i []) (λi hi=>rfl) gD (by simpa using hi)
  .have n:c.Queue.length<=j:=by have:=AP v;omega
   rw[Ar8 n];refine⟨by rw[z];omega,s.Chans.length-(k+1),oM,?_⟩;rw[Aj oM];refine Up.mk (l':=[(1,.bp 0 0),(2,.bp 1 0),(3,.bp 2 0),(4,Aa ((k+1:Nat):Int))])
    (hs':=[.box (Ae s),.box DY,.box (AJ s (.ow 3 0 s.Globals.length) (.ow 4 0 (s.Chans.take (k+1)).length) .nl),obG s,.arr true 0 (s.Chans.take (k+1)).length 2 (Cn (s.Chans.take (k+1)))]) (AH _) ?_ ⟨k+1,oM,rfl,rfl⟩
   rw[a,ArA];refine⟨Ob.le_refl _,Ob.le_refl _,Ob.le_refl _,Ob.le_refl _,ArT λi hi=>AO ?_,trivial⟩;exact Bu (l:=s.Chans.take k) (r:=[c]) (f:=Am) (d:=default) (F:=Cn (s.Chans.take k)) (G:=λi=>[Am c].getD i []) (λi hi=>rfl) gD (by simpa using hi)
 .have x:s.Chans.length<=k:=by have:=AP B;omega
  rw[Ar8 x];exact Au.cv (Atd 2 2 4 (B2 []) rfl rfl) h
def Gu {s}(e:Fit s):Ai prog 56 [] [.agg (Ae s)] [obG s,obC s,obP s] (.agg (AJ s (.ow 0 0 s.Globals.length) (.ow 1 0 s.Chans.length) (.ow 2 0 s.Procs.length))):=by
 have hp:=e.p;refine Sf e ?_;refine Az (λg st=>∃k:Nat,k<=s.Procs.length/\g=s.Procs.length-k/\st=T7 s s.Chans (s.Procs.take k) k) ⟨_,Up.of ⟨0,Arv _,rfl,rfl⟩⟩ ?_;rintro g st ⟨k,hk,rfl,rfl⟩;have h:(s.Procs.take k).length=k:=by simp;omega
 refine ArC (Sg _ _ s s.Chans (s.Procs.take k) k _ rfl) ⟨λj=>?_,λm=>?_⟩
 .have b:k<s.Procs.length:=by have:=AQ j;omega
  have n:(k:Int).toNat=k:=oM
  rw[n];have a:s.Procs.take (k+1)=s.Procs.take k++[s.Procs.getD k default]:=Dh b;have o:=e.f _ (Av (d:=default) b);generalize s.Procs.getD k default=p at a o |-;refine⟨⟨oM,oM⟩,⟨oM,oM⟩,oM,λ_ _=>rfl,by rw[h];omega,s.Procs.length-(k+1),oM,?_⟩;rw[Aj oM];refine Up.mk (l':=[(1,.bp 0 0),(2,.bp 1 0),(3,.bp 2 0),(8,Aa ((k+1:Nat):Int))])
   (hs':=[.box (Ae s),.box DY,.box (AJ s (.ow 3 0 s.Globals.length) (.ow 4 0 s.Chans.length) (.ow 5 0 (s.Procs.take (k+1)).length)),obG s,.arr true 0 s.Chans.length 2 (Cn s.Chans),.arr true 0 (s.Procs.take (k+1)).length 4 (B2 (s.Procs.take (k+1)))]) (AH _) ?_ ⟨k+1,oM,rfl,rfl⟩
  rw[a,ArA];refine⟨Ob.le_refl _,Ob.le_refl _,Ob.le_refl _,Ob.le_refl _,Ob.le_refl _,ArT λi hi=>AO ?_,trivial⟩;exact Bu (l:=s.Procs.take k) (r:=[p]) (f:=Ap) (d:=default) (F:=λi=>Ap ((s.Procs.take k).getD i default)) (G:=λi=>[Ap p].getD i []) (λi hi=>rfl) gD (by simpa using hi)
 .have c:s.Procs.length<=k:=by have:=AP m;omega
  rw[Ar8 c];exact⟨⟨Ob.le_refl _,Ob.le_refl _,Ob.le_refl _,trivial⟩,lR⟩
def AbW {m}{typ:Int}{args}(o:AS m)(h0:0<=typ/\typ<m.Procs.length)(_:args.length<=1048576)(h1:args.length<=(AY m typ).Frame.length)(h2:args.length<=(AY m typ).Init.length) :
  Ai prog 145 [] [.agg (Ag m),Aa typ,Ac false args] [] (.agg (Ap (EJ m typ args))):=by
 have hp:=o.Procs.2 _ (Av (d:=default) (show typ.toNat<m.Procs.length by omega));have hi:(AY m typ).Init.length<=1048576:=hp.Init.1;generalize p:EJ m typ args=r;refine Ay func145 (AbV r m typ args rfl) ⟨h0,by show(AY m typ).Init.length*8<=_;omega,λ_ _=>rfl,?_⟩;change Au _ _ (AdH m typ args (AY m typ).Init 0);refine Az (λg st=>∃k:Nat,k<=args.length/\g=args.length-k/\st=AdH m typ args (Km (AY m typ).Frame args (AY m typ).Init k) k) ⟨_,Up.of ⟨0,Arv _,rfl,by rw[UZ]<;>rfl⟩⟩ ?_;rintro g st ⟨k,hk,rfl,rfl⟩;generalize q:(AY m typ).Init=l at *;generalize i:(AY m typ).Frame=f at *;refine ArC (Yw r m typ args (Km f args l k) k _ rfl) ⟨λc=>?_,λe=>?_⟩
 .have a:k<args.length:=by have:=AQ c;omega
  have h:(k:Int).toNat=k:=oM
  rw[h,i,Oz];refine⟨⟨oM,oM⟩,⟨oM,oM⟩,H3 (f.getD k default) (args.getD k 0),Hx _ _,⟨oM,oM⟩,args.length-(k+1),oM,Up.mk (hs':=[.box AiL,.box (A9 (AY m typ)),.box [Aa typ,Aa (AY m typ).Start,Aa (AY m typ).Prio,.ow 3 0 l.length],.arr true 0 l.length 1 (AD (Km f args l (k+1)))]) (AH _) ⟨Ob.le_refl _,Ob.le_refl _,Ob.le_refl _,ArT λj hj=>AO ?_,trivial⟩ ⟨k+1,a,rfl,?_⟩⟩
  .by_cases b:j=k
   .subst b;simp only[Asz,Art];unfold AD;rw[L3 hj,ArY (Asq _)]
   .simp only[Bw b,Arq];unfold AD;rw[L3 hj,L3 hj];grind
  .rw[Aj oM];unfold AdH;rw[Oz]
 .have n:args.length<=k:=by have:=AP e;omega
  obtain rfl:k=args.length:=oM
  refine⟨trivial,Asw ?_⟩;rw[<- p];unfold EJ;rw[q,i];rfl
def Yv {m}{typ:Int}{args}(c:AS m)(h0:0<=typ/\typ<m.Procs.length)(d:args.length<=1048576)(h1:args.length<=(AY m typ).Frame.length)(h2:args.length<=(AY m typ).Init.length) :
  Ai prog 145 [] [.agg (Ag m),Aa typ,Ac true args] [] (.agg (Ap (EJ m typ args))) :=
 (AbW c h0 d h1 h2).frz rfl λj x y a b=>by
  match j,a,b with
  | 0,a,b=>grind[Dd]
  | 1,a,b=>grind[Dd]
  | 2,a,b=>cases a;cases b;exact IM
  | j+3,a,_=>simp at a
def AbE {x y}(i:x.length<=1048576)(_:y.length<=1048576):Ai prog 189 [] [Ac true x,Ac true y] [] (Ad (Ch.lessP x y)):=by
 generalize d:Ch.lessP x y=b;refine Ay func189 (AgW b x y) ?_;refine Az (λg st=>∃k:Nat,k<=x.length/\k<=y.length/\(∀j,j<k->x.getD j 0=y.getD j 0)/\g=x.length-k/\st=Vt x y k) ⟨_,Up.of ⟨0,Arv _,Arv _,λj hj=>absurd hj (Asm j),rfl,rfl⟩⟩ ?_;rintro g st ⟨k,hk,a,hs,rfl,rfl⟩;have c:(k:Int).toNat=k:=oM
 refine ArC (AbF b x y k _) ⟨λh=>?_,λh=>?_⟩
 .rw[A8,Arr]at h;have h1:k<x.length:=by have:=AQ h.1;omega
  have h2:k<y.length:=by have:=AQ h.2;omega
  rw[c];refine⟨⟨oM,oM⟩,⟨oM,oM⟩,λe=>⟨⟨oM,oM⟩,⟨oM,oM⟩,trivial,Asw ?_⟩,λf=>⟨x.length-(k+1),oM,Up.of ⟨k+1,h1,h2,BV hs (by simpa using f),rfl,?_⟩⟩⟩
  .rw[<- d,Ch.lessP_differ k x y h1 h2 hs (by simpa using e)]
  .rw[Aj oM]
 .have h3:k=x.length\/k=y.length:=by
   rw[A8,AsQ]at h;rcases h with h|h
   .have:=AP h;omega
   .have:=AP h;omega
  refine⟨trivial,Asw ?_⟩;rw[<- d,Ch.lessP_end k x y hk a h3 hs,show decide ((x.length:Int)<(y.length:Int))=decide (x.length<y.length)from decide_eq_decide.2 oM]
def Pb (so:Bool)(x:List Int):Bool->List (List Int)->List (List Int)
 | dn,[]=>bif dn then[]else[x]
 | dn,y::r=>bif so&&(!dn&&Ch.lessP x y)then x::y::Pb so x true r else y::Pb so x dn r
def AhJ {so}{x y}{dn}{r}:Pb so x dn (y::r)=bif so&&(!dn&&Ch.lessP x y)then x::y::Pb so x true r else y::Pb so x dn r:=rfl
def UI {so}{x}:∀q,Pb so x true q=q
 | []=>rfl
 | y::r=>by
  unfold Pb;rw[UI r];cases so<;>rfl
def Y1 {so}{x}:∀q,Pb so x false q=Ch.putAt q (if so then Ch.firstP x q else q.length) x
 | []=>by cases so<;>rfl
 | y::r=>by
  have ih:=Y1 (so:=so) (x:=x) r;unfold Pb;rw[UI,ih];cases so with
  | false=>simp[Ch.putAt]
  | true =>
   cases c:Ch.lessP x y with
   | true=>simp[Ch.putAt,Ch.firstP,c]
   | false=>simp[Ch.putAt,Ch.firstP,c]
def JH {out}{y}{i}(hi:i<out.length+1):(bif i.blt out.length then[Ac true (out.getD i [])]else List.take 1 (List.drop ((i-out.length)*1) [Ac true y]))=BE (out++[y]) i :=
 Bu (l:=out) (r:=[y]) (f:=λw=>[Ac true w]) (d:=[]) (F:=λi=>[Ac true (out.getD i [])]) (G:=λi=>List.take 1 (List.drop (i*1) [Ac true y])) (λi hi=>rfl) gD (by simpa using hi)
def AgM {s}{c}{m}{so}(A:m.length=s.Fields.length)(H:∀t∈s.Fields,EY t)(R:m.length<=1024)(S:c.Queue.length<=1024)(B:∀y∈c.Queue,y.length<=1048576) :
  Ai prog 148 [] [.agg (BH s),.agg (Am c),Ac true m,Ad so] []
   (.tup [.agg (Am ⟨Ch.putSh s.Room s.Fields c.Queue m c.Shape,Ch.putQ s.Room s.Fields c.Queue m so⟩),Aa (Ch.putE s.Room s.Fields c.Queue m)]):=by
 have v:s.Fields.all Ch.typeP=true:=Ar3.2 λt h=>by rw[Rz];exact H t h
 have I:Ch.putE s.Room s.Fields c.Queue m=if s.Room<=c.Queue.length then 45 else 0:=by
  unfold Ch.putE;rw[ArG (λh=>h A),ArG (by rw[v];simp)]
 generalize u:((⟨Ch.putSh s.Room s.Fields c.Queue m c.Shape,Ch.putQ s.Room s.Fields c.Queue m so⟩,Ch.putE s.Room s.Fields c.Queue m):D.Chan×Int)=r;show Ai _ _ _ _ _ (.tup [.agg (Am ((⟨Ch.putSh s.Room s.Fields c.Queue m c.Shape,Ch.putQ s.Room s.Fields c.Queue m so⟩,Ch.putE s.Room s.Fields c.Queue m):D.Chan×Int).1),Aa ((⟨Ch.putSh s.Room s.Fields c.Queue m c.Shape,Ch.putQ s.Room s.Fields c.Queue m so⟩,Ch.putE s.Room s.Fields c.Queue m):D.Chan×Int).2]);rw[u];have L:(Ch.fitM s.Fields m).length=m.length:=Ch.fitM_len A;refine Ay func148 (Akt r s c m so rfl) ⟨λh=>by simp[A]at h,λ_=>?_⟩;refine Au.own 5 10 1 (AD []) rfl ?_;change Au _ _ (AdB s c m so [] ((0:Nat):Int));refine Az (λg st=>∃k:Nat,k<=m.length/\g=m.length-k/\st=AdB s c m so ((Ch.fitM s.Fields m).take k) k) ⟨_,Up.of ⟨0,Arv _,rfl,rfl⟩⟩ ?_;rintro g st ⟨k,hk,rfl,rfl⟩;have b:(k:Int).toNat=k:=oM
 have e:((Ch.fitM s.Fields m).take k).length=k:=by rw[Ast];omega
 refine ArC (AgO r s c m so ((Ch.fitM s.Fields m).take k) k _ rfl) ⟨λj=>?_,λn=>?_⟩
 .have a:k<m.length:=by have:=AQ j;omega
  have z:k<s.Fields.length:=oM
  have C:(Ch.fitM s.Fields m).getD k 0=F6 (s.Fields.getD k default).Bits (s.Fields.getD k default).Signed (m.getD k 0):=by
   have M:s.Fields[k]?=some (s.Fields.getD k default):=by simp[List.getD,z]
   have N:m[k]?=some (m.getD k 0):=by simp[List.getD,a]
   rw[List.getD,Ch.fitM,List.getElem?_zipWith,M,N];rfl
  have o:(Ch.fitM s.Fields m).take (k+1)=(Ch.fitM s.Fields m).take k++[F6 (s.Fields.getD k default).Bits (s.Fields.getD k default).Signed (m.getD k 0)]:=by rw[Dh (d:=0) oM,C]
  rw[b,e];refine⟨⟨oM,oM⟩,true,by rw[<- H _ (Av (d:=default) z)];exact OS _,λh=>by simp at h,λ_=>⟨⟨oM,oM⟩,⟨oM,oM⟩,_,Hx _ _,oM,m.length-(k+1),oM,?_⟩⟩;rw[Aj oM];refine Up.mk (hs':=[.box (BH s),.box (Am c),.box Kc,.arr true 0 (k+1) 1 (AD ((Ch.fitM s.Fields m).take (k+1)))]) (AH _) ⟨Ob.le_refl _,Ob.le_refl _,Ob.le_refl _,ArT λi hi=>AO ?_,trivial⟩ ⟨k+1,a,rfl,?_⟩
  .rw[o];have:=Bu (l:=(Ch.fitM s.Fields m).take k) (r:=[F6 (s.Fields.getD k default).Bits (s.Fields.getD k default).Signed (m.getD k 0)]) (f:=λw=>[Aa w]) (d:=0) (F:=λi=>[Aa (((Ch.fitM s.Fields m).take k).getD i 0)]) (G:=λi=>List.take 1 (List.drop (i*1) [Aa (F6 (s.Fields.getD k default).Bits (s.Fields.getD k default).Signed (m.getD k 0))])) (λi hi=>rfl) (λi hi=>by
    obtain rfl:i=0:=by simpa using hi
    rfl) (i:=i) (by rw[ArA,e];simpa using hi)
   rw[e]at this;exact this
  .unfold AdB;rw[show((Ch.fitM s.Fields m).take (k+1)).length=k+1 by rw[Ast];omega]
 .have J:m.length<=k:=by have:=AP n;omega
  rw[Ar8 oM];generalize O:Ch.fitM s.Fields m=x at L u |-;have u:r=(⟨Ch.putSh s.Room s.Fields c.Queue m c.Shape,Ch.putQ s.Room s.Fields c.Queue m so⟩,Ch.putE s.Room s.Fields c.Queue m):=u.symm;refine⟨λp=>?_,λp=>?_⟩
  .have p:s.Room<=c.Queue.length:=by simpa using p
   rw[u];unfold Ch.putSh Ch.putQ;rw[I,ArY p];exact⟨trivial,Aso ⟨Asi ⟨lR,Ar2,trivial⟩,lR,trivial⟩⟩
  .have p:¬s.Room<=c.Queue.length:=by simpa using p
   have E:r=(⟨c.Shape,Pb so x false c.Queue⟩,0):=by
    rw[u];unfold Ch.putSh Ch.putQ Ch.putX;rw[I,ArG p,ArY rfl,ArY rfl,O,Y1]
   refine Au.cv (Cv.pub (k:=3) (t:=10) (id:=2) rfl rfl) ?_;refine Au.cv (Atd 3 1 1 (BE []) rfl rfl) ?_;refine Au.forget [3,5,8,10,13,14,15] rfl ?_;change Au _ _ (Xt c so x [] false ((0:Nat):Int));refine Az (λg st=>∃(k:Nat)(out:List (List Int)) (dn:Bool),k<=c.Queue.length/\(dn=false->out.length<=k)/\out.length<=k+1/\out++Pb so x dn (c.Queue.drop k)=Pb so x false c.Queue/\g=c.Queue.length-k/\st=Xt c so x out dn k) ⟨_,Up.of ⟨0,[],false,Arv _,λ_=>Arv _,Arv _,rfl,rfl,rfl⟩⟩ ?_;rintro g st ⟨k,out,dn,hk,hd0,T,hi,rfl,rfl⟩;have b:(k:Int).toNat=k:=oM
   refine ArC (AgN r c so x out dn k _ rfl rfl rfl rfl) ⟨λj=>?_,λn=>?_⟩
   .have a:k<c.Queue.length:=by have:=AQ j;omega
    rw[b];rw[Br (d:=[]) a]at hi;have K:=B _ (Av (d:=[]) a);generalize c.Queue.getD k []=y at hi K |-;rw[AhJ]at hi;refine⟨⟨oM,oM⟩,Ch.lessP x y,AbE oM K,λq=>?_,λq=>?_⟩
    .rw[A8,A8,Bool.and_assoc]at q;rw[q,Art]at hi;have P:=hd0 (by simp only[Arr,Asu]at q;exact q.2.1);refine⟨oM,⟨oM,oM⟩,oM,c.Queue.length-(k+1),oM,Up.mk (hs':=[.box (Am c),.box Kc,.box [Aa c.Shape,.ow 3 0 (out.length+1+1)],.arr true 0 (out.length+1+1) 1 (BE (out++[x]++[y]))]) (AH _) ⟨Ob.le_refl _,Ob.le_refl _,Ob.le_refl _,ArT λi hi=>AO ?_,trivial⟩ ⟨k+1,out++[x]++[y],true,a,λh=>(by cases h),?_,?_,rfl,?_⟩⟩
     .have h1:=JH (out:=out++[x]) (y:=y) (i:=i) (by simpa using hi);rw[<- h1,ArA,List.length_singleton];cases Q:i.blt (out.length+1)with
      | false=>rfl
      | true=>exact JH (ArH Q)
     .simp;omega
     .rw[<- hi];simp
     .rw[Aj oM];unfold Xt;simp
    .rw[A8,A8,Bool.and_assoc]at q;rw[q,Arq]at hi;refine⟨⟨oM,oM⟩,oM,c.Queue.length-(k+1),oM,Up.mk (hs':=[.box (Am c),.box Kc,.box [Aa c.Shape,.ow 3 0 (out.length+1)],.arr true 0 (out.length+1) 1 (BE (out++[y]))]) (AH _) ⟨Ob.le_refl _,Ob.le_refl _,Ob.le_refl _,ArT λi hi=>AO (JH hi),trivial⟩ ⟨k+1,out++[y],dn,a,λh=>by have:=hd0 h;simp;omega,?_,?_,rfl,?_⟩⟩
     .simp;omega
     .rw[<- hi];simp
     .rw[Aj oM];unfold Xt;simp
   .rw[ArU (by have:=AP n;omega)]at hi;rw[E,<- hi];unfold Pb;refine⟨λhd=>⟨oM,trivial,Aso ⟨Asi ⟨lR,?_,trivial⟩,lR,trivial⟩⟩,λhd=>⟨trivial,Asw ?_⟩⟩
    .have hd:dn=false:=by simpa using hd
     subst hd;rw[Arq];show VV.le _ (.sl true (out++[x]).length 1 (BE (out++[x])));rw[ArA,List.length_singleton];exact Asy (.inl rfl) λi hi=>AO (JH hi)
    .have hd:dn=true:=by simpa using hd
     subst hd;rw[Art,Asv];rfl
def Abi {c}{n}(g:c.Queue.length<=1024):Ai prog 149 [] [.agg (Am c),Aa n] [] (.tup [.agg (Am (CT c n).1),Ac true (CT c n).2.1,Aa (CT c n).2.2]):=by
 have a:CT c n=bif decide (n<0)||decide ((c.Queue.length:Int)<=n)then(⟨0,[]⟩,[],46)else(⟨c.Shape,Ch.cutAt c.Queue n.toNat⟩,c.Queue.getD n.toNat [],0):=rfl
 generalize CT c n=r at a;refine Ay func149 (AgD r c n rfl rfl rfl rfl rfl rfl rfl) ⟨λh=>?_,λh=>?_⟩
 .rw[Bj]at h;have h:(decide (n<0)||decide ((c.Queue.length:Int)<=n))=true:=h;rw[h,Art]at a;subst a;exact⟨trivial,Aso ⟨Asi ⟨lR,Ar2,trivial⟩,Ar2,lR,trivial⟩⟩
 .rw[Bj]at h;have h:(decide (n<0)||decide ((c.Queue.length:Int)<=n))=false:=h;rw[h,Arq]at a;subst a;simp only[ArJ,ArV]at h;rw[AT oM oM,show(n-0).toNat=n.toNat by omega];have b:(Ch.cutAt c.Queue n.toNat).length=n.toNat+((c.Queue.length:Int)-(n+1)).toNat:=by grind[Ch.cutAt_len]
  refine⟨⟨oM,oM,oM⟩,oM,λ_ _=>rfl,⟨oM,oM,oM⟩,oM,λ_ _=>rfl,⟨oM,oM⟩,trivial,Aso ⟨Asi ⟨lR,?_,trivial⟩,lR,lR,trivial⟩⟩;show VV.le _ (.sl true (Ch.cutAt c.Queue n.toNat).length 1 (BE (Ch.cutAt c.Queue n.toNat)));rw[b];refine Asy (.inl rfl) λi hi=>AO ?_
  have d:(Ch.cutAt c.Queue n.toNat).getD i []=if i<n.toNat then c.Queue.getD i []else c.Queue.getD (i+1) []:=by
   unfold Ch.cutAt;grind
  show _=[Ac true ((Ch.cutAt c.Queue n.toNat).getD i [])];rw[d];cases e:i.blt n.toNat with
  | true =>
   rw[ArY (by simp_all)];show[Ac true (c.Queue.getD (Int.toNat 0+i) [])]=_;grind
  | false =>
   have:¬i<n.toNat:=λf=>by rw[show i.blt n.toNat=true from Nat.ble_eq_true_of_le f]at e;cases e
   rw[ArG this];show[Ac true (c.Queue.getD ((n+1).toNat+(i-n.toNat)) [])]=_;grind
def EK (p:D.Env×Int):D.State×Int:=(bif decide (p.2≠0)then PJ else p.1.S,p.2)
def QO (f:FuncId)(xs:List VV)(p:D.Env×Int):Prop:=∃r:D.State×Int,(r.2=p.2/\(p.2=0->r.1=p.1.S))/\Ai prog f [] xs [] (.tup [.agg (Ae r.1),Aa r.2])
abbrev VO (f:FuncId)(xs:List VV)(p:D.Env×Int):Prop:=Ai prog f [] xs [] (.tup [.agg (Ae (EK p).1),Aa (EK p).2])
def Tq:Prop:=∀{e:D.Env}{x v:Int},Ci e->0<=x->x<e.M.Exprs.length->(As e.M x).Op=2->VO 105 [.agg (Af e),Aa x,Aa v] (BF e x v)
def Adc:Prop:=∀{t:ByteArray}{l:List Int},(∀n∈l,I64 n)->t.size<=1048576->l.length<=1048576->Ai prog 102 [] [AI t,Ac true l] [] (AI (B3 t l))
theorem Fg {p}{c}(h:p.2=c)(a:c≠0):leO [] []/\VV.le (.tup [.agg [.nl,.nl,.nl,Aa 0,Aa 0,Aa 0],Aa c]) (.tup [.agg (Ae (EK p).1),Aa (EK p).2]):=by
 unfold EK;rw[h,ArR a,Art];exact⟨trivial,Aso ⟨Asi ⟨Ar2,Ar2,Ar2,lR,lR,lR,trivial⟩,lR,trivial⟩⟩
def GL {p}(h:p.2=0):EK p=(p.1.S,0):=by
 unfold EK;rw[h];rfl
def ApD {f}{xs}{p}(h:VO f xs p):QO f xs p:=⟨EK p,⟨rfl,λh=>by rw[GL h]⟩,h⟩
section
variable {e : D.Env} {s:D.Stmt} {w:Wy}
def OM {m}{a}(h:B5 m a):(0<=a/\a<m.Exprs.length)/\(As m a).Op=2/\(As m a).V.Scope≠2:=by
 unfold B5 DU at h;simp_all[CB]
def DW.take {m}(h:DW m s)(hk:s.Kind=6){j}(hj:j<s.Args.length)(a:s.Match.getD j 0=0):B5 m (s.Args.getD j 0):=by
 have h6:=h.k6 hk;have:=h.st;unfold AF at this;rw[ArG oM,ArG oM,ArG oM,ArG oM,ArY hk]at this;simp only[Arr]at this;have:=this.1.1.1.2;unfold Gp at this;simp only[Arr]at this;grind[A0]
def Ci.stored (h:Ci e){x v}(hs:(As e.M x).V.Scope≠2)(c:(BF e x v).2=0):Ci (BF e x v).1:=by
 obtain⟨k1,k2,a,b,d⟩:=HL (v:=v) h.ok.wf hs;have hp:=h.ok.pid;exact⟨⟨by grind[Cr],by rw[a];exact h.ok.may,by rw[a];exact h.ok.wf,by rw[b,k2];exact hp⟩,by rw[b];exact h.p0⟩
def Aal {x v}(a:(BF e x v).2=0):(BF e x v).1={e with S:=(BF e x v).1.S}:=by
 have b:(BF e x v).1={e with S:=(Bm e x v).1}:=by
  show stE e x v=_;unfold stE;rw[ArR (show(Bm e x v).2=0 from a)];rfl
 rw[b]
theorem KJ (z:Tq){m}(h:Ci e)(hs:DW e.M s)(hk:s.Kind=6)(G:m.length=s.Args.length):VO 147 [.agg (Af e),.agg (An s),Ac true m] (CX e s m):=by
 have A:=hs.args;have h6:=hs.k6 hk;refine Ay func147 (AbG (EK (CX e s m)) e s m) ?_;refine Az (λg st=>∃(k:Nat)(b:D.Env),k<=s.Args.length/\Ci b/\b.M=e.M/\F5 m s.Match k (s.Args.drop k) b=CX e s m/\g=s.Args.length-k/\st=AdF b s m k) ⟨_,Up.of ⟨0,e,Arv _,h,rfl,rfl,rfl,rfl⟩⟩ ?_;rintro g st ⟨k,b,B,n,o,c,rfl,rfl⟩;have p:(k:Int).toNat=k:=oM
 refine ArC (Ys _ b s m k _ rfl rfl) ⟨λq=>?_,λr=>?_⟩
 .have a:k<s.Args.length:=by have:=AQ q;omega
  rw[p];rw[Br (d:=0) a]at c;unfold F5 at c;refine⟨⟨oM,oM⟩,λj=>⟨s.Args.length-(k+1),oM,Up.of ⟨k+1,b,a,n,o,?_,rfl,by rw[Aj oM]⟩⟩,λj=>?_⟩
  .grind
  .have j:s.Match.getD k 0=0:=by simpa using j
   rw[j,ArK sM,Arq]at c;obtain⟨t,t2,x⟩:=OM (hs.take hk a j);rw[<- o]at t t2 x;obtain⟨y,⟨l,C⟩,E⟩:=ApD (z (v:=m.getD k 0) n t.1 t.2 t2);have l:y.2=(Bm b (s.Args.getD k 0) (m.getD k 0)).2:=l;refine⟨⟨oM,oM⟩,⟨oM,oM⟩,y,E,λi=>?_,λi=>?_⟩
   .have i:(Bm b (s.Args.getD k 0) (m.getD k 0)).2≠0:=by rw[<- l];simpa using i
    rw[ArR i,Art]at c;grind[Fg]
   .have i:(Bm b (s.Args.getD k 0) (m.getD k 0)).2=0:=by rw[<- l];simpa using i
    rw[ArK (λF=>F i),Arq]at c;have u:(BF b (s.Args.getD k 0) (m.getD k 0)).2=0:=i;have f:=Aal u;rw[<- C u]at f;refine⟨s.Args.length-(k+1),oM,Up.of ⟨k+1,(BF b (s.Args.getD k 0) (m.getD k 0)).1,a,n.stored x u,?_,c,rfl,?_⟩⟩
    .rw[f];exact o
    .rw[f,Aj oM];rfl
 .rw[ArU (by have:=AP r;omega)]at c;have c:(b,(0:Int))=CX e s m:=c;rw[GL (by rw[<- c]),<- c];exact⟨trivial,lR⟩
def Akh {x:Int}(h:BJ e)(d:0<=x/\x<e.M.Exprs.length)(b:(As e.M x).Op=39):(0<=(As e.M x).N/\(As e.M x).N<e.M.Procs.length/\(As e.M x).N≠e.M.Claim)/\(As e.M x).Args.length=(AY e.M (As e.M x).N).Params/\∀a∈(As e.M x).Args,0<=a/\a<e.M.Exprs.length:=by
 have hp:=h.expr x.toNat oM;rw[show((x.toNat:Nat):Int)=x by omega]at hp;unfold EC at hp;simp only[Arr]at hp;have h3:=hp.2;rw[ArG oM,ArG oM,ArG oM,ArG oM,ArY b]at h3;unfold C0 at h3;simp only[Arr,Ary]at h3;refine⟨⟨h3.1.1.2.1.1,h3.1.1.2.1.2,h3.1.1.2.2⟩,h3.1.2,λa c=>?_⟩;have:=Uy h3.2 a c;omega
def ZC {x:Int}(h:BJ e)(a:0<=x/\x<e.M.Exprs.length)(b:(As e.M x).Op=39):((Bl e x).1,(Bl e x).2.2)=bif decide ((BC e (As e.M x).Args).2≠0)then(e,(BC e (As e.M x).Args).2)else(Hi e (EJ e.M (As e.M x).N (BC e (As e.M x).Args).1),0):=by
 obtain⟨⟨n1,n2,d⟩,f,_⟩:=Akh h a b;unfold Bl;cases c:decide ((BC e (As e.M x).Args).2≠0)with
 | true=>rfl
 | false =>
  have g:=Jq (show(BC e (As e.M x).Args).2=0 by simpa using c);have i:GX e.M (As e.M x).N (BC e (As e.M x).Args).1=(EJ e.M (As e.M x).N (BC e (As e.M x).Args).1,0):=by
   unfold GX;rw[h.may,AsX,Arq,ArK oM,ArK oM,ArK d,ArK oM];rfl
  grind
def Sj {x:Int}(h:Ci e)(g:0<=x/\x<e.M.Exprs.length)(m:(As e.M x).Op=39):VO 99 [.agg (Af e),Aa x] ((Bl e x).1,(Bl e x).2.2):=by
 have c:=ZC h.ok g m;obtain⟨⟨n1,n2,v⟩,y,o⟩:=Akh h.ok g m;generalize((Bl e x).1,(Bl e x).2.2)=R at c |-;have n:=h.ok.fit;have hp:=n.p;have j:=h.ok.wf.Exprs.2 _ (Av (d:=default) (show x.toNat<e.M.Exprs.length by omega));have k:(As e.M x).Args.length<=1048576:=j.Args.1;obtain⟨b,_⟩:=E4 (Dj h.ok.may).2.1 (As e.M x).N.toNat oM;have b:Ed (AY e.M (As e.M x).N)=true:=b;unfold Ed at b;simp only[Arr,Ary]at b;obtain⟨⟨⟨⟨⟨⟨⟨⟨b,z⟩,A⟩,B⟩,C⟩,_⟩,_⟩,_⟩,_⟩:=b;refine Ay func99 (Ag3 (EK R) e x rfl) ⟨g,BC e (As e.M x).Args,OW h.ok k o,λa=>?_,λa=>?_⟩
 .have a:(BC e (As e.M x).Args).2≠0:=by simpa using a
  rw[ArR a,Art]at c;grind[Fg]
 .have a:(BC e (As e.M x).Args).2=0:=by simpa using a
  have E:=Jq a;rw[ArK (λq=>q a),Arq]at c;have t:(BC e (As e.M x).Args).1.length<=(AY e.M (As e.M x).N).Frame.length:=oM
  have u:(BC e (As e.M x).Args).1.length<=(AY e.M (As e.M x).N).Init.length:=oM
  refine⟨e.S,Gu n,g,EJ e.M (As e.M x).N (BC e (As e.M x).Args).1,Yv h.ok.wf ⟨n1,n2⟩ oM t u,oM,?_⟩;rw[GL (by rw[c]),c];refine⟨trivial,Aso ⟨Asi ⟨lR,lR,?_,lR,lR,lR,trivial⟩,lR,trivial⟩⟩;generalize EJ e.M (As e.M x).N (BC e (As e.M x).Args).1=p;show VV.le _ (.sl true (e.S.Procs++[p]).length 4 λi=>Ap ((e.S.Procs++[p]).getD i default));rw[ArA,List.length_singleton];refine Asy (.inl rfl) λi hi=>AO ?_
  exact Bu (l:=e.S.Procs) (r:=[p]) (f:=Ap) (d:=default) (F:=λi=>Ap (e.S.Procs.getD i default)) (G:=λi=>List.take 4 (List.drop (i*4) (Ap p))) (λi hi=>rfl) (λi hi=>by
   obtain rfl:i=0:=by simpa using hi
   rfl) (by simpa using hi)
end
def Yu {s}(t:Fit s){w}(y:w<s.Procs.length):Ai prog 56 [] [.agg (Ae s)] [obG s,obC s,obK s w 3,obF (s.Procs.getD w default)] (.agg (AcS s)):=by
 have hp:=t.p;refine Sf t ?_;have u:∀k:Nat,k<=w->Up (λst=>k<w/\st=T7 s s.Chans (s.Procs.take k) k\/k=w/\st=Ajx s s.Chans (s.Procs.take k) w k\/w<k/\st=Ajw s s.Chans (s.Procs.take k) w (s.Procs.getD w default) k) (T7 s s.Chans (s.Procs.take k) k):=λk hk=>by
  rcases Ar5 k w with h|h
  .exact Up.of (.inl ⟨h,rfl⟩)
  .exact Up.mk (l':=[(1,.bp 0 0),(2,.bp 1 0),(3,.bp 2 0),(8,Aa k)]) (hs':=[.box (Ae s),.box DY,.box (AJ s (.ow 3 0 s.Globals.length) (.ow 4 0 s.Chans.length) (.ow 5 0 (s.Procs.take k).length)),obG s,.arr true 0 s.Chans.length 2 (Cn s.Chans),.kar 0 (s.Procs.take k).length 4 w [] (B2 (s.Procs.take k))]) (AH _) ⟨Ob.le_refl _,Ob.le_refl _,Ob.le_refl _,Ob.le_refl _,Ob.le_refl _,AtA (by rw[Ast];omega),trivial⟩ (.inr (.inl ⟨oM,rfl⟩))
 have app:∀(k:Nat),k<s.Procs.length->∀i,i<(s.Procs.take (k+1)).length->(bif Nat.blt i (s.Procs.take k).length then Ap ((s.Procs.take k).getD i default)else[Ap (s.Procs.getD k default)].getD (i-(s.Procs.take k).length) [])=B2 (s.Procs.take (k+1)) i:=λk hk i hi=>by
  have m:s.Procs.take (k+1)=s.Procs.take k++[s.Procs.getD k default]:=Dh hk;rw[m]at hi |-;exact Bu (l:=s.Procs.take k) (r:=[s.Procs.getD k default]) (f:=Ap) (d:=default) (F:=λi=>Ap ((s.Procs.take k).getD i default)) (G:=λi=>[Ap (s.Procs.getD k default)].getD i []) (λi hi=>rfl) (λi hi=>by
   obtain rfl:i=0:=by simpa using hi
   rfl) (by simpa using hi)
 have b:∀k,k<s.Procs.length->(s.Procs.take (k+1)).length=(s.Procs.take k).length+1:=λk hk=>by rw[Ast,Ast];omega
 refine Az (λg st=>∃k:Nat,k<=s.Procs.length/\g=s.Procs.length-k/\(k<w/\st=T7 s s.Chans (s.Procs.take k) k\/k=w/\st=Ajx s s.Chans (s.Procs.take k) w k\/w<k/\st=Ajw s s.Chans (s.Procs.take k) w (s.Procs.getD w default) k))
  ⟨_,let ⟨n,h1,h2⟩:=u 0 (Arv _);⟨n,h1,0,Arv _,rfl,h2⟩⟩ ?_
 rintro g st ⟨k,hk,rfl,h⟩;have o:(k:Int).toNat=k:=oM
 have c:(s.Procs.take k).length=k:=by simp;omega
 rcases h with⟨q,rfl⟩ | ⟨rfl,rfl⟩ | ⟨q,rfl⟩
 .refine ArC (Sg _ _ s s.Chans (s.Procs.take k) k _ rfl) ⟨λ_=>?_,λe=>?_⟩
  .rw[o];have A:=t.f _ (Av (d:=default) (show k<s.Procs.length by omega));refine⟨⟨oM,oM⟩,⟨oM,oM⟩,oM,λ_ _=>rfl,by rw[c];omega,s.Procs.length-(k+1),oM,?_⟩;rw[Aj oM];obtain⟨n,h1,h2⟩:=u (k+1) q;refine Up.cv (Qo.mk' (AH _) (l':=[(1,.bp 0 0),(2,.bp 1 0),(3,.bp 2 0),(8,Aa ((k+1:Nat):Int))])
    (hs':=[.box (Ae s),.box DY,.box (AJ s (.ow 3 0 s.Globals.length) (.ow 4 0 s.Chans.length) (.ow 5 0 (s.Procs.take (k+1)).length)),obG s,.arr true 0 s.Chans.length 2 (Cn s.Chans),.arr true 0 (s.Procs.take (k+1)).length 4 (B2 (s.Procs.take (k+1)))]) ?_).cv ⟨n,h1,k+1,oM,rfl,h2⟩
   have j:=app k oM;rw[b k oM]at j |-;exact⟨Ob.le_refl _,Ob.le_refl _,Ob.le_refl _,Ob.le_refl _,Ob.le_refl _,ArT λi hi=>AO (j i hi),trivial⟩
  .have:=AP e;omega
 .refine ArC (AbP _ _ s s.Chans (s.Procs.take k) k k _ rfl) ⟨λ_=>?_,λe=>?_⟩
  .rw[o];have A:=t.f _ (Av (d:=default) y);refine⟨⟨oM,oM⟩,⟨oM,oM⟩,oM,λ_ _=>rfl,by rw[c];omega,c,s.Procs.length-(k+1),oM,?_⟩;rw[Aj oM];refine Up.mk (l':=[(1,.bp 0 0),(2,.bp 1 0),(3,.bp 2 0),(8,Aa ((k+1:Nat):Int))])
    (hs':=[.box (Ae s),.box DY,.box (AJ s (.ow 3 0 s.Globals.length) (.ow 4 0 s.Chans.length) (.ow 5 0 (s.Procs.take (k+1)).length)),obG s,.arr true 0 s.Chans.length 2 (Cn s.Chans),.kar 0 (s.Procs.take (k+1)).length 4 k (Od (s.Procs.getD k default) 6) (B2 (s.Procs.take (k+1))),obF (s.Procs.getD k default)]) (AH _) ?_ ⟨k+1,oM,rfl,.inr (.inr ⟨Asq k,rfl⟩)⟩
   have j:=app k y;rw[b k y]at j |-;refine⟨Ob.le_refl _,Ob.le_refl _,Ob.le_refl _,Ob.le_refl _,Ob.le_refl _,Atx (λi hi z=>AO ?_) (D0 _),Ob.le_refl _,trivial⟩;rw[<- j i hi,show Nat.blt i (s.Procs.take k).length=true from Nat.ble_eq_true_of_le oM,Art];rfl
  .have:=AP e;omega
 .refine ArC (AbO _ _ s s.Chans (s.Procs.take k) w (s.Procs.getD w default) k _ rfl) ⟨λv=>?_,λe=>?_⟩
  .have a:k<s.Procs.length:=by have:=AQ v;omega
   rw[o];have A:=t.f _ (Av (d:=default) a);refine⟨⟨oM,oM⟩,⟨oM,oM⟩,oM,λ_ _=>rfl,by rw[c];omega,by rw[c];exact q,s.Procs.length-(k+1),oM,?_⟩;rw[Aj oM];refine Up.mk (l':=[(1,.bp 0 0),(2,.bp 1 0),(3,.bp 2 0),(8,Aa ((k+1:Nat):Int))])
    (hs':=[.box (Ae s),.box DY,.box (AJ s (.ow 3 0 s.Globals.length) (.ow 4 0 s.Chans.length) (.ow 5 0 (s.Procs.take (k+1)).length)),obG s,.arr true 0 s.Chans.length 2 (Cn s.Chans),.kar 0 (s.Procs.take (k+1)).length 4 w (Od (s.Procs.getD w default) 6) (B2 (s.Procs.take (k+1))),obF (s.Procs.getD w default)]) (AH _) ?_ ⟨k+1,oM,rfl,.inr (.inr ⟨oM,rfl⟩)⟩
   have j:=app k a;rw[b k a]at j |-;exact⟨Ob.le_refl _,Ob.le_refl _,Ob.le_refl _,Ob.le_refl _,Ob.le_refl _,Atx (λi hi z=>AO (j i hi)) (D0 _),Ob.le_refl _,trivial⟩
  .have x:s.Procs.length<=k:=by have:=AP e;omega
   rw[Ar8 x];exact⟨⟨Ob.le_refl _,Ob.le_refl _,Ob.le_refl _,Ob.le_refl _,trivial⟩,lR⟩
def Aei {l:List Int}{k:Nat}{y}:VV.le (.sl true l.length 1 λj=>bif Nat.beq j k then[Aa y]else[Aa (l.getD j 0)]) (Ac true (l.set k y)):=by
 unfold Ac;rw[Asn];refine Asy (.inl rfl) λi hi=>AO ?_
 rw[Jd]
 by_cases h:i=k
 .simp_all
 .rw[Bw h,Arq,ArG λc=>h c.1.symm]
def AkO {l:List D.Process}{w:Nat}{q}{r}(h:leL r (Ap q)):VV.le (.sl true l.length 4 λi=>bif Nat.beq i w then r else Ap (l.getD i default)) (Aw true (l.set w q)):=by
 unfold Aw;rw[Asn];refine Asy (.inl rfl) λi hi=>?_
 rw[Jd]
 by_cases a:i=w
 .simp_all
 .rw[Bw a,Arq,ArG λc=>a c.1.symm];exact D0 _
def Ajl:Tq:=by
 intro e x v h h0 h1 H;have s:=h.ok.fit;have z:=s.p;have t:=h.ok.pid;have A:=h.p0;have B:=h.ok.globals;have u:=Sb (e:=e) (x:=x) (ev:=Gh e) h.ok ⟨h0,h1⟩ (Aeo h.ok h0 h1) λa C E=>Iv h.ok _ a C oM oM
 have d:=λc=>LC (ev:=Gh e) h.ok h0 h1 c
 have b:Bm e x v=bif decide ((B9 e (Gh e) (As e.M x)).2.2≠0)then(default,(B9 e (Gh e) (As e.M x)).2.2)else(JD e.M e.S (B9 e (Gh e) (As e.M x)).1 (B9 e (Gh e) (As e.M x)).2.1 v,0):=by
  unfold Bm;rw[Wl h.ok ⟨h0,h1⟩]<;>rfl
 generalize B9 e (Gh e) (As e.M x)=R at u d b;have o:R.2.2=0->EK (BF e x v)=(JD e.M e.S R.1 R.2.1 v,0):=λc=>by
  rw[ArK (λn=>n c),Arq]at b;have hs:(Bm e x v).2=0:=by rw[b]
  rw[GL (p:=BF e x v) hs];unfold BF stE;rw[ArR hs,b]<;>rfl
 have j:R.2.2=0->R.1.toNat<e.S.Procs.length:=λc=>by
  have:=d c;rcases Int.lt_or_le R.1 0 with n|n
  .omega
  .have:=this.own n;omega
 refine Ay func105 (AgE (EK (BF e x v)) e x v rfl rfl rfl) ⟨R,u,λg=>?_,λg=>?_⟩
 .have g:R.2.2≠0:=by simpa using g
  exact Fg (p:=BF e x v) (by unfold BF;rw[b,ArR g]<;>rfl) g
 .have c:R.2.2=0:=by simpa using g
  have w:=d c;rw[o c];refine⟨(e.S,R.1.toNat),Yu s (j c),λhg=>?_,λhg=>?_⟩
  .have hg:R.1<0:=ArD hg;have hk:=w.glob hg;refine⟨⟨hk.1,oM⟩,_,Hx _ _,hk,trivial,?_⟩;unfold JD;rw[ArR hg,Art];have f:VV.le (.sl true e.S.Procs.length 4 λi=>bif Nat.beq i R.1.toNat then Ap (e.S.Procs.getD R.1.toNat default)else Ap (e.S.Procs.getD i default)) (Aw true e.S.Procs):=Asy (.inl rfl) λi _=>AO (by
    by_cases y:i=R.1.toNat
    .rw[y,Asz,Art]
    .rw[Bw y,Arq])
   exact Aso ⟨Asi ⟨Aei,lR,f,lR,lR,lR,trivial⟩,lR,trivial⟩
  .have r:¬R.1<0:=ArP hg;have hk:=w.own oM;have k:e.S.Procs.getD R.1.toNat default∈e.S.Procs:=Av (j c);obtain⟨F,I,G,J,_⟩:=DN (h.ok.proc k);have l:inX R.1 e.S.Procs.length:=⟨oM,hk.1⟩;have m:inX R.2.1 (e.S.Procs.getD R.1.toNat default).Frame.length:=⟨hk.2.1,hk.2.2⟩;refine⟨l,rfl,l,rfl,F,⟨hk.2.1,by have:=m.2;rw[G]at this;exact this⟩,_,Hx _ _,m,trivial,?_⟩;unfold JD;rw[ArK r,Arq];exact Aso ⟨Asi ⟨lR,lR,AkO (q:=AaA e.M (e.S.Procs.getD R.1.toNat default) R.2.1 v) ⟨lR,lR,lR,Aei,trivial⟩,lR,lR,lR,trivial⟩,lR,trivial⟩
def LR {p}:leO [] []/\VV.le (.tup [.agg (Ae (EK p).1),Aa (EK p).2]) (.tup [.agg (Ae (EK p).1),Aa (EK p).2]):=⟨trivial,lR⟩
section
variable {e : D.Env} {s:D.Stmt} {w:Wy}
def Aix {x}(h:(Bl e x).2.2=0):(Bl e x).2.1=e.S.Procs.length:=by
 unfold Bl at h |-;grind
def DW.set2 {m}(hs:DW m s)(hk:s.Kind=2):B5 m s.A:=by
 have:=hs.st;unfold AF at this;grind
def DW.set9 {m}(hs:DW m s)(hk:s.Kind=9):B5 m s.A/\0<=s.N/\s.N<m.Shapes.length:=by
 have:=hs.st;unfold AF at this;grind
def AgJ (o:Tq)(h:Ci e)(hs:DW e.M s)(hk:s.Kind=2)(r:CJ e s.B->e.S.Procs.length<16):VO 100 [.agg (Af e),.agg (An s)] (F1 e s):=by
 have hB:=hs.k2 hk;have t:=h.ok.fit.p;obtain⟨k,t2,v⟩:=OM (hs.set2 hk);have a:F1 e s=bif CJ e s.B then(bif decide ((Bl e s.B).2.2≠0)then((Bl e s.B).1,(Bl e s.B).2.2)else BF (Bl e s.B).1 s.A (Bl e s.B).2.1)
  else bif decide ((Bc e s.B).2≠0)then(e,(Bc e s.B).2)else BF e s.A (Bc e s.B).1:=rfl
 generalize F1 e s=R at a |-;refine Ay func100 (Akr (EK R) e s rfl rfl rfl rfl) ⟨CJ e s.B,LH λ_=>hB.2,λh1=>?_,λh1=>⟨Bc e s.B,I3 h.ok hB,λh2=>?_,λh2=>?_⟩⟩
 .have q:(As e.M s.B).Op=39:=by
   unfold CJ at h1;grind
  rw[h1,Art]at a;have l:=ZC h.ok hB q;refine⟨_,Sj h hB q,λh2=>?_,λh2=>?_⟩
  .have h2:(Bl e s.B).2.2≠0:=by simpa[EK]using h2
   rw[ArR h2,Art]at a;exact Fg (by rw[a];rfl) h2
  .have h2:(Bl e s.B).2.2=0:=by simpa[EK]using h2
   rw[ArK (λc=>c h2),Arq]at a;have g:(BC e (As e.M s.B).Args).2=0:=gD
   rw[ArK (λc=>c g),Arq]at l;have m:(Bl e s.B).1=Hi e (EJ e.M (As e.M s.B).N (BC e (As e.M s.B).Args).1):=congrArg Prod.fst l;have d:=UY (b:=λi=>i=e.Pid) (e:=e) (x:=s.B) (Cr.1 h.ok.fits) (r h1);have f:=d.fits h2;rw[l,GL (p:=(Hi e (EJ e.M (As e.M s.B).N (BC e (As e.M s.B).Args).1),0)) rfl];rw[m]at a f;rw[Aix h2]at a;generalize EJ e.M (As e.M s.B).N (BC e (As e.M s.B).Args).1=p at a f |-;have j:=h.ok.pid;have n:Ci (Hi e p):=⟨⟨Cr.2 f,h.ok.may,h.ok.wf,j.1,by show e.Pid<((e.S.Procs++[p]).length:Int);simp;omega⟩,h.p0⟩;have u:i64.wrap (((Hi e p).S.Procs.length:Int)-1)=e.S.Procs.length:=by
    rw[show((Hi e p).S.Procs.length:Int)-1=e.S.Procs.length by show((e.S.Procs++[p]).length:Int)-1=_;simp];grind[AT]
   refine⟨EK R,?_,LR⟩;show Ai _ _ _ [.agg (Af (Hi e p)),Aa s.A,Aa (i64.wrap (((Hi e p).S.Procs.length:Int)-1))] _ _;rw[u,a];exact o n k.1 k.2 t2
 .have h2:(Bc e s.B).2≠0:=by simpa using h2
  rw[h1,Arq,ArR h2,Art]at a;grind[Fg]
 .have h2:(Bc e s.B).2=0:=by simpa using h2
  rw[h1,Arq,ArK (λc=>c h2),Arq]at a;refine⟨EK R,?_,LR⟩;rw[a];exact o h k.1 k.2 t2
def XJ {l:List D.Chan}{t j:Nat}{c}(hj:j<l.length):(bif j.beq t then Am c else Am (l.getD j default))=Am ((l.set t c).getD j default):=by
 rw[Jd];cases a:Nat.beq j t with
 | true =>
  simp_all
 | false=>rw[ArG λh=>by simp_all];rfl
def YP:AC e s=bif decide ((Dt e s).2≠0)then(0,[],(Dt e s).2)else(bif decide ((BC e s.Args).2≠0)then 0 else(Dt e s).1,(AC e s).2):=by
 unfold AC Dt;grind
def Ajf (c:BJ e)(h:(Dt e s).2=0):AiJ e (Dt e s).1/\(Dt e s).1=(AK e s.A).1/\(AK e s.A).2=0/\(Bh e (AK e s.A).1).length=s.Args.length:=by
 unfold Dt at h |-;cases a:decide ((AK e s.A).2≠0)with
 | true=>grind
 | false =>
  rw[a,Arq]at h;rw[Arq];have h0:(AK e s.A).2=0:=by simpa using a
  cases b:decide ((Bh e (AK e s.A).1).length≠s.Args.length)with
  | true=>rw[b]at h;cases h
  | false=>exact⟨Fk c.wf h0,rfl,h0,by simpa using b⟩
def Ac4 (h:BJ e){c}(a:c∈e.S.Chans):c.Queue.length<=1024/\∀y∈c.Queue,y.length<=1048576:=by
 have b:=h.fit.q c a;grind
def PT {s}(h:C3 s):(∀t∈s.Fields,EY t)/\s.Fields.length<=8:=by
 unfold C3 at h;simp only[Arr,Ary]at h;exact⟨(CR (d:=default) (f:=λt=>EY t)).1 h.2,h.1.2⟩
def Yj (B:Tq)(h:Ci e)(hs:DW e.M s)(hk:s.Kind=5)(z:0<=w.With->Qi e s w):QO 103 [.agg (Af e),.agg (An s),.agg (AW w)] (Fd e s w):=by
 have v:=h.ok.fit;have C:=v.p;have E:=v.c;have j:Fd e s w=bif decide ((AC e s).2.2≠0)then(e,(AC e s).2.2)
   else bif decide (0<=w.With)then({e with S:=(CX (BQ e w.With) (FW e w).S (AC e s).2.1).1.S},(CX (BQ e w.With) (FW e w).S (AC e s).2.1).2)else RW e s:=rfl
 have l:=YP (e:=e) (s:=s);have x:=λg=>MP (e:=e) (s:=s) h.ok.wf g
 obtain⟨r,d⟩:∃r:D.State×Int,r=bif decide ((AC e s).2.2≠0)||decide (0<=w.With)then EK (Fd e s w)else((RW e s).1.S,(RW e s).2):=⟨_,rfl⟩
 refine⟨r,?_,?_⟩
 .rw[d,j];cases F:decide ((AC e s).2.2≠0)with
  | true=>exact⟨rfl,λg=>absurd g (ArD F)⟩
  | false =>
   cases T:decide (0<=w.With)with
   | true=>exact⟨rfl,λg=>congrArg Prod.fst (GL g)⟩
   | false=>exact⟨rfl,λ_=>rfl⟩
 refine Ay func103 (Abp r e s w rfl rfl) ⟨Dt e s,Ho h.ok (hs.kA (.inr (.inl hk))),λh1=>?_,λh1=>?_⟩
 .have h1:(Dt e s).2≠0:=by simpa using h1
  rw[ArR h1,Art]at l;have g:(AC e s).2.2=(Dt e s).2:=by rw[l]
  rw[ArR oM,Bool.true_or,Art]at d;rw[d];refine Fg ?_ h1;grind
 have h1:(Dt e s).2=0:=by simpa using h1
 obtain⟨a,n1,n2,G⟩:=Ajf h.ok h1;refine⟨(AC e s).2,by rw[n1];exact Un h.ok hs n2 G,λh2=>?_,λh2=>?_⟩
 .have h2:(AC e s).2.2≠0:=by simpa using h2
  rw[ArR h2,Bool.true_or,Art]at d;rw[d];refine Fg ?_ h2;grind
 have h2:(AC e s).2.2=0:=by simpa using h2
 obtain⟨mi1,mi2⟩:=x h2;have m:(AC e s).1=(Dt e s).1:=by
  have U:(BC e s.Args).2=0:=ArW λo=>by
   unfold AC at h2;grind
  grind
 rw[ArK (λo=>o h2),Arq]at j;rw[ArK (λo=>o h2),As0]at d;refine⟨λh3=>?_,λh3=>?_⟩
 .have h3:0<=w.With:=ArD h3;obtain⟨A,V,H,I,J,K,W⟩:=z h3;have mst:=(z h3).st;rw[ArR h3,Art]at j d;have L:Iz (CA (BQ e w.With)) w.WithEsc=CF (CA (BQ e w.With)) w.WithEsc:=rfl;refine⟨BQ e w.With,MH,_,HX A (λ_=>H),⟨I,J⟩,EK (CX (BQ e w.With) (FW e w).S (AC e s).2.1),?_,?_⟩
  .refine KJ B A mst K ?_;show _=(FW e w).S.Args.length;grind[EE]
  .rw[d,j];exact⟨trivial,lR⟩
 .have h3:¬0<=w.With:=ArP h3;rw[ArK h3,Arq]at j d;have q:r=((GV e (Dt e s).1 (N2 e.M (BS e (Dt e s).1) (AC e s).2.1 (decide (s.N=1))).1).S,(N2 e.M (BS e (Dt e s).1) (AC e s).2.1 (decide (s.N=1))).2):=by
   rw[d];unfold RW;rw[m]
  rw[m]at mi2;have b:(AC e s).2.1.length=(Bh e (Dt e s).1).length:=EE mi2;generalize o:(Dt e s).1=n at a q mi2 b |-;have g1:=a.lo;have X:=a.hi;have Y:=a.le;have u:BS e n∈e.S.Chans:=Av oM;obtain⟨O,P⟩:=Ac4 h.ok u;have f:=a.ok.tab.shape (BS e n).Shape.toNat (by have:=a.sh;omega);have y:∀t∈(B8 e.M (BS e n).Shape).Fields,EY t=true:=(PT f).1;have Q:(B8 e.M (BS e n).Shape).Fields.length<=8:=(PT f).2;rw[AT oM oM];have R:(s.N==(1:Int))=decide (s.N=1):=gD
  rw[R];refine⟨e.S,Gu v,⟨oM,oM⟩,a.sh,⟨oM,oM⟩,N2 e.M (BS e n) (AC e s).2.1 (decide (s.N=1)),?_,⟨oM,oM⟩,?_⟩
  .exact AgM (s:=B8 e.M (BS e n).Shape) (c:=BS e n) b y (by rw[b];show(B8 e.M (BS e n).Shape).Fields.length<=_;omega) O P
  .rw[q];refine⟨trivial,Aso ⟨Asi ⟨lR,?_,lR,lR,lR,lR,trivial⟩,lR,trivial⟩⟩;generalize(N2 e.M (BS e n) (AC e s).2.1 (decide (s.N=1))).1=k;show VV.le _ (.sl true (e.S.Chans.set (n-1).toNat k).length 2 λi=>Am ((e.S.Chans.set (n-1).toNat k).getD i default));rw[Asn];exact Asy (.inl rfl) λi hi=>AO (XJ (c:=k) (t:=(n-1).toNat) hi)
end
section
variable {e : D.Env} {s:D.Stmt} {w:Wy}
def P2 {r:D.State×Int}{m}{S C}{n}{F}(a:C.Chans.length=n)(b:∀i,i<n->F i=Am (C.Chans.getD i default))(c:C={S with Chans:=C.Chans})
  (h:Au (fc CO GG f104 [] (.tup [.agg (Ae r.1),Aa r.2])) Acw (Aop {e with S:=C} s m)) :
  Au (fc CO GG f104 [] (.tup [.agg (Ae r.1),Aa r.2])) Acw (Aq [(2,.bp 0 0),(3,.bp 4 0),(4,.bp 5 0),(12,Ac true m)] [.box [AE true e.M.Globals,Ac true e.M.Init,A1 true e.M.Shapes,Ac true e.M.Chans,Bb true e.M.Procs,Aa e.M.Claim,Bf true e.M.Exprs,.ow 1 0 S.Globals.length,.ow 2 0 n,.ow 3 0 S.Procs.length,Aa S.Last,Aa S.Alone,Aa S.Claim,Aa e.Pid,Ad e.Timeout,AM true e.Able],
   obG S,.arr true 0 n 2 F,obP S,.box (An s),.box DY]):=by
 refine Au.cv (Cv.pubB (hs':=[.box [AE true e.M.Globals,Ac true e.M.Init,A1 true e.M.Shapes,Ac true e.M.Chans,Bb true e.M.Procs,Aa e.M.Claim,Bf true e.M.Exprs,.sl true S.Globals.length 1 (AD S.Globals),.sl true n 2 F,.sl true S.Procs.length 4 (B2 S.Procs),Aa S.Last,Aa S.Alone,Aa S.Claim,Aa e.Pid,Ad e.Timeout,AM true e.Able],
   obG S,.arr true 0 n 2 F,obP S,.box (An s),.box DY]) (ids:=[1,2,3]) 8 rfl) ?_
 refine Au.forget [2,3,4,12] rfl ?_;refine Au.le (AH _) (hs':=[.box (Af {e with S:=C}),.box (An s),.box DY]) ⟨Atm ?_,Ob.le_refl _,Ob.le_refl _,trivial⟩ h;rw[c];refine⟨lR,lR,lR,lR,lR,lR,lR,lR,?_,lR,lR,lR,lR,lR,lR,lR,trivial⟩;show VV.le _ (.sl true C.Chans.length 2 λi=>Am (C.Chans.getD i default));rw[a];exact Asy (.inl rfl) λi hi=>AO (b i hi)
def AhS:Bg e s=bif decide ((Dt e s).2≠0)then(0,-1,(Dt e s).2)else bif decide ((B7 e s).2≠0)then(0,-1,(B7 e s).2)
  else((Dt e s).1,F7 (BS e (Dt e s).1) (B7 e s).1 s.Match (decide (s.N.tmod 2=1)),0):=by
 unfold Bg Dt;grind
def Aji {m}{k}{n}(h:De m k)(h0:(CT k n).2.2=0):(CT k n).2.1.length=(B8 m k.Shape).Fields.length:=by
 unfold CT at h0 |-;cases c:(decide (n<0)||decide ((k.Queue.length:Int)<=n))with
 | true=>rw[c]at h0;cases h0
 | false =>
  rw[Arq];simp only[ArJ,ArV]at c;exact EE ((EW h).2.2 _ (Av (d:=[]) oM))
def Yl (r:Tq)(h:Ci e)(hs:DW e.M s)(hk:s.Kind=6):VO 104 [.agg (Af e),.agg (An s)] (Er e s):=by
 have u:=h.ok.fit;have d:Er e s=bif decide ((Bg e s).2.2≠0)then(e,(Bg e s).2.2)
   else bif decide ((CT (BS e (Bg e s).1) (Bg e s).2.1).2.2≠0)then(e,(CT (BS e (Bg e s).1) (Bg e s).2.1).2.2)
   else CX (bif decide (s.N<2)then GV e (Bg e s).1 (CT (BS e (Bg e s).1) (Bg e s).2.1).1 else e) s (CT (BS e (Bg e s).1) (Bg e s).2.1).2.1:=rfl
 have a:=AhS (e:=e) (s:=s);have v:=hs.args;have h6:=hs.k6 hk;generalize Er e s=R at d |-;refine Ay func104 (Abs (EK R) e s rfl rfl rfl rfl) ⟨Dt e s,Ho h.ok (hs.kA (.inr (.inr hk))),λh1=>?_,λh1=>⟨B7 e s,VJ h.ok hs hk,λh2=>?_,λh2=>?_⟩⟩
 .have h1:(Dt e s).2≠0:=by simpa using h1
  rw[ArR h1,Art]at a;rw[a,ArR h1,Art]at d;grind[Fg]
 .have h1:(Dt e s).2=0:=by simpa using h1
  have h2:(B7 e s).2≠0:=by simpa using h2
  rw[ArK (λf=>f h1),Arq,ArR h2,Art]at a;rw[a,ArR h2,Art]at d;grind[Fg]
 have h1:(Dt e s).2=0:=by simpa using h1
 have h2:(B7 e s).2=0:=by simpa using h2
 obtain⟨b,n1,n2,x⟩:=Ajf h.ok h1;rw[ArK (λf=>f h1),Arq,ArK (λf=>f h2),Arq]at a;have j:(Bh e (Dt e s).1).length=s.Args.length:=by rw[n1];exact x
 rw[a,ArK (show ¬(0:Int)≠0 by simp),Arq]at d;generalize(Dt e s).1=n at b j d |-;have g1:=b.lo;have z:=b.hi;have A:=b.le;have B:=b.q;have k:=Ov (Cr.1 h.ok.fits) b;have y:(bif s.N==(1:Int)then true else s.N==3)=decide (s.N.tmod 2=1):=by have:=hs.n6 hk;grind
 rw[AT oM oM,y];generalize o:F7 (BS e n) (B7 e s).1 s.Match (decide (s.N.tmod 2=1))=at' at d;have g:Ai prog 98 [] [.agg (Am (BS e n)),Ac true (B7 e s).1,Ac true s.Match,Ad (decide (s.N.tmod 2=1))] [] (Aa at'):=by
  rw[<- o];exact MI (by unfold Len;omega) (by unfold Len;omega)
 refine⟨⟨oM,oM⟩,at',g,e.S,Gu u,⟨oM,oM⟩,CT (BS e n) at',Abi (c:=BS e n) oM,λh3=>?_,λh3=>?_⟩
 .have h3:(CT (BS e n) at').2.2≠0:=by simpa using h3
  rw[ArR h3,Art]at d;grind[Fg]
 have h3:(CT (BS e n) at').2.2=0:=by simpa using h3
 rw[ArK (λf=>f h3),Arq]at d;have l:=(Aji k h3).trans j;have m:=Vh k h3;generalize CT (BS e n) at'=t at d l m |-;refine⟨λh4=>⟨⟨oM,oM⟩,?_⟩,λh4=>?_⟩
 .rw[h4,Art]at d;refine P2 (C:=(GV e n t.1).S) (by show(e.S.Chans.set _ _).length=_;rw[Asn]) (λi hi=>XJ hi) rfl ?_;have p:Ci (GV e n t.1):=⟨⟨Cr.2 ((Cr.1 h.ok.fits).setC m),h.ok.may,h.ok.wf,h.ok.pid⟩,h.p0⟩;refine Dm Ak Al kR (P3 (EK R) (GV e n t.1) s t.2.1) ⟨EK R,?_,LR⟩;rw[d];exact KJ r p hs hk l
 .rw[h4,Arq]at d;refine P2 (C:=e.S) rfl (λi hi=>rfl) rfl ?_;refine Dm Ak Al kR (P3 (EK R) e s t.2.1) ⟨EK R,?_,LR⟩;grind[KJ]
def QD (f:FuncId)(xs:List VV)(p:D.Env×ByteArray×Int):Prop :=
 ∃r:D.State×ByteArray×Int,(r.2.2=p.2.2/\(p.2.2=0->r.1=p.1.S/\r.2.1=p.2.1))/\Ai prog f [] xs [] (.tup [.agg (Ae r.1),AI r.2.1,Aa r.2.2])
def SR (e:D.Env)(s:D.Stmt)(a:D.State×Int):D.State×ByteArray×Int :=
 if s.Kind=1 then(bif CJ e s.A then((EK ((Bl e s.A).1,(Bl e s.A).2.2)).1,noT,(Bl e s.A).2.2)else(e.S,noT,0))
 else if s.Kind=2 then((EK (F1 e s)).1,noT,(F1 e s).2)
 else if s.Kind=3 then(e.S,noT,E5 e s)
 else if s.Kind=4 then(e.S,B3 s.Text (BC e s.Args).1,(BC e s.Args).2)
 else if s.Kind=5 then(a.1,noT,a.2)
 else if s.Kind=6 then((EK (Er e s)).1,noT,(Er e s).2)
 else if s.Kind=9 then((EK (BF (El e s.N) s.A (e.S.Chans.length+1:Nat))).1,noT,(BF (El e s.N) s.A (e.S.Chans.length+1:Nat)).2)
 else(e.S,noT,0)
def AkH {b}(h5:s.Kind=5->b.2=(Fd e s w).2/\((Fd e s w).2=0->b.1=(Fd e s w).1.S)) :
  (SR e s b).2.2=(CC B3 e s w).2.2/\((CC B3 e s w).2.2=0->(SR e s b).1=(CC B3 e s w).1.S/\(SR e s b).2.1=(CC B3 e s w).2.1):=by
 unfold SR CC
 by_cases k1:s.Kind=1
 .simp only[ArY k1];cases CJ e s.A with
  | true=>exact⟨rfl,λa=>⟨congrArg Prod.fst (GL (p:=((Bl e s.A).1,(Bl e s.A).2.2)) a),rfl⟩⟩
  | false=>exact⟨rfl,λ_=>⟨rfl,rfl⟩⟩
 simp only[ArG k1]
 by_cases k2:s.Kind=2
 .simp only[ArY k2];exact⟨trivial,λa=>⟨congrArg Prod.fst (GL a),rfl⟩⟩
 simp only[ArG k2]
 by_cases d:s.Kind=3
 .simp only[ArY d];exact⟨trivial,λ_=>⟨trivial,rfl⟩⟩
 simp only[ArG d]
 by_cases g:s.Kind=4
 .grind
 simp only[ArG g]
 by_cases f:s.Kind=9
 .simp only[ArY f,ArG (show ¬s.Kind=5 by omega),ArG (show ¬s.Kind=6 by omega)];exact⟨trivial,λa=>⟨congrArg Prod.fst (GL a),rfl⟩⟩
 simp only[ArG f]
 by_cases c:s.Kind=5
 .simp only[ArY c];exact⟨(h5 c).1,λa=>⟨(h5 c).2 a,rfl⟩⟩
 simp only[ArG c]
 by_cases k6:s.Kind=6
 .simp only[ArY k6];exact⟨trivial,λa=>⟨congrArg Prod.fst (GL a),rfl⟩⟩
 simp only[ArG k6];exact⟨trivial,λ_=>⟨trivial,rfl⟩⟩
end
section
variable {e : D.Env} {s:D.Stmt} {w:Wy}
def Adk (h:w∈A5 e)(h0:0<=w.Way)(hk:(Cf e w).S.Kind≠7):(Cg e (B0 e) (Cf e w).S false).is\/∃p∈(Cg e (B0 e) (Cf e w).S false).wth,w.With=p.pid:=by
 rcases G0 (e:=e)with a|⟨er,a⟩|⟨i,ws,hi,a⟩
 .rw[a]at h;cases h
 .rw[a]at h;obtain rfl:=Ar0.1 h;exact absurd (show(0:Int)<=-1 from h0) dZ
 .rw[a]at h;obtain⟨d,_⟩:=HA hi;obtain⟨j,x,f,c⟩:=Nm h;rw[Ar4]at c;obtain⟨b1,rfl⟩:=SV f;obtain⟨g,k,l⟩:=OI c;have m:ws.getD j default=Cf e w:=by
   unfold Cf;rw[k,d,g]<;>rfl
  have b:Ek e (B0 e) ws false j=Cg e (B0 e) (Cf e w).S false:=by
   unfold Ek;grind
  rwa [b]at l
def Amy (h:w∈A5 e)(h0:0<=w.Way)(hk:(Cf e w).S.Kind=2)(b:CJ e (Cf e w).S.B):e.S.Procs.length<16:=by
 have a:Cg e (B0 e) (Cf e w).S false=I1 e:=by
  unfold Cg;grind
 rcases Adk h h0 oM with c|⟨p,hp,_⟩
 .rw[a]at c;exact ArD c
 .rw[a]at hp;cases hp
def Ai3 (h:w∈A5 e)(h0:0<=w.Way)(hk:(Cf e w).S.Kind=9):e.S.Chans.length<32:=by
 have a:Cg e (B0 e) (Cf e w).S false=⟨decide (e.S.Chans.length<32),0,[]⟩:=by
  unfold Cg;grind
 rcases Adk h h0 oM with c|⟨p,hp,_⟩
 .grind
 .rw[a]at hp;cases hp
def Aex {ev}:∀{l out},(IP ev out l).1.length<=out.length+l.length
 | [],_=>Arx _
 | x::l,out=>by
  have:=Aex (ev:=ev) (l:=l) (out:=out++[(ev x).1]);unfold IP;grind
def AbL {r:D.State×ByteArray×Int}{n}
  (h:Au (fc CO Jj f57 [] (.tup [.agg (Ae r.1),AI r.2.1,Aa r.2.2])) Ali (Aoq (El e n) s)) :
  Au (fc CO Jj f57 [] (.tup [.agg (Ae r.1),AI r.2.1,Aa r.2.2])) Ali (Aq [(3,.bp 0 0),(4,.bp 4 0),(6,.bp 5 0),(22,.bp 6 0)] [.box [AE true e.M.Globals,Ac true e.M.Init,A1 true e.M.Shapes,Ac true e.M.Chans,Bb true e.M.Procs,Aa e.M.Claim,Bf true e.M.Exprs,.ow 1 0 e.S.Globals.length,.ow 2 0 (e.S.Chans.length+1),.ow 3 0 e.S.Procs.length,Aa e.S.Last,Aa e.S.Alone,Aa e.S.Claim,Aa e.Pid,Ad e.Timeout,AM true e.Able],
   obG e.S,.arr true 0 (e.S.Chans.length+1) 2 λi=>bif i.blt e.S.Chans.length then Am (e.S.Chans.getD i default)else(λi=>List.take 2 (List.drop (i*2) [Aa n,.nl])) (i-e.S.Chans.length),obP e.S,.box (An s),.box DY,.box (AJ e.S (.ow 1 0 e.S.Globals.length) (.ow 2 0 (e.S.Chans.length+1)) (.ow 3 0 e.S.Procs.length))]):=by
 have b:VV.le (.sl true (e.S.Chans.length+1) 2 λi=>bif i.blt e.S.Chans.length then Am (e.S.Chans.getD i default)else(λi=>List.take 2 (List.drop (i*2) [Aa n,.nl])) (i-e.S.Chans.length)) (AG true (El e n).S.Chans):=by
  show VV.le _ (.sl true (e.S.Chans++[(⟨n,[]⟩:D.Chan)]).length 2 λi=>Am ((e.S.Chans++[(⟨n,[]⟩:D.Chan)]).getD i default));rw[ArA,List.length_singleton];refine Asy (.inl rfl) λi hi=>?_
  cases c:i.blt e.S.Chans.length with
  | true =>
   simp_all[D0]
  | false =>
   have a:i=e.S.Chans.length:=by
    have:¬i<e.S.Chans.length:=λd=>by rw[show i.blt e.S.Chans.length=true from Nat.ble_eq_true_of_le d]at c;cases c
    omega
   subst a;rw[show(e.S.Chans++[(⟨n,[]⟩:D.Chan)]).getD e.S.Chans.length default=⟨n,[]⟩by simp[List.getD],Arq,Nat.sub_self];exact⟨lR,Ar2,trivial⟩
 refine Au.cv (Cv.pubB (hs':=[.box [AE true e.M.Globals,Ac true e.M.Init,A1 true e.M.Shapes,Ac true e.M.Chans,Bb true e.M.Procs,Aa e.M.Claim,Bf true e.M.Exprs,.sl true e.S.Globals.length 1 (AD e.S.Globals),.sl true (e.S.Chans.length+1) 2 λi=>bif i.blt e.S.Chans.length then Am (e.S.Chans.getD i default)else(λi=>List.take 2 (List.drop (i*2) [Aa n,.nl])) (i-e.S.Chans.length),.sl true e.S.Procs.length 4 (B2 e.S.Procs),Aa e.S.Last,Aa e.S.Alone,Aa e.S.Claim,Aa e.Pid,Ad e.Timeout,AM true e.Able],
   obG e.S,.arr true 0 (e.S.Chans.length+1) 2 λi=>bif i.blt e.S.Chans.length then Am (e.S.Chans.getD i default)else(λi=>List.take 2 (List.drop (i*2) [Aa n,.nl])) (i-e.S.Chans.length),obP e.S,.box (An s),.box DY,
   .box [.sl true e.S.Globals.length 1 (AD e.S.Globals),.sl true (e.S.Chans.length+1) 2 λi=>bif i.blt e.S.Chans.length then Am (e.S.Chans.getD i default)else(λi=>List.take 2 (List.drop (i*2) [Aa n,.nl])) (i-e.S.Chans.length),.sl true e.S.Procs.length 4 (B2 e.S.Procs),Aa e.S.Last,Aa e.S.Alone,Aa e.S.Claim]]) (ids:=[1,2,3,1,2,3]) 8 rfl) ?_
 refine Au.forget [3,4,6,22] rfl ?_;refine Au.le (AH _) (hs':=[.box (Af (El e n)),.box (An s),.box DY,.box (Ae (El e n).S)]) ⟨Atm ?_,Ob.le_refl _,Ob.le_refl _,Atm ?_,trivial⟩ h
 .exact⟨lR,lR,lR,lR,lR,lR,lR,lR,b,lR,lR,lR,lR,lR,lR,lR,trivial⟩
 .exact⟨lR,b,lR,lR,lR,lR,trivial⟩
def AbK (n:Tq)(E:Adc)(h:Ci e)(hs:DW e.M s)(F:s.Kind=5->0<=w.With->Qi e s w)(h1:s.Kind=2->CJ e s.B->e.S.Procs.length<16)(G:s.Kind=9->e.S.Chans.length<32) :
  QD 57 [.agg (Af e),.agg (An s),.agg (AW w)] (CC B3 e s w):=by
 have z:=h.ok.fit;have H:=z.c;have u:=hs.args;obtain⟨I,J,U⟩:=Jy hs.st;obtain⟨d,h5,K⟩:∃d:D.State×Int,(s.Kind=5->d.2=(Fd e s w).2/\((Fd e s w).2=0->d.1=(Fd e s w).1.S))/\(s.Kind=5->Ai prog 103 [] [.agg (Af e),.agg (An s),.agg (AW w)] [] (.tup [.agg (Ae d.1),Aa d.2])):=by
  by_cases k:s.Kind=5
  .obtain⟨r,V,r2⟩:=Yj n h hs k (F k);grind
  simp_all
 refine⟨SR e s d,AkH h5,?_⟩;have b:SR e s d=if s.Kind=1 then(bif CJ e s.A then((EK ((Bl e s.A).1,(Bl e s.A).2.2)).1,noT,(Bl e s.A).2.2)else(e.S,noT,0))
  else if s.Kind=2 then((EK (F1 e s)).1,noT,(F1 e s).2)
  else if s.Kind=3 then(e.S,noT,E5 e s)
  else if s.Kind=4 then(e.S,B3 s.Text (BC e s.Args).1,(BC e s.Args).2)
  else if s.Kind=5 then(d.1,noT,d.2)
  else if s.Kind=6 then((EK (Er e s)).1,noT,(Er e s).2)
  else if s.Kind=9 then((EK (BF (El e s.N) s.A (e.S.Chans.length+1:Nat))).1,noT,(BF (El e s.N) s.A (e.S.Chans.length+1:Nat)).2)
  else(e.S,noT,0):=rfl
 generalize SR e s d=r at b |-;have ne:∀{k:Int},(s.Kind==k)=false->s.Kind≠k:=λhk=>by simpa using hk
 refine Ay func57 (AgZ r e s w rfl rfl rfl) ⟨CJ e s.A,LH J,λk=>?_,λk1=>⟨λk=>?_,λk2=>⟨λk=>?_,λi=>⟨λk=>?_,λo=>⟨λk=>?_,λv=>⟨λk=>?_,λk6=>⟨λk=>?_,λL=>?_⟩⟩⟩⟩⟩⟩⟩
 .have k:=eq_of_beq k;rw[ArY k]at b;refine⟨λq=>?_,λq=>?_⟩
  .have O:(As e.M s.A).Op=39:=by
    unfold CJ at q;grind
   rw[q,Art]at b;subst b;exact⟨_,Sj h (hs.kA (.inl k)) O,trivial,lR⟩
  .rw[q,Arq]at b;subst b;exact⟨trivial,lR⟩
 .have k:=eq_of_beq k;rw[ArG (ne k1),ArY k]at b;subst b;exact⟨_,AgJ n h hs k (h1 k),trivial,lR⟩
 .have k:=eq_of_beq k;rw[ArG (ne k1),ArG (ne k2),ArY k]at b;subst b;have P:0<=s.A/\s.A<e.M.Exprs.length:=by
   have:=hs.st;unfold AF at this;rw[ArY (.inr k)]at this;simp only[Arr]at this;exact CB.1 this.1.1
  refine⟨Bc e s.A,I3 h.ok P,λj=>⟨trivial,Asw ?_⟩,λj=>⟨trivial,Asw ?_⟩⟩
  .rw[A8,ieq,ieq]at j;show _=VV.tup [_,_,Aa (E5 e s)];unfold E5;rw[j];rfl
  .rw[A8,ieq,ieq]at j;show _=VV.tup [_,_,Aa (E5 e s)];unfold E5;rw[j];rfl
 .have k:=eq_of_beq k;rw[ArG (ne k1),ArG (ne k2),ArG (ne i),ArY k]at b;subst b;exact⟨BC e s.Args,OW h.ok u I,_,E (λx Q=>by
   have:=Tn h.ok.wf Q;unfold B33 at this;unfold I64;omega) hs.wf.Text (by
   have:(BC e s.Args).1.length<=([]:List Int).length+s.Args.length:=Aex;grind),trivial,lR⟩
 .have k:=eq_of_beq k;rw[ArG (ne k1),ArG (ne k2),ArG (ne i),ArG (ne o),ArY k]at b;subst b;exact⟨d,K k,trivial,lR⟩
 .have k:=eq_of_beq k;rw[ArG (ne k1),ArG (ne k2),ArG (ne i),ArG (ne o),ArG (ne v),ArY k]at b;subst b;exact⟨_,Yl n h hs k,trivial,lR⟩
 .have k:=eq_of_beq k;rw[ArG (ne k1),ArG (ne k2),ArG (ne i),ArG (ne o),ArG (ne v),ArG (ne k6),ArY k]at b;obtain⟨t,n1,n2⟩:=hs.set9 k;obtain⟨C,t2,W⟩:=OM t;have R:=G k;have ff:=Cr.1 h.ok.fits;have f:=h.ok.tab.shape s.N.toNat oM;have y:Ci (El e s.N):=by
   refine⟨⟨Cr.2 ⟨ff.g,by show(e.S.Chans++[_]).length<=32;simp;omega,ff.pl,ff.l,ff.a,λc m=>?_,ff.p,ff.k⟩,h.ok.may,h.ok.wf,h.ok.pid⟩,h.p0⟩;rcases ArX.1 m with m|m
   .exact ff.c _ m
   .obtain rfl:=Ar0.1 m;unfold C3 at f;unfold De;simp only[Arr,Ary]at f |-;exact⟨⟨CB.2 ⟨n1,n2⟩,f.1.1.1.1⟩,rfl⟩
  refine⟨e.S,Gu z,oM,AbL (Dm Ak Al kR (AbM r (El e s.N) s) ?_)⟩;have T:(El e s.N).S.Chans.length=e.S.Chans.length+1:=by show(e.S.Chans++[_]).length=_;simp
  rw[T];refine⟨_,n y C.1 C.2 t2,?_⟩;rw[b];exact⟨trivial,lR⟩
 .rw[ArG (ne k1),ArG (ne k2),ArG (ne i),ArG (ne o),ArG (ne v),ArG (ne k6),ArG (ne L)]at b;subst b;exact⟨trivial,lR⟩
end
section
variable {e : D.Env} {w:Wy}
def Ai2 (_:Ci e)(a:w∈A5 e)(h0:0<=w.Way):(-1<=w.Esc/\w.Esc<(CA e).Esc.length)/\w.Way<(Iz (CA e) w.Esc).length:=by
 obtain⟨b,c,d⟩:=(Ro a).2 h0;obtain⟨_,_,f,_⟩:=d w a;exact⟨⟨b,c⟩,f⟩
theorem AdY {c}:leO [] []/\VV.le (.tup [.agg [.nl,.nl,.nl,Aa 0,Aa 0,Aa 0],AI ⟨#[]⟩,Aa c]) (.tup [.agg (Ae PJ),AI ⟨#[]⟩,Aa c]) :=
 ⟨trivial,Aso ⟨Asi ⟨Ar2,Ar2,Ar2,lR,lR,lR,trivial⟩,lR,lR,trivial⟩⟩
def Yt (H:Tq)(I:Adc)(h:Ci e)(f:w∈A5 e):Ai prog 37 [] [.agg (Af e),.agg (AW w)] [] (.tup [.agg (Ae (goP e w).1),AI (goP e w).2.1,Aa (goP e w).2.2]):=by
 have C:=h.ok.pid;have x:=h.p0;have J:=h.ok.fit.p;have c:=Q4 h f;have o:goP e w=bif decide (w.Err≠0)then(PJ,⟨#[]⟩,w.Err)else bif decide (w.Way<0)then(AcR e,⟨#[]⟩,0)
   else bif decide ((CC B3 e (Cf e w).S w).2.2≠0)then(PJ,⟨#[]⟩,(CC B3 e (Cf e w).S w).2.2)else(G3 e w (CC B3 e (Cf e w).S w).1.S,(CC B3 e (Cf e w).S w).2.1,0):=rfl
 have E:w.Way<0->w.Err=0->e.Pid=(e.S.Procs.length:Int)-1:=λa b=>Zm f a b
 have A:0<=w.Way->Qr (λi=>i=e.Pid\/i=w.With) e (CC B3 e (Cf e w).S w).1 (CC B3 e (Cf e w).S w).2.2:=λq=>by
  have g:=(c q).1;exact SQ (pr:=B3) h.ok.wf (Cr.1 h.ok.fits) g.st (λhk K=>R1 f q hk K) (λhv=>(g.v hv).2.2.1.t6 (g.v hv).2.2.2.1)
 have m:0<=w.Way->QD 57 [.agg (Af e),.agg (An (Cf e w).S),.agg (AW w)] (CC B3 e (Cf e w).S w):=λq =>
  AbK H I h (c q).1.st (λ_ hv=>(c q).2 hv) (Amy f q) (Ai3 f q)
 generalize goP e w=r at o |-;generalize CC B3 e (Cf e w).S w=y at o m A;have mk:0<=w.Way->∃z:D.State×ByteArray×Int,(z.2.2=y.2.2/\(y.2.2=0->z.1=y.1.S/\z.2.1=y.2.1))/\Ai prog 57 [] [.agg (Af e),.agg (An (Cf e w).S),.agg (AW w)] [] (.tup [.agg (Ae z.1),AI z.2.1,Aa z.2.2]):=m;refine Ay func37 (Ang r e w rfl rfl rfl) ⟨λn=>?_,λs=>⟨λn=>?_,λq=>?_⟩⟩
 .rw[AU]at n;rw[n,Art]at o;subst o;exact AdY
 .rw[AU]at s;rw[s,Arq,n,Art]at o;subst o;have u:VV.le (.sl true e.Pid.toNat 4 (B2 e.S.Procs)) (Aw true (e.S.Procs.take e.Pid.toNat)):=by
   show VV.le _ (.sl true (e.S.Procs.take e.Pid.toNat).length 4 λi=>Ap ((e.S.Procs.take e.Pid.toNat).getD i default));rw[show(e.S.Procs.take e.Pid.toNat).length=e.Pid.toNat by rw[Ast];omega];exact Asy (.inl rfl) λj hj=>AO (by rw[TY hj];rfl)
  refine⟨e.S,Gu h.ok.fit,⟨x,oM⟩,λL=>?_,λL=>?_⟩
  .refine⟨trivial,Aso ⟨Asi ⟨lR,lR,u,lR,Asw ?_,lR,trivial⟩,lR,lR,trivial⟩⟩;show _=Aa (bif decide (e.Pid<=e.S.Alone)then -1 else e.S.Alone);grind
  .refine⟨trivial,Aso ⟨Asi ⟨lR,lR,u,lR,Asw ?_,lR,trivial⟩,lR,lR,trivial⟩⟩;show _=Aa (bif decide (e.Pid<=e.S.Alone)then -1 else e.S.Alone);grind
 rw[AU]at s;rw[s,Arq,q,Arq]at o;have k:0<=w.Way:=gD
 obtain⟨M,N⟩:=Ai2 h f k;obtain⟨z,⟨F,O⟩,P⟩:=mk k;have d:=A k;have G:=d.keep.len;refine⟨_,HX h (λ_=>M.2),⟨k,N⟩,z,P,λn=>?_,λn=>?_⟩
 .rw[AU,F]at n;rw[show decide (y.2.2≠0)=true from n,Art]at o;grind[AdY]
 rw[AU,F]at n;have B:y.2.2=0:=by simpa using n
 rw[show decide (y.2.2≠0)=false from n,Arq]at o;obtain⟨Q,R⟩:=O B;have ff:=d.fits B;rw[Q,R];subst o;refine⟨y.1.S,Gu (SK h.ok.may (Cr.2 ff)),λhv=>?_,λhv=>?_⟩
 .have hv:0<=w.With:=ArD hv;obtain⟨T,X,U,V,W,Y,Z⟩:=(c k).2 hv;obtain⟨v1,v2,_⟩:=(c k).1.v hv;refine⟨BQ e w.With,MH,_,HX T (λ_=>U),⟨V,W⟩,⟨hv,oM⟩,⟨x,oM⟩,trivial,Aso ⟨Asi ⟨lR,lR,?_,lR,lR,lR,trivial⟩,lR,lR,trivial⟩⟩;show VV.le (.sl true y.1.S.Procs.length 4 _) (Aw true (G3 e w y.1.S).Procs);have hg:(G3 e w y.1.S).Procs=D8 (D8 y.1.S.Procs w.With (FW e w).To) e.Pid (Cf e w).To:=by
   unfold G3;grind
  rw[hg];show VV.le (.sl true y.1.S.Procs.length 4 _) (.sl true (D8 (D8 y.1.S.Procs w.With (FW e w).To) e.Pid (Cf e w).To).length 4 _);rw[Dg,Dg];refine Asy (.inl rfl) λj hj=>AO ?_
  exact XI (l:=D8 y.1.S.Procs w.With (FW e w).To) (t:=e.Pid.toNat) (to:=(Cf e w).To) (by rw[Dg];omega) (by rw[Dg];exact hj) λi hi=>KE (l:=y.1.S.Procs) (t:=w.With.toNat) (p:={y.1.S.Procs.getD w.With.toNat default with Loc:=(FW e w).To}) (by rw[Dg]at hi;exact hi)
 .have hv:¬0<=w.With:=ArP hv;refine⟨⟨x,oM⟩,trivial,Aso ⟨Asi ⟨lR,lR,?_,lR,lR,lR,trivial⟩,lR,lR,trivial⟩⟩;show VV.le (.sl true y.1.S.Procs.length 4 _) (Aw true (G3 e w y.1.S).Procs);have hg:(G3 e w y.1.S).Procs=D8 y.1.S.Procs e.Pid (Cf e w).To:=by
   unfold G3;grind
  rw[hg];show VV.le (.sl true y.1.S.Procs.length 4 _) (.sl true (D8 y.1.S.Procs e.Pid (Cf e w).To).length 4 _);rw[Dg];refine Asy (.inl rfl) λj hj=>AO ?_
  exact KE (l:=y.1.S.Procs) (t:=e.Pid.toNat) (p:={y.1.S.Procs.getD e.Pid.toNat default with Loc:=(Cf e w).To}) hj
end
section
variable {m : D.Model} {s:D.State}
def AiH:B1 m s s.Procs.length=(List.range s.Procs.length).map (Jr m s):=by
 unfold B1;simp_all
def AbY (h:Gs m s):Ai prog 16 [] [.agg (Ag m),.agg (Ae s)] [] (AM true (B1 m s s.Procs.length)):=by
 have hp:=h.fits.pl;rw[AiH];refine Ay func16 (Ag6 _ m s) ?_;refine Au.own 2 5 1 (EP []) rfl ?_;change Au _ _ (Ajy m s ((List.range 0).map (Jr m s)) ((0:Nat):Int));refine AA s.Procs.length (λk=>Ajy m s ((List.range k).map (Jr m s)) k) (λ_=>True) trivial ?_;intro k hk _ J next
 have j:((List.range k).map (Jr m s)).length=k:=sM
 refine ArC (AbZ _ m s _ k J) ⟨λe=>?_,λg=>?_⟩
 .have c:k<s.Procs.length:=by have:=AQ e;omega
  refine⟨A5 (Aes m s k),(JL (h.pid (i:=k) (t:=false) (a:=[]) ⟨oM,oM⟩).1).le trivial ⟨Asi ⟨lR,lR,lR,lR,lR,lR,lR,lR,lR,lR,lR,lR,lR,lR,lR,Ar2,trivial⟩,trivial⟩ trivial lR,oM,next _ c trivial (Up.mk (l':=[(2,.bp 0 0),(3,.bp 1 0),(5,.ow 2 0 ((List.range (k+1)).map (Jr m s)).length),(6,Aa ((k+1:Nat):Int))]) (hs':=[.box (Ag m),.box (Ae s),.arr true 0 ((List.range (k+1)).map (Jr m s)).length 1 (EP ((List.range (k+1)).map (Jr m s)))]) ?_ ?_ rfl)⟩
  .grind[Aj,AH]
  .rw[List.range_succ,AsJ,ArA];exact⟨Ob.le_refl _,Ob.le_refl _,ArT λi hi=>AO (Bu (f:=λb=>[Ad b]) (d:=false) (l:=(List.range k).map (Jr m s)) (r:=[Jr m s k]) (F:=λi=>[Ad (((List.range k).map (Jr m s)).getD i false)]) (G:=λi=>List.take 1 (List.drop (i*1) [Ad (Jr m s k)])) (λ_ _=>rfl) gD (by simp at hi |-;omega)),trivial⟩
 .obtain rfl:k=s.Procs.length:=by have:=AP g;omega
  exact⟨trivial,lR⟩
end
section
variable {m : D.Model} {s:D.State} {e:D.Env} {w:Wy}
def Sk (h:Gs m s){pid}:Ai prog 39 [] [.agg (Ag m),.agg (Ae s),Aa pid] [] (.tup [.agg (A4 (Cc m s pid).1),Ad (Cc m s pid).2]):=by
 have b:Cc m s pid=bif decide (pid<0)||decide ((s.Procs.length:Int)<=pid)then(default,false)else((FE m (s.Procs.getD pid.toNat default).Type_).getD (s.Procs.getD pid.toNat default).Loc.toNat default,true):=rfl
 generalize Cc m s pid=r at b;refine Ay func39 (Anh r m s pid rfl rfl) ⟨λa=>?_,λa=>?_⟩
 .rw[Bj]at a;rw[show(decide (pid<0)||decide ((s.Procs.length:Int)<=pid))=true from a,Art]at b;subst b;exact⟨trivial,Aso ⟨Asi ⟨Ar2,Ar2,lR,lR,lR,lR,lR,trivial⟩,lR,trivial⟩⟩
 .rw[Bj]at a;have a:(decide (pid<0)||decide ((s.Procs.length:Int)<=pid))=false:=a;rw[a,Arq]at b;subst b;simp only[ArJ,ArV]at a;have hp:=DN (h.fits.p _ (Av (d:=default) (show pid.toNat<s.Procs.length by omega)));exact⟨⟨oM,oM⟩,hp.1,⟨oM,oM⟩,hp.2.1,trivial,lR⟩
def AbH {l:List Wy}{k}(h:∀j,j<k->¬(l.getD j default).With<0)(hk:k<=l.length):l.find? (λw=>decide (w.With<0))=(l.drop k).find? λw=>decide (w.With<0):=by
 induction k generalizing l with
 | zero=>rfl
 | succ k ih =>
  cases l with
  | nil=>simp at hk
  | cons a l =>
   have h0:=h 0 (Nat.succ_pos _);grind
def Aeb {c}:leO [] []/\VV.le (.tup [.agg [.nl,.nl,.nl,Aa 0,Aa 0,Aa 0],AI ⟨#[]⟩,Aa c]) (.tup [.agg (Ae CN),AI noT,Aa c]) :=
 ⟨trivial,Aso ⟨Asi ⟨Ar2,Ar2,Ar2,lR,lR,lR,trivial⟩,lR,lR,trivial⟩⟩
def Akv (M:Tq)(N:Adc)(h:Gs m s){pid}:Ai prog 38 [] [.agg (Ag m),.agg (Ae s),Aa pid] [] (.tup [.agg (Ae (onS m pid 200 s noT).1),AI (onS m pid 200 s noT).2.1,Aa (onS m pid 200 s noT).2.2]):=by
 generalize O:onS m pid 200 s noT=r;refine Ay func38 (Anf r m s pid) ?_;change Au _ _ (Xu m s pid noT ((0:Nat):Int));refine Az (λg st=>∃(n:Nat)(b:D.State)(t:ByteArray),n<=200/\Gs m b/\t.size<=n*67108864/\onS m pid (200-n) b t=r/\g=200-n/\st=Xu m b pid t n) ⟨_,Up.of ⟨0,s,noT,Arv _,h,Arv _,O,rfl,rfl⟩⟩ ?_;rintro g st ⟨n,b,t,T,hg,U,l,rfl,rfl⟩;refine ArC (Akx r m b pid t n _ rfl rfl rfl) ⟨λ_=>⟨Cc m b pid,Sk hg,λu=>?_,λu=>?_⟩,λv=>?_⟩
 .rw[Bj]at u;have B:onS m pid (200-n) b t=(b,t,0):=by
   cases hk:200-n with
   | zero=>unfold onS;rw[u];rfl
   | succ k=>rw[I8,u];rfl
  rw[<- l,B];exact⟨trivial,lR⟩
 .rw[Bj]at u;have C:=LK (m:=m) (s:=b) (pid:=pid) (by simp only[ArJ,Atk]at u;exact u.1);obtain⟨z,P⟩:=hg.pid (t:=false) (a:=[]) C;have E:=Hz z;refine⟨A5 ⟨m,b,pid,false,[]⟩,(JL z).le trivial ⟨Asi ⟨lR,lR,lR,lR,lR,lR,lR,lR,lR,lR,lR,lR,lR,lR,lR,Ar2,trivial⟩,trivial⟩ trivial lR,?_⟩;refine Au.le (AH _) (hs':=[.box (Ag m),.box (Ae b),.box DY,.box (Af ⟨m,b,pid,false,[]⟩)]) ⟨Ob.le_refl _,Ob.le_refl _,Ob.le_refl _,Atm ⟨lR,lR,lR,lR,lR,lR,lR,lR,lR,lR,lR,lR,lR,lR,lR,Ar2,trivial⟩,trivial⟩ ?_;change Au _ _ (AdC m b pid t n ⟨m,b,pid,false,[]⟩ (A5 ⟨m,b,pid,false,[]⟩) ((0:Nat):Int));refine Az (λg st=>∃k:Nat,k<=(A5 ⟨m,b,pid,false,[]⟩).length/\(∀j,j<k->¬((A5 ⟨m,b,pid,false,[]⟩).getD j default).With<0)/\g=(A5 ⟨m,b,pid,false,[]⟩).length-k/\st=AdC m b pid t n ⟨m,b,pid,false,[]⟩ (A5 ⟨m,b,pid,false,[]⟩) k) ⟨_,Up.of ⟨0,Arv _,λj hj=>absurd hj (Asm j),rfl,rfl⟩⟩ ?_;rintro g st ⟨k,hk,x,rfl,rfl⟩;have F:(k:Int).toNat=k:=oM
  have A:=λw (G:w∈A5 ⟨m,b,pid,false,[]⟩)=>And.intro (Yt M N z G) (And.intro (UN z G) (LW z G))
  have o:=AbH x hk;have f:(FP ⟨m,b,pid,false,[]⟩).1=A5 ⟨m,b,pid,false,[]⟩:=by rw[IR P]
  refine ArC (Akw r m b pid t n ⟨m,b,pid,false,[]⟩ (A5 ⟨m,b,pid,false,[]⟩) k _ _ rfl rfl) ?_;rw[F];generalize A5 ⟨m,b,pid,false,[]⟩=W at E hk x A o f |-;refine⟨λc=>?_,λc=>?_,λc=>?_⟩
  .have:k<W.length:=by simp at c;omega
   exact⟨oM,oM⟩
  .rw[A8,Arr]at c;have v:k<W.length:=by have:=AQ c.1;omega
   have H:¬(W.getD k default).With<0:=by have:=ArD c.2;omega
   refine⟨W.length-(k+1),oM,Up.of ⟨k+1,v,λj hj=>?_,rfl,?_⟩⟩
   .rcases AsR.1 hj with hj|rfl
    .exact x j hj
    .exact H
   .rw[Aj oM]
  .rw[A8,AsQ]at c;have i:(!(Cc m b pid).2||!(Cc m b pid).1.Dstep)=false:=u;refine⟨λhd=>?_,λhd=>?_⟩
   .rw[Bj,Asx]at hd;have I:onS m pid (200-n) b t=(CN,noT,53):=by
     cases Q:200-n with
     | zero=>unfold onS;rw[i];rfl
     | succ q =>
      have p:k=W.length:=by
       rcases hd with hd|hd
       .have:=eq_of_beq hd;omega
       .have:=eq_of_beq hd;omega
      rw[I8,i,Arq,f,o,p,As6];rfl
    rw[<- l,I];exact Aeb
   .rw[Bj,ArJ]at hd;have p:k<W.length:=by
     have h1:(k:Int)≠W.length:=by simpa using hd.1
     omega
    have J:n<200:=by
     have h1:(n:Int)≠200:=by simpa using hd.2
     omega
    have K:(W.getD k default).With<0:=by
     rcases c with c|c
     .have:=AP c;omega
     .have:=ArP c;omega
    obtain⟨g1,R,V⟩:=A _ (Av (d:=default) p);rw[Br (d:=default) p,List.find?_cons,show decide ((W.getD k default).With<0)=true from ArR K]at o;obtain⟨q,S⟩:∃q,200-n=q+1:=⟨199-n,oM⟩;rw[S,I8,i,Arq,f,o]at l;have l:(bif decide ((goP ⟨m,b,pid,false,[]⟩ (W.getD k default)).2.2≠0)then(CN,noT,(goP ⟨m,b,pid,false,[]⟩ (W.getD k default)).2.2)
     else onS m pid q (goP ⟨m,b,pid,false,[]⟩ (W.getD k default)).1 (t++(goP ⟨m,b,pid,false,[]⟩ (W.getD k default)).2.1))=r:=l
    refine⟨⟨oM,oM⟩,goP ⟨m,b,pid,false,[]⟩ (W.getD k default),g1,λy=>?_,λy=>?_⟩
    .rw[AU]at y;rw[show decide ((goP ⟨m,b,pid,false,[]⟩ (W.getD k default)).2.2≠0)=true from y,Art]at l;rw[<- l];exact Aeb
    .rw[AU]at y;rw[show decide ((goP ⟨m,b,pid,false,[]⟩ (W.getD k default)).2.2≠0)=false from y,Arq]at l;have I:(goP ⟨m,b,pid,false,[]⟩ (W.getD k default)).2.2=0:=by simpa using y
     have L:(t++(goP ⟨m,b,pid,false,[]⟩ (W.getD k default)).2.1).size<=(n+1)*67108864:=by rw[Atq];omega
     refine⟨oM,200-(n+1),oM,Up.of ⟨n+1,_,_,J,R I,L,?_,rfl,?_⟩⟩
     .rw[show 200-(n+1)=q by omega];exact l
     .rw[Aj oM]<;>rfl
 .have:=ArP v;omega
end
section
variable {m : D.Model} {s:D.State} {e:D.Env} {w:Wy}
theorem YC {a}{pid}:Cc m {s with Alone:=a} pid=Cc m s pid:=rfl
def AiE {p q}{b1 b2}(h1:(bif(Cc m s p).2 then(Cc m s p).1.Atomic else false)=b1)(h2:(bif(Cc m s q).2 then(Cc m s q).1.Atomic else false)=b2) :
  DE m (DE m s p) q={s with Alone:=bif b2 then q else bif b1 then p else s.Alone}:=by
 rw[A8]at h1 h2;have a:DE m s p={s with Alone:=bif b1 then p else s.Alone}:=by
  unfold DE;rw[h1];cases b1<;>rfl
 rw[a];unfold DE;grind[YC]
def Um {c}{v}:leO [] []/\VV.le (.agg [Aa v.Pid,Aa v.Esc,Aa v.Way,Aa v.With,Aa v.WithEsc,Aa v.WithWay,Aa v.Claim,.nl,.nl,.nl,Aa 0,Aa 0,Aa 0,Aa c,AI ByteArray.empty]) (.agg (Bz ⟨v,CN,c,noT⟩)) :=
 ⟨trivial,Asi ⟨lR,lR,lR,lR,lR,lR,lR,Ar2,Ar2,Ar2,lR,lR,lR,lR,lR,trivial⟩⟩
def Abk (d:Tq)(f:Adc)(h:Ci e)(b:w∈A5 e):Ai prog 19 [] [.agg (Af e),.agg (AW w)] [] (.agg (Bz (DM e w))):=by
 have a:DM e w=bif decide ((goP e w).2.2≠0)then⟨Ha e w,CN,(goP e w).2.2,noT⟩
  else bif decide ((onS e.M e.Pid 200 (goP e w).1 noT).2.2≠0)then⟨Ha e w,CN,(onS e.M e.Pid 200 (goP e w).1 noT).2.2,noT⟩
  else⟨Ha e w,DE e.M (DE e.M {(onS e.M e.Pid 200 (goP e w).1 noT).1 with Alone:=-1} e.Pid) w.With,0,(goP e w).2.1++(onS e.M e.Pid 200 (goP e w).1 noT).2.1⟩:=rfl
 generalize DM e w=r at a |-;refine Ay func19 (AgG r e w rfl rfl rfl rfl) ⟨goP e w,Yt d f h b,λh1=>?_,λh1=>⟨λh2=>?_,λh2=>?_⟩⟩
 .have h1:(goP e w).2.2=0:=eq_of_beq h1;have hg:=UN h b h1;have n:=LW h b;have g:=Q0 (pid:=e.Pid) (k:=200) (t:=noT) hg;have o:noT.size=0:=rfl;rw[ArK (λj=>j h1),Arq]at a;refine⟨_,Akv d f hg,λh2=>?_,λh2=>?_⟩
  .rw[AU]at h2;rw[show decide ((onS e.M e.Pid 200 (goP e w).1 noT).2.2≠0)=true from h2,Art]at a;subst a;exact Um (v:=Ha e w)
  .rw[AU]at h2;rw[show decide ((onS e.M e.Pid 200 (goP e w).1 noT).2.2≠0)=false from h2,Arq]at a;have c:(onS e.M e.Pid 200 (goP e w).1 noT).2.2=0:=by simpa using h2
   generalize onS e.M e.Pid 200 (goP e w).1 noT=y at g a c |-;have i:=Wh (g.1 c);have l:(goP e w).2.1.size+y.2.1.size<=9223372036854775807:=oM
   refine⟨_,Sk i,_,Sk i,λh3=>⟨λh4=>⟨oM,?_⟩,λh4=>⟨oM,?_⟩⟩,λh3=>⟨λh4=>⟨oM,?_⟩,λh4=>⟨oM,?_⟩⟩⟩
   all_goals
    rw[a,AiE h3 h4];exact⟨trivial,lR⟩
 .rw[AU]at h2;rw[show decide ((goP e w).2.2≠0)=true from h2,Art]at a;subst a;exact Um (v:=Ha e w)
 grind
def JM {a}{x}{l}:CM e a (x::l)=bif decide (x.1.Pid=e.S.Alone)then(some x,a)else CM e (max a (C5 e x)) l:=rfl
def O3:∀{l r}{a},(CM e a l).1=none->CM e a (l++r)=CM e (CM e a l).2 r
 | [],_,_,_=>rfl
 | x::l,r,a,h=>by
  rw[JM]at h;rw[AsM,JM,JM];cases c:decide (x.1.Pid=e.S.Alone)with
  | true=>rw[c]at h;cases h
  | false =>
   simp_all[O3]
def SJ:∀{n k},k<=n->∃r,Ce e n=Ce e k++r
 | 0,k,h=>by
  obtain rfl:k=0:=oM
  exact⟨[],(Asv _).symm⟩
 | n+1,k,h=>by
  rcases Ar5 n k with hk|hk
  .obtain rfl:k=n+1:=oM
   exact⟨[],(Asv _).symm⟩
  .obtain⟨r,a⟩:=SJ hk;exact⟨r++FH e n,by show Ce e n++FH e n=_;rw[a,Asf]⟩
def Fe (l:List Gn):List Int:=l.map λg=>g.1.Pid
def Zb {l:List Gn}{a}(h:∀g∈l,C5 e g<=a){b}(c:a<b):l.filter (λg=>decide (C5 e g=b))=[]:=List.filter_eq_nil_iff.2 gD
def Anw {L}{g}{M}:Fe ((L++[g]).filter λx=>decide (C5 e x=M))=Fe (L.filter λx=>decide (C5 e x=M))++bif decide (C5 e g=M)then[g.1.Pid]else[]:=by
 unfold Fe;grind
def Ak6:∀{l}{a},(CM e a l).1=none->∀g∈l,C5 e g<=(CM e a l).2:=λh g hg=>((MN h).1 g hg).2
def Uo (h:Gs m s){l}{t}:Ai prog 17 [] [.agg (Ag m),.agg (Ae s),AM true l,Ad t] [] (Ac true (Fe (CG ⟨m,s,0,t,l⟩))):=by
 have N:=h.fits.pl;generalize I:Fe (CG ⟨m,s,0,t,l⟩)=r;refine Ay func17 (Akz r m s l t) ?_;refine Au.own 4 9 1 (AD []) rfl ?_;change Au _ _ (Xv m s l t [] 0 ((0:Nat):Int));refine Az (λg st=>∃k:Nat,k<=s.Procs.length/\(CM ⟨m,s,0,t,l⟩ 0 (Ce ⟨m,s,0,t,l⟩ k)).1=none/\g=s.Procs.length-k /\
  st=Xv m s l t (Fe ((Ce ⟨m,s,0,t,l⟩ k).filter λg=>decide (C5 ⟨m,s,0,t,l⟩ g=(CM ⟨m,s,0,t,l⟩ 0 (Ce ⟨m,s,0,t,l⟩ k)).2))) (CM ⟨m,s,0,t,l⟩ 0 (Ce ⟨m,s,0,t,l⟩ k)).2 k) ⟨_,Up.of ⟨0,Arv _,rfl,rfl,rfl⟩⟩ ?_
 rintro g st ⟨k,hk,z,rfl,rfl⟩;have B:(k:Int).toNat=k:=oM
 have u:Ce ⟨m,s,0,t,l⟩ (k+1)=Ce ⟨m,s,0,t,l⟩ k++FH ⟨m,s,0,t,l⟩ k:=rfl;have O:=AkT h (t:=t) (a:=l);have P:=MN z;refine ArC (AgV r m s l t _ _ k _ rfl rfl) ⟨λC=>?_,λE=>?_⟩
 .have c:k<s.Procs.length:=by have:=AQ C;omega
  obtain⟨Q,R⟩:=h.pid (i:=(k:Int)) (t:=t) (a:=l) ⟨oM,oM⟩;have n:(FP (BQ ⟨m,s,0,t,l⟩ k)).1=A5 ⟨m,s,k,t,l⟩:=by
   show(FP ⟨m,s,k,t,l⟩).1=_;rw[IR R]
  have J:(Ce ⟨m,s,0,t,l⟩ k).length<=k:=LV;have v:(Fe ((Ce ⟨m,s,0,t,l⟩ k).filter λg=>decide (C5 ⟨m,s,0,t,l⟩ g=(CM ⟨m,s,0,t,l⟩ 0 (Ce ⟨m,s,0,t,l⟩ k)).2))).length<=16:=by
   unfold Fe;grind
  refine⟨_,JL Q,λh1=>?_,λh1=>?_⟩
  .have h1:(A5 ⟨m,s,k,t,l⟩).length=0:=by have:=eq_of_beq h1;omega
   have o:FH ⟨m,s,0,t,l⟩ k=[]:=by
    unfold FH;rw[n,h1];rfl
   rw[o,Asv]at u;refine⟨s.Procs.length-(k+1),oM,Up.of ⟨k+1,c,by rw[u];exact z,rfl,?_⟩⟩;rw[Aj oM,u]
  have h1:(A5 ⟨m,s,k,t,l⟩).length≠0:=λx=>by rw[x]at h1;cases h1
  have o:FH ⟨m,s,0,t,l⟩ k=[(⟨m,s,k,t,l⟩,A5 ⟨m,s,k,t,l⟩)]:=by
   unfold FH;rw[n,ArR oM];rfl
  rw[o]at u;have d:C5 ⟨m,s,0,t,l⟩ (⟨m,s,k,t,l⟩,A5 ⟨m,s,k,t,l⟩)=(s.Procs.getD k default).Prio:=rfl;have b:CM ⟨m,s,0,t,l⟩ 0 (Ce ⟨m,s,0,t,l⟩ (k+1))=bif decide ((k:Int)=s.Alone)then(some (⟨m,s,k,t,l⟩,A5 ⟨m,s,k,t,l⟩),(CM ⟨m,s,0,t,l⟩ 0 (Ce ⟨m,s,0,t,l⟩ k)).2)else(none,max (CM ⟨m,s,0,t,l⟩ 0 (Ce ⟨m,s,0,t,l⟩ k)).2 (s.Procs.getD k default).Prio):=by
   rw[u,O3 z];rfl
  refine⟨λh2=>?_,λh2=>?_⟩
  .have h2:(k:Int)=s.Alone:=eq_of_beq h2;rw[ArR h2,Art]at b;obtain⟨q,S⟩:=SJ (e:=⟨m,s,0,t,l⟩) (show k+1<=s.Procs.length from c);have F:CG ⟨m,s,0,t,l⟩=[(⟨m,s,k,t,l⟩,A5 ⟨m,s,k,t,l⟩)]:=by
    have K:CM ⟨m,s,0,t,l⟩ 0 (Ce ⟨m,s,0,t,l⟩ s.Procs.length)=(some (⟨m,s,k,t,l⟩,A5 ⟨m,s,k,t,l⟩),(CM ⟨m,s,0,t,l⟩ 0 (Ce ⟨m,s,0,t,l⟩ k)).2):=by simp_all[O3,JM,ArR]
    unfold CG;grind
   rw[<- I,F];exact⟨trivial,Asy (.inl rfl) λi hi=>by
    obtain rfl:i=0:=oM
    exact D0 _⟩
  .have h2:(k:Int)≠s.Alone:=λx=>by rw[x]at h2;simp at h2
   rw[ArK h2,Arq]at b;have p:(CM ⟨m,s,0,t,l⟩ 0 (Ce ⟨m,s,0,t,l⟩ (k+1))).1=none:=by rw[b]
   have G:(CM ⟨m,s,0,t,l⟩ 0 (Ce ⟨m,s,0,t,l⟩ (k+1))).2=max (CM ⟨m,s,0,t,l⟩ 0 (Ce ⟨m,s,0,t,l⟩ k)).2 (s.Procs.getD k default).Prio:=by rw[b]
   have y:=Ak6 z;generalize T:(CM ⟨m,s,0,t,l⟩ 0 (Ce ⟨m,s,0,t,l⟩ k)).2=M at G y v |-;have f:=λM=>Anw (e:=⟨m,s,0,t,l⟩) (L:=Ce ⟨m,s,0,t,l⟩ k) (g:=(⟨m,s,k,t,l⟩,A5 ⟨m,s,k,t,l⟩)) (M:=M)
   rw[<- u]at f;rw[B];refine⟨⟨oM,oM⟩,λh3=>⟨⟨oM,oM⟩,⟨oM,oM⟩,λ_=>⟨oM,?_⟩,λh4=>?_⟩,λh3=>⟨⟨oM,oM⟩,λh4=>⟨oM,?_⟩,λh4=>?_⟩⟩
   .have h3:=AQ h3;have j:(CM ⟨m,s,0,t,l⟩ 0 (Ce ⟨m,s,0,t,l⟩ (k+1))).2=(s.Procs.getD k default).Prio:=oM
    have A:Fe ((Ce ⟨m,s,0,t,l⟩ (k+1)).filter λg=>decide (C5 ⟨m,s,0,t,l⟩ g=(s.Procs.getD k default).Prio))=[(k:Int)]:=by
     rw[f,Zb y h3,d,ArR rfl];rfl
    refine⟨s.Procs.length-(k+1),oM,Up.mk (hs':=[.box (Ag m),.box (Ae s),.arr true 0 1 1 (AD [(k:Int)])]) (AH _) ⟨Ob.le_refl _,Ob.le_refl _,ArT λi hi=>AO ?_,trivial⟩ ⟨k+1,c,p,rfl,?_⟩⟩
    .obtain rfl:i=0:=oM
     rfl
    .rw[j,A,Aj oM];rfl
   .simp at h4
   .have h3:=AP h3;have h4:(s.Procs.getD k default).Prio=M:=eq_of_beq h4;have j:(CM ⟨m,s,0,t,l⟩ 0 (Ce ⟨m,s,0,t,l⟩ (k+1))).2=M:=oM
    have A:Fe ((Ce ⟨m,s,0,t,l⟩ (k+1)).filter λg=>decide (C5 ⟨m,s,0,t,l⟩ g=M))=Fe ((Ce ⟨m,s,0,t,l⟩ k).filter λg=>decide (C5 ⟨m,s,0,t,l⟩ g=M))++[(k:Int)]:=by
     rw[f,d,ArR h4];rfl
    generalize Fe ((Ce ⟨m,s,0,t,l⟩ k).filter λg=>decide (C5 ⟨m,s,0,t,l⟩ g=M))=out at A v |-;refine⟨s.Procs.length-(k+1),oM,Up.mk (hs':=[.box (Ag m),.box (Ae s),.arr true 0 (out.length+1) 1 (AD (out++[(k:Int)]))]) (AH _) ⟨Ob.le_refl _,Ob.le_refl _,ArT λi hi=>AO (Gt hi),trivial⟩ ⟨k+1,c,p,rfl,?_⟩⟩;rw[j,A,Aj oM,show out.length+1=(out++[(k:Int)]).length by simp];rfl
   .have h3:=AP h3;have h4:(s.Procs.getD k default).Prio≠M:=λx=>by rw[x]at h4;simp at h4
    have j:(CM ⟨m,s,0,t,l⟩ 0 (Ce ⟨m,s,0,t,l⟩ (k+1))).2=M:=oM
    refine⟨s.Procs.length-(k+1),oM,Up.of ⟨k+1,c,p,rfl,?_⟩⟩;rw[j,f,d,ArK h4,Aj oM,Arq,Asv]
 .have H:k=s.Procs.length:=by have:=AP E;omega
  subst H;have F:CG ⟨m,s,0,t,l⟩=(Ce ⟨m,s,0,t,l⟩ s.Procs.length).filter λg=>decide (C5 ⟨m,s,0,t,l⟩ g=(CM ⟨m,s,0,t,l⟩ 0 (Ce ⟨m,s,0,t,l⟩ s.Procs.length)).2):=by
   unfold CG;grind
  rw[<- I,F];exact⟨trivial,lR⟩
def Q5 {α:Type}{l:List α}{i}{d}(h):l.getD i d=l[i]:=gD
def So {l r}:BM (l++r)=BM l++BM r:=by
 induction l with
 | nil=>rfl
 | cons a l ih=>show _++BM (l++r)=(_++BM l)++BM r;rw[ih,Asf]
def Sn {l:List Gn}{k}(h:k<l.length):BM (l.take (k+1))=BM (l.take k)++(l.getD k default).2.map λw=>((l.getD k default).1,w):=by
 rw[List.take_succ_eq_append_getElem h,So,Q5 h];show _++(_++BM [])=_;unfold BM;rw[Asv]
def JO (l:List Gn)(k j:Nat):List Nx:=(BM (l.take k)).map (λp=>DM p.1 p.2)++((l.getD k default).2.take j).map λw=>DM (l.getD k default).1 w
def OZ {l}{k}:JO l k 0=(BM (l.take k)).map λp=>DM p.1 p.2:=by
 unfold JO;grind
def Ahk {l}{k}(h:k<l.length):JO l k (l.getD k default).2.length=JO l (k+1) 0:=by
 rw[OZ,Sn h,AsJ,List.map_map];unfold JO;rw[AsH];rfl
def Ahj {l}{k j}(h:j<(l.getD k default).2.length):JO l k (j+1)=JO l k j++[DM (l.getD k default).1 ((l.getD k default).2.getD j default)]:=by
 unfold JO;rw[List.take_succ_eq_append_getElem h,AsJ,Q5 h,Asf];rfl
def AkY {l}{k j}(h:k<l.length)(hj:j<=(l.getD k default).2.length):(JO l k j).length<=(BM l).length:=by
 have h1:BM l=BM (l.take (k+1))++BM (l.drop (k+1)):=by rw[<- So,List.take_append_drop]
 rw[h1,Sn h];unfold JO;grind
def LL {l}:(Fe l).length=l.length:=Asr _
def Ahg {l}{k}(h:k<l.length):(Fe l).getD k 0=(l.getD k default).1.Pid:=by
 have h2:k<(Fe l).length:=by rw[LL];exact h
 rw[Q5 h,Q5 h2];exact List.getElem_map _
def Anb {out}{x}{i}(hi:i<out.length+1):(bif i.blt out.length then CE out i else(λi=>List.take 15 (List.drop (i*15) (Bz x))) (i-out.length))=CE (out++[x]) i :=
 Bu (f:=Bz) (d:=default) (l:=out) (r:=[x]) (F:=CE out) (G:=λi=>List.take 15 (List.drop (i*15) (Bz x))) (λ_ _=>rfl) (λj hj=>by
  obtain rfl:j=0:=by simpa using hj
  rfl) (by simp;omega)
def Ul (B:Tq)(C:Adc)(h:Gs m s){t}{L:List Gn}(E:∀g∈L,∃i:Nat,i<s.Procs.length/\g=(⟨m,s,i,t,B1 m s s.Procs.length⟩,A5 ⟨m,s,i,t,B1 m s s.Procs.length⟩))(J:L.length<=17)(K:(BM L).length<=285230080) :
  Au (BO prog tb CO FL true f7 [] (AX true ((BM L).map λp=>DM p.1 p.2))) [1,1,1,1,1,1,0,1,0] (Adz m s (B1 m s s.Procs.length) t (Fe L) [] ((0:Nat))):=by
 generalize F:((BM L).map λp=>DM p.1 p.2)=r;have o:∀k,k<L.length->∃i:Nat,i<s.Procs.length/\L.getD k default=(⟨m,s,i,t,B1 m s s.Procs.length⟩,A5 ⟨m,s,i,t,B1 m s s.Procs.length⟩):=λk hk=>E _ (Av hk)
 have z:=LL (l:=L);refine Az (λg st=>∃k:Nat,k<=L.length/\g=L.length-k/\st=Adz m s (B1 m s s.Procs.length) t (Fe L) (JO L k 0) k) ⟨_,Up.of ⟨0,Arv _,rfl,by rw[OZ];rfl⟩⟩ ?_;rintro g st ⟨k,hk,rfl,rfl⟩;have q:(k:Int).toNat=k:=oM
 refine ArC (Yg r m s _ t (Fe L) (JO L k 0) k _ rfl) ⟨λu=>?_,λv=>?_⟩
 .have b:k<L.length:=by have:=AQ u;omega
  obtain⟨i,hi,hg⟩:=o k b;obtain⟨x,M⟩:=h.pid (i:=i) (t:=t) (a:=B1 m s s.Procs.length) ⟨oM,oM⟩;rw[q,Ahg b,hg];refine⟨⟨oM,oM⟩,_,JL x,?_⟩;change Au _ _ (Ajs m s (B1 m s s.Procs.length) t (Fe L) (JO L k 0) k ⟨m,s,i,t,B1 m s s.Procs.length⟩ (A5 ⟨m,s,i,t,B1 m s s.Procs.length⟩) ((0:Nat):Int));have y:=λw (G:w∈A5 ⟨m,s,i,t,B1 m s s.Procs.length⟩)=>Abk B C x G
  have H:=Hz x;have ofl:=Ahk b;have osc:=λj=>Ahj (l:=L) (k:=k) (j:=j)
  have oln:=λj=>AkY (j:=j) b
  rw[hg]at ofl osc oln;generalize B1 m s s.Procs.length=A at *;generalize A5 ⟨m,s,i,t,A⟩=W at *;refine Az (λg st=>∃j:Nat,j<=W.length/\g=W.length-j/\st=Ajs m s A t (Fe L) (JO L k j) k ⟨m,s,i,t,A⟩ W j) ⟨_,Up.of ⟨0,Arv _,rfl,rfl⟩⟩ ?_;rintro g st ⟨j,hj,rfl,rfl⟩;have d:(j:Int).toNat=j:=oM
  refine ArC (Yf r m s A t (Fe L) (JO L k j) k ⟨m,s,i,t,A⟩ W j _ _) ⟨λf=>?_,λn=>?_⟩
  .have c:j<W.length:=by have:=AQ f;omega
   have I:=oln j hj;have osj:=osc j c;rw[d];refine⟨⟨oM,oM⟩,_,y _ (Av c),oM,W.length-(j+1),oM,Up.mk (hs':=[.box (Ag m),.box (Ae s),.arr true 0 ((JO L k j).length+1) 15 (CE (JO L k j++[DM ⟨m,s,i,t,A⟩ (W.getD j default)])),.box (Af ⟨m,s,i,t,A⟩)]) (AH _) ⟨Ob.le_refl _,Ob.le_refl _,ArT λi hi=>AO (Anb hi),Ob.le_refl _,trivial⟩ ⟨j+1,c,rfl,?_⟩⟩;rw[osj,Aj oM,show(JO L k j).length+1=(JO L k j++[DM ⟨m,s,i,t,A⟩ (W.getD j default)]).length by simp];rfl
  .obtain rfl:j=W.length:=by have:=AP n;omega
   rw[ofl,Aj oM];exact⟨L.length-(k+1),oM,Up.of ⟨k+1,b,rfl,rfl⟩⟩
 .obtain rfl:k=L.length:=by have:=AP v;omega
  rw[<- F,OZ,AsH];exact⟨trivial,lR⟩
def Ye (k:Tq)(l:Adc)(h:Gs m s):Ai prog 7 [] [.agg (Ag m),.agg (Ae s)] [] (AX true (Cb m s).1):=by
 have n:G8 m s=B1 m s s.Procs.length:=by
  unfold G8;rw[h.check]<;>rfl
 have j:(Cb m s).1=(BM (Fc m s)).map λp=>DM p.1 p.2:=by
  unfold Cb;rw[h.check];rfl
 have c:=MX h;have o:=λg=>JW h (g:=g)
 have d:(BM (Fc m s)).length<=285230080:=Ph h;have b:Fc m s=bif decide (0<(CG ⟨m,s,0,false,G8 m s⟩).length)then CG ⟨m,s,0,false,G8 m s⟩else CG ⟨m,s,0,true,G8 m s⟩:=rfl
 rw[j];rw[n]at b;have f:∀t,∀g∈CG ⟨m,s,0,t,B1 m s s.Procs.length⟩,∃i:Nat,i<s.Procs.length/\g=(⟨m,s,i,t,B1 m s s.Procs.length⟩,A5 ⟨m,s,i,t,B1 m s s.Procs.length⟩):=by
  intro t g hg;obtain⟨i,hi,rfl⟩:=SL hg;have hi:i<s.Procs.length:=hi;refine⟨i,hi,?_⟩;have:=IR (h.pid (i:=i) (t:=t) (a:=B1 m s s.Procs.length) ⟨oM,oM⟩).2;exact Prod.ext rfl (congrArg Prod.fst this)
 refine Ay func7 (Abj _ m s rfl rfl rfl) ⟨_,AbY h,_,Uo h,λh1=>⟨_,Uo h,?_⟩,λh1=>?_⟩
 .rw[LL]at h1;have h1:(CG ⟨m,s,0,false,B1 m s s.Procs.length⟩).length=0:=by have:=eq_of_beq h1;omega
  rw[h1]at b;have b:Fc m s=CG ⟨m,s,0,true,B1 m s s.Procs.length⟩:=b;rw[b]at c d |-;refine Au.own 5 8 15 (CE []) rfl ?_;exact Ul k l h (f true) c d
 .rw[LL]at h1;have h1:0<(CG ⟨m,s,0,false,B1 m s s.Procs.length⟩).length:=gD;rw[ArR h1,Art]at b;rw[b]at c d |-;refine Au.own 5 8 15 (CE []) rfl ?_;exact Ul k l h (f false) c d
end
def Aaz (f:FuncId):Shp :=
 bif Nat.beq f 125||Nat.beq f 102||Nat.beq f 146||Nat.beq f 187||Nat.beq f 188 then Arj else   DR f
def Py:Ann:={keep:=fun
  | [0,1,1,1]=>[0,1,5,6]
  | _=>[]}
def Tj:Ann:={keep:=fun
  | [0,0,1,1,1]=>[0,3,4]
  | _=>[]}
def Ajq (n b:Int)(s:ByteArray):St:=Aq [(0,.sc (.int .u64 n)),(1,.sc (.int .u64 b)),(5,AI ⟨#[48,49,50,51,52,53,54,55,56,57,97,98,99,100,101,102]⟩),(6,AI s)] []
def NN (m:Int)(s:ByteArray)(neg:Bool):St:=Aq [(0,Aa m),(3,AI s),(4,Ad neg)] []
def AaR (r)(c v){a}(b:a=Value.int IntKind.u64 ((IntKind.u64.wrap v).tmod (4294967296:Int))):(fc Aaz AV f146 [] (AI r)).goal (St.init [] [.sc (.int .u8 c),Aa v]) =
  ((4294967296)≠(0:Int)/\BB (c==117) (∃(y:_),VC 187 [.sc a,.sc (Value.int IntKind.u64 (10))] (AI y)/\LQ (AI y) (AI r)) (BB (c==120) (∃(y:_),VC 187 [.sc a,.sc (Value.int IntKind.u64 (16))] (AI y)/\LQ (AI y) (AI r)) (BB (c==111) (∃(y:_),VC 187 [.sc a,.sc (Value.int IntKind.u64 (8))] (AI y)/\LQ (AI y) (AI r)) (BB (c==99) ((256)≠(0:Int)/\true/\LQ (AI (EI 1 (E8 [[.sc (Value.int IntKind.u8 (IntKind.u8.wrap (((IntKind.u64.wrap v).tmod (4294967296:Int)).tmod (256:Int))))]]))) (AI r)) (∃(y:_),VC 188 [Aa v] (AI y)/\LQ (AI y) (AI r)))))):=by subst b;kernel_rfl
def Agy (r)(n b):(fc Aaz Py f187 [] (AI r)).goal (St.init [] [.sc (.int .u64 n),.sc (.int .u64 b)]) =
  Au (fc Aaz Py f187 [] (AI r)) [1,1,1,0] (Ajq n b (⟨#[]⟩)):=kR
def AlR (r)(n):(fc Aaz Tj f188 [] (AI r)).goal (St.init [] [Aa n]) =
  Au (fc Aaz Tj f188 [] (AI r)) [1,1,1,0,0] (NN n (⟨#[]⟩) (decide (n<0))):=kR
def Abc (r)(n b)(s)(J){a}(c:a=(⟨#[(48:UInt8),(49:UInt8),(50:UInt8),(51:UInt8),(52:UInt8),(53:UInt8),(54:UInt8),(55:UInt8),(56:UInt8),(57:UInt8),(97:UInt8),(98:UInt8),(99:UInt8),(100:UInt8),(101:UInt8),(102:UInt8)]⟩:ByteArray)){z2}(d:z2=i64.wrap (n.tmod b)+(1:Int)){z3}(e:z3=a.extract (i64.wrap (n.tmod b)).toNat (i64.wrap z2).toNat++s):((fc Aaz Py f187 [] (AI r)).loop [1,1,1,0] J).goal (Ajq n b s) =
  (b≠(0)/\((0)<=i64.wrap (n.tmod b)/\i64.wrap (n.tmod b)<=i64.wrap z2/\i64.wrap z2<=(↑a.size))/\(↑((a.extract (i64.wrap (n.tmod b)).toNat (i64.wrap z2).toNat).size+s.size))<=(9223372036854775807:Int)/\b≠(0)/\BB (IntKind.u64.wrap (n.tdiv b)==0) (LQ (AI z3) (AI r)) (J (Ajq (IntKind.u64.wrap (n.tdiv b)) b z3))):=by subst c d e;kernel_rfl
def Aie (r)(m)(s)(neg)(J){z1}(a:z1=E8 [[VV.sc (Value.int IntKind.u8 (IntKind.u8.wrap (i64.wrap ((48:Int)+i64.wrap ((0:Int)-m.tmod (10:Int))))))]]){z2}(b:z2=E8 [[VV.sc (Value.int IntKind.u8 (IntKind.u8.wrap (i64.wrap ((48:Int)+m.tmod (10:Int)))))]]){z3}(c:z3=(⟨#[(45:UInt8)]⟩:ByteArray)){z4}(d:z4=m.tdiv (10:Int)){z5}(e:z5=(EI 1 z1++s)){z6}(f:z6=(EI 1 z2++s)):((fc Aaz Tj f188 [] (AI r)).loop [1,1,1,0,0] J).goal (NN m s neg) =
  ((10)≠(0:Int)/\BB (decide (m.tmod (10:Int)<0)) (true=true/\(↑((EI 1 z1).size+s.size))<=(9223372036854775807:Int)/\(10)≠(0:Int)/\BB (i64.wrap z4==0) (BB neg ((↑(z3.size+z5.size))<=(9223372036854775807:Int)/\LQ (AI (z3++z5)) (AI r)) (LQ (AI z5) (AI r))) (J (NN (i64.wrap z4) z5 neg))) (true=true/\(↑((EI 1 z2).size+s.size))<=(9223372036854775807:Int)/\(10:Int)≠(0:Int)/\BB (i64.wrap z4==0) (BB neg ((↑(z3.size+z6.size):Int)<=(9223372036854775807:Int)/\LQ (AI (z3++z6)) (AI r)) (LQ (AI z6) (AI r))) (J (NN (i64.wrap z4) z6 neg)))):=by subst a b c d e f;kernel_rfl
end Go.Proofs.YtboifkdeeigcaaaGreatDoor
namespace Go.Proofs.YtboifkdeeigcaaaGreatDoor
open Go.RowKit Go.Proofs.Tryz
open IntKind(i64)
def S4 (k):EI 1 (E8 [[VV.sc (Value.int IntKind.u8 k)]])=⟨#[UInt8.ofNat k.toNat]⟩:=rfl
def AcU {d}(h0:0<=d)(h1:d<10):UInt8.ofNat (IntKind.u8.wrap (i64.wrap (48+d))).toNat=UInt8.ofNat (48+d.toNat):=by
 rw[AT oM oM];have:IntKind.u8.wrap (48+d)=48+d:=IntWalk.u8_in _ ⟨oM,oM⟩;rw[this]
 congr 1
 omega
def AlS {m:Int}{s}:Lib.decDigits m.natAbs++s=(if m.tdiv 10=0 then[]else Lib.decDigits (m.tdiv 10).natAbs)++UInt8.ofNat (48+(m.natAbs % 10))::s:=by
 have e:(m.tdiv 10).natAbs=m.natAbs / 10:=by rw[Int.natAbs_tdiv];rfl
 rw[Lib.decDigits];split
 .rename_i h;have:m.tdiv 10=0:=by
   have:(m.tdiv 10).natAbs=0:=oM
   omega
  rw[ArY this,Nat.mod_eq_of_lt h];rfl
 .rename_i h;have:m.tdiv 10≠0:=by
   intro h0;rw[h0]at e;simp at e;omega
  rw[ArG this,e];simp
def MO (l)(s):(⟨l.toArray⟩:ByteArray)++s=⟨(l++s.data.toList).toArray⟩:=by
 apply ByteArray.ext;simp[ByteArray.data_append]
def AlT {n}(z:I64 n):Ai prog 188 [] [Aa n] [] (AI (KS n)):=by
 obtain⟨u,v⟩:=z;refine Ay func188 (AlR (KS n) n) ?_;change Au _ [1,1,1,0,0] (NN n ⟨#[]⟩ (decide (n<0)));refine Az (λg st=>∃(m:Int)(s:List UInt8),I64 m/\g=m.natAbs/\Lib.decDigits m.natAbs++s=Lib.decDigits n.natAbs/\s.length<=40/\(s=[]\/m≠0)/\st=NN m ⟨s.toArray⟩ (decide (n<0)))
  ⟨_,Up.of ⟨n,[],⟨u,v⟩,rfl,sM,sM,.inl rfl,rfl⟩⟩ ?_
 rintro g st ⟨m,s,⟨A,B⟩,rfl,hd,C,E,rfl⟩;have w:(Lib.decDigits n.natAbs).length<=20:=by
  rw[Lib.decDigits_length];exact Lib.nDigits_le20 _ oM
 have ea:(m.tdiv 10).natAbs=m.natAbs / 10:=by rw[Int.natAbs_tdiv];rfl
 have eb:(m.tmod 10).natAbs=m.natAbs % 10:=by rw[Int.natAbs_tmod];rfl
 have ec:=Int.tmod_add_mul_tdiv m 10;have b:m.tmod 10=if m<0 then -((m.natAbs % 10:Nat):Int)else((m.natAbs % 10:Nat):Int):=by
  split<;>omega
 have o:-9223372036854775808<=m.tdiv 10/\m.tdiv 10<=9223372036854775807:=oM
 have step:=AlS (m:=m) (s:=s);have x:s.length+1<=21:=by
  have:=congrArg List.length hd;have h1:1<=(Lib.decDigits m.natAbs).length:=by rw[Lib.decDigits_length];exact Lib.nDigits_pos _
  rw[ArA]at this;omega
 have size1:∀c:UInt8,((⟨#[c]⟩:ByteArray)++⟨s.toArray⟩)=⟨(c::s).toArray⟩:=λc=>by
  have:=MO [c] ⟨s.toArray⟩;simpa using this
 have fin:m.tdiv 10=0->UInt8.ofNat (48+(m.natAbs % 10))::s=Lib.decDigits n.natAbs:=λh0=>by
  rw[<- hd,step,ArY h0];rfl
 have go:m.tdiv 10≠0->Lib.decDigits (m.tdiv 10).natAbs++(UInt8.ofNat (48+(m.natAbs % 10))::s)=Lib.decDigits n.natAbs:=λh0=>by
  rw[<- hd,step,ArG h0]
 have itoa_neg:n<0->KS n=⟨#[45]⟩++⟨(Lib.decDigits n.natAbs).toArray⟩:=λh=>by
  unfold KS Lib.itoa mk;rw[ArY h];have:=MO [45] ⟨(Lib.decDigits n.natAbs).toArray⟩;simpa using this.symm
 have itoa_pos:¬n<0->KS n=⟨(Lib.decDigits n.natAbs).toArray⟩:=λh=>by
  unfold KS Lib.itoa mk;rw[ArG h,show n.toNat=n.natAbs by omega]
 have r:∀d:Int,0<=d->d<10->d.toNat=m.natAbs % 10->∀(J:St->Prop),(∀a,(∃(m':Int)(l:List UInt8),I64 m'/\m'.natAbs<m.natAbs/\Lib.decDigits m'.natAbs++l=Lib.decDigits n.natAbs/\l.length<=40/\m'≠0/\a=NN m' ⟨l.toArray⟩ (decide (n<0)))->J a) ->
   (true=true/\(((EI 1 (E8 [[VV.sc (Value.int IntKind.u8 (IntKind.u8.wrap (i64.wrap (48+d))))]])).size+(⟨s.toArray⟩:ByteArray).size:Nat):Int)<=9223372036854775807/\(10:Int)≠0 /\
    ((i64.wrap (m.tdiv 10)==0)=true->(decide (n<0)=true->(((⟨#[45]⟩:ByteArray).size+(EI 1 (E8 [[VV.sc (Value.int IntKind.u8 (IntKind.u8.wrap (i64.wrap (48+d))))]])++⟨s.toArray⟩).size:Nat):Int)<=9223372036854775807/\leO [] [] /\
      (VV.sc (Value.string ((⟨#[45]⟩:ByteArray)++(EI 1 (E8 [[VV.sc (Value.int IntKind.u8 (IntKind.u8.wrap (i64.wrap (48+d))))]])++⟨s.toArray⟩)))).le (VV.sc (Value.string (KS n)))) /\
     (decide (n<0)=false->leO [] []/\(VV.sc (Value.string (EI 1 (E8 [[VV.sc (Value.int IntKind.u8 (IntKind.u8.wrap (i64.wrap (48+d))))]])++⟨s.toArray⟩))).le (VV.sc (Value.string (KS n))))) /\
    ((i64.wrap (m.tdiv 10)==0)=false->J (Aq [(0,VV.sc (Value.int i64 (i64.wrap (m.tdiv 10)))),(3,VV.sc (Value.string (EI 1 (E8 [[VV.sc (Value.int IntKind.u8 (IntKind.u8.wrap (i64.wrap (48+d))))]])++⟨s.toArray⟩))),(4,VV.sc (Value.bool (decide (n<0))))] []))):=by
  intro d h0 h1 h2 J t;rw[S4,AcU h0 h1,h2,AT o.1 o.2,size1];refine⟨rfl,?_,dZ,λq=>⟨λf=>⟨?_,trivial,?_⟩,λi=>⟨trivial,?_⟩⟩,λq=>t _ ⟨m.tdiv 10,_,o,?_,go ?_,by simp;omega,?_,rfl⟩⟩
  .show((1+s.length:Nat):Int)<=_;omega
  .show((1+(s.length+1):Nat):Int)<=_;omega
  .rw[fin (by simpa using q),itoa_neg (by simpa using f)];exact lR
  .rw[fin (by simpa using q),itoa_pos (by simpa using i)];exact lR
  .have:m.tdiv 10≠0:=by simpa using q
   have e:(m.tdiv 10).natAbs=m.natAbs / 10:=by rw[Int.natAbs_tdiv];rfl
   omega
  .simpa using q
  .simpa using q
 have t:∀a,(∃(m':Int)(l:List UInt8),I64 m'/\m'.natAbs<m.natAbs/\Lib.decDigits m'.natAbs++l=Lib.decDigits n.natAbs/\l.length<=40/\m'≠0/\a=NN m' ⟨l.toArray⟩ (decide (n<0))) ->
   ∃y,y<m.natAbs/\Up (λst=>∃(m:Int)(s:List UInt8),I64 m/\y=m.natAbs/\Lib.decDigits m.natAbs++s=Lib.decDigits n.natAbs/\s.length<=40/\(s=[]\/m≠0)/\st=NN m ⟨s.toArray⟩ (decide (n<0))) a:=by
  rintro a ⟨m',l,F,G,H,I,K,L⟩;exact⟨_,G,Up.of ⟨m',l,F,rfl,H,I,.inr K,L⟩⟩
 refine ArC (Aie (KS n) m ⟨s.toArray⟩ (decide (n<0)) _ rfl rfl rfl rfl rfl rfl) ⟨dZ,λf=>?_,λi=>?_⟩
 .have j:m.tmod 10<0:=by simpa using f
  have M:m<0:=by
   rw[b]at j;split at j
   .assumption
   .omega
  have p:i64.wrap (0-m.tmod 10)=((m.natAbs % 10:Nat):Int):=by
   rw[b,ArY M,AT oM oM];omega
  rw[p];exact r _ oM oM oM _ t
 .have k:0<=m.tmod 10:=by simpa using i
  have p:m.tmod 10=((m.natAbs % 10:Nat):Int):=by
   rw[b]at k |-;split at k
   .rename_i h;rw[ArY h];omega
   .rename_i h;rw[ArG h]
  rw[p];exact r _ oM oM oM _ t
def Zn (d)(h:d<16):(⟨#[48,49,50,51,52,53,54,55,56,57,97,98,99,100,101,102]⟩:ByteArray).extract d (d+1)=⟨#[Fm d]⟩:=by
 match d,h with
 | 0,_=>rfl
 | 1,_=>rfl
 | 2,_=>rfl
 | 3,_=>rfl
 | 4,_=>rfl
 | 5,_=>rfl
 | 6,_=>rfl
 | 7,_=>rfl
 | 8,_=>rfl
 | 9,_=>rfl
 | 10,_=>rfl
 | 11,_=>rfl
 | 12,_=>rfl
 | 13,_=>rfl
 | 14,_=>rfl
 | 15,_=>rfl
 | n+16,h=>exact absurd h oM
def Aiy {b g n}(h:b<=n):IB b (g+1) n=IB b g (n / b)++[Fm (n % b)]:=by
 show(if n<b then _ else _)=_;rw[ArG oM]
def Aiz {b g n}(h:n<b):IB b (g+1) n=[Fm n]:=by
 show(if n<b then _ else _)=_;rw[ArY h]
def MG {u b:Nat}(y:u<4294967296)(f:8<=b)(i:b<=16):Ai prog 187 [] [.sc (.int .u64 u),.sc (.int .u64 b)] [] (AI (mk (Gc b u))):=by
 refine Ay func187 (Agy (mk (Gc b u)) u b) ?_;change Au _ [1,1,1,0] (Ajq u b ⟨#[]⟩);refine Az (λg st=>∃(n:Nat)(L:By),g=n/\L.length<=11/\n<8 ^ (11-L.length)/\(L=[]\/n≠0)/\Gc b u=IB b (64-L.length) n++L/\st=Ajq n b ⟨L.toArray⟩)
  ⟨u,Up.of ⟨u,[],rfl,Arv _,by show u<8 ^ 11;omega,.inl rfl,by rw[Asv];rfl,rfl⟩⟩ ?_
 rintro n st ⟨_,L,rfl,hk,d,t,p,rfl⟩;have j:8 ^ (11-L.length)<=8 ^ 11:=AsK dZ (Nat.sub_le _ _);have k:8 ^ 11<=8589934592:=dZ
 have r:n<8589934592:=ArQ d (Ar9 j k);have a:n % b<16:=ArQ (AtB _ oM) i;have l:n / b<=n:=Nat.div_le_self _ _;have v:i64.wrap ((n:Int).tmod (b:Int))=((n % b:Nat):Int):=by
  rw[Int.tmod_eq_emod_of_nonneg oM,<- Int.natCast_emod,AT oM oM]
 have w:i64.wrap (((n % b:Nat):Int)+1)=((n % b+1:Nat):Int):=by rw[AT oM oM];omega
 have x:IntKind.u64.wrap ((n:Int).tdiv (b:Int))=((n / b:Nat):Int):=by
  rw[Int.tdiv_eq_ediv_of_nonneg oM,<- Int.natCast_ediv,IntKind.wrap_u64];generalize n / b=q at l |-;omega
 refine ArC (Abc _ n b ⟨L.toArray⟩ _ rfl rfl rfl) ?_;rw[v,w,x,show((n % b:Nat):Int).toNat=n % b from rfl,show((n % b+1:Nat):Int).toNat=n % b+1 from rfl,Zn _ a];have m:((⟨#[Fm (n % b)]⟩:ByteArray)++⟨L.toArray⟩)=⟨(Fm (n % b)::L).toArray⟩:=by
  have:=MO [Fm (n % b)] ⟨L.toArray⟩;simpa using this
 rw[m];refine⟨oM,⟨oM,oM,?_⟩,?_,oM,λe=>⟨trivial,?_⟩,λe=>?_⟩
 .show((n % b+1:Nat):Int)<=16;omega
 .show((1+L.length:Nat):Int)<=_;omega
 .have h0:n / b=0:=by
   have:((n / b:Nat):Int)=0:=by simpa using e
   omega
  have c:n<b:=by
   rcases Ar5 n b with h|h
   .exact h
   .have:=Nat.div_pos h oM;omega
  rw[p,show 64-L.length=63-L.length+1 by omega,Aiz c,Nat.mod_eq_of_lt c];exact lR
 .have h0:n / b≠0:=by
   intro h0;rw[h0]at e;simp at e
  have o:b<=n:=by
   rcases Ar5 n b with h|h
   .rw[Nat.div_eq_of_lt h]at h0;exact absurd rfl h0
   .exact h
  have s:L.length<11:=by
   rcases Ar5 L.length 11 with h|h
   .exact h
   .rw[show 11-L.length=0 by omega]at d;simp at d;omega
  refine⟨n / b,Nat.div_lt_self oM oM,Up.of ⟨n / b,Fm (n % b)::L,rfl,by simp;omega,?_,.inr h0,?_,rfl⟩⟩
  .rw[show 11-L.length=11-(L.length+1)+1 by omega,Nat.pow_succ]at d;rw[Asc];have z:n / b<=n / 8:=Nat.div_le_div_left f dZ;have:n / 8<8 ^ (11-(L.length+1)):=Ate oM;omega
  .rw[p,Asc,show 64-L.length=64-(L.length+1)+1 by omega,Aiy o,Asf];rfl
def EO {c}{v}(hv:I64 v):Ai prog 146 [] [.sc (.int .u8 (c.toNat)),Aa v] [] (AI (mk (BK c v))):=by
 obtain⟨a,d⟩:=hv;have el:(IntKind.u64.wrap v).tmod 4294967296=((KR v:Nat):Int):=by
  rw[IntKind.wrap_u64,Int.tmod_eq_emod_of_nonneg oM];unfold KR;omega
 have f:KR v<4294967296:=by unfold KR;omega
 have ec:∀k:UInt8,((c.toNat:Int)==(k.toNat:Int))=true->c=k:=λk h=>by
  have h2:(c.toNat:Int)=k.toNat:=by simpa using h
  exact Asj.1 oM
 have en:∀k:UInt8,((c.toNat:Int)==(k.toNat:Int))=false->c≠k:=λk h e=>by rw[e]at h;simp at h
 refine Ay func146 (AaR (mk (BK c v)) c.toNat v rfl) ?_;rw[el];refine⟨dZ,λh=>⟨mk (Gc 10 (KR v)),MG (b:=10) f dZ dZ,trivial,?_⟩,λn1=>⟨λh=>⟨mk (Gc 16 (KR v)),MG (b:=16) f dZ dZ,trivial,?_⟩,λn2=>⟨λh=>⟨mk (Gc 8 (KR v)),MG (b:=8) f dZ dZ,trivial,?_⟩,λg=>⟨λh=>⟨dZ,rfl,trivial,?_⟩,λi=>⟨KS v,AlT ⟨a,d⟩,trivial,?_⟩⟩⟩⟩⟩
 .rw[ec 117 h];exact lR
 .rw[ec 120 h];exact lR
 .rw[ec 111 h];exact lR
 .rw[ec 99 h,S4];have:UInt8.ofNat (IntKind.u8.wrap (((KR v:Nat):Int).tmod 256)).toNat=UInt8.ofNat (v % 256).toNat:=by
   rw[Int.tmod_eq_emod_of_nonneg oM,IntWalk.u8_in _ ⟨oM,oM⟩]
   congr 1
   unfold KR;omega
  rw[this];exact lR
 .have h1:=en 117 n1;have h2:=en 120 n2;have h3:=en 111 g;have h4:=en 99 i;unfold BK;rw[ArG h1,ArG h2,ArG h3,ArG h4];exact lR
abbrev P0:A2:=⟨λ_=>False,λ_=>False,0,[]⟩
def Ai.at {P}{f}{xs}{r}(h:Ai P f [] xs [] r){w0 w}{vs}(b:Df w0)(hB:∀k,k∈FF->k<w0.heap.size)(a:Below w0.heap.size w0 w)(hs:Dw w P0 none xs vs) :
  Calls P f vs w λe w'=>∃v,e=.returned v/\Below w.heap.size w w'/\V w' P0 none r v :=
 h.start (b.congr λk hk=>a.block k (hB k hk)) (λk hk=>ArQ (hB k hk) a.size) hs
def NR {w}{E}{x y}{u v}(h1:V w E none x u)(h2:V w E none y v):Dw w E none [x,y] #[u,v]:=by
 refine⟨rfl,λj z a=>?_⟩
 match j,a with
 | 0,a=>simp only[ArL,Ars]at a;subst a;exact h1
 | 1,a=>simp only[Asl,ArL,Ars]at a;subst a;exact h2
 | j+2,a=>simp at a
def AnK:(prog.info? 5).map (λi=>(i.zero,i.size,i.bytes))=some (some (.int .u8 0),1,1):=kR
section
variable {P : Program} (w:World)
def CD {ops}{o}{a}{K}{Q}{E}(j:o.guard=none)(sl x)(t u)
  (m:o.op=.call {callee:=.builtin .append,args:=#[sl,x],argTypes:=#[t,u]})
  (base) (e) (i) (p:P.underlying t=some (.slice e)) (q:P.underlying u=some .string) (hi:P.info? e=some i) (r:i.zero=some (.int .u8 0))
  (c:i.size=1) (k:i.bytes=1)
  (v) (n) (xs) (hs:a.eval sl=v) (f:w.ownsRow base e 1 v n xs) (s) (y:a.eval x=.string s)
  (l:n+s.size<=maxLen) (b:n+s.size<=140737488355328) (d:base<=w.heap.size)
  (h:∀g w',w'.ownsRow base e 1 g (n+s.size) (xs++Lib.strCells s)->w.grownBy w' v.ownBlock->K (a.put o.dst g) w') :
  if Region.wanted o (yielded ops a.tmps)=true then Oper.wp P o a w K Q else E:=by
 have z:Region.wanted o (yielded ops a.tmps)=true:=by simp[Region.wanted,j]
 rw[ArY z];obtain⟨g,w',A,h2,h3,_⟩:=Lib.run_append_own_string (P:=P) w base t u o.type e i p q hi r c k v n xs f s l b d;unfold Oper.wp execOp;simp only[m,resolve,invoke,builtin,Sem.run_bind,Sem.run_pure,Result.andThen_ok,As5,Ask,AsL,hs,y,A];exact h g w' h2 h3
end
def Gq (T:By)(s):Lib.byteCells T++Lib.strCells s=Lib.byteCells (T++bs s):=by simp[Lib.byteCells,Lib.strCells,bs]
def Eb {w w'}{n0}{e}{v}{n}{xs}(h:w.ownsRow n0 e 1 v n xs)(a:Below w.heap.size w w'):w'.ownsRow n0 e 1 v n xs:=VW h λk hk=>a.block k (h.lt k hk).2
def AlX {w}{n0}{v}{T}(h:w.ownsRow n0 5 1 v T.length (Lib.byteCells T)):(convert 230 9 v).run prog w=.ok (.string (mk T)) w:=by
 rcases h.2 with⟨rfl,b⟩ | ⟨g,cap,cur,rfl,d,hg,h1,h2,_⟩
 .have c:T=[]:=by
   first
    | exact Asa b
    | (cases T with | nil=>rfl | cons a r=>simp[Lib.byteCells]at b)
  subst c;rw[run_convert_bytes_string w 230 9 5 none 0 0 underlying230 underlying5 underlying9];rfl
 .refine run_convert_bytes_back (P:=prog) w 230 9 5 ⟨g,0,none⟩ cap T underlying230 underlying5 underlying9 λj hj=>?_
  rw[Addr.add_lit,Ar4,h.cellAt j (by simpa using hj)];simp[Lib.byteCells,hj]
structure RpI (w:World) (t:ByteArray) (l:List Int) (o:Value) (k j:Nat) (T:By) (W:World):Prop where
 hj:j<=t.size
 hk:k<=l.length
 len:T.length<=64*j
 eq:T++Ck ((bs t).drop j) (l.drop k)=Ck (bs t) l
 row:W.ownsRow w.heap.size 5 1 o T.length (Lib.byteCells T)
 bel:Below w.heap.size w W
set_option maxHeartbeats 16000000 in
def VG {w}{t}{l}{a}{cap}(X:Df w)(S:∀k,k∈FF->k<w.heap.size)(h1:l.length<=cap)(h2:cap<=maxLen)(ha:WA w a l)(hI:∀n∈l,I64 n)(ht:t.size<=1099511627776) :
  Calls prog 102 #[.string t,.slice a l.length cap] w λe w'=>e=.returned (.string (B3 t l))/\Below w.heap.size w w':=by
 obtain⟨ki,khi,khz,khz1,khz2⟩:=EU AnK;have hcap:=h2;unfold maxLen at hcap
 go_enter func102,ntmps102
 go_wp2
 go_loopw [5,6,7] (λov kv iv wr=>∃(o:Value)(k j:Nat)(T:By),o=ov/\kv=.int .i64 k/\iv=.int .i64 j/\RpI w t l o k j T wr) (λ_ _ iv _=>t.size-(intOf iv).toNat)
 case atStart=>exact⟨_,0,0,[],rfl,rfl,rfl,Arv _,Arv _,Arv _,rfl,World.ownsRow_nil _ _ _ _,Below.refl _ _⟩
 case round =>
  obtain⟨ov,k,j,T,rfl,rfl,rfl,hr⟩:=hrel;obtain⟨hj,hk,hlen,v,i,q⟩:=hr;have L:=q.size
  by_cases J:j<t.size
  .have Y:=Q6 J;rw[Y]at v
   by_cases hA:(t[j]'J).toNat≠37\/j+1=t.size
   .have hpg:Ck ((t[j]'J)::(bs t).drop (j+1)) (l.drop k)=(t[j]'J)::Ck ((bs t).drop (j+1)) (l.drop k):=YE (hA.imp id λh=>ArU (by rw[<- Iq];omega));rw[hpg]at v;clear hpg Y;have next:∀V A,A.ownsRow w.heap.size 5 1 V (T.length+1) (Lib.byteCells T++[.int .u8 ((t[j]'J).toNat:Int)])->((wr.alloc (.cells #[.int .u8 ((t[j]'J).toNat:Int)] 5)).grownBy A ov.ownBlock)->Hid (RpI w t l V k (j+1) (T++[t[j]'J]) A):=λV A ho hg =>
     ⟨oM,hk,by simp;omega,by rw[<- v];simp,by simpa[Lib.byteCells]using ho,(q.alloc L _).grown hg (by simp;omega) λb O=>(i.lt b O).1⟩
    by_cases hc:(t[j]'J).toNat=37
    .have B:j+1=t.size:=oM
     rw[hc,show((37:Nat):Int)=37 from rfl]at next
     go_wp2_with (at_builtin;refine wpList_append_own _ rfl _ _ 230 rfl w.heap.size 5 ki (.int .u8 0) 1 1 underlying230 khi khz khz1 khz2 rfl dZ ov T.length (Lib.byteCells T) rfl ?qrow ⟨wr.heap.size,0,none⟩ 1 1 [.int .u8 37] rfl ?qc1 ?qc2 ?qc3 ?qc4 ?qc5 ?qc6 ?_)
     case qrow=>exact Eb i (EX _ _)
     case qc1=>rfl
     case qc2=>exact World.news_of_block (heap_alloc_new wr (.cells #[.int .u8 37] 5))
     case qc3=>intro u I;simp at I;subst I;rfl
     case qc4=>unfold maxLen;omega
     case qc5=>omega
     case qc6=>simp;omega
     intro W A g f _;have HR:=next W A g f
     clear g f next i q v
     go_wp2
     go_roundw
     case rel=>exact⟨W,k,j+1,_,rfl,rfl,by go_num,HR.out⟩
     case measure=>simp[intOf];omega
    .go_wp2_with (at_builtin;refine wpList_append_own _ rfl _ _ 230 rfl w.heap.size 5 ki (.int .u8 0) 1 1 underlying230 khi khz khz1 khz2 rfl dZ ov T.length (Lib.byteCells T) rfl ?qrow ⟨wr.heap.size,0,none⟩ 1 1 [(.int .u8 ((t[j]'J).toNat:Int))] rfl ?qc1 ?qc2 ?qc3 ?qc4 ?qc5 ?qc6 ?_)
     case qrow=>exact Eb i (EX _ _)
     case qc1=>rfl
     case qc2=>exact World.news_of_block (heap_alloc_new wr (.cells #[(.int .u8 ((t[j]'J).toNat:Int))] 5))
     case qc3=>intro u I;simp at I;subst I;rfl
     case qc4=>unfold maxLen;omega
     case qc5=>omega
     case qc6=>simp;omega
     intro W A g f _;have HR:=next W A g f
     clear g f next i q v
     go_wp2
     go_roundw
     case rel=>exact⟨W,k,j+1,_,rfl,rfl,by go_num,HR.out⟩
     case measure=>simp[intOf];omega
   .have hc:(t[j]'J).toNat=37:=oM
    have B:j+1<t.size:=oM
    have hk2:¬j+1=t.size:=oM
    have z:=Q6 B;rw[Aer hc,z]at v;clear hA Y
    by_cases Z:(t[j+1]'B).toNat=37
    .rw[Aer Z,AoD]at v;have next:∀V A,A.ownsRow w.heap.size 5 1 V (T.length+1) (Lib.byteCells T++[.int .u8 37])->((wr.alloc (.cells #[.int .u8 37] 5)).grownBy A ov.ownBlock)->Hid (RpI w t l V k (j+2) (T++[37]) A):=λV A ho hg =>
      ⟨oM,hk,by simp;omega,by rw[<- v];simp,by simpa[Lib.byteCells]using ho,(q.alloc L _).grown hg (by simp;omega) λb O=>(i.lt b O).1⟩
     go_wp2_with (at_builtin;refine wpList_append_own _ rfl _ _ 230 rfl w.heap.size 5 ki (.int .u8 0) 1 1 underlying230 khi khz khz1 khz2 rfl dZ ov T.length (Lib.byteCells T) rfl ?qrow ⟨wr.heap.size,0,none⟩ 1 1 [.int .u8 37] rfl ?qc1 ?qc2 ?qc3 ?qc4 ?qc5 ?qc6 ?_)
     case qrow=>exact Eb i (EX _ _)
     case qc1=>rfl
     case qc2=>exact World.news_of_block (heap_alloc_new wr (.cells #[.int .u8 37] 5))
     case qc3=>intro u I;simp at I;subst I;rfl
     case qc4=>unfold maxLen;omega
     case qc5=>omega
     case qc6=>simp;omega
     intro W A g f _;have HR:=next W A g f
     clear g f next i q v
     go_wp2
     go_roundw
     case rel=>exact⟨W,k,j+2,_,rfl,rfl,by go_num,HR.out⟩
     case measure=>simp[intOf];omega
    .by_cases E:GB (t[j+1]'B)=true
     .rw[Ad1 Z E]at v
      by_cases K:k<l.length
      .have hdl:l.drop k=l.getD k 0::l.drop (k+1):=by rw[Atz K];simp[List.getD,K]
       rw[hdl]at v;obtain⟨bb,off,rfl,hbb,hcs⟩:=ha oM;have y:=hcs k K;rw[<- q.cell (p:=⟨bb,off+k,none⟩) hbb]at y;have F:bb<wr.heap.size:=oM
       have Q:=hI _ (Av (d:=(0:Int)) K);clear hdl hcs;generalize l.getD k 0=n at *;have R:=FQ (c:=t[j+1]'B) Q;rw[Cp]at R;have e1:((n::l.drop (k+1)).take 1).flatMap (BK (t[j+1]'B))=BK (t[j+1]'B) n:=sM
       rw[e1,List.tail_cons]at v;clear e1;rcases MA E with hd|hd|hd|hd|hd|hd|hd
       .rw[show t[j+1]'B=100 from Asj.1 hd]at v R;have HS:Ai prog 146 [] [.sc (.int .u8 100),Aa n] [] (AI (mk (BK 100 n))):=EO (c:=100) Q;clear z E
        go_wp2
        have b1:(0:Int)<=(j:Int)+1:=oM
        have b2:(j:Int)+1<(t.size:Int):=oM
        have b3:(0:Int)<=(k:Int):=oM
        have b4:(k:Int)<(l.length:Int):=oM
        go_region_law (first
          | (refine CD _ rfl (.tmp 59) (.tmp 67) 230 9 rfl w.heap.size 5 ki underlying230 underlying9 khi khz khz1 khz2 ov T.length (Lib.byteCells T) (by simp[Act.eval]) x (mk (BK 100 n)) (by simp[Act.eval]) (by unfold maxLen;rw[Cp];omega) (by rw[Cp];omega) oM ?_;intro M A g f;have U:A.cell? ⟨bb,off+k,none⟩=some (.int .i64 n):=(f.cell_far ⟨bb,off+k,none⟩ C (λe=>by have:=(i.lt bb e.symm).1;omega)).trans N)
          | (go_simp;go_at_call 146;refine(HS.at X S (below_drewN q 1) (NR .sc .sc)).mono ?_;rintro r G ⟨u,rfl,s,I⟩;obtain rfl:=I.sc_inv;have m:Below wr.heap.size wr G:=⟨s.os,s.tape,s.output,s.size,s.block⟩;have H:=m.size;have x:=Eb i m;have N:G.cell? ⟨bb,off+k,none⟩=some (.int .i64 n):=(m.cell (p:=⟨bb,off+k,none⟩) F).trans y;have C:(⟨bb,off+k,none⟩:Addr).block<G.heap.size:=ArQ F H))
        all_goals
         have HR:Hid (RpI w t l M (k+1) (j+2) (T++BK 100 n) A):=⟨oM,K,by rw[ArA];omega,by rw[<- v];simp,by rw[Gq,Kh,Cp]at g;rw[ArA];exact g,(q.trans (m.mono L)).grown f oM λb O=>(i.lt b O).1⟩;clear g f i x q v s m N U y
         go_wp2
         go_roundw
         case rel=>exact⟨M,k+1,j+2,_,rfl,by go_num,by go_num,HR.out⟩
         case measure=>simp[intOf];omega
       .rw[show t[j+1]'B=105 from Asj.1 hd]at v R;have HS:Ai prog 146 [] [.sc (.int .u8 105),Aa n] [] (AI (mk (BK 105 n))):=EO (c:=105) Q;clear z E
        go_wp2
        have b1:(0:Int)<=(j:Int)+1:=oM
        have b2:(j:Int)+1<(t.size:Int):=oM
        have b3:(0:Int)<=(k:Int):=oM
        have b4:(k:Int)<(l.length:Int):=oM
        go_region_law (first
          | (refine CD _ rfl (.tmp 59) (.tmp 67) 230 9 rfl w.heap.size 5 ki underlying230 underlying9 khi khz khz1 khz2 ov T.length (Lib.byteCells T) (by simp[Act.eval]) x (mk (BK 105 n)) (by simp[Act.eval]) (by unfold maxLen;rw[Cp];omega) (by rw[Cp];omega) oM ?_;intro M A g f;have U:A.cell? ⟨bb,off+k,none⟩=some (.int .i64 n):=(f.cell_far ⟨bb,off+k,none⟩ C (λe=>by have:=(i.lt bb e.symm).1;omega)).trans N)
          | (go_simp;go_at_call 146;refine(HS.at X S (below_drewN q 1) (NR .sc .sc)).mono ?_;rintro r G ⟨u,rfl,s,I⟩;obtain rfl:=I.sc_inv;have m:Below wr.heap.size wr G:=⟨s.os,s.tape,s.output,s.size,s.block⟩;have H:=m.size;have x:=Eb i m;have N:G.cell? ⟨bb,off+k,none⟩=some (.int .i64 n):=(m.cell (p:=⟨bb,off+k,none⟩) F).trans y;have C:(⟨bb,off+k,none⟩:Addr).block<G.heap.size:=ArQ F H))
        all_goals
         have HR:Hid (RpI w t l M (k+1) (j+2) (T++BK 105 n) A):=⟨oM,K,by rw[ArA];omega,by rw[<- v];simp,by rw[Gq,Kh,Cp]at g;rw[ArA];exact g,(q.trans (m.mono L)).grown f oM λb O=>(i.lt b O).1⟩;clear g f i x q v s m N U y
         go_wp2
         go_roundw
         case rel=>exact⟨M,k+1,j+2,_,rfl,by go_num,by go_num,HR.out⟩
         case measure=>simp[intOf];omega
       .rw[show t[j+1]'B=101 from Asj.1 hd]at v R;have HS:Ai prog 146 [] [.sc (.int .u8 101),Aa n] [] (AI (mk (BK 101 n))):=EO (c:=101) Q;clear z E
        go_wp2
        have b1:(0:Int)<=(j:Int)+1:=oM
        have b2:(j:Int)+1<(t.size:Int):=oM
        have b3:(0:Int)<=(k:Int):=oM
        have b4:(k:Int)<(l.length:Int):=oM
        go_region_law (first
          | (refine CD _ rfl (.tmp 59) (.tmp 67) 230 9 rfl w.heap.size 5 ki underlying230 underlying9 khi khz khz1 khz2 ov T.length (Lib.byteCells T) (by simp[Act.eval]) x (mk (BK 101 n)) (by simp[Act.eval]) (by unfold maxLen;rw[Cp];omega) (by rw[Cp];omega) oM ?_;intro M A g f;have U:A.cell? ⟨bb,off+k,none⟩=some (.int .i64 n):=(f.cell_far ⟨bb,off+k,none⟩ C (λe=>by have:=(i.lt bb e.symm).1;omega)).trans N)
          | (go_simp;go_at_call 146;refine(HS.at X S (below_drewN q 1) (NR .sc .sc)).mono ?_;rintro r G ⟨u,rfl,s,I⟩;obtain rfl:=I.sc_inv;have m:Below wr.heap.size wr G:=⟨s.os,s.tape,s.output,s.size,s.block⟩;have H:=m.size;have x:=Eb i m;have N:G.cell? ⟨bb,off+k,none⟩=some (.int .i64 n):=(m.cell (p:=⟨bb,off+k,none⟩) F).trans y;have C:(⟨bb,off+k,none⟩:Addr).block<G.heap.size:=ArQ F H))
        all_goals
         have HR:Hid (RpI w t l M (k+1) (j+2) (T++BK 101 n) A):=⟨oM,K,by rw[ArA];omega,by rw[<- v];simp,by rw[Gq,Kh,Cp]at g;rw[ArA];exact g,(q.trans (m.mono L)).grown f oM λb O=>(i.lt b O).1⟩;clear g f i x q v s m N U y
         go_wp2
         go_roundw
         case rel=>exact⟨M,k+1,j+2,_,rfl,by go_num,by go_num,HR.out⟩
         case measure=>simp[intOf];omega
       .rw[show t[j+1]'B=117 from Asj.1 hd]at v R;have HS:Ai prog 146 [] [.sc (.int .u8 117),Aa n] [] (AI (mk (BK 117 n))):=EO (c:=117) Q;clear z E
        go_wp2
        have b1:(0:Int)<=(j:Int)+1:=oM
        have b2:(j:Int)+1<(t.size:Int):=oM
        have b3:(0:Int)<=(k:Int):=oM
        have b4:(k:Int)<(l.length:Int):=oM
        go_region_law (first
          | (refine CD _ rfl (.tmp 59) (.tmp 67) 230 9 rfl w.heap.size 5 ki underlying230 underlying9 khi khz khz1 khz2 ov T.length (Lib.byteCells T) (by simp[Act.eval]) x (mk (BK 117 n)) (by simp[Act.eval]) (by unfold maxLen;rw[Cp];omega) (by rw[Cp];omega) oM ?_;intro M A g f;have U:A.cell? ⟨bb,off+k,none⟩=some (.int .i64 n):=(f.cell_far ⟨bb,off+k,none⟩ C (λe=>by have:=(i.lt bb e.symm).1;omega)).trans N)
          | (go_simp;go_at_call 146;refine(HS.at X S (below_drewN q 1) (NR .sc .sc)).mono ?_;rintro r G ⟨u,rfl,s,I⟩;obtain rfl:=I.sc_inv;have m:Below wr.heap.size wr G:=⟨s.os,s.tape,s.output,s.size,s.block⟩;have H:=m.size;have x:=Eb i m;have N:G.cell? ⟨bb,off+k,none⟩=some (.int .i64 n):=(m.cell (p:=⟨bb,off+k,none⟩) F).trans y;have C:(⟨bb,off+k,none⟩:Addr).block<G.heap.size:=ArQ F H))
        all_goals
         have HR:Hid (RpI w t l M (k+1) (j+2) (T++BK 117 n) A):=⟨oM,K,by rw[ArA];omega,by rw[<- v];simp,by rw[Gq,Kh,Cp]at g;rw[ArA];exact g,(q.trans (m.mono L)).grown f oM λb O=>(i.lt b O).1⟩;clear g f i x q v s m N U y
         go_wp2
         go_roundw
         case rel=>exact⟨M,k+1,j+2,_,rfl,by go_num,by go_num,HR.out⟩
         case measure=>simp[intOf];omega
       .rw[show t[j+1]'B=120 from Asj.1 hd]at v R;have HS:Ai prog 146 [] [.sc (.int .u8 120),Aa n] [] (AI (mk (BK 120 n))):=EO (c:=120) Q;clear z E
        go_wp2
        have b1:(0:Int)<=(j:Int)+1:=oM
        have b2:(j:Int)+1<(t.size:Int):=oM
        have b3:(0:Int)<=(k:Int):=oM
        have b4:(k:Int)<(l.length:Int):=oM
        go_region_law (first
          | (refine CD _ rfl (.tmp 59) (.tmp 67) 230 9 rfl w.heap.size 5 ki underlying230 underlying9 khi khz khz1 khz2 ov T.length (Lib.byteCells T) (by simp[Act.eval]) x (mk (BK 120 n)) (by simp[Act.eval]) (by unfold maxLen;rw[Cp];omega) (by rw[Cp];omega) oM ?_;intro M A g f;have U:A.cell? ⟨bb,off+k,none⟩=some (.int .i64 n):=(f.cell_far ⟨bb,off+k,none⟩ C (λe=>by have:=(i.lt bb e.symm).1;omega)).trans N)
          | (go_simp;go_at_call 146;refine(HS.at X S (below_drewN q 1) (NR .sc .sc)).mono ?_;rintro r G ⟨u,rfl,s,I⟩;obtain rfl:=I.sc_inv;have m:Below wr.heap.size wr G:=⟨s.os,s.tape,s.output,s.size,s.block⟩;have H:=m.size;have x:=Eb i m;have N:G.cell? ⟨bb,off+k,none⟩=some (.int .i64 n):=(m.cell (p:=⟨bb,off+k,none⟩) F).trans y;have C:(⟨bb,off+k,none⟩:Addr).block<G.heap.size:=ArQ F H))
        all_goals
         have HR:Hid (RpI w t l M (k+1) (j+2) (T++BK 120 n) A):=⟨oM,K,by rw[ArA];omega,by rw[<- v];simp,by rw[Gq,Kh,Cp]at g;rw[ArA];exact g,(q.trans (m.mono L)).grown f oM λb O=>(i.lt b O).1⟩;clear g f i x q v s m N U y
         go_wp2
         go_roundw
         case rel=>exact⟨M,k+1,j+2,_,rfl,by go_num,by go_num,HR.out⟩
         case measure=>simp[intOf];omega
       .rw[show t[j+1]'B=111 from Asj.1 hd]at v R;have HS:Ai prog 146 [] [.sc (.int .u8 111),Aa n] [] (AI (mk (BK 111 n))):=EO (c:=111) Q;clear z E
        go_wp2
        have b1:(0:Int)<=(j:Int)+1:=oM
        have b2:(j:Int)+1<(t.size:Int):=oM
        have b3:(0:Int)<=(k:Int):=oM
        have b4:(k:Int)<(l.length:Int):=oM
        go_region_law (first
          | (refine CD _ rfl (.tmp 59) (.tmp 67) 230 9 rfl w.heap.size 5 ki underlying230 underlying9 khi khz khz1 khz2 ov T.length (Lib.byteCells T) (by simp[Act.eval]) x (mk (BK 111 n)) (by simp[Act.eval]) (by unfold maxLen;rw[Cp];omega) (by rw[Cp];omega) oM ?_;intro M A g f;have U:A.cell? ⟨bb,off+k,none⟩=some (.int .i64 n):=(f.cell_far ⟨bb,off+k,none⟩ C (λe=>by have:=(i.lt bb e.symm).1;omega)).trans N)
          | (go_simp;go_at_call 146;refine(HS.at X S (below_drewN q 1) (NR .sc .sc)).mono ?_;rintro r G ⟨u,rfl,s,I⟩;obtain rfl:=I.sc_inv;have m:Below wr.heap.size wr G:=⟨s.os,s.tape,s.output,s.size,s.block⟩;have H:=m.size;have x:=Eb i m;have N:G.cell? ⟨bb,off+k,none⟩=some (.int .i64 n):=(m.cell (p:=⟨bb,off+k,none⟩) F).trans y;have C:(⟨bb,off+k,none⟩:Addr).block<G.heap.size:=ArQ F H))
        all_goals
         have HR:Hid (RpI w t l M (k+1) (j+2) (T++BK 111 n) A):=⟨oM,K,by rw[ArA];omega,by rw[<- v];simp,by rw[Gq,Kh,Cp]at g;rw[ArA];exact g,(q.trans (m.mono L)).grown f oM λb O=>(i.lt b O).1⟩;clear g f i x q v s m N U y
         go_wp2
         go_roundw
         case rel=>exact⟨M,k+1,j+2,_,rfl,by go_num,by go_num,HR.out⟩
         case measure=>simp[intOf];omega
       .rw[show t[j+1]'B=99 from Asj.1 hd]at v R;have HS:Ai prog 146 [] [.sc (.int .u8 99),Aa n] [] (AI (mk (BK 99 n))):=EO (c:=99) Q;clear z E
        go_wp2
        have b1:(0:Int)<=(j:Int)+1:=oM
        have b2:(j:Int)+1<(t.size:Int):=oM
        have b3:(0:Int)<=(k:Int):=oM
        have b4:(k:Int)<(l.length:Int):=oM
        go_region_law (first
          | (refine CD _ rfl (.tmp 59) (.tmp 67) 230 9 rfl w.heap.size 5 ki underlying230 underlying9 khi khz khz1 khz2 ov T.length (Lib.byteCells T) (by simp[Act.eval]) x (mk (BK 99 n)) (by simp[Act.eval]) (by unfold maxLen;rw[Cp];omega) (by rw[Cp];omega) oM ?_;intro M A g f;have U:A.cell? ⟨bb,off+k,none⟩=some (.int .i64 n):=(f.cell_far ⟨bb,off+k,none⟩ C (λe=>by have:=(i.lt bb e.symm).1;omega)).trans N)
          | (go_simp;go_at_call 146;refine(HS.at X S (below_drewN q 1) (NR .sc .sc)).mono ?_;rintro r G ⟨u,rfl,s,I⟩;obtain rfl:=I.sc_inv;have m:Below wr.heap.size wr G:=⟨s.os,s.tape,s.output,s.size,s.block⟩;have H:=m.size;have x:=Eb i m;have N:G.cell? ⟨bb,off+k,none⟩=some (.int .i64 n):=(m.cell (p:=⟨bb,off+k,none⟩) F).trans y;have C:(⟨bb,off+k,none⟩:Addr).block<G.heap.size:=ArQ F H))
        all_goals
         have HR:Hid (RpI w t l M (k+1) (j+2) (T++BK 99 n) A):=⟨oM,K,by rw[ArA];omega,by rw[<- v];simp,by rw[Gq,Kh,Cp]at g;rw[ArA];exact g,(q.trans (m.mono L)).grown f oM λb O=>(i.lt b O).1⟩;clear g f i x q v s m N U y
         go_wp2
         go_roundw
         case rel=>exact⟨M,k+1,j+2,_,rfl,by go_num,by go_num,HR.out⟩
         case measure=>simp[intOf];omega
      .rw[ArU (show l.length<=k by omega)]at v;have e1:(([]:List Int).take 1).flatMap (BK (t[j+1]'B))=[]:=rfl;rw[e1,List.tail_nil,AsZ,<- ArU (show l.length<=k by omega)]at v;clear e1;rcases MA E with hd|hd|hd|hd|hd|hd|hd
       .clear z E;have HR:Hid (RpI w t l ov k (j+2) T wr):=⟨oM,hk,oM,v,i,q⟩
        go_wp2
        go_roundw
        case rel=>exact⟨ov,k,j+2,_,rfl,rfl,by go_num,HR.out⟩
        case measure=>simp[intOf];omega
       .clear z E;have HR:Hid (RpI w t l ov k (j+2) T wr):=⟨oM,hk,oM,v,i,q⟩
        go_wp2
        go_roundw
        case rel=>exact⟨ov,k,j+2,_,rfl,rfl,by go_num,HR.out⟩
        case measure=>simp[intOf];omega
       .clear z E;have HR:Hid (RpI w t l ov k (j+2) T wr):=⟨oM,hk,oM,v,i,q⟩
        go_wp2
        go_roundw
        case rel=>exact⟨ov,k,j+2,_,rfl,rfl,by go_num,HR.out⟩
        case measure=>simp[intOf];omega
       .clear z E;have HR:Hid (RpI w t l ov k (j+2) T wr):=⟨oM,hk,oM,v,i,q⟩
        go_wp2
        go_roundw
        case rel=>exact⟨ov,k,j+2,_,rfl,rfl,by go_num,HR.out⟩
        case measure=>simp[intOf];omega
       .clear z E;have HR:Hid (RpI w t l ov k (j+2) T wr):=⟨oM,hk,oM,v,i,q⟩
        go_wp2
        go_roundw
        case rel=>exact⟨ov,k,j+2,_,rfl,rfl,by go_num,HR.out⟩
        case measure=>simp[intOf];omega
       .clear z E;have HR:Hid (RpI w t l ov k (j+2) T wr):=⟨oM,hk,oM,v,i,q⟩
        go_wp2
        go_roundw
        case rel=>exact⟨ov,k,j+2,_,rfl,rfl,by go_num,HR.out⟩
        case measure=>simp[intOf];omega
       .clear z E;have HR:Hid (RpI w t l ov k (j+2) T wr):=⟨oM,hk,oM,v,i,q⟩
        go_wp2
        go_roundw
        case rel=>exact⟨ov,k,j+2,_,rfl,rfl,by go_num,HR.out⟩
        case measure=>simp[intOf];omega
     .have hno:=T9 (by simpa using E);obtain⟨q1,q2,q3,q4,q5,q6,q7⟩:=hno;rw[YF Z (by simpa using E)]at v;have next:∀V A,A.ownsRow w.heap.size 5 1 V (T.length+2) (Lib.byteCells T++[.int .u8 37,.int .u8 ((t[j+1]'B).toNat:Int)])->((wr.alloc (.cells #[.int .u8 37,.int .u8 ((t[j+1]'B).toNat:Int)] 5)).grownBy A ov.ownBlock)->Hid (RpI w t l V k (j+2) (T++[37,t[j+1]'B]) A):=λV A ho hg =>
       ⟨oM,hk,by simp;omega,by rw[<- v];simp,by simpa[Lib.byteCells]using ho,(q.alloc L _).grown hg (by simp;omega) λb O=>(i.lt b O).1⟩
      go_wp2_with (at_builtin;refine wpList_append_own _ rfl _ _ 230 rfl w.heap.size 5 ki (.int .u8 0) 1 1 underlying230 khi khz khz1 khz2 rfl dZ ov T.length (Lib.byteCells T) rfl ?qrow ⟨wr.heap.size,0,none⟩ 2 2 [.int .u8 37,.int .u8 ((t[j+1]'B).toNat:Int)] rfl ?qc1 ?qc2 ?qc3 ?qc4 ?qc5 ?qc6 ?_)
      case qrow=>exact Eb i (EX _ _)
      case qc1=>rfl
      case qc2=>exact World.news_of_block (heap_alloc_new wr (.cells #[.int .u8 37,.int .u8 ((t[j+1]'B).toNat:Int)] 5))
      case qc3=>intro u I;simp at I;rcases I with rfl|rfl<;>rfl
      case qc4=>unfold maxLen;omega
      case qc5=>omega
      case qc6=>simp;omega
      intro W A g f _;have HR:=next W A g f
      clear g f next i q v
      go_wp2
      go_roundw
      case rel=>exact⟨W,k,j+2,_,rfl,rfl,by go_num,HR.out⟩
      case measure=>simp[intOf];omega
  .obtain rfl:j=t.size:=oM
   have heq':T=Ck (bs t) l:=by
    rw[ArU (show(bs t).length<=t.size by rw[<- Iq];omega)]at v;rw[<- v];simp[Ck]
   have hcv:=AlX i;rw[heq']at hcv
   go_wp2
   go_ret
   exact⟨rfl,q⟩
def AkS:Adc:=λ{t l} b g _=>by
 refine Ai.hand ⟨_,func102,rfl,kR⟩ λw E vs h c hB _ a=>?_
 obtain⟨i,us1,rfl,d,a⟩:=a.cons_inv;obtain⟨j,us2,rfl,e,a⟩:=a.cons_inv;obtain rfl:=a.nil_inv;obtain rfl:=d.sc_inv;obtain⟨ao,cap,rfl,h1,h2,h3⟩:=Arc e;refine(VG c hB h1 h2 h3 b oM).mono ?_;rintro r w' ⟨rfl,f⟩;exact⟨_,rfl,.sc,f⟩
section
variable {m : D.Model}
def Nr {i run}{P:Int->Prop}(a:∀k,P k->Fw m i run k=false/\∀j∈BU (As m k),P j) :
  ∀{g}{seen}{l},(∀k∈l,P k)->Ns m i run g seen l
 | 0,_,[],_=>rfl
 | 0,_,_::_,_=>rfl
 | _+1,_,[],_=>rfl
 | g+1,seen,k::r,h=>by
  unfold Ns;obtain⟨h1,h2⟩:=a k (h k Arw);rw[h1,Arq,Nr a λj hj=>h j (ArI _ hj),Nr a gD];grind
def Amq (m:D.Model)(i run k:Int):Prop:=0<=k/\k<m.Exprs.length/\∃(g:Nat)(b:Bool),k.toNat<g/\Mf m i g k b=true/\(b=true->k=run)
def Aef (d:Fp m){i run k}(h:Amq m i run k):Fw m i run k=false/\∀j∈BU (As m k),Amq m i run j:=by
 obtain⟨h0,hk,g,b,hg,a,p⟩:=h;obtain⟨g,rfl⟩:∃e,g=e+1:=⟨g-1,oM⟩;unfold Mf at a;simp only[Arr,Asu,A0]at a;obtain⟨f,q,l⟩:=a;refine⟨?_,λj hj=>?_⟩
 .unfold Qt at f;unfold Fw;grind
 .obtain⟨n,c,rfl⟩:=AsA hj;have o:=Og (d.at h0 hk) _ hj;have:=l n c;rw[show(BU (As m k)).getD n 0=(BU (As m k))[n]by simp[List.getD,c]]at this;exact⟨oM,oM,g,false,oM,this,λh=>by cases h⟩
theorem V7 {i run k:Int}{b}(h0:0<=k)(hk:k<m.Exprs.length)(h:GS m i k b)(a:b->k=run):Amq m i run k:=⟨h0,hk,_,b,Asq _,h,a⟩
def AoN (b:Fp m){i}{s}(h:U8 m i s):Mt m i s:=by
 unfold U8 UW at h;simp only[Arr,Asu,Asx,Asu,ArV,A0]at h;obtain⟨h1,h2,h3,h4,h5⟩:=h;obtain⟨c,d,e⟩:=Jy h1;unfold Mt;rw[h1,Ar7,Arr];refine⟨?_,Nr (P:=Amq m i _) (λk=>Aef b) λk hk=>?_⟩
 .revert h2;grind
 .rcases ArX.1 hk with hk|hk
  .obtain⟨n,a,rfl⟩:=AsA hk;have:=h5 n a;rw[show s.Args.getD n 0=s.Args[n]by simp[List.getD,a]]at this;have hi:=c _ hk;grind[V7]
  .grind[V7]
def Anj (b:Fp m){i}(a:(AY m i).Provided<m.Exprs.length)(h:Kp m i):DO m i:=by
 unfold Kp at h;unfold DO;simp only[Arr,Asx,Ary,A0]at h |-;refine⟨λk hk=>?_,(Int.lt_or_le (AY m i).Provided 0).imp id λh0=>Nr (P:=Amq m i _) (λk=>Aef b) λk hk=>?_⟩
 .have:=h.1 k hk;unfold YW OL at this;unfold V5 Kv;simp only[A0]at this |-;exact λj hj n c=>AoN b (this j hj n c)
 .rw[Ar0.1 hk];exact V7 h0 a (h.2.resolve_left oM) λh=>by cases h
def TQ {n:Nat}:∀{ws} {many k},(∀j,j<ws.length->(0<k+j->(ws.getD j []).length≠0)/\∀h,h<(ws.getD j []).length->inP n ((ws.getD j []).getD h default).To) ->
  many+IL ws<=1024->HD n many k ws=some (many+IL ws)
 | [],many,k,_,_=>rfl
 | w::r,many,k,h,hm=>by
  have c:IL (w::r)=w.length+IL r:=rfl;obtain⟨a,b⟩:=h 0 (Nat.zero_lt_succ _);unfold HD;have a:0<k->w.length≠0:=a;have b:CL w.length (λi=>inP n (w.getD i default).To)=true:=A0.2 b;rw[show(decide (0<k)&&decide (w.length=0))=false by grind,ArK (by omega:¬1024<many+w.length),b,TQ (λj hj=>by
   have:=h (j+1) (Nat.succ_lt_succ hj);exact⟨λ_=>this.1 oM,this.2⟩) oM,c,AsG]<;>rfl
def UB {m}{a}{p}:∀{ls}{many i},(∀j,j<ls.length->Ql m a p ((i+j:Nat)) (ls.getD j default)=false/\Tv p (B4 (ls.getD j default))) ->
  many+O8 ls<=1024->IJ p.Locs.length p.Final many i ls
 | [],_,_,_,_=>rfl
 | l::r,many,i,h,hm=>by
  have e:O8 (l::r)=IL (B4 l)+O8 r:=rfl;obtain⟨b,b1⟩:=h 0 (Nat.zero_lt_succ _);have b:Ql m a p ((i:Nat):Int) l=false:=b;have b1:Tv p (B4 l)=true:=b1;have c:O6 p.Final i l=false:=by
   unfold Ql at b;unfold O6;grind
  unfold Tv Kq Kw at b1;simp only[A0,Arr,Asu]at b1;unfold IJ;rw[c,TQ (λj hj=>⟨λh0=>by have:=(b1 j hj).1;grind,λn d=>by have:=(b1 j hj).2 n d;unfold inP;grind⟩) oM];exact UB (λj hj=>by
   have:=h (j+1) (Nat.succ_lt_succ hj);rw[show i+1+j=i+(j+1)by omega];exact this) oM
def Alr {i:Nat}(h:Fz m i):D1 m i=false:=by
 unfold Fz at h;simp only[Arr,Asu,Ary,A0]at h;obtain⟨h1,h2,h3,h4,h5⟩:=h;have hp:AY m i=m.Procs.getD i default:=rfl;rw[hp]at h1 h2 h3 h4 h5;unfold D1;generalize m.Procs.getD i default=p at *;have b:=UB (m:=m) (a:=i) (p:=p) (ls:=p.Locs) (many:=0) (i:=0) gD oM;unfold Afu at h1;unfold Aft at h2;simp only[Bj,ArJ,ArV,bne_eq_false_iff_eq]at h1 h2;have g1:Ed p=true:=by
  unfold Ed;grind
 have d:FG p=true:=by
  unfold FG inP;grind
 have e:(decide ((i:Int)=m.Claim)&&!Fo p)=false:=by
  cases c:decide ((i:Int)=m.Claim)with
  | false=>rfl
  | true =>
   have c:=ArD c;unfold Ajj at h3;have:Fo p=true:=by
    unfold Fo I4;simp only[Arr,Ary,A0];rw[show((i:Int)==m.Claim)=true by simpa using c,Art]at h3;simp only[Bj,ArJ,ArV]at h3;refine⟨oM,λk hk=>?_⟩;have:=(h4 k hk).1;unfold Ql at this;grind
   rw[this]<;>rfl
 grind
def Ak8 (b:AS m)(h:V3 m):Hq m:=by
 have a:=YT h;unfold V3 J5 at h;unfold Hq J6;rw[a]at h |-;have c:=Jx b (by rw[a];decide);rw[show decide (0<((0:Int),(0:Int)).1)=false from rfl,Arq]at h |-;have k1:¬0<=RF m:=gD
 rw[ArK k1,Arq]at h;have k2:¬16<Fi m m.Procs.length:=gD
 rw[ArK k2,Arq]at h;have d:¬0<=AiF m:=gD
 have e:GN m=-1:=DX λi hi=>by rw[Alr (Ge (f:=λi:Nat=>Fz m i) (by unfold RF at k1;omega) i hi)]<;>rfl
 have g:JN m=-1:=DX (f:=λi:Nat=>DO m i) λi hi=>Anj c (ON (Ge (f:=λi:Nat=>Fz m i) (by unfold RF at k1;omega) i hi)).1 (Ge (f:=λi:Nat=>Kp m i) (by unfold AiF at d;omega) i hi)
 grind
def Aav {s}(a:AS m)(h:HM m s=0):V3 m/\Dz m s/\Co m s=0:=by
 unfold HM at h;cases c:V3 m with
 | false=>rw[c]at h;cases h
 | true =>
  rw[c,Art]at h;cases d:Dz m s with
  | false=>rw[d]at h;cases h
  | true =>
   refine⟨rfl,rfl,?_⟩;unfold Co;rw[Ak8 a c,d]<;>rfl
end
def Aip:Ai prog 9 [] [.agg (Ag Kj),.agg (Ae Mc)] [] (.tup [Ad false,Aa 0]):=by
 refine Ay func9 (Al3 false 0 Kj Mc) ⟨Co Kj Mc,E0 MV.wf MV.small (λh=>(IK h).clp),λh=>?_,λ_=>⟨λ_=>dZ,trivial,Asw rfl⟩⟩;rw[MV.check]at h;cases h
def Aiu:Ai prog 8 [] [.agg (Ag Kj),.agg (Ae Mc)] [] (.tup [Ad true,Aa 0]):=by
 refine Ay func8 (Amc true 0 Kj Mc) ⟨Co Kj Mc,E0 MV.wf MV.small (λh=>(IK h).clp),λh=>?_,λ_=>⟨λ_=>dZ,λ_=>dZ,λ_=>⟨trivial,lR⟩,λh=>?_⟩⟩
 .rw[MV.check]at h;cases h
 .cases h
def Aih:Ai prog 4 [] [] [] (Ad true):=by
 refine Ay func4 (AlV true) ?_;refine Au.pubB (hs':=[.box (Ag Kj),.gone 1,.gone 1,.gone 1,.box (Ae Mc)]) 8 8 kR ?_;refine Au.forget [2,3] kR ?_;refine Eq.mpr (congrArg (Au _ _) (show Go.Proofs.YtboifkdeeigcaaaGreatDoor.forget 0 [2,3] (Aq [(2,.bp 0 0),(3,.bp 4 0)] [.box (Ag Kj),.gone 1,.gone 1,.gone 1,.box (Ae Mc)])=Aq [(2,.bp 0 0),(3,.bp 1 0)] [.box (Ag Kj),.box (Ae Mc)]by kernel_rfl)) ?_;have h1:=Qf MV;have b:=AmZ;have d:=AmY;have e:=Aj4;generalize D9 Kj Mc=L at *;refine Dm (c:=fc MB OE f4 [] (Ad true)) (rel:=[1,1,1,1]) Ak Al kR (Aii true Kj Mc rfl rfl) ⟨L,h1,(true,0),Aiu,(false,0),Aip,λa=>?_,λ_=>⟨λ_=>⟨dZ,by rw[b];decide⟩,AB ?_⟩⟩
 .have a:((L.1.length:Int) != 1)=true:=a;rw[b]at a;cases a
 .rw[show Int.toNat 0=0 from rfl,d,e]<;>rfl
section
variable {m : D.Model} {s:D.State}
def AqV {a v:Mv}:(a.Pid==v.Pid&&(a.Esc==v.Esc&&(a.Way==v.Way&&(a.With==v.With&&(a.WithEsc==v.WithEsc&&(a.WithWay==v.WithWay&&(a.Claim==v.Claim&&true)))))))=decide (a=v):=by
 obtain⟨b,c,d,e,f,g,h⟩:=a;obtain⟨i,j,k,l,n,o,p⟩:=v;rw[Ase,Ary,Mv.mk.injEq];simp
def AfQ {l sys}{ws}(B:l.length<=292075601920)(v:sys.length<=4611686018427387904)(w:ws.length<=1024)
  (x:∀n∈l,0<=n.Move.Claim/\n.Move.Claim<ws.length/\(n.Move.Pid<0->n.Err=0->sys.length=0)/\(0<=n.Move.Pid->Wi {n.Move with Claim:=-1} n.Err sys sys.length/\(n.Err=0->n.State.Claim=(ws.getD n.Move.Claim.toNat default).To)))
  (r:∀c,K4 l c<=1\/K4 l c=sys.length):Au (fc MB Gf f3 [] (Ad true)) [1,1,1,1,1,1,1,1,0,1,0] (Aas l sys ws (Gb (l.take 0) ws.length) true ((0:Nat))):=by
 refine AA l.length (λi=>Aas l sys ws (Gb (l.take i) ws.length) true i) (λ_=>True) trivial ?_;intro i hi _ J next
 have g:(i:Int).toNat=i:=oM
 refine ArC (AfT true l sys ws (Gb (l.take i) ws.length) true i J rfl rfl) ⟨λh=>?_,λt=>?_⟩
 .have a:i<l.length:=by have:=AQ h;omega
  have ixl:inX (i:Int) l.length:=⟨oM,oM⟩;rw[g];obtain⟨h1,h2,h3,h4⟩:=x _ (Av (d:=default) a);have f:=λ(j:Nat)(hj:j<ws.length)=>An7 (l:=l) (i:=i) (c:=(l.getD i default).Move.Claim.toNat) (n:=ws.length) (j:=j) a oM oM hj
  have y:=L1 (l:=l.take i) (n:=ws.length) (j:=(l.getD i default).Move.Claim.toNat) oM;have z:=An8 (l:=l.take i) (c:=(l.getD i default).Move.Claim.toNat);have A:(l.take i).length<=l.length:=by simp;omega
  have u:i64.wrap ((Gb (l.take i) ws.length).getD (l.getD i default).Move.Claim.toNat 0+1)=(Gb (l.take i) ws.length).getD (l.getD i default).Move.Claim.toNat 0+1:=AT oM oM;rw[u];have ixc:inX (l.getD i default).Move.Claim (Gb (l.take i) ws.length).length:=⟨h1,by rw[Ga];exact h2⟩;have nx:Up J (Aas l sys ws (Gb (l.take (i+1)) ws.length) true (i64.wrap ((i:Int)+1))):=Up.of (by rw[Aj oM];exact next _ a trivial (Up.of rfl));refine⟨ixl,λb=>?_,λ_=>⟨ixc,ixc,λhp=>⟨ixl,λb=>?_,λ_=>next _ a trivial ?_⟩,λhp=>?_⟩⟩
  .rw[ArK (show ¬(l.getD i default).Move.Claim<0 by omega),ArK (show ¬(l.getD i default).Move.Claim>=(ws.length:Int)by omega)]at b;cases b
  .have hp:=ArD hp;rw[A8,Arr]at b;have:=h3 hp (by simpa using b.1);have:=ArD b.2;omega
  .rw[Aj oM,Ga];refine Up.mk (hs':=[.arr true 0 ws.length 1 (AD (Gb (l.take (i+1)) ws.length))]) (AH _) ⟨ArT λj hj=>AO (f j hj),trivial⟩ ?_;unfold Aas;rw[Ga]
  .have hp:=ArP hp;obtain⟨h5,h6⟩:=h4 oM;refine Au.le (hs':=[.arr true 0 (Gb (l.take i) ws.length).length 1 (AD (Gb (l.take (i+1)) ws.length)),.box (KZ {(l.getD i default).Move with Claim:=-1})]) (AH _) ⟨ArT λj hj=>AO (f j (by rwa [Ga]at hj)),Ob.le_refl _,trivial⟩ ?_;rw[show(Gb (l.take i) ws.length).length=(Gb (l.take (i+1)) ws.length).length by rw[Ga,Ga]];change Au _ _ (AmI l sys ws (Gb (l.take (i+1)) ws.length) {(l.getD i default).Move with Claim:=-1} (l.getD i default).Move.Claim true (Wi {(l.getD i default).Move with Claim:=-1} (l.getD i default).Err sys 0) i ((0:Nat):Int));refine AA sys.length (λk=>AmI l sys ws (Gb (l.take (i+1)) ws.length) {(l.getD i default).Move with Claim:=-1} (l.getD i default).Move.Claim true (Wi {(l.getD i default).Move with Claim:=-1} (l.getD i default).Err sys k) i k) (λ_=>True) trivial ?_;intro k hk _ J2 next2;have o:(k:Int).toNat=k:=oM
   refine ArC (AfS true l sys ws _ _ _ true _ i k J J2 rfl rfl rfl rfl) ⟨λp=>?_,λq=>?_⟩
   .have e:k<sys.length:=by have:=AQ p;omega
    have ixk:inX (k:Int) sys.length:=⟨oM,oM⟩;refine⟨λ_=>ixk,λ_=>ixk,λ_=>ixl,next2 _ e trivial (Up.of ?_)⟩;rw[AqV,g,o,Aj oM,Als e,Bj,A8,show((sys.getD k default).Err==(l.getD i default).Err)=decide ((sys.getD k default).Err=(l.getD i default).Err)by rw[Ase];simp]
   .obtain rfl:k=sys.length:=by have:=AP q;omega
    rw[h5,g];refine⟨λ_=>ixl,λ_=>ixl,λ_=>⟨h1,h2⟩,λb=>?_,λ_=>next _ a trivial (Up.of (by rw[Aj oM]))⟩;have b:(bif(l.getD i default).Err==0 then(l.getD i default).State.Claim != (ws.getD (l.getD i default).Move.Claim.toNat default).To else false)=true:=b;rw[A8,Arr]at b;rw[h6 (by simpa using b.1)]at b;simp at b
 .obtain rfl:i=l.length:=by have:=AP t;omega
  rw[AsH];change Au _ _ (Ajp sys (Gb l ws.length) true ((0:Nat):Int));refine AA ws.length (λc=>Ajp sys (Gb l ws.length) true c) (λ_=>True) trivial ?_;intro c C _ J next
  refine ArC (AfR true sys (Gb l ws.length) true c J) ⟨λh=>?_,λ_=>AB rfl⟩;have a:c<ws.length:=by have:=AQ h;rw[Ga]at this;omega
  have ix:inX (c:Int) (Gb l ws.length).length:=⟨oM,by rw[Ga];omega⟩;refine⟨ix,λ_=>ix,λb=>?_,λ_=>next _ a trivial (Up.of (by rw[Aj oM]))⟩;rw[show(c:Int).toNat=c by omega,L1 a,A8,Arr]at b;have h1:=ArD b.1;have h2:(K4 l c:Int)≠(sys.length:Int):=by simpa using b.2
  have:=r c;omega
def AfP (i:AS m)(hs:Rk s):Ai prog 3 [] [.agg (Ag m),.agg (Ae s)] [] (Ad true):=by
 refine Ay func3 (Aj2 true m s rfl rfl) ⟨true,Aih,HM m s,VF i (AjJ hs),λ_=>AB rfl,λh=>?_⟩;rw[Bj,ArJ]at h;obtain⟨p,q,_⟩:=Aav i (by simpa using h.1);have g:Gs m s:=⟨i,Ak8 i p,Cr.1 q⟩;have d:0<=m.Claim:=by have:=ArP h.2;omega
 obtain⟨r,t,u⟩:=Ou g d;have e:=(Ot g d).1;obtain⟨k,l⟩:=Aj3 g d;have o:=Qf g;have f:(D9 m s).1.length<=292075601920:=by
  have v:(D9 m s).1=DV m s (Ax m s).length:=by
   unfold D9;rw[(Lr g).1,ArK (show ¬m.Claim<0 by omega)];rfl
  have:=(O1 g d (Arx _)).1;have:=ArO 285230080 e;rw[v];omega
 have w:=(Lr g).2.1;have x:∀n∈(D9 m s).1,0<=n.Move.Claim/\n.Move.Claim<(Ax m s).length/\(n.Move.Pid<0->n.Err=0->(Cb m s).1.length=0)/\(0<=n.Move.Pid->Wi {n.Move with Claim:=-1} n.Err (Cb m s).1 (Cb m s).1.length=true/\(n.Err=0->n.State.Claim=((Ax m s).getD n.Move.Claim.toNat default).To)):=λn y=>by
  have h:=k n y;exact⟨h.lo,h.hi,λa b=>by rw[h.still a b]<;>rfl,λa=>⟨AnN (h.goes a).1,(h.goes a).2⟩⟩
 refine⟨D9 m s,o,_,Ye Ajl AkS g,⟨d,r⟩,⟨t,u⟩,⟨oM,As3 _,by show((Ax m s).length:Int)*8<=_;omega⟩,?_⟩;have c:=AfQ f oM e x l;refine Au.le (hs':=[.arr true 0 (Ax m s).length 1 (AD (Gb ((D9 m s).1.take 0) (Ax m s).length))]) (AH _) ⟨ArT λj hj=>AO ?_,trivial⟩ ?_
 .show _=[Aa ((Gb ((D9 m s).1.take 0) (Ax m s).length).getD j 0)];have hj:j<(Ax m s).length:=hj;rw[L1 hj]<;>rfl
 .unfold Aas at c;rw[Ga]at c;exact c
end
end Go.Proofs.YtboifkdeeigcaaaGreatDoor
namespace Go.Proofs.YtboifkdeeigcaaaGreatDoor
open Go.ChangeShapes Go.WideShapes Go.ChangeAt Go.RowKit Go.Proofs.Tryz
open IntKind(i64)
def own:ownKnob prog.godebug=none:=kR
def AnF:laidOutB prog:=kR
def Tu {H}{enc}{P}(c:laidOutB P){W W'}(e:Below W.heap.size W W') :
  ∀(ts)(vs)(ds:List (DataW H)) (ps),ts.all (λt=>P.readableRec t&&decide (t<P.types.size)) ->
   DataW.TrodAll enc P W 0 (λ_=>true) true ts vs ds ps->DataW.TrodAll enc P W' 0 (λb=>decide (b<W.heap.size)) true ts vs ds ps:=by
 intro ts
 induction ts with
 | nil =>
  intro vs ds ps _ h;obtain⟨rfl,rfl,rfl⟩:=trodAll_nil h;exact trodAll_mk0
 | cons t ts ih =>
  intro vs ds ps a h;rw[Ati,Arr,Arr]at a;obtain⟨v,vs',d,ds',p,q,rfl,rfl,rfl,h1,h2⟩:=trodAll_cons h;have lt1:∀x∈p,x.block<W.heap.size:=by obtain⟨m,f⟩:=h1;exact DataW.trod_lt m _ _ _ f
  exact trodAll_cons_mk (Below.trod c a.1.1 (ArD a.1.2) h1 e lt1) (ih vs' ds' q a.2 h2)
def Alg {H}{enc}{P}{f}{s:ChangeSpec}{tb}(n:laidOutB P)
  (hp:f.params.toList.all (λt=>P.readableRec t&&decide (t<P.types.size))) (o:f.resultTypes=#[tb]) (c:P.underlying tb=some .bool) (a:s.vars=[])
  {W W'} {args} {ds gs:List (DataW H)} {before}
  (j:DataW.Whole enc P f.params.toList s.vars false W args.toList ds gs before)
  (e:∀ds,ds.length=f.params.toList.length->s.fn H ds={results:=[.lit (.bool true)],args:=ds}) (k:Below W.heap.size W W') :
  s.post enc P f false true false false W args (.bool true) W':=by
 have g:=j;obtain⟨p,q,l,m,rfl,r,u⟩:=j;rw[a]at m;obtain⟨rfl,rfl⟩:=trodVars_none m;have b:∀(ts:List TypeId)(vs:List Value)(ds:List (DataW H)) (ps:List MemPlace),DataW.TrodAll enc P W 0 (λ_=>true) true ts vs ds ps->ds.length=ts.length:=by
  intro ts
  induction ts with
  | nil=>intro vs ds ps h;obtain⟨_,rfl,_⟩:=trodAll_nil h;rfl
  | cons t ts ih=>intro vs ds ps h;obtain⟨v,vs',d,ds',p,q,rfl,rfl,rfl,_,h2⟩:=trodAll_cons h;simp[ih _ _ _ h2]
 have i:=e (ds++[]) (by simpa using b _ _ _ _ l);refine⟨ds,[],_,[],p,[],g,?_,?_,?_,k.frame _,λh=>by cases h⟩
 .rw[i,o];exact trodAll_mk1 (shut_bool c _)
 .rw[i,Asv];exact Tu n k _ _ _ _ hp l
 .rw[i,a];rfl
def Aq2:(prog.globals[0]?).map (·.type)=some 309:=kR
def Al5:prog.cellsOf 309=20:=kR
def Al4:prog.cellsOf 252=1:=kR
def Arp:(prog.globals[2]?).map (·.type)=some 318:=kR
def Aoc:prog.cellsOf 318=64:=kR
def Aob:prog.cellsOf 5=1:=kR
def Ahr:Rows.claimSeesRow.laid.filter (λx=>x.2.handleName?.isSome)=[]:=kR
def Ale {W}(h:laidMetH prog Rows.claimSeesRow.laid W):Df W/\∀k,k∈FF->k<W.heap.size:=by
 unfold laidMetH at h;rw[Ahr]at h;have h:laidMet prog Rows.claimSeesRow.laid W:=h;have h1:=h.tail;have h2:=h1.tail;have a:Df W:=⟨Lib.tabIs_of_head V6 Aq2 underlying309 underlying252 Al4 Al5 h2,
  Lib.tabIs_of_head UE Arp underlying318 underlying5 Aob Aoc h1⟩
 refine⟨a,λk hk=>?_⟩;have lt:∀{g i:Nat}{v:Value},W.cell? ⟨g,i,none⟩=some v->g<W.heap.size:=λ{g i v} h=>by
  rcases Ar5 g W.heap.size with b|b
  .exact b
  .simp[World.cell?,Array.getElem?_eq_none b]at h
 simp only[FF,Asg,List.mem_nil_iff,or_false]at hk;rcases hk with rfl|rfl
 .exact lt (a.tab.cell V6 0 dZ)
 .exact lt (a.db.cell UE 0 dZ)
def AoH:DataW Unit->Value
 | .lit (.int k n)=>.int k n
 | _=>undef
def Alx:DataW Unit->Array Value
 | .agg l=>(l.flatMap λx=>match x with
  | .agg m=>m.map AoH
  | y=>[AoH y]).toArray
 | _=>#[]
def ApK (c:Array Value):Obj->Obj
 | .cells _ t frozen=>.cells c t frozen
 | o=>o
noncomputable def O9 (os:Os):World :=
 let w0:=World.holding prog os ⟨#[],#[],[]⟩
 {w0 with heap:=((w0.heap.modify 1 (ApK (Alx Rows.laid_math_bits_deBruijn32tab))).modify 2 (ApK (Alx Rows.laid_math_bits_deBruijn64tab))).modify 0 (ApK (Alx Rows.laid_internal_strconv_uint64pow10))}
def V0:Value:=.slice none 0 0
def zI:Value:=.int .i64 0
def Adm:Array Value:=#[.agg #[V0,V0,V0,V0,V0,zI,V0],.agg #[V0,V0,V0,zI,zI,zI]]
def Alh (os):laidMet prog Rows.claimSeesRow.laid ((O9 os).forCall (λ_ _=>0) ⟨#[],Adm,[]⟩).memory :=
 laidMet_of_run' 8 kR kR
end Go.Proofs.YtboifkdeeigcaaaGreatDoor
