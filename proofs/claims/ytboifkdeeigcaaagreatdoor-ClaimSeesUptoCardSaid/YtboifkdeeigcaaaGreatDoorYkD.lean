/-
  Texts, joined: RfH, RfW1, RfW2, RfW3, RfW4, RfW5, EgE, EgA, VjPick, VjPubl, VjSel, EkP, EkH, EgS, EkW, EkX, EgU, EgH, EgW1, EcQ, EgV, EgW3, EmA, EmH, EmP, CsPlain, CzP, WhP, WhI, WhJ, WhA, WhH, WhK, ShelfP, PrN, PrP, SpP, SpE, VjRnd, VjRng, VjRgs.
-/
import Derived.Test.YtboifkdeeigcaaaGreatDoorYkC
import Derived.KernelRfl
import Derived.Shelf.Strings.BuilderK
import Derived.Shelf.Strconv.Itoa4
import Derived.Lib.ItoaLen
import Derived.Lib.AppendIntMem
import Derived.Lib.SmallJoins
import Derived.RangeFuncNested
import Derived.OrdersIn
import Derived.OwnWalkIn
set_option linter.defProp false
set_option maxRecDepth 100000
namespace Go.Proofs.YtboifkdeeigcaaaGreatDoor
open Go.RowKit Go.Proofs.Tryz
open IntKind(i64)
def Akj (b)(t):(fc Bn AV f70 [] (Ad b)).goal (St.init [] [.agg (Bp t)]) =
  LQ (Ad (bif bif decide (t.Bits>=1)then decide (t.Bits<=32)else false then bif bif !t.Signed then true else t.Bits==16 then true else t.Bits==32 else false)) (Ad b):=kR
def Agq (b)(t)(v):(fc Bn Jh f46 [] (Ad b)).goal (St.init [] [.agg (Bp t),Aa v]) =
  ∃(y:_),VC 70 [VV.agg (Bp t)] (Ad y)/\BB (!y) (LQ (Ad false) (Ad b)) (BB t.Signed (Au (fc Bn Jh f46 [] (Ad b)) [1,1,1,1,1,1,0,1,0] (Lv t v (1) (i64.wrap (t.Bits-(1))) (0))) (Au (fc Bn Jh f46 [] (Ad b)) [1,1,1,1,1,1,0,1,0] (Lv t v (1) t.Bits (0)))):=kR
def AaU (r)(v):(fc Bn M7 f118 [] (Aa r)).goal (St.init [] [.agg (BP v)]) =
  BB (bif bif decide (v.Slot<0)then true else decide (v.Slot > 1073741824)then true else decide ((↑v.Dims.length:Int) > 4)) (LQ (Aa 0) (Aa r)) (Au (fc Bn M7 f118 [] (Aa r)) [1,1,1,0,1,0] (ND v (i64.wrap (v.Slot+(1))) (0))):=kR
def AaM (r)(t)(v):(fc Bn M5 f63 [] (Aa r)).goal (St.init [] [AE true t,Ac true v]) =
  Au (fc Bn M5 f63 [] (Aa r)) [1,0,1,0] (Hv t v (0)):=kR
def AaS (b)(s):(fc Bn M6 f64 [] (Ad b)).goal (St.init [] [.agg (BH s)]) =
  BB (bif bif bif decide (s.Room<0)then true else decide (s.Room > 16)then true else decide ((↑s.Fields.length:Int)<1)then true else decide ((↑s.Fields.length:Int) > 8)) (LQ (Ad false) (Ad b)) (Au (fc Bn M6 f64 [] (Ad b)) [1,1,0,1,0] (NC s (0))):=kR
def X1 (b)(m)(n):(fc Bn AV f114 [] (Ad b)).goal (St.init [] [.agg (Ag m),Aa n]) =
  LQ (Ad (bif bif decide (n>=0)then decide (n<(↑m.Procs.length))else false then n != m.Claim else false)) (Ad b):=kR
def Abb (b)(a)(l):(fc Bn M8 f113 [] (Ad b)).goal (St.init [] [Aa a,Ac false l]) =
  Au (fc Bn M8 f113 [] (Ad b)) [1,0,1,0] (NG false a l (0)):=kR
def AaV (r)(op){z1}(a:z1=BB (op==24) (LQ (Aa 3) (Aa r)) (BB (bif decide (op>=6)then decide (op<=23)else false) (LQ (Aa 2) (Aa r)) (LQ (Aa 1) (Aa r)))){z2}(b:z2=LQ (Aa 0) (Aa r)):(fc Bn AV f112 [] (Aa r)).goal (St.init [] [Aa op]) =
  BB (op==1) (BB (op==1) z2 z1) (BB (op==2) (BB (op==2) z2 z1) (BB (op==31) (BB (op==31) z2 z1) (BB (op==32) (BB (op==32) z2 z1) (BB (op==33) (BB (op==33) z2 z1) (BB (op==34) (BB (op==34) z2 z1) (BB (op==35) (BB (op==35) z2 z1) (BB (op==39) z2 z1))))))):=by subst a b;kernel_rfl
def Agp (r)(x){a}(b:a=fc Bn BN f66 [] (Ac true r)):(fc Bn BN f66 [] (Ac true r)).goal (St.init [] [.agg (AL x)]) =
  ∃(y:_),VC 112 [Aa x.Op] (Aa y)/\BB (decide (y>=1)) (1*8<=140737488355328/\Au a [1,1,1,1] (Aq [(1,.bp 0 0),(3,.ow 1 0 1),(4,Aa y)] [.box (AL x),.arr true 0 1 1 λ(i)=>List.take 1 (List.drop (i*1) [Aa x.A])])) (Au a [1,1,1,1] (Aq [(1,.bp 0 0),(3,.nl),(4,Aa y)] [.box (AL x)])):=by subst b;kernel_rfl
def Agb (b)(m)(a)(v):(fc Bn Pv f115 [] (Ad b)).goal (St.init [] [.agg (Ag m),Aa a,.agg (BP v)]) =
  BB (bif bif bif bif decide (v.Scope<0)then true else decide (v.Scope > 2)then true else decide (v.Slot<0)then true else decide (v.Slot > 128)then true else decide ((↑v.Dims.length:Int) > 4)) (LQ (Ad false) (Ad b)) (∃(y:_),VC 113 [Aa a,VV.sl false 1 1 λ(i)=>List.take 1 (List.drop (i*1) [Aa v.Who])] (Ad y)/\∃(c:_),VC 114 [VV.agg (Ag m),Aa v.Type_] (Ad c)/\BB (bif bif v.Scope==2 then bif !y then true else !c else false then true else bif v.Scope != 2 then bif v.Who != (-1)then true else v.Type_ != (-1)else false) (LQ (Ad false) (Ad b)) (Au (fc Bn Pv f115 [] (Ad b)) [1,1,1,1,1,0,1,0] (QC a v (0)))):=kR
def VH (b)(m)(a)(args mt):(fc Bn Ka f116 [] (Ad b)).goal (St.init [] [.agg (Ag m),Aa a,Ac true args,Ac true mt]) =
  ∃(y:_),VC 113 [Aa a,Ac true args] (Ad y)/\BB (bif bif bif !y then true else decide ((↑args.length:Int)<1)then true else decide ((↑args.length:Int) > 8)then true else(↑mt.length) != (↑args.length:Int)) (LQ (Ad false) (Ad b)) (Au (fc Bn Ka f116 [] (Ad b)) [1,1,1,0,1,0] (JA m args mt (0))):=kR
def Agr (b)(m)(a){c}(d:c=m.Exprs.getD a.toNat default):(fc Bn L9 f65 [] (Ad b)).goal (St.init [] [.agg (Ag m),Aa a]) =
  (inX a m.Exprs.length/\BB (bif decide (c.Op<1)then true else decide (c.Op > 39)) (LQ (Ad false) (Ad b)) (∃(y:_),VC 112 [Aa c.Op] (Aa y)/\Au (fc Bn L9 f65 [] (Ad b)) [1,1,1,1,1,0,1,0] (Aq [(1,Aa a),(2,.bp 0 0),(5,.bp 1 0),(6,Aa y),(7,.ow 2 0 3),(8,Aa 0)] [.box (Ag m),.box (AL c),.arr true 0 3 1 λ(i)=>List.take 1 (List.drop (i*1) [Aa c.A,Aa c.B,Aa c.C])]))):=by subst d;kernel_rfl
def Af8 (r)(l):(fc Bn AV f67 [] (BA true r)).goal (St.init [] [.agg (A4 l)]) =
  (1*24<=140737488355328/\(1+l.Esc.length)*24<=140737488355328/\(∀(i),i<l.Esc.length->((λ(i)=>[Ao true (l.Esc.getD i [])]) i).all VV.mem1)/\LQ (VV.sl true (1+l.Esc.length) 1 λ(i)=>bif i.blt 1 then(λ(i)=>List.take 1 (List.drop (i*1) [Ao true l.Out])) i else[Ao true (l.Esc.getD (i-1) [])]) (BA true r)):=kR
def AaO (b)(m)(a){c}(g:c=m.Procs.getD a.toNat default){d}(h:d=(↑c.Frame.length:Int)){e}(i:e=(↑c.Locs.length:Int)){f}(j:f=LQ (Ad false) (Ad b)):(fc Bn FK f44 [] (Ad b)).goal (St.init [] [.agg (Ag m),Aa a]) =
  (inX a m.Procs.length/\BB (bif bif bif bif bif decide (d > 128)then true else(↑c.Init.length) != d then true else decide (c.Params<0)then true else decide (c.Params > d)then true else decide (e<1)then true else decide (e > 256)) f (∃(y:_),VC 63 [AE true c.Frame,Ac true c.Init] (Aa y)/\BB (bif bif bif bif bif bif bif bif bif bif decide (y>=0)then true else decide (c.Start<0)then true else decide (c.Start>=e)then true else decide (c.Final<0)then true else decide (c.Final>=e)then true else decide (c.Active<0)then true else decide (c.Active > 16)then true else decide (c.Prio<1)then true else decide (c.Prio > 255)then true else decide (c.Provided<(-1))then true else decide (c.Provided>=(↑m.Exprs.length))) f (BB (bif a==m.Claim then bif bif decide (d > 0)then true else decide (c.Active > 0)then true else decide (c.Provided>=0)else false) f (Au (fc Bn FK f44 [] (Ad b)) [1,1,1,1,1,1,1,0,1,0] (Hw m a c (0) (0)))))):=by subst g h i j;kernel_rfl
def XR (b)(m)(a){z1}(c:z1=m.Exprs.getD a.toNat default):(fc Bn AV f159 [] (Ad b)).goal (St.init [] [.agg (Ag m),Aa a]) =
  (((true&&(bif decide (a>=0)then decide (a<(↑m.Exprs.length))else false)==true)->inX a m.Exprs.length)/\((true&&(bif bif decide (a>=0)then decide (a<(↑m.Exprs.length))else false then z1.Op==2 else false)==true)->inX a m.Exprs.length)/\LQ (Ad (bif bif bif decide (a>=0)then decide (a<(↑m.Exprs.length))else false then z1.Op==2 else false then z1.V.Scope != 2 else false)) (Ad b)):=by subst c;kernel_rfl
def Agh (b)(m)(s):(fc Bn L8 f117 [] (Ad b)).goal (St.init [] [.agg (Ag m),.agg (An s)]) =
  (∃(y:_),VC 159 [VV.agg (Ag m),Aa s.A] (Ad y)/\∃(a:_),VC 113 [Aa (↑m.Exprs.length),Ac true s.Args] (Ad a)/\BB (s.Kind==1) (BB (s.Kind==1) (LQ (Ad (bif bif bif bif bif decide (s.A>=0)then decide (s.A<(↑m.Exprs.length))else false then s.B==(-1)else false then bif(↑s.Args.length:Int)==0 then(↑s.Match.length:Int)==0 else false else false then s.N==0 else false then s.Text.toList==(⟨#[]⟩:ByteArray).toList else false)) (Ad b)) (BB (s.Kind==2) (LQ (Ad (bif bif bif bif y then bif decide (s.B>=0)then decide (s.B<(↑m.Exprs.length))else false else false then bif(↑s.Args.length:Int)==0 then(↑s.Match.length:Int)==0 else false else false then s.N==0 else false then s.Text.toList==(⟨#[]⟩:ByteArray).toList else false)) (Ad b)) (BB (s.Kind==4) (LQ (Ad (bif bif bif bif bif s.A==(-1)then s.B==(-1)else false then a else false then(↑s.Match.length:Int)==0 else false then s.N==0 else false then decide ((↑s.Text.size:Int)<=256)else false)) (Ad b)) (BB (s.Kind==5) (LQ (Ad (bif bif bif bif bif bif bif bif decide (s.A>=0)then decide (s.A<(↑m.Exprs.length))else false then s.B==(-1)else false then a else false then decide ((↑s.Args.length:Int)>=1)else false then decide ((↑s.Args.length:Int)<=8)else false then(↑s.Match.length:Int)==0 else false then bif s.N==0 then true else s.N==1 else false then s.Text.toList==(⟨#[]⟩:ByteArray).toList else false)) (Ad b)) (BB (s.Kind==6) (∃(y:Bool),VC 116 [VV.agg (Ag m),Aa (↑m.Exprs.length:Int),Ac true s.Args,Ac true s.Match] (Ad y)/\BB (bif bif bif bif bif !bif decide (s.A>=0)then decide (s.A<(↑m.Exprs.length:Int))else false then true else s.B != (-1:Int)then true else !y then true else decide (s.N<0)then true else decide (s.N > 3)then true else !s.Text.toList==(⟨#[]⟩:ByteArray).toList) (LQ (Ad false) (Ad b)) (Au (fc Bn L8 f117 [] (Ad b)) [1,1,1,1,1,1,1,0,1,0,1,1,1,1,1,1,1,1,1,0,1,1,0,1,0] (NB m s (0:Int)))) (BB (s.Kind==7) (BB (s.Kind==7) (LQ (Ad (bif bif bif bif s.A==(-1:Int)then s.B==(-1:Int)else false then bif(↑s.Args.length:Int)==0 then(↑s.Match.length:Int)==0 else false else false then s.N==0 else false then s.Text.toList==(⟨#[]⟩:ByteArray).toList else false)) (Ad b)) (BB (s.Kind==9) (LQ (Ad (bif bif bif bif bif y then s.B==(-1:Int)else false then bif(↑s.Args.length:Int)==0 then(↑s.Match.length:Int)==0 else false else false then decide (s.N>=0)else false then decide (s.N<(↑m.Shapes.length:Int))else false then s.Text.toList==(⟨#[]⟩:ByteArray).toList else false)) (Ad b)) (LQ (Ad false) (Ad b)))) (BB (s.Kind==8) (LQ (Ad (bif bif bif bif s.A==(-1:Int)then s.B==(-1:Int)else false then bif(↑s.Args.length:Int)==0 then(↑s.Match.length:Int)==0 else false else false then s.N==0 else false then s.Text.toList==(⟨#[]⟩:ByteArray).toList else false)) (Ad b)) (BB (s.Kind==9) (LQ (Ad (bif bif bif bif bif y then s.B==(-1:Int)else false then bif(↑s.Args.length:Int)==0 then(↑s.Match.length:Int)==0 else false else false then decide (s.N>=0)else false then decide (s.N<(↑m.Shapes.length:Int))else false then s.Text.toList==(⟨#[]⟩:ByteArray).toList else false)) (Ad b)) (LQ (Ad false) (Ad b)))))))))) (BB (s.Kind==3) (LQ (Ad (bif bif bif bif bif decide (s.A>=0)then decide (s.A<(↑m.Exprs.length:Int))else false then s.B==(-1:Int)else false then bif(↑s.Args.length:Int)==0 then(↑s.Match.length:Int)==0 else false else false then s.N==0 else false then s.Text.toList==(⟨#[]⟩:ByteArray).toList else false)) (Ad b)) (BB (s.Kind==2) (LQ (Ad (bif bif bif bif y then bif decide (s.B>=0)then decide (s.B<(↑m.Exprs.length:Int))else false else false then bif(↑s.Args.length:Int)==0 then(↑s.Match.length:Int)==0 else false else false then s.N==0 else false then s.Text.toList==(⟨#[]⟩:ByteArray).toList else false)) (Ad b)) (BB (s.Kind==4) (LQ (Ad (bif bif bif bif bif s.A==(-1:Int)then s.B==(-1:Int)else false then a else false then(↑s.Match.length:Int)==0 else false then s.N==0 else false then decide ((↑s.Text.size:Int)<=256)else false)) (Ad b)) (BB (s.Kind==5) (LQ (Ad (bif bif bif bif bif bif bif bif decide (s.A>=0)then decide (s.A<(↑m.Exprs.length:Int))else false then s.B==(-1:Int)else false then a else false then decide ((↑s.Args.length:Int)>=1)else false then decide ((↑s.Args.length:Int)<=8)else false then(↑s.Match.length:Int)==0 else false then bif s.N==0 then true else s.N==1 else false then s.Text.toList==(⟨#[]⟩:ByteArray).toList else false)) (Ad b)) (BB (s.Kind==6) (∃(y:Bool),VC 116 [VV.agg (Ag m),Aa (↑m.Exprs.length:Int),Ac true s.Args,Ac true s.Match] (Ad y)/\BB (bif bif bif bif bif !bif decide (s.A>=0)then decide (s.A<(↑m.Exprs.length:Int))else false then true else s.B != (-1:Int)then true else !y then true else decide (s.N<0)then true else decide (s.N > 3)then true else !s.Text.toList==(⟨#[]⟩:ByteArray).toList) (LQ (Ad false) (Ad b)) (Au (fc Bn L8 f117 [] (Ad b)) [1,1,1,1,1,1,1,0,1,0,1,1,1,1,1,1,1,1,1,0,1,1,0,1,0] (NB m s (0:Int)))) (BB (s.Kind==7) (BB (s.Kind==7) (LQ (Ad (bif bif bif bif s.A==(-1:Int)then s.B==(-1:Int)else false then bif(↑s.Args.length:Int)==0 then(↑s.Match.length:Int)==0 else false else false then s.N==0 else false then s.Text.toList==(⟨#[]⟩:ByteArray).toList else false)) (Ad b)) (BB (s.Kind==9) (LQ (Ad (bif bif bif bif bif y then s.B==(-1:Int)else false then bif(↑s.Args.length:Int)==0 then(↑s.Match.length:Int)==0 else false else false then decide (s.N>=0)else false then decide (s.N<(↑m.Shapes.length:Int))else false then s.Text.toList==(⟨#[]⟩:ByteArray).toList else false)) (Ad b)) (LQ (Ad false) (Ad b)))) (BB (s.Kind==8) (LQ (Ad (bif bif bif bif s.A==(-1:Int)then s.B==(-1:Int)else false then bif(↑s.Args.length:Int)==0 then(↑s.Match.length:Int)==0 else false else false then s.N==0 else false then s.Text.toList==(⟨#[]⟩:ByteArray).toList else false)) (Ad b)) (BB (s.Kind==9) (LQ (Ad (bif bif bif bif bif y then s.B==(-1:Int)else false then bif(↑s.Args.length:Int)==0 then(↑s.Match.length:Int)==0 else false else false then decide (s.N>=0)else false then decide (s.N<(↑m.Shapes.length:Int))else false then s.Text.toList==(⟨#[]⟩:ByteArray).toList else false)) (Ad b)) (LQ (Ad false) (Ad b))))))))))):=kR
def Agi (r)(m)(a)(v):(fc Bn AV f119 [] (Aa r)).goal (St.init [] [.agg (Ag m),Aa a,.agg (BP v)]) =
  BB (v.Scope==0) (LQ (Aa (↑m.Globals.length)) (Aa r)) (BB (v.Scope==1) (inX a m.Procs.length/\LQ (Aa (↑(m.Procs.getD a.toNat default).Frame.length)) (Aa r)) (inX v.Type_ m.Procs.length/\LQ (Aa (↑(m.Procs.getD v.Type_.toNat default).Frame.length)) (Aa r))):=kR
def Agc (b)(m)(a k)(run){c}(e:c=m.Exprs.getD k.toNat default):(fc Bn Pw f69 [] (Ad b)).goal (St.init [] [.agg (Ag m),Aa a,Aa k,Ad run]) =
  (inX k m.Exprs.length/\BB (bif bif c.Op==39 then !run else false then true else bif a==m.Claim then bif bif c.Op==31 then true else c.Op==39 then true else bif c.Op==2 then c.V.Scope==1 else false else false) (LQ (Ad false) (Ad b)) (∃(y:_),((true&&(c.Op==2)==true)->VC 118 [.agg (BP c.V)] (Aa y))/\∃(d:_),((true&&(c.Op==2)==true)->VC 119 [.agg (Ag m),Aa a,.agg (BP c.V)] (Aa d))/\BB (bif c.Op==2 then decide (y > d)else false) (LQ (Ad false) (Ad b)) (∃(y:_),VC 66 [.agg (AL c)] (Ac true y)/\Au (fc Bn Pw f69 [] (Ad b)) [1,1,1,1,1,0,1,0] (QE m a y (0))))):=by subst e;kernel_rfl
def Akg (b)(m)(a)(s){c}(d:c=BB (decide (s.B>=0)) (∃(y:Bool),VC 69 [VV.agg (Ag m),Aa a,Aa s.B,Ad (s.Kind==2)] (Ad y)/\BB (!y) (LQ (Ad false) (Ad b)) (Au (fc Bn Ie f68 [] (Ad b)) [1,1,1,1,1,0,1,0] (KC m a s (0:Int)))) (Au (fc Bn Ie f68 [] (Ad b)) [1,1,1,1,1,0,1,0] (KC m a s (0:Int)))):(fc Bn Ie f68 [] (Ad b)).goal (St.init [] [.agg (Ag m),Aa a,.agg (An s)]) =
  ∃(y:_),VC 117 [.agg (Ag m),.agg (An s)] (Ad y)/\BB (bif !y then true else bif bif bif bif a==m.Claim then s.Kind != 1 else false then s.Kind != 3 else false then s.Kind != 7 else false then s.Kind != 8 else false) (LQ (Ad false) (Ad b)) (BB (decide (s.A>=0)) (∃(y:_),VC 69 [.agg (Ag m),Aa a,Aa s.A,Ad (s.Kind==1)] (Ad y)/\BB (!y) (LQ (Ad false) (Ad b)) c) c):=by subst d;kernel_rfl
def VA (b)(m)(a):(fc Bn Ew f45 [] (Ad b)).goal (St.init [] [.agg (Ag m),Aa a]) =
  (inX a m.Procs.length/\Au (fc Bn Ew f45 [] (Ad b)) [1,1,0,1,0] (IW m a (m.Procs.getD a.toNat default) (0))):=kR
def XS (r e)(m):(fc Bn DH f43 [] (.tup [Aa r,Aa e])).goal (St.init [] [.agg (Ag m)]) =
  BB (bif decide ((↑m.Globals.length:Int) > 128)then true else(↑m.Init.length) != (↑m.Globals.length:Int)) (LQ (VV.tup [Aa 1,Aa (-1)]) (VV.tup [Aa r,Aa e])) (∃(y:_),VC 63 [AE true m.Globals,Ac true m.Init] (Aa y)/\BB (decide (y>=0)) (LQ (VV.tup [Aa 1,Aa y]) (VV.tup [Aa r,Aa e])) (BB (bif decide ((↑m.Shapes.length:Int) > 32)then true else decide ((↑m.Chans.length:Int) > 32)) (LQ (VV.tup [Aa 2,Aa (-1)]) (VV.tup [Aa r,Aa e])) (Au (fc Bn DH f43 [] (VV.tup [Aa r,Aa e])) [1,1,1,1,1,0,1,0] (QG m (0))))):=kR
def Aba (r e f)(m):(fc Bn Ih f23 [] (.tup [Aa r,Aa e,Aa f])).goal (St.init [] [.agg (Ag m)]) =
  ∃(y:Int×Int),VC 43 [VV.agg (Ag m)] (VV.tup [Aa y.fst,Aa y.snd])/\BB (decide (y.fst > 0)) (LQ (VV.tup [Aa 40,Aa y.fst,Aa y.snd]) (VV.tup [Aa r,Aa e,Aa f])) (Au (fc Bn Ih f23 [] (VV.tup [Aa r,Aa e,Aa f])) [1,1,1,1,0,1,0] (Lx m (0) (0))):=kR
def AaX (b)(m):(fc Bn AV f10 [] (Ad b)).goal (St.init [] [.agg (Ag m)]) =
  ∃(y:Int×Int×Int),VC 23 [VV.agg (Ag m)] (VV.tup [Aa y.fst,Aa y.snd.fst,Aa y.snd.snd])/\LQ (Ad (y.fst==0)) (Ad b):=kR
def XP (b)(t)(l):(fc Bn Lc f24 [] (Ad b)).goal (St.init [] [AE true t,Ac true l]) =
  BB ((↑t.length) != (↑l.length:Int)) (LQ (Ad false) (Ad b)) (Au (fc Bn Lc f24 [] (Ad b)) [1,1,0,1,0] (Hv t l (0))):=kR
def Ako (b)(m)(s):(fc Bn Ig f11 [] (Ad b)).goal (St.init [] [.agg (Ag m),.agg (Ae s)]) =
  ∃(y:_),VC 24 [AE true m.Globals,Ac true s.Globals] (Ad y)/\BB (bif bif bif bif bif bif bif !y then true else decide ((↑s.Chans.length:Int) > 32)then true else decide ((↑s.Procs.length:Int) > 16)then true else decide (s.Last<0)then true else decide (s.Last > 15)then true else decide (s.Alone<(-1))then true else decide (s.Alone>=(↑s.Procs.length))then true else bif decide (m.Claim<0)then s.Claim != (-1)else false) (LQ (Ad false) (Ad b)) (((true&&decide (m.Claim>=0)==true&&decide (s.Claim<0)==false)->inX m.Claim m.Procs.length)/\BB (bif decide (m.Claim>=0)then bif decide (s.Claim<0)then true else decide (s.Claim>=(↑(m.Procs.getD m.Claim.toNat default).Locs.length))else false) (LQ (Ad false) (Ad b)) (Au (fc Bn Ig f11 [] (Ad b)) [1,1,1,1,0,1,0] (NF m s (0)))):=kR
def XZ (r)(m)(s):(fc Bn AV f5 [] (Aa r)).goal (St.init [] [.agg (Ag m),.agg (Ae s)]) =
  ∃(y:_),VC 10 [VV.agg (Ag m)] (Ad y)/\BB (!y) (LQ (Aa 40) (Aa r)) (∃(y:_),VC 11 [VV.agg (Ag m),VV.agg (Ae s)] (Ad y)/\BB (!y) (LQ (Aa 41) (Aa r)) (LQ (Aa 0) (Aa r))):=kR
def Ago (r)(e)(esc){a}(b:a=e.S.Procs.getD e.Pid.toNat default):(fc Bn AV f36 [] (Ao true r)).goal (St.init [] [.agg (Af e),Aa esc]) =
  ∃(y:_),VC 31 [.agg (Af e)] (.agg (A9 y))/\inX e.Pid e.S.Procs.length/\inX a.Loc y.Locs.length/\BB (decide (esc<0)) (LQ (Ao true (y.Locs.getD a.Loc.toNat default).Out) (Ao true r)) (inX esc (y.Locs.getD a.Loc.toNat default).Esc.length/\LQ (Ao true ((y.Locs.getD a.Loc.toNat default).Esc.getD esc.toNat [])) (Ao true r)):=by subst b;kernel_rfl
def AaN (p)(e):(fc Bn AV f31 [] (.agg (A9 p))).goal (St.init [] [.agg (Af e)]) =
  (inX e.Pid e.S.Procs.length/\inX (e.S.Procs.getD e.Pid.toNat default).Type_ e.M.Procs.length/\LQ (VV.agg (A9 (e.M.Procs.getD (e.S.Procs.getD e.Pid.toNat default).Type_.toNat default))) (VV.agg (A9 p))):=kR
def Aa2 (b)(t)(v most n i)(J):((fc Bn Jh f46 [] (Ad b)).loop [1,1,1,1,1,1,0,1,0] J).goal (Lv t v most n i) =
  BB (decide (i<n)) (J (Lv t v (i64.wrap ((2)*most)) n (i64.wrap (i+(1))))) (BB t.Signed (LQ (Ad (bif decide (v>=i64.wrap ((0)-most))then decide (v<most)else false)) (Ad b)) (LQ (Ad (bif decide (v>=0)then decide (v<most)else false)) (Ad b))):=kR
def X0 (r)(v)(n k)(J){z1}(a:z1=v.Dims.getD k.toNat default):((fc Bn M7 f118 [] (Aa r)).loop [1,1,1,0,1,0] J).goal (ND v n k) =
  BB (decide (k<(↑v.Dims.length))) (inX k v.Dims.length/\BB (bif bif bif decide (z1.Len<1)then true else decide (i64.wrap (z1.Len-(1)) > 1073741824)then true else decide (z1.Stride<0)then true else decide (z1.Stride > 1073741824)) (LQ (Aa 0) (Aa r)) (J (ND v (i64.wrap (n+i64.wrap (i64.wrap (z1.Len-(1))*z1.Stride))) (i64.wrap (k+(1)))))) (LQ (Aa n) (Aa r)):=by subst a;kernel_rfl
def XQ (r)(t)(v)(k)(J):((fc Bn M5 f63 [] (Aa r)).loop [1,0,1,0] J).goal (Xo t v k) =
  BB (decide (k<(↑t.length))) (inX k t.length/\inX k v.length/\∃(y:_),VC 46 [VV.agg (Bp (t.getD k.toNat default)),Aa (v.getD k.toNat 0)] (Ad y)/\BB (!y) (LQ (Aa k) (Aa r)) (J (Hv t v (i64.wrap (k+(1)))))) (LQ (Aa (-1)) (Aa r)):=kR
def XY (b)(s)(k)(J):((fc Bn M6 f64 [] (Ad b)).loop [1,1,0,1,0] J).goal (NC s k) =
  BB (decide (k<(↑s.Fields.length))) (inX k s.Fields.length/\∃(y:_),VC 70 [VV.agg (Bp (s.Fields.getD k.toNat default))] (Ad y)/\BB (!y) (LQ (Ad false) (Ad b)) (J (NC s (i64.wrap (k+(1)))))) (LQ (Ad true) (Ad b)):=kR
def X9 (b)(a)(l)(k)(J):((fc Bn M8 f113 [] (Ad b)).loop [1,0,1,0] J).goal (NG false a l k) =
  BB (decide (k<(↑l.length))) (inX k l.length/\((true&&decide (l.getD k.toNat 0<0)==false)->inX k l.length)/\BB (bif decide (l.getD k.toNat 0<0)then true else decide (l.getD k.toNat 0>=a)) (LQ (Ad false) (Ad b)) (J (NG false a l (i64.wrap (k+(1)))))) (LQ (Ad true) (Ad b)):=kR
def R4 (r)(x)(l)(n){a}(b:a=(fc Bn BN f66 [] (Ac true r)).cut [1,1,1,1]):((fc Bn BN f66 [] (Ac true r)).cut [1,1,1,1]).goal (GU x l n) =
  BB (decide (n>=2)) ((l.length+1)*8<=140737488355328/\Au a [1] (Aq [(1,.bp 0 0),(3,.ow 1 0 (l.length+1)),(4,Aa n)] [.box (AL x),.arr true 0 (l.length+1) 1 λ(i)=>bif i.blt l.length then[Aa (l.getD i 0)]else(λ(i)=>List.take 1 (List.drop (i*1) [Aa x.B])) (i-l.length)])) (Au a [1] (GU x l n)):=by subst b;kernel_rfl
def MD (r)(x)(l)(n){a}(b:a=(fc Bn BN f66 [] (Ac true r)).cut [1,1,1,1,1]):((fc Bn BN f66 [] (Ac true r)).cut [1,1,1,1,1]).goal (GU x l n) =
  BB (decide (n>=3)) ((l.length+1)*8<=140737488355328/\Au a [1] (Aq [(1,.bp 0 0),(3,.ow 1 0 (l.length+1))] [.box (AL x),.arr true 0 (l.length+1) 1 λ(i)=>bif i.blt l.length then[Aa (l.getD i 0)]else(λ(i)=>List.take 1 (List.drop (i*1) [Aa x.C])) (i-l.length)])) (Au a [1] (IY x l)):=by subst b;kernel_rfl
def Aa0 (r)(x)(l){b}(c:b=(fc Bn BN f66 [] (Ac true r)).cut [1,1,1,1,1,1]){a}(d:a=l.length+x.Args.length):((fc Bn BN f66 [] (Ac true r)).cut [1,1,1,1,1,1]).goal (IY x l) =
  BB (bif x.Op==30 then true else x.Op==39) (a*8<=140737488355328/\(∀(i),i<x.Args.length->(AD x.Args i).all VV.mem1)/\Au b [1] (Aq [(1,.bp 0 0),(3,.ow 1 0 a)] [.box (AL x),.arr true 0 a 1 λ(i)=>bif i.blt l.length then AD l i else AD x.Args (i-l.length)])) (Au b [1] (IY x l)):=by subst c d;kernel_rfl
def AaZ (r)(x)(l){a}(b:a=(fc Bn BN f66 [] (Ac true r)).cut [1,1,1,1,1,1,1]):((fc Bn BN f66 [] (Ac true r)).cut [1,1,1,1,1,1,1]).goal (IY x l) =
  BB (x.Op==2) (BB (x.V.Scope==2) ((l.length+1)*8<=140737488355328/\Au a [0,1,0,1,1,0] (Aq [(1,.bp 0 0),(3,.ow 1 0 (l.length+1)),(5,Aa 0)] [.box (AL x),.arr true 0 (l.length+1) 1 λ(i)=>bif i.blt l.length then[Aa (l.getD i 0)]else(λ(i)=>List.take 1 (List.drop (i*1) [Aa x.V.Who])) (i-l.length)])) (Au a [0,1,0,1,1,0] (QI x l (0)))) (LQ (Ac true l) (Ac true r)):=by subst b;kernel_rfl
def Aa1 (r)(x)(l)(k)(J):((fc Bn BN f66 [] (Ac true r)).loop [1,1,1,1,1,1,1,0,1,0,1,1,0] J).goal (QI x l k) =
  BB (decide (k<(↑x.V.Dims.length))) (inX k x.V.Dims.length/\(l.length+1)*8<=140737488355328/\J (Aq [(1,VV.bp 0 0),(3,VV.ow 1 0 (l.length+1)),(5,Aa (i64.wrap (k+(1))))] [Ob.box (AL x),Ob.arr true 0 (l.length+1) 1 λ(i)=>bif i.blt l.length then[Aa (l.getD i 0)]else(λ(i)=>List.take 1 (List.drop (i*1) [Aa (x.V.Dims.getD k.toNat default).I])) (i-l.length)])) (LQ (Ac true l) (Ac true r)):=kR
def AaK (b)(_:D.Model)(a)(v)(k)(J){c}(d:c=v.Dims.getD k.toNat default):((fc Bn Pv f115 [] (Ad b)).loop [1,1,1,1,1,0,1,0] J).goal (QC a v k) =
  BB (decide (k<(↑v.Dims.length))) (inX k v.Dims.length/\∃(y:_),VC 113 [Aa a,.sl false 1 1 λ(i)=>List.take 1 (List.drop (i*1) [Aa c.I])] (Ad y)/\BB (bif bif bif bif !y then true else decide (c.Len<1)then true else decide (c.Len > 128)then true else decide (c.Stride<0)then true else decide (c.Stride > 128)) (LQ (Ad false) (Ad b)) (J (QC a v (i64.wrap (k+(1)))))) (LQ (Ad true) (Ad b)):=by subst d;kernel_rfl
def Tz (b)(m)(args mt)(k)(J){z1}(a:z1=bif decide (mt.getD k.toNat 0<(-1:Int))then true else decide (mt.getD k.toNat 0 > 1)){z2}(c:z2=(true&&z1==false&&(mt.getD k.toNat 0==0)==true)):((fc Bn Ka f116 [] (Ad b)).loop [1,1,1,0,1,0] J).goal (JA m args mt k) =
  BB (decide (k<(↑mt.length))) (inX k mt.length/\((true&&decide (mt.getD k.toNat 0<(-1))==false)->inX k mt.length)/\((true&&z1==false)->inX k mt.length)/\(z2->inX k args.length)/\(z2->inX (args.getD k.toNat 0) m.Exprs.length)/\BB (bif bif decide (mt.getD k.toNat 0<(-1))then true else decide (mt.getD k.toNat 0 > 1)then true else bif mt.getD k.toNat 0==0 then(m.Exprs.getD (args.getD k.toNat 0).toNat default).Op != 2 else false) (LQ (Ad false) (Ad b)) (J (JA m args mt (i64.wrap (k+(1)))))) (LQ (Ad true) (Ad b)):=by subst a c;kernel_rfl
def Aa4 (b)(m)(a)(x)(n k)(J):((fc Bn L9 f65 [] (Ad b)).loop [1,1,1,1,1,0,1,0] J).goal (QJ m a x n k) =
  BB (decide (k<3)) (inX k 3/\∃(y:_),VC 113 [Aa a,VV.sl false 1 1 λ(i)=>List.take 1 (List.drop (i*1) [Aa ([x.A,x.B,x.C].getD k.toNat 0)])] (Ad y)/\((true&&(bif decide (k<n)then !y else false)==false&&decide (k>=n)==true)->inX k 3)/\BB (bif bif decide (k<n)then !y else false then true else bif decide (k>=n)then[x.A,x.B,x.C].getD k.toNat 0 != (-1)else false) (LQ (Ad false) (Ad b)) (J (QJ m a x n (i64.wrap (k+(1)))))) (∃(y:_),VC 114 [VV.agg (Ag m),Aa x.N] (Ad y)/\∃(c:_),VC 113 [Aa a,Ac true x.Args] (Ad c)/\BB (x.Op==1) (LQ (Ad (bif decide (x.N>=(-2147483648))then decide (x.N<=2147483647)else false)) (Ad b)) (BB (x.Op==2) (∃(y:_),VC 115 [VV.agg (Ag m),Aa a,VV.agg (BP x.V)] (Ad y)/\LQ (Ad y) (Ad b)) (BB (x.Op==30) (∃(y:_),VC 116 [VV.agg (Ag m),Aa a,Ac true x.Args,Ac true x.Match] (Ad y)/\LQ (Ad (bif y then bif x.N==0 then true else x.N==1 else false)) (Ad b)) (BB (x.Op==38) (BB (bif !y then true else decide ((↑x.Args.length:Int)<1)) (LQ (Ad false) (Ad b)) (inX x.N m.Procs.length/\∃(y:_),VC 113 [Aa (↑(m.Procs.getD x.N.toNat default).Locs.length),Ac true x.Args] (Ad y)/\LQ (Ad y) (Ad b))) (BB (x.Op==39) (((true&&(bif y then c else false)==true)->inX x.N m.Procs.length)/\LQ (Ad (bif bif y then c else false then(↑x.Args.length)==(m.Procs.getD x.N.toNat default).Params else false)) (Ad b)) (LQ (Ad true) (Ad b))))))):=kR
def XW (b)(m)(a)(p)(many k)(J){c}(d:c=p.Locs.getD k.toNat default):((fc Bn FK f44 [] (Ad b)).loop [1,1,1,1,1,1,1,0,1,0] J).goal (Hw m a p many k) =
  BB (decide (k<(↑p.Locs.length))) (inX k p.Locs.length/\BB (bif bif bif decide ((↑c.Esc.length:Int) > 8)then true else bif c.Dstep then c.Atomic else false then true else bif k==p.Final then bif decide ((↑c.Out.length:Int) > 0)then true else decide ((↑c.Esc.length:Int) > 0)else false then true else bif a==m.Claim then bif bif decide ((↑c.Esc.length:Int) > 0)then true else c.Atomic then true else c.Dstep else false) (LQ (Ad false) (Ad b)) (∃(y:_),VC 67 [.agg (A4 c)] (BA true y)/\Au ((fc Bn FK f44 [] (Ad b)).loop [1,1,1,1,1,1,1,0,1,0] J) [1,0,0,1,1,1,1,0] (IX m a p many k y (0)))) (LQ (Ad (decide (many<=1024))) (Ad b)):=by subst d;kernel_rfl
def XV (b)(m)(a)(p)(many k)(ws)(j)(J J2):(((fc Bn FK f44 [] (Ad b)).loop [1,1,1,1,1,1,1,0,1,0] J).loop [1,0,0,1,1,1,1,0] J2).goal (IX m a p many k ws j) =
  BB (decide (j<(↑ws.length))) (((true&&decide (j > 0)==true)->inX j ws.length)/\BB (bif decide (j > 0)then(↑(ws.getD j.toNat []).length:Int)==0 else false) (LQ (Ad false) (Ad b)) (inX j ws.length/\Au (((fc Bn FK f44 [] (Ad b)).loop [1,1,1,1,1,1,1,0,1,0] J).loop [1,0,0,1,1,1,1,0] J2) [1,0,0,1,1,1,0] (Lu m a p (i64.wrap (many+(↑(ws.getD j.toNat []).length))) k ws j (0)))) (J (Hw m a p many (i64.wrap (k+(1))))):=kR
def XU (b)(m)(a)(p)(many k)(ws)(j h)(J J2 J3){z1}(c:z1=(ws.getD j.toNat []).getD h.toNat default):((((fc Bn FK f44 [] (Ad b)).loop [1,1,1,1,1,1,1,0,1,0] J).loop [1,0,0,1,1,1,1,0] J2).loop [1,0,0,1,1,1,0] J3).goal (Lu m a p many k ws j h) =
  (inX j ws.length/\BB (decide (h<(↑(ws.getD j.toNat []).length))) (inX j ws.length/\inX h (ws.getD j.toNat []).length/\((true&&decide (z1.To<0)==false)->inX j ws.length)/\((true&&decide (z1.To<0)==false)->inX h (ws.getD j.toNat []).length)/\BB (bif decide (z1.To<0)then true else decide (z1.To>=(↑p.Locs.length))) (LQ (Ad false) (Ad b)) (J3 (Lu m a p many k ws j (i64.wrap (h+(1)))))) (J2 (IX m a p many k ws (i64.wrap (j+(1)))))):=by subst c;kernel_rfl
def AaQ (b)(m)(s)(k)(J):((fc Bn L8 f117 [] (Ad b)).loop [1,1,1,1,1,1,1,0,1,0,1,1,1,1,1,1,1,1,1,0,1,1,0,1,0] J).goal (NB m s k) =
  BB (decide (k<(↑s.Args.length))) (inX k s.Args.length/\∃(y:_),VC 159 [VV.agg (Ag m),Aa (s.Args.getD k.toNat 0)] (Ad y)/\inX k s.Match.length/\BB (bif s.Match.getD k.toNat 0==0 then !y else false) (LQ (Ad false) (Ad b)) (J (NB m s (i64.wrap (k+(1)))))) (LQ (Ad true) (Ad b)):=kR
def AaL (b)(m)(a)(l)(k)(J):((fc Bn Pw f69 [] (Ad b)).loop [1,1,1,1,1,0,1,0] J).goal (QE m a l k) =
  BB (decide (k<(↑l.length))) (inX k l.length/\∃(y:_),VC 69 [VV.agg (Ag m),Aa a,Aa (l.getD k.toNat 0),Ad false] (Ad y)/\BB (!y) (LQ (Ad false) (Ad b)) (J (QE m a l (i64.wrap (k+(1)))))) (LQ (Ad true) (Ad b)):=kR
def Aga (b)(m)(a)(s)(k)(J):((fc Bn Ie f68 [] (Ad b)).loop [1,1,1,1,1,0,1,0] J).goal (KC m a s k) =
  BB (decide (k<(↑s.Args.length))) (inX k s.Args.length/\∃(y:_),VC 69 [VV.agg (Ag m),Aa a,Aa (s.Args.getD k.toNat 0),Ad false] (Ad y)/\BB (!y) (LQ (Ad false) (Ad b)) (J (KC m a s (i64.wrap (k+(1)))))) (LQ (Ad true) (Ad b)):=kR
def AaI (b)(m)(a)(p)(k)(J):((fc Bn Ew f45 [] (Ad b)).loop [1,1,0,1,0] J).goal (IW m a p k) =
  BB (decide (k<(↑p.Locs.length))) (inX k p.Locs.length/\∃(y:_),VC 67 [VV.agg (A4 (p.Locs.getD k.toNat default))] (BA true y)/\Au ((fc Bn Ew f45 [] (Ad b)).loop [1,1,0,1,0] J) [1,0,0,1,1,0] (KB m a p k y (0))) (BB (decide (p.Provided<0)) (LQ (Ad true) (Ad b)) (∃(y:_),VC 69 [VV.agg (Ag m),Aa a,Aa p.Provided,Ad false] (Ad y)/\LQ (Ad y) (Ad b))):=kR
def AaH (b)(m)(a)(p)(k)(ws)(j)(J J2):(((fc Bn Ew f45 [] (Ad b)).loop [1,1,0,1,0] J).loop [1,0,0,1,1,0] J2).goal (KB m a p k ws j) =
  BB (decide (j<(↑ws.length))) (Au (((fc Bn Ew f45 [] (Ad b)).loop [1,1,0,1,0] J).loop [1,0,0,1,1,0] J2) [1,0,0,1,0] (NA m a p k ws j (0))) (J (IW m a p (i64.wrap (k+(1))))):=kR
def AaG (b)(m)(a)(p)(k)(ws)(j h)(J J2 J3):((((fc Bn Ew f45 [] (Ad b)).loop [1,1,0,1,0] J).loop [1,0,0,1,1,0] J2).loop [1,0,0,1,0] J3).goal (NA m a p k ws j h) =
  (inX j ws.length/\BB (decide (h<(↑(ws.getD j.toNat []).length))) (inX j ws.length/\inX h (ws.getD j.toNat []).length/\∃(y:_),VC 68 [VV.agg (Ag m),Aa a,VV.agg (An ((ws.getD j.toNat []).getD h.toNat default).S)] (Ad y)/\BB (!y) (LQ (Ad false) (Ad b)) (J3 (NA m a p k ws j (i64.wrap (h+(1)))))) (J2 (KB m a p k ws (i64.wrap (j+(1)))))):=kR
def Agg (r e)(m)(k)(J):((fc Bn DH f43 [] (.tup [Aa r,Aa e])).loop [1,1,1,1,1,0,1,0] J).goal (QG m k) =
  BB (decide (k<(↑m.Shapes.length))) (inX k m.Shapes.length/\∃(y:_),VC 64 [VV.agg (BH (m.Shapes.getD k.toNat default))] (Ad y)/\BB (!y) (LQ (VV.tup [Aa 2,Aa k]) (VV.tup [Aa r,Aa e])) (J (QG m (i64.wrap (k+(1)))))) (Au (fc Bn DH f43 [] (VV.tup [Aa r,Aa e])) [1,1,1,1,1,1,0,1,0] (QF m (0))):=kR
def Agf (r e)(m)(k)(J){z1}(a:z1=(↑m.Exprs.length:Int)){b}(c:b=fc Bn DH f43 [] (VV.tup [Aa r,Aa e])):((fc Bn DH f43 [] (.tup [Aa r,Aa e])).loop [1,1,1,1,1,1,0,1,0] J).goal (QF m k) =
  BB (decide (k<(↑m.Chans.length))) (inX k m.Chans.length/\((true&&decide (m.Chans.getD k.toNat 0<0)==false)->inX k m.Chans.length)/\BB (bif decide (m.Chans.getD k.toNat 0<0)then true else decide (m.Chans.getD k.toNat 0>=(↑m.Shapes.length))) (LQ (.tup [Aa 2,Aa k]) (.tup [Aa r,Aa e])) (J (QF m (i64.wrap (k+(1)))))) (BB (bif bif bif bif decide ((↑m.Procs.length:Int)<1)then true else decide ((↑m.Procs.length:Int) > 16)then true else decide (m.Claim<(-1))then true else decide (m.Claim>=(↑m.Procs.length))then true else decide (z1 > 4096)) (LQ (.tup [Aa 3,Aa (-1)]) (.tup [Aa r,Aa e])) (((0)<=z1/\z1<=z1/\z1*(↑1)<=140737488355328)/\Au b [1,1,1,1,1,1,1,1,1,0,1,0] (Aq [(1,.bp 0 0),(8,.ow 1 0 z1.toNat),(9,Aa 0)] [.box (Ag m),.arr true 0 z1.toNat 1 λ(_)=>(b.T 4).zero]))):=by subst a c;kernel_rfl
def Age (r e)(m)(had)(k)(J):((fc Bn DH f43 [] (.tup [Aa r,Aa e])).loop [1,1,1,1,1,1,1,1,1,0,1,0] J).goal (Vs m had k) =
  BB (decide (k<(↑m.Exprs.length))) (∃(y:_),VC 65 [VV.agg (Ag m),Aa k] (Ad y)/\BB (!y) (LQ (VV.tup [Aa 3,Aa k]) (VV.tup [Aa r,Aa e])) (inX k m.Exprs.length/\∃(y:_),VC 66 [VV.agg (AL (m.Exprs.getD k.toNat default))] (Ac true y)/\Au ((fc Bn DH f43 [] (VV.tup [Aa r,Aa e])).loop [1,1,1,1,1,1,1,1,1,0,1,0] J) [1,0,0,1,1,1,1,0] (Vr m had k y (0)))) (LQ (VV.tup [Aa 0,Aa 0]) (VV.tup [Aa r,Aa e])):=kR
def Agd (r e)(m)(had)(k)(l)(j)(J J2){a}(b:a=l.getD j.toNat 0):(((fc Bn DH f43 [] (.tup [Aa r,Aa e])).loop [1,1,1,1,1,1,1,1,1,0,1,0] J).loop [1,0,0,1,1,1,1,0] J2).goal (Vr m had k l j) =
  BB (decide (j<(↑l.length))) (inX j l.length/\inX a had.length/\BB (had.getD a.toNat false) (LQ (.tup [Aa 3,Aa k]) (.tup [Aa r,Aa e])) (inX j l.length/\inX a had.length/\J2 (Aq [(1,.bp 0 0),(8,.ow 1 0 had.length),(9,Aa k),(11,Ac true l),(12,Aa (i64.wrap (j+(1))))] [.box (Ag m),.arr true 0 had.length 1 λ(j_1)=>bif j_1.beq a.toNat then[Ad true]else[Ad (had.getD j_1 false)]]))) (J (Vs m had (i64.wrap (k+(1))))):=by subst b;kernel_rfl
def X8 (r e f)(m)(many k)(J){a}(b:a=[Aa r,Aa e,Aa f]):((fc Bn Ih f23 [] (.tup [Aa r,Aa e,Aa f])).loop [1,1,1,1,0,1,0] J).goal (Lx m many k) =
  BB (decide (k<(↑m.Procs.length))) (∃(y:_),VC 44 [.agg (Ag m),Aa k] (Ad y)/\BB (!y) (LQ (.tup [Aa 40,Aa 4,Aa k]) (.tup a)) (inX k m.Procs.length/\J (Lx m (i64.wrap (many+(m.Procs.getD k.toNat default).Active)) (i64.wrap (k+(1)))))) (BB (decide (many > 16)) (LQ (.tup [Aa 40,Aa 5,Aa (-1)]) (.tup a)) (Au (fc Bn Ih f23 [] (.tup a)) [1,1,1,1,1,1,0,1,0] (Lw m (0)))):=by subst b;kernel_rfl
def X7 (r e f)(m)(k)(J):((fc Bn Ih f23 [] (.tup [Aa r,Aa e,Aa f])).loop [1,1,1,1,1,1,0,1,0] J).goal (Lw m k) =
  BB (decide (k<(↑m.Procs.length))) (∃(y:_),VC 45 [VV.agg (Ag m),Aa k] (Ad y)/\BB (!y) (LQ (VV.tup [Aa 40,Aa 6,Aa k]) (VV.tup [Aa r,Aa e,Aa f])) (J (Lw m (i64.wrap (k+(1)))))) (LQ (VV.tup [Aa 0,Aa 0,Aa 0]) (VV.tup [Aa r,Aa e,Aa f])):=kR
def VD (b)(t)(l)(k)(J):((fc Bn Lc f24 [] (Ad b)).loop [1,1,0,1,0] J).goal (Hv t l k) =
  BB (decide (k<(↑t.length))) (inX k t.length/\inX k l.length/\∃(y:_),VC 46 [VV.agg (Bp (t.getD k.toNat default)),Aa (l.getD k.toNat 0)] (Ad y)/\BB (!y) (LQ (Ad false) (Ad b)) (J (Hv t l (i64.wrap (k+(1)))))) (LQ (Ad true) (Ad b)):=kR
def Agn (b)(m)(s)(k)(J){a}(c:a=s.Chans.getD k.toNat default):((fc Bn Ig f11 [] (Ad b)).loop [1,1,1,1,0,1,0] J).goal (NF m s k) =
  BB (decide (k<(↑s.Chans.length))) (inX k s.Chans.length/\((true&&(bif decide (a.Shape<0)then true else decide (a.Shape>=(↑m.Shapes.length)))==false)->inX a.Shape m.Shapes.length)/\BB (bif bif decide (a.Shape<0)then true else decide (a.Shape>=(↑m.Shapes.length))then true else decide ((↑a.Queue.length) > (m.Shapes.getD a.Shape.toNat default).Room)) (LQ (Ad false) (Ad b)) (Au ((fc Bn Ig f11 [] (Ad b)).loop [1,1,1,1,0,1,0] J) [1,0,0,1,1,1,0] (QH m s k a (0)))) (Au (fc Bn Ig f11 [] (Ad b)) [1,1,1,1,1,0,1,0] (NE m s (0))):=by subst c;kernel_rfl
def Agm (b)(m)(s)(k)(c)(j)(J J2):(((fc Bn Ig f11 [] (Ad b)).loop [1,1,1,1,0,1,0] J).loop [1,0,0,1,1,1,0] J2).goal (QH m s k c j) =
  BB (decide (j<(↑c.Queue.length))) (inX c.Shape m.Shapes.length/\inX j c.Queue.length/\∃(y:_),VC 24 [AE true (m.Shapes.getD c.Shape.toNat default).Fields,Ac true (c.Queue.getD j.toNat [])] (Ad y)/\BB (!y) (LQ (Ad false) (Ad b)) (J2 (QH m s k c (i64.wrap (j+(1)))))) (J (NF m s (i64.wrap (k+(1))))):=kR
def Agl (b)(m)(s)(k)(J){a}(d:a=s.Procs.getD k.toNat default){c}(e:c=m.Procs.getD a.Type_.toNat default):((fc Bn Ig f11 [] (Ad b)).loop [1,1,1,1,1,0,1,0] J).goal (NE m s k) =
  BB (decide (k<(↑s.Procs.length))) (inX k s.Procs.length/\BB (bif bif decide (a.Type_<0)then true else decide (a.Type_>=(↑m.Procs.length))then true else a.Type_==m.Claim) (LQ (Ad false) (Ad b)) (inX a.Type_ m.Procs.length/\∃(y:_),VC 24 [AE true c.Frame,Ac true a.Frame] (Ad y)/\BB (bif bif bif !y then true else decide (a.Loc<0)then true else decide (a.Loc>=(↑c.Locs.length))then true else a.Prio != c.Prio) (LQ (Ad false) (Ad b)) (J (NE m s (i64.wrap (k+(1))))))) (LQ (Ad true) (Ad b)):=by subst d e;kernel_rfl
end Go.Proofs.YtboifkdeeigcaaaGreatDoor
namespace Go.Proofs.YtboifkdeeigcaaaGreatDoor
open Go.RowKit Go.Proofs.Tryz
open IntKind(i64)
def OS (t):Ai prog 70 [] [.agg (Bp t)] [] (Ad (EY t)):=by
 refine Ay func70 (Akj _ t) (AB ?_);unfold EY;grind
def R5 (t)(v):Ai prog 46 [] [.agg (Bp t),Aa v] [] (Ad (C1 t v)):=by
 refine Ay func46 (Agq _ t v) ⟨EY t,OS t,λh=>AB ?_,λh=>?_⟩
 .have a:EY t=false:=by simpa using h
  simp[C1,a]
 have a:EY t=true:=by simpa using h
 obtain⟨h1,h2,h3⟩:=Aje a;have b:∀n:Nat,(n:Int)=(bif t.Signed then t.Bits-1 else t.Bits)->Au (BO prog tb Bn Jh true f46 [] (Ad (C1 t v))) [1,1,1,1,1,1,0,1,0] (Lv t v 1 n 0):=by
  intro n f;have i:n<=32:=gD
  refine Az (λg st=>∃k:Nat,k<=n/\g=n-k/\st=Lv t v (2 ^ k) n k) ⟨n,Up.of ⟨0,Arv _,rfl,rfl⟩⟩ ?_;rintro g st ⟨k,hk,rfl,rfl⟩;have hp:=Ab6 (n:=k) oM;refine ArC (Aa2 _ t v (2 ^ k) n k _) ⟨λd=>?_,λe=>?_⟩
  .have c:k<n:=by have:=AQ d;omega
   refine⟨n-(k+1),oM,Up.of ⟨k+1,c,rfl,?_⟩⟩;grind[Aj,AT,Int.pow_succ]
  .obtain rfl:k=n:=by have:=AP e;omega
   refine⟨λhs=>AB ?_,λhs=>AB ?_⟩
   .rw[hs,Art]at f;rw[AT oM oM];simp only[C1,a,hs,Art,Ar7,AsN];grind
   .rw[hs,Arq]at f;simp only[C1,a,hs,Arq,Ar7,AsN];grind
 refine⟨λhs=>?_,λhs=>?_⟩
 .have j:i64.wrap (t.Bits-1)=t.Bits-1:=AT oM oM;have:=b (t.Bits-1).toNat (by rw[hs,Art];omega);rw[j]
  rwa [show(((t.Bits-1).toNat:Nat):Int)=t.Bits-1 by omega]at this
 .have:=b t.Bits.toNat (by rw[hs,Arq];omega)
  rwa [show((t.Bits.toNat:Nat):Int)=t.Bits by omega]at this
def PW {v}(hv:Ju v):Ai prog 118 [] [.agg (BP v)] [] (Aa (DT v)):=by
 have hd:=hv.Dims;refine Ay func118 (AaU _ v) ⟨λh=>BY ?_,λh=>?_⟩
 .unfold DT;grind
 .have x:0<=v.Slot/\v.Slot<=1073741824/\v.Dims.length<=4:=by simp at h;omega
  have e:DT v=Ea (v.Slot+1) v.Dims:=by
   unfold DT;grind
  rw[e,AT oM oM];refine Az (λg st=>∃(k:Nat)(n:Int),k<=v.Dims.length/\g=v.Dims.length-k/\0<=n/\n<=1073741825+k*1152921504606846976/\Ea n (v.Dims.drop k)=Ea (v.Slot+1) v.Dims/\st=ND v n k)
   ⟨_,Up.of ⟨0,v.Slot+1,Arv _,rfl,oM,oM,rfl,rfl⟩⟩ ?_
  rintro g st ⟨k,n,hk,rfl,r,s,c,rfl⟩;refine ArC (X0 _ v n k _ rfl) ⟨λj=>?_,λl=>BY ?_⟩
  .have b:k<v.Dims.length:=by have:=AQ j;omega
   have m:(k:Int).toNat=k:=oM
   rw[m];rw[Br (d:=default) b]at c;have q:=hd.2 _ (Av (d:=default) b);generalize v.Dims.getD k default=d at c q |-;have t:=Aoo q.Len;refine⟨⟨oM,oM⟩,λo=>BY ?_,λo=>?_⟩
   .rw[<- c];have:H6 d=true:=by
     unfold H6;grind[AT]
    show _=Ea n (d::_);unfold Ea;rw[this]<;>rfl
   .have y:1<=d.Len:=gD
    have p:i64.wrap (d.Len-1)=d.Len-1:=AT oM oM;rw[p]at o |-;have a:d.Len-1<=1073741824/\0<=d.Stride/\d.Stride<=1073741824:=by simp at o;omega
    have f:H6 d=false:=by unfold H6;simp;omega
    have u:0<=(d.Len-1)*d.Stride:=Int.mul_nonneg oM a.2.1;have w:(d.Len-1)*d.Stride<=1073741824*1073741824:=Int.mul_le_mul a.1 a.2.2 a.2.1 oM;rw[AT (n:=(d.Len-1)*d.Stride) oM oM,AT (n:=n+_) oM oM,Aj oM];refine⟨v.Dims.length-(k+1),oM,Up.of ⟨k+1,n+(d.Len-1)*d.Stride,oM,rfl,oM,oM,?_,rfl⟩⟩;rw[<- c];show _=Ea n (d::_)
    conv=>rhs;unfold Ea
    rw[f]<;>rfl
  .have i:v.Dims.length<=k:=by have:=AP l;omega
   rw[AsE i]at c;rw[<- c]<;>rfl
def PU {t}{init}(h:t.length<=init.length)(hs:t.length<=1048576):Ai prog 63 [] [AE true t,Ac true init] [] (Aa (Fx t init)):=by
 refine Ay func63 (AaM _ t init) ?_;refine AA t.length (λk=>Xo t init k) (λk=>∀i,i<k->C1 (t.getD i default) (init.getD i 0)=true) (λi hi=>oM) ?_;intro k hk b J next
 refine ArC (XQ _ t init k J) ⟨λc=>?_,λd=>BY ?_⟩
 .have a:k<t.length:=by have:=AQ c;omega
  refine⟨⟨oM,oM⟩,⟨oM,oM⟩,C1 (t.getD k default) (init.getD k 0),R5 _ _,λe=>BY ?_,λe=>next _ a (BV b (by simpa using e)) (Up.of ?_)⟩
  .exact(EF (f:=λi=>C1 (t.getD i default) (init.getD i 0)) b a (by simpa using e)).symm
  first | grind[Aj] | (rw[Aj oM];rfl)
 .have g:t.length<=k:=by have:=AP d;omega
  exact(DX (f:=λi=>C1 (t.getD i default) (init.getD i 0)) λi hi=>b i oM).symm
def XX {s}(hs:Nk s):Ai prog 64 [] [.agg (BH s)] [] (Ad (C3 s)):=by
 have j:=hs.Fields.1;refine Ay func64 (AaS _ s) ⟨λh=>AB ?_,λh=>?_⟩
 .symm;rw[Asp];intro d;simp[C3]at d h;omega
 .have e:C3 s=CL s.Fields.length λi=>EY (s.Fields.getD i default):=by
   unfold C3;grind
  rw[e];refine AA s.Fields.length (λk=>NC s k) (λk=>∀i,i<k->EY (s.Fields.getD i default)=true) (λi hi=>oM) ?_;intro k hk f J next
  refine ArC (XY _ s k J) ⟨λb=>?_,λg=>AB ?_⟩
  .have a:k<s.Fields.length:=by have:=AQ b;omega
   refine⟨⟨oM,oM⟩,EY (s.Fields.getD k default),OS _,λc=>AB ?_,λc=>next _ a (BV f (by simpa using c)) (Up.of ?_)⟩
   .grind[BW]
   grind[Aj]
  grind[AP,A0]
def NV (m)(n):Ai prog 114 [] [.agg (Ag m),Aa n] [] (Ad (C0 m n)):=by
 refine Ay func114 (X1 _ m n) (AB ?_);rw[Ase];simp[C0]
def NZ {a}{l}(n:l.length<=1099511627776):Ai prog 113 [] [Aa a,Ac false l] [] (Ad (CI a l)):=by
 refine Ay func113 (Abb _ a l) ?_;refine AA l.length (λk=>NG false a l k) (λk=>∀i,i<k->inP a (l.getD i 0)=true) (λi hi=>oM) ?_;intro k hk h J next
 refine ArC (X9 _ a l k J) ⟨λc=>?_,λd=>AB ?_⟩
 .have b:k<l.length:=by have:=AQ c;omega
  have e:(k:Int).toNat=k:=oM
  rw[e];refine⟨⟨oM,oM⟩,λ_=>⟨oM,oM⟩,λg=>AB ?_,λg=>next _ b (BV h ?_) (Up.of ?_)⟩
  .exact(BW (f:=λi=>inP a (l.getD i 0)) b (by rw[Asp];intro m;simp[inP]at m g;omega)).symm
  .simp[inP]at g |-;omega
  grind[Aj]
 .have j:l.length<=k:=by have:=AP d;omega
  exact(A0.2 λi hi=>h i oM).symm
def Iu {a}{l}(d:l.length<=1099511627776):Ai prog 113 [] [Aa a,Ac true l] [] (Ad (CI a l)) :=
 (NZ d).frz rfl λj x y b c=>by
  match j,b,c with
  | 0,b,c=>grind[ArS,Dd]
  | 1,b,c=>obtain rfl:=ArS b;obtain rfl:=ArS c;exact IM
  | j+2,b,_=>simp at b
def MF {a x}:Ai prog 113 [] [Aa a,.sl false 1 1 λi=>List.take 1 (List.drop (i*1) [.sc (.int .i64 x)])] [] (Ad (inP a x)):=by
 have h:=NZ (a:=a) (l:=[x]) sM;have e:CI a [x]=inP a x:=by simp[CI,CL,List.getD]
 rw[e]at h;refine h.le trivial ⟨lR,Asy (.inl rfl) λi hi=>AO ?_,trivial⟩ trivial lR;obtain rfl:i=0:=oM
 rfl
def PX (op):Ai prog 112 [] [Aa op] [] (Aa (Ba op)):=by
 refine Ay func112 (AaV _ op rfl rfl) ?_;have a:∀{p:Prop},(op=1\/op=2\/op=31\/op=32\/op=33\/op=34\/op=35\/op=39)->leO [] []/\VV.le (.sc (.int .i64 0)) (.sc (.int .i64 (Ba op:Nat))):=λh=>BY (by unfold Ba;rw[ArY h]<;>rfl)
 have kx:¬(op=1\/op=2\/op=31\/op=32\/op=33\/op=34\/op=35\/op=39)->((op==(24:Int))=true->leO [] []/\(VV.sc (.int .i64 3)).le (.sc (.int .i64 (Ba op:Nat))))/\((op==(24:Int))=false ->
   ((bif decide (op>=(6:Int))then decide (op<=(23:Int))else false)=true->leO [] []/\(VV.sc (.int .i64 2)).le (.sc (.int .i64 (Ba op:Nat))))/\((bif decide (op>=(6:Int))then decide (op<=(23:Int))else false)=false->leO [] []/\(VV.sc (.int .i64 1)).le (.sc (.int .i64 (Ba op:Nat))))):=by
  intro c;refine⟨λh=>BY ?_,λh=>⟨λh2=>BY ?_,λh2=>BY ?_⟩⟩
  .unfold Ba;grind
  .unfold Ba;grind
  .unfold Ba;grind
 refine⟨λh1=>⟨λ_=>a (p:=True) (by simp at h1;omega),λh=>bt h1 h⟩,λh1=>⟨λh2=>⟨λ_=>a (p:=True) (by simp at h2;omega),λh=>bt h2 h⟩,λh2=>⟨λh3=>⟨λ_=>a (p:=True) (by simp at h3;omega),λh=>bt h3 h⟩,λh3=>⟨λh4=>⟨λ_=>a (p:=True) (by simp at h4;omega),λh=>bt h4 h⟩,λh4=>⟨λh5=>⟨λ_=>a (p:=True) (by simp at h5;omega),λh=>bt h5 h⟩,λh5 =>
  ⟨λh6=>⟨λ_=>a (p:=True) (by simp at h6;omega),λh=>bt h6 h⟩,λh6=>⟨λh7=>⟨λ_=>a (p:=True) (by simp at h7;omega),λh=>bt h7 h⟩,λh7=>⟨λb=>a (p:=True) (by simp at b;omega),λb=>kx gD⟩⟩⟩⟩⟩⟩⟩⟩
def AaJ {m}{a}{v}(hv:Ju v):Ai prog 115 [] [.agg (Ag m),Aa a,.agg (BP v)] [] (Ad (DI m a v)):=by
 have o:=hv.Dims.1;refine Ay func115 (Agb _ m a v) ⟨λh=>AB ?_,λh=>⟨inP a v.Who,MF,C0 m v.Type_,NV _ _,λf=>AB ?_,λf=>?_⟩⟩
 .unfold DI;grind
 .unfold DI;grind
 .have e:DI m a v=CL v.Dims.length λi=>Oo a (v.Dims.getD i default):=by
   unfold DI;have p:(decide (0<=v.Scope)&&decide (v.Scope<=2)&&decide (0<=v.Slot)&&decide (v.Slot<=128)&&decide (v.Dims.length<=4))=true:=by simp at h |-;omega
   grind
  rw[e];refine AA v.Dims.length (λk=>QC a v k) (λk=>∀i,i<k->Oo a (v.Dims.getD i default)=true) (λi hi=>oM) ?_;intro k hk l J next
  refine ArC (AaK _ m a v k J rfl) ⟨λg=>?_,λn=>AB ?_⟩
  .have b:k<v.Dims.length:=by have:=AQ g;omega
   have j:(k:Int).toNat=k:=oM
   rw[j];have c:∀d:D.Dim,Oo a d=!(bif bif bif bif !(inP a d.I)then true else decide (d.Len<1)then true else decide (d.Len > 128)then true else decide (d.Stride<0)then true else decide (d.Stride > 128)):=by
    intro d;unfold Oo;grind
   refine⟨⟨oM,oM⟩,inP a (v.Dims.getD k default).I,MF,λf=>AB ?_,λf=>next _ b (BV l ?_) (Up.of ?_)⟩
   .grind[BW]
   .rw[c,f]<;>rfl
   grind[Aj]
  grind[AP,A0]
def Mj {m}{a}{args mt}(r:a<=m.Exprs.length)(h1:args.length<=1048576)(_:mt.length<=1048576) :
  Ai prog 116 [] [.agg (Ag m),Aa a,Ac true args,Ac true mt] [] (Ad (Cl m a args mt)):=by
 refine Ay func116 (VH _ m a args mt) ⟨CI a args,Iu oM,λh=>AB ?_,λh=>?_⟩
 .unfold Cl;grind
 .have l:CI a args=true:=gD
  have b:1<=args.length/\args.length<=8/\mt.length=args.length:=gD
  have e:Cl m a args mt=CL mt.length λi=>JQ m (args.getD i 0) (mt.getD i 0):=by
   unfold Cl;rw[l];simp[b]
  rw[e];have f:=FJ.1 l;refine AA mt.length (λk=>JA m args mt k) (λk=>∀i,i<k->JQ m (args.getD i 0) (mt.getD i 0)=true) (λi hi=>oM) ?_;intro k hk o J next
  refine ArC (Tz _ m args mt k J rfl rfl) ⟨λg=>?_,λp=>AB ?_⟩
  .have c:k<mt.length:=by have:=AQ g;omega
   have j:(k:Int).toNat=k:=oM
   rw[j];have s:=f _ (Av (d:=(0:Int)) (show k<args.length by omega));have q:JQ m (args.getD k 0) (mt.getD k 0)=!(bif bif decide (mt.getD k 0 < -1)then true else decide (mt.getD k 0 > 1)then true else bif mt.getD k 0==0 then(m.Exprs.getD (args.getD k 0).toNat default).Op != 2 else false):=by
    unfold JQ As;grind
   refine⟨⟨oM,oM⟩,λ_=>⟨oM,oM⟩,λ_=>⟨oM,oM⟩,λ_=>⟨oM,oM⟩,λ_=>⟨oM,oM⟩,λn=>AB ?_,λn=>next _ c (BV o ?_) (Up.of ?_)⟩
   .grind[BW]
   .rw[q,n]<;>rfl
   grind[Aj]
  grind[AP,A0]
def R3 {x}(h1:x.Args.length<=1048576)(h2:x.V.Dims.length<=1048576):Ai prog 66 [] [.agg (AL x)] [] (Ac true (BU x)):=by
 have N:=Sm x.Op;have loop:∀(L:List Int),L.length<=2097152->L++x.V.Dims.map D.Dim.I=BU x->Au (BO prog tb Bn BN true f66 [] (Ac true (BU x))) [1,1,1,1,1,1,1,0,1,0,1,1,0] (QI x L 0):=by
  intro L H b;generalize BU x=R at b |-;refine AA x.V.Dims.length (λk=>QI x (L++(x.V.Dims.take k).map D.Dim.I) k) (λ_=>True) trivial ?_ |> λh=>by simpa using h
  intro k hk _ J next
  have p:(L++(x.V.Dims.take k).map D.Dim.I).length=L.length+k:=by simp;omega
  refine ArC (Aa1 _ x _ k J) ⟨λv=>?_,λw=>⟨trivial,?_⟩⟩
  .have j:k<x.V.Dims.length:=by have:=AQ v;omega
   have y:(k:Int).toNat=k:=oM
   rw[y];refine⟨⟨oM,oM⟩,by rw[p];omega,next _ j trivial ?_⟩;have m:(x.V.Dims.take (k+1)).map D.Dim.I=(x.V.Dims.take k).map D.Dim.I++[(x.V.Dims.getD k default).I]:=by rw[Dh (d:=default) j];simp
   have e:L++(x.V.Dims.take (k+1)).map D.Dim.I=(L++(x.V.Dims.take k).map D.Dim.I)++[(x.V.Dims.getD k default).I]:=by rw[m,Asf]
   rw[e,Aj oM];generalize L++(x.V.Dims.take k).map D.Dim.I=M;generalize(x.V.Dims.getD k default).I=z;refine Up.mk (l':=[(1,.bp 0 0),(3,.ow 1 0 (M++[z]).length),(5,Aa ((k+1:Nat):Int))]) (hs':=[.box (AL x),.arr true 0 (M++[z]).length 1 (AD (M++[z]))]) ?_ ?_ rfl
   .rw[show M.length+1=(M++[z]).length by simp];exact AH _
   .rw[show M.length+1=(M++[z]).length by simp];exact⟨Ob.le_refl _,ArT λi hi=>AO (Bu (f:=λn=>[Aa n]) (d:=0) (l:=M) (r:=[z]) (F:=λi=>[.sc (.int .i64 (M.getD i 0))]) (λi hi=>rfl) Fs hi),trivial⟩
  .have s:x.V.Dims.length<=k:=by have:=AP w;omega
   rw[Ar8 s,b];exact lR
 have dD:∀st,Au ((BO prog tb Bn BN true f66 [] (Ac true (BU x))).cut [1,1,1,1,1,1,1]) [0,1,0,1,1,0] st=Au (BO prog tb Bn BN true f66 [] (Ac true (BU x))) [1,1,1,1,1,1,1,0,1,0,1,1,0] st:=λst=>kR
 have dC:∀st,Au ((BO prog tb Bn BN true f66 [] (Ac true (BU x))).cut [1,1,1,1,1,1]) [1] st=Au (BO prog tb Bn BN true f66 [] (Ac true (BU x))) [1,1,1,1,1,1,1] st:=λst=>kR
 have dB:∀st,Au ((BO prog tb Bn BN true f66 [] (Ac true (BU x))).cut [1,1,1,1,1]) [1] st=Au (BO prog tb Bn BN true f66 [] (Ac true (BU x))) [1,1,1,1,1,1] st:=λst=>kR
 have dA:∀st,Au ((BO prog tb Bn BN true f66 [] (Ac true (BU x))).cut [1,1,1,1]) [1] st=Au (BO prog tb Bn BN true f66 [] (Ac true (BU x))) [1,1,1,1,1] st:=λst=>kR
 have a:BU x=[x.A,x.B,x.C].take (Ba x.Op)++((if x.Op=30\/x.Op=39 then x.Args else[])++(if x.Op=2 then(if x.V.Scope=2 then[x.V.Who]else[])++x.V.Dims.map D.Dim.I else[])):=rfl;generalize BU x=R at a loop dA dB dC dD |-;have push:∀{c:Ctx}{rel:List Nat}(l:List (Nat×VV)) (M:List Int) (z:Int) (F:Nat->List VV),(∀i,F i=[VV.sc (.int .i64 (M.getD i 0))])->Au c rel (Aq ((1,.bp 0 0)::(3,.ow 1 0 (M++[z]).length)::l) [.box (AL x),.arr true 0 (M++[z]).length 1 (AD (M++[z]))]) ->
   Au c rel (Aq ((1,.bp 0 0)::(3,.ow 1 0 (M.length+1))::l) [.box (AL x),.arr true 0 (M.length+1) 1 (λi=>bif i.blt M.length then F i else(λi=>List.take 1 (List.drop (i*1) [.sc (.int .i64 z)])) (i-M.length))]):=by
  intro c rel l M z F O h;rw[show M.length+1=(M++[z]).length by simp];exact Au.le (hs':=[.box (AL x),.arr true 0 (M++[z]).length 1 (AD (M++[z]))]) (AH _) ⟨Ob.le_refl _,ArT λi hi=>AO (Bu (f:=λn=>[Aa n]) (d:=0) (l:=M) (r:=[z]) (F:=F) (λi _=>O i) Fs hi),trivial⟩ h
 have K:∀(L:List Int),L.length<=2097151->L++(if x.Op=2 then(if x.V.Scope=2 then[x.V.Who]else[])++x.V.Dims.map D.Dim.I else[])=R->Au (BO prog tb Bn BN true f66 [] (Ac true R)) [1,1,1,1,1,1,1] (IY x L):=by
  intro L H b;refine Dm Ak Al kR (AaZ _ x L rfl) ⟨λk=>⟨λq=>⟨oM,?_⟩,λq=>?_⟩,λk=>⟨trivial,?_⟩⟩
  .refine push _ L _ _ (λ_=>rfl) (Eq.mpr (dD _) (loop _ (by simp;omega) ?_));rw[ArY (by simpa using k),ArY (by simpa using q)]at b;rw[<- b,Asf]
  .refine Eq.mpr (dD _) (loop _ oM ?_);rw[ArY (by simpa using k),ArG (by simpa using q)]at b;exact b
  .rw[ArG (by simpa using k),Asv]at b;rw[b];exact lR
 have t:∀(L:List Int),L.length<=3->L++((if x.Op=30\/x.Op=39 then x.Args else[])++(if x.Op=2 then(if x.V.Scope=2 then[x.V.Who]else[])++x.V.Dims.map D.Dim.I else[]))=R->Au (BO prog tb Bn BN true f66 [] (Ac true R)) [1,1,1,1,1,1] (IY x L):=by
  intro L H b;refine Dm Ak Al kR (Aa0 _ x L rfl rfl) ⟨λk=>⟨oM,λ_ _=>rfl,?_⟩,λk=>Eq.mpr (dC _) (K L oM ?_)⟩
  .have e:L.length+x.Args.length=(L++x.Args).length:=sM
   rw[e];refine Au.le (hs':=[.box (AL x),.arr true 0 (L++x.Args).length 1 (AD (L++x.Args))]) (AH _) ⟨Ob.le_refl _,ArT λi hi=>AO (Wx (λi _=>rfl) hi),trivial⟩ (Eq.mpr (dC _) (K (L++x.Args) (by simp;omega) ?_));rw[ArY (by simpa using k)]at b;rw[<- b,Asf]
  .rw[ArG (by simpa using k),AsZ]at b;exact b
 refine Ay func66 (Agp _ x rfl) ⟨(Ba x.Op:Nat),PX _,λg1=>⟨oM,?_⟩,λg1=>?_⟩
 .have u:1<=Ba x.Op:=by simp at g1;omega
  refine Au.le (l':=[(1,.bp 0 0),(3,.ow 1 0 [x.A].length),(4,Aa (Ba x.Op:Nat))]) (hs':=[.box (AL x),.arr true 0 [x.A].length 1 (AD [x.A])]) (AH _) ⟨Ob.le_refl _,ArT λi hi=>AO (Fs i hi),trivial⟩ ?_;change Au _ _ (GU x [x.A] (Ba x.Op:Nat));refine Dm Ak Al kR (R4 _ x [x.A] _ rfl) ⟨λo=>⟨sM,push _ [x.A] _ _ (λ_=>rfl) (Eq.mpr (dA _) ?_)⟩,λo=>Eq.mpr (dA _) ?_⟩
  .have E:2<=Ba x.Op:=by simp at o;omega
   change Au _ _ (GU x [x.A,x.B] (Ba x.Op:Nat));refine Dm Ak Al kR (MD _ x [x.A,x.B] _ rfl) ⟨λg=>⟨sM,push _ [x.A,x.B] _ _ (λ_=>rfl) (Eq.mpr (dB _) (t [x.A,x.B,x.C] sM ?_))⟩,λg=>Eq.mpr (dB _) (t [x.A,x.B] sM ?_)⟩
   .have G:Ba x.Op=3:=by simp at g;omega
    rw[a,G]<;>rfl
   .have G:Ba x.Op=2:=by simp at g;omega
    rw[a,G]<;>rfl
  .have E:Ba x.Op=1:=by simp at o;omega
   change Au _ _ (GU x [x.A] (Ba x.Op:Nat));refine Dm Ak Al kR (MD _ x [x.A] _ rfl) ⟨λg=>absurd g (by rw[E];decide),λg=>Eq.mpr (dB _) (t [x.A] sM ?_)⟩;rw[a,E]<;>rfl
 .have u:Ba x.Op=0:=by simp at g1;omega
  refine Au.own 1 3 1 (AD []) rfl ?_;change Au _ _ (GU x [] (Ba x.Op:Nat));refine Dm Ak Al kR (R4 _ x [] _ rfl) ⟨λo=>absurd o (by rw[u];decide),λo=>Eq.mpr (dA _) ?_⟩;change Au _ _ (GU x [] (Ba x.Op:Nat));refine Dm Ak Al kR (MD _ x [] _ rfl) ⟨λg=>absurd g (by rw[u];decide),λg=>Eq.mpr (dB _) (t [] sM ?_)⟩;rw[a,u]<;>rfl
def R0 {l}(h1:l.Esc.length<=1048576):Ai prog 67 [] [.agg (A4 l)] [] (BA true (B4 l)):=by
 refine Ay func67 (Af8 _ l) ⟨oM,oM,λi hi=>rfl,trivial,?_⟩;have e:1+l.Esc.length=(B4 l).length:=by simp[B4];omega
 rw[e];refine Asy (.inl rfl) λi hi=>AO ?_
 refine Bu (l:=[l.Out]) (r:=l.Esc) (f:=λw=>[Ao true w]) (d:=[]) (F:=λi=>List.take 1 (List.drop (i*1) [Ao true l.Out])) (G:=λi=>[Ao true (l.Esc.getD i [])]) (λi hi=>?_) (λi hi=>rfl) hi;grind
def Aa3 {m}{a}(h0:0<=a)(z:a<m.Exprs.length)(n:Ln (As m a))(I:m.Procs.length<=1048576):Ai prog 65 [] [.agg (Ag m),Aa a] [] (Ad (EC m a)):=by
 refine Ay func65 (Agr _ m a rfl) ⟨⟨h0,z⟩,λh=>AB ?_,λh=>?_⟩
 .symm;rw[Asp];intro f;unfold EC at f;simp only[Arr,Ary]at f;have r:(bif decide ((As m a).Op<1)then true else decide ((As m a).Op > 39))=true:=h;simp at r;omega
 .have s:1<=(As m a).Op/\(As m a).Op<=39:=by
   have r:(bif decide ((As m a).Op<1)then true else decide ((As m a).Op > 39))=false:=h;simp at r;omega
  have c:=n.Args.1;have g:=n.Match.1;have j:=n.V;have t:=n.N;generalize d:EC m a=b;unfold EC at d;simp only at d;refine⟨(Ba (As m a).Op:Nat),PX _,?_⟩;show Au _ _ (Aq [(1,Aa a),(2,.bp 0 0),(5,.bp 1 0),(6,Aa (Ba (As m a).Op:Nat)),(7,.ow 2 0 3),(8,Aa 0)] [.box (Ag m),.box (AL (As m a)),.arr true 0 3 1 (λi=>List.take 1 (List.drop (i*1) [VV.sc (.int .i64 (As m a).A),.sc (.int .i64 (As m a).B),.sc (.int .i64 (As m a).C)]))]);generalize As m a=x at s c g j t d |-;have e:(decide (1<=x.Op)&&decide (x.Op<=39))=true:=by simp;omega
  rw[e,Ar7]at d;have st0:Au (BO prog tb Bn L9 true f65 [] (Ad b)) [1,1,1,1,1,0,1,0] (QJ m a x (Ba x.Op:Nat) 0):=by
   refine AA 3 (λk=>QJ m a x (Ba x.Op:Nat) k) (λk=>∀i,i<k->E9 a x.Op i ([x.A,x.B,x.C].getD i 0)=true) (λi hi=>oM) ?_;intro k hk o J next
   refine ArC (Aa4 _ m a x _ k J) ⟨λE=>?_,λu=>?_⟩
   .have l:k<3:=gD
    have v:(k:Int).toNat=k:=oM
    rw[v];refine⟨⟨oM,oM⟩,inP a ([x.A,x.B,x.C].getD k 0),MF,λ_=>⟨oM,oM⟩,λp=>AB ?_,λp=>next _ l (BV o ?_) (Up.of ?_)⟩
    .have hp:E9 a x.Op k ([x.A,x.B,x.C].getD k 0)=false:=by rw[G1];exact congrArg (!·) p
     grind
    .rw[G1];exact congrArg (!·) p
    grind[Aj]
   .have w:3<=k:=by simp at u;omega
    have p0:E9 a x.Op 0 x.A=true:=o 0 oM;have F:E9 a x.Op 1 x.B=true:=o 1 oM;have G:E9 a x.Op 2 x.C=true:=o 2 oM;rw[p0,F,G]at d;simp only[Bool.and_self,Ar7]at d;subst d;refine⟨C0 m x.N,NV _ _,CI a x.Args,Iu oM,λh1=>AB ?_,λh1=>⟨λh2=>⟨_,AaJ j,AB ?_⟩,λh2=>⟨λh3=>⟨_,Mj oM c g,AB ?_⟩,λh3=>⟨λh4=>⟨λh5=>AB ?_,λh5=>⟨?_,CI (FE m x.N).length x.Args,Iu oM,AB ?_⟩⟩,λh4 =>
     ⟨λh5=>⟨λp=>?_,AB ?_⟩,λh5=>AB ?_⟩⟩⟩⟩⟩
    .rw[ArY (by simpa using h1)];rw[Ase];simp[C1,EY];omega
    .grind
    .grind
    .rw[ArG (by simpa using h1),ArG (by simpa using h2),ArG (by simpa using h3),ArY (by simpa using h4)];symm;rw[Asp];intro f;simp[LJ]at f h5;simp[f]at h5;omega
    .have:C0 m x.N=true:=gD
     simp[C0]at this;omega
    .have q:C0 m x.N=true:=gD
     rw[ArG (by simpa using h1),ArG (by simpa using h2),ArG (by simpa using h3),ArY (by simpa using h4)];have y:0<=x.N/\x.N<1073741824:=by simp[C0]at q;omega
     have H:1<=x.Args.length:=gD
     unfold LJ;rw[q];simp[y,H]
    .have:C0 m x.N=true:=gD
     simp[C0]at this;omega
    .rw[ArG (by simpa using h1),ArG (by simpa using h2),ArG (by simpa using h3),ArG (by simpa using h4),ArY (by simpa using h5)];cases q:C0 m x.N
     .rw[Ase];simp
     .have y:0<=x.N/\x.N<1073741824:=by simp[C0]at q;omega
      grind
    grind
  exact Au.le (hs':=[.box (Ag m),.box (AL x),.arr true 0 3 1 (AD [x.A,x.B,x.C])]) (AH _) ⟨Ob.le_refl _,Ob.le_refl _,ArT λi hi=>AO (by rcases(show i=0\/i=1\/i=2 by omega)with rfl|rfl|rfl<;>rfl),trivial⟩ st0
def NU (m)(a):Ai prog 159 [] [.agg (Ag m),Aa a] [] (Ad (B5 m a)):=by
 have b:(bif decide (a>=0)then decide (a<(m.Exprs.length:Int))else false)=true->0<=a/\a<m.Exprs.length:=λh=>by simpa using h
 refine Ay func159 (XR _ m a rfl) ⟨λh=>b (by simpa using h),λh=>b ?_,AB ?_⟩
 .grind
 .show _=B5 m a;unfold B5 As DU inP;grind
def AaP {m}{s}(hs:PG s):Ai prog 117 [] [.agg (Ag m),.agg (An s)] [] (Ad (AF m s)):=by
 have u:=hs.a;have v:=hs.m;have c:∀{k:Int},(s.Kind==k)=true->s.Kind=k:=λh=>by simpa using h
 have w:∀{k:Int},(s.Kind==k)=false->s.Kind≠k:=λh=>by simpa using h
 have len0:((bif(s.Args.length:Int)==0 then(s.Match.length:Int)==0 else false))=decide (s.Args.length+s.Match.length=0):=gD
 have pl:(bif decide (s.A>=0)then decide (s.A<(m.Exprs.length:Int))else false)=DU m s.A:=by rw[A8]<;>rfl
 have plB:(bif decide (s.B>=0)then decide (s.B<(m.Exprs.length:Int))else false)=DU m s.B:=by rw[A8]<;>rfl
 have em:D6 s true true true=(decide (s.Args.length+s.Match.length=0)&&decide (s.N=0)&&decide (s.Text.size=0)):=by simp only[D6,AsX,As0]
 have emn:D6 s true false true=(decide (s.Args.length+s.Match.length=0)&&decide (s.Text.size=0)):=by simp only[D6,AsX,Bool.not_false,Bool.true_or,Bool.and_true,As0]
 refine Ay func117 (Agh _ m s) ⟨B5 m s.A,NU m s.A,CI m.Exprs.length s.Args,Iu oM,?_⟩;have d:s.Kind=1\/s.Kind=3->AF m s=(DU m s.A&&decide (s.B=-1)&&D6 s true true true):=λh=>by unfold AF;rw[ArY h]
 have t2:s.Kind=2->AF m s=(B5 m s.A&&DU m s.B&&D6 s true true true):=λh=>by unfold AF;grind
 have q:s.Kind=4->AF m s=(decide (s.A=-1)&&decide (s.B=-1)&&CI m.Exprs.length s.Args&&decide (s.Match.length=0)&&decide (s.Text.size<=256)&&decide (s.N=0)):=λh=>by unfold AF;grind
 have l:s.Kind=5->AF m s=(DU m s.A&&decide (s.B=-1)&&decide (1<=s.Args.length)&&decide (s.Args.length<=8)&&CI m.Exprs.length s.Args&&decide (s.Match.length=0)&&(decide (s.N=0)||decide (s.N=1))&&decide (s.Text.size=0)):=λh=>by unfold AF;grind
 have t6:s.Kind=6->AF m s=(DU m s.A&&decide (s.B=-1)&&Gp m s&&decide (0<=s.N)&&decide (s.N<=3)&&decide (s.Text.size=0)):=λh=>by unfold AF;grind
 have j:s.Kind=7\/s.Kind=8->AF m s=(decide (s.A=-1)&&decide (s.B=-1)&&D6 s true true true):=λh=>by unfold AF;grind
 have t9:s.Kind=9->AF m s=(B5 m s.A&&decide (s.B=-1)&&decide (0<=s.N)&&decide (s.N<m.Shapes.length)&&D6 s true false true):=λh=>by unfold AF;grind
 have tx:¬(s.Kind=1\/s.Kind=3)->s.Kind≠2->s.Kind≠4->s.Kind≠5->s.Kind≠6->¬(s.Kind=7\/s.Kind=8)->s.Kind≠9->AF m s=false:=λh1 h2 h3 h4 h5 h6 h7=>by unfold AF;grind
 generalize AF m s=b at d t2 q l t6 j t9 tx |-;rw[len0,pl,plB,Nv];rw[em]at d t2 j;rw[emn]at t9;generalize decide (s.Args.length+s.Match.length=0)=eLen at d t2 j t9 |-;generalize decide (s.Text.size=0)=eText at d t2 l t6 j t9 |-;refine⟨λh1=>⟨λ_=>AB ?_,λh=>bt h1 h⟩,λh1=>⟨λh3=>AB ?_,λh3=>⟨λh2=>AB ?_,λh2=>⟨λh4=>AB ?_,λh4=>⟨λh5=>AB ?_,λh5=>⟨λh6=>⟨Cl m m.Exprs.length s.Args s.Match,Mj (As3 _) u v,λn=>AB ?_,λn=>?_⟩,λh6=>⟨λh7=>⟨λ_=>AB ?_,λh=>bt h7 h⟩,λh7=>⟨λx=>AB ?_,λx=>⟨λy=>AB ?_,λy=>AB ?_⟩⟩⟩⟩⟩⟩⟩⟩⟩
 .grind
 .grind
 .grind
 .rw[q (c h4)];grind
 .rw[l (c h5)];grind
 .rw[t6 (c h6)];symm;rw[Asp];intro z;simp only[Gp,Arr,Ary]at z;grind
 .have f:DU m s.A=true/\s.B=-1/\Cl m m.Exprs.length s.Args s.Match=true/\0<=s.N/\s.N<=3/\eText=true:=by simp_all
  obtain⟨C,E,r,F,G,H⟩:=f;have t:s.Match.length=s.Args.length:=by
   unfold Cl at r;grind
  have e:b=CL s.Match.length λi=>!decide (s.Match.getD i 0=0)||B5 m (s.Args.getD i 0):=by
   rw[t6 (c h6),C,H];unfold Gp;rw[r];simp[E,F,G]
  rw[e];refine AA s.Args.length (λk=>NB m s k) (λk=>∀i,i<k->(!decide (s.Match.getD i 0=0)||B5 m (s.Args.getD i 0))=true) (λi hi=>oM) ?_;intro k hk K J next
  refine ArC (AaQ _ m s k J) ⟨λo=>?_,λI=>AB ?_⟩
  .have g:k<s.Args.length:=by have:=AQ o;omega
   have p:(k:Int).toNat=k:=oM
   rw[p];have L:(!decide (s.Match.getD k 0=0)||B5 m (s.Args.getD k 0))=!(bif s.Match.getD k 0==0 then !(B5 m (s.Args.getD k 0))else false):=gD
   refine⟨⟨oM,oM⟩,B5 m (s.Args.getD k 0),NU _ _,⟨oM,oM⟩,λn=>AB ?_,λn=>next _ g (λi hi=>?_) (Up.of ?_)⟩
   .grind[BW]
   .grind
   grind[Aj]
  grind[AP,A0]
 .grind
 .grind
 .grind
 grind
def AaT {m}{i}{v}(h1:v.Scope=1->0<=i/\i<m.Procs.length)(h2:v.Scope≠0->v.Scope≠1->0<=v.Type_/\v.Type_<m.Procs.length):Ai prog 119 [] [.agg (Ag m),Aa i,.agg (BP v)] [] (Aa (F0 m i v)):=by
 refine Ay func119 (Agi _ m i v) ⟨λh=>BY ?_,λh=>⟨λk=>⟨h1 (by simpa using k),BY ?_⟩,λk=>⟨h2 (by simpa using h) (by simpa using k),BY ?_⟩⟩⟩
 .unfold F0;grind
 .unfold F0;grind
 .unfold F0;grind
def Qt (m:D.Model)(a k:Int)(run:Bool):Bool :=
 bif bif(As m k).Op==39 then !run else false then true else bif a==m.Claim then bif bif(As m k).Op==31 then true else(As m k).Op==39 then true else bif(As m k).Op==2 then(As m k).V.Scope==1 else false else false
def Mf (m:D.Model)(a:Int):Nat->Int->Bool->Bool
 | 0,_,_=>true
 | g+1,k,run=>!Qt m a k run&&(!(bif(As m k).Op==2 then decide (DT (As m k).V > F0 m a (As m k).V)else false) &&
   CL (BU (As m k)).length λi=>Mf m a g ((BU (As m k)).getD i 0) false)
def GS (m:D.Model)(a k:Int)(run:Bool):Bool:=Mf m a (k.toNat+1) k run
def Uc {m}(o:Fp m){a:Int}(p:0<=a)(u:a<m.Procs.length):∀(g)(k:Int)(run),0<=k->k<m.Exprs.length->k.toNat<g->Ai prog 69 [] [.agg (Ag m),Aa a,Aa k,Ad run] [] (Ad (Mf m a g k run))
 | 0,_,_,_,_,h=>absurd h (Asm _)
 | g+1,k,run,h0,hk,hg=>by
  have ih:=Uc o p u g;have w:=o.at h0 hk;have c:=o.small _ (Om h0 hk);have q:=(o.wf.Exprs.2 _ (Om h0 hk)).V;have e:=o.slots h0 hk;have b:=Og w;have r:=Oe c.1 c.2;refine Ay func69 (Agc _ m a k run rfl) ⟨⟨h0,hk⟩,?_⟩;show((Qt m a k run)=true->_)/\((Qt m a k run)=false->_);change(_->_)/\(_->∃y,(_->Ai _ _ _ [.agg (BP (As m k).V)] _ _)/\∃x,(_->Ai _ _ _ [_,_,.agg (BP (As m k).V)] _ _)/\_);refine⟨λh=>AB ?_,λh=>⟨DT (As m k).V,λ_=>PW q,F0 m a (As m k).V,λh2=>AaT (λ_=>⟨p,u⟩) (e (by simpa[As]using h2)),λh2=>AB ?_,λh2=>⟨BU (As m k),R3 c.1 c.2,?_⟩⟩⟩
  .unfold Mf;rw[h]<;>rfl
  .unfold Mf;have n:(bif(As m k).Op==2 then decide (DT (As m k).V > F0 m a (As m k).V)else false)=true:=h2;rw[n,h]<;>rfl
  .have n:(bif(As m k).Op==2 then decide (DT (As m k).V > F0 m a (As m k).V)else false)=false:=h2;unfold Mf;rw[n,h];simp only[Bool.not_false,Ar7];generalize BU (As m k)=l at b r;refine AA l.length (λj=>QE m a l j) (λj=>∀i,i<j->Mf m a g (l.getD i 0) false=true) (λi hi=>oM) ?_;intro j hj z J next
   refine ArC (AaL _ m a l j J) ⟨λs=>?_,λA=>AB ?_⟩
   .have f:j<l.length:=by have:=AQ s;omega
    have t:(j:Int).toNat=j:=oM
    rw[t];have B:=b _ (Av (d:=(0:Int)) f);refine⟨⟨oM,oM⟩,Mf m a g (l.getD j 0) false,ih _ _ oM oM oM,λv=>AB ?_,λv=>next _ f (BV z (by simpa using v)) (Up.of ?_)⟩
    .grind[BW]
    grind[Aj]
   grind[AP,A0]
def HQ {m}(c:Fp m){a:Int}(b:0<=a)(d:a<m.Procs.length){k:Int}{run}(h0:0<=k)(hk:k<m.Exprs.length):Ai prog 69 [] [.agg (Ag m),Aa a,Aa k,Ad run] [] (Ad (GS m a k run)) :=
 Uc c b d _ k run h0 hk (Asq _)
def UW (m:D.Model)(a:Int)(s:D.Stmt):Bool:=bif bif bif bif a==m.Claim then s.Kind != 1 else false then s.Kind != 3 else false then s.Kind != 7 else false then s.Kind != 8 else false
def U8 (m:D.Model)(a:Int)(s:D.Stmt):Bool :=
 AF m s&&(!UW m a s&&((!decide (s.A>=0)||GS m a s.A (s.Kind==1))&&((!decide (s.B>=0)||GS m a s.B (s.Kind==2))&&CL s.Args.length λi=>GS m a (s.Args.getD i 0) false)))
def Af9 {m}{a:Int}{s}(k:Fp m)(c:0<=a)(l:a<m.Procs.length)(hs:PG s):Ai prog 68 [] [.agg (Ag m),Aa a,.agg (An s)] [] (Ad (U8 m a s)):=by
 have v:=hs.a;refine Ay func68 (Akg _ m a s rfl) ⟨AF m s,AaP hs,?_⟩;change((bif !(AF m s)then true else UW m a s)=true->_)/\((bif !(AF m s)then true else UW m a s)=false->_);have o:U8 m a s=(AF m s&&(!UW m a s&&((!decide (s.A>=0)||GS m a s.A (s.Kind==1))&&((!decide (s.B>=0)||GS m a s.B (s.Kind==2))&&CL s.Args.length λi=>GS m a (s.Args.getD i 0) false)))):=rfl;generalize U8 m a s=b at o |-;refine⟨λh=>AB ?_,λh=>?_⟩
 .grind
 have p:AF m s=true:=gD
 have q:UW m a s=false:=by rw[p]at h;simpa using h
 rw[p,q]at o;simp only[Bool.not_false,Ar7]at o;obtain⟨r,x,hB⟩:=Jy p;have loop:b=(CL s.Args.length λi=>GS m a (s.Args.getD i 0) false)->Au (BO prog tb Bn Ie true f68 [] (Ad b)) [1,1,1,1,1,0,1,0] (KC m a s 0):=by
  intro e;rw[e];refine AA s.Args.length (λj=>KC m a s j) (λj=>∀i,i<j->GS m a (s.Args.getD i 0) false=true) (λi hi=>oM) ?_;intro j hj y J next
  refine ArC (Aga _ m a s j J) ⟨λt=>?_,λz=>AB ?_⟩
  .have f:j<s.Args.length:=by have:=AQ t;omega
   have u:(j:Int).toNat=j:=oM
   rw[u];have w:=r _ (Av (d:=(0:Int)) f);refine⟨⟨oM,oM⟩,GS m a (s.Args.getD j 0) false,HQ k c l w.1 w.2,λn=>AB ?_,λn=>next _ f (BV y (by simpa using n)) (Up.of ?_)⟩
   .grind[BW]
   grind[Aj]
  grind[AP,A0]
 refine⟨λh1=>⟨GS m a s.A (s.Kind==1),HQ k c l (by simpa using h1) (x (by simpa using h1)),λn=>AB ?_,λn=>⟨λh2=>⟨GS m a s.B (s.Kind==2),HQ k c l (by simpa using h2) (hB (by simpa using h2)),λg=>AB ?_,λg=>loop ?_⟩,λh2=>loop ?_⟩⟩,λh1=>⟨λh2=>⟨GS m a s.B (s.Kind==2),HQ k c l (by simpa using h2) (hB (by simpa using h2)),λg=>AB ?_,λg=>loop ?_⟩,λh2=>loop ?_⟩⟩
 all_goals grind
 all_goals grind
def OL (m:D.Model)(a:Int)(w:List D.Trans):Bool:=CL w.length λh=>U8 m a (w.getD h default).S
def YW (m:D.Model)(a:Int)(l:D.Loc):Bool:=CL (B4 l).length λj=>OL m a ((B4 l).getD j [])
def Kp (m:D.Model)(a:Int):Bool:=(CL (AY m a).Locs.length λk=>YW m a ((AY m a).Locs.getD k default))&&(decide ((AY m a).Provided<0)||GS m a (AY m a).Provided false)
def AfE {s}(h:Qs s):PG s:=⟨h.Args.1,h.Match.1⟩
def Ty {m}{a:Int}(G:Fp m)(s:0<=a)(H:a<m.Procs.length)(v:(AY m a).Provided<m.Exprs.length):Ai prog 45 [] [.agg (Ag m),Aa a] [] (Ad (Kp m a)):=by
 have u:Hk (AY m a):=G.wf.Procs.2 _ (Av oM);refine Ay func45 (VA _ m a) ⟨⟨s,H⟩,?_⟩;have x:Kp m a=((CL (AY m a).Locs.length λk=>YW m a ((AY m a).Locs.getD k default))&&(decide ((AY m a).Provided<0)||GS m a (AY m a).Provided false)):=rfl;change Au _ _ (IW m a (AY m a) 0);generalize Kp m a=b at x |-;generalize AY m a=p at x u v |-;have Y:=u.Locs.1;refine AA p.Locs.length (λk=>IW m a p k) (λk=>∀i,i<k->YW m a (p.Locs.getD i default)=true) (λi hi=>oM) ?_;intro k hk T J next
 refine ArC (AaI _ m a p k J) ⟨λI=>?_,λK=>?_⟩
 .have o:k<p.Locs.length:=by have:=AQ I;omega
  have L:(k:Int).toNat=k:=oM
  rw[L];have g:=u.Locs.2 _ (Av (d:=default) o);have no:YW m a (p.Locs.getD k default)=false->false=b:=λh=>by grind[BW]
  have yes:YW m a (p.Locs.getD k default)=true->J (IW m a p ((k:Int)+1)):=λh=>next _ o (BV T h) (Up.of rfl)
  generalize p.Locs.getD k default=l at g no yes |-;have Z:=g.Out.1;have M:=g.Esc.1;refine⟨⟨oM,oM⟩,B4 l,R0 M,?_⟩;have y:(B4 l).length<=1048577:=by simp[B4];omega
  have q:∀w∈B4 l,w.length<=1048576/\∀t∈w,Nj t:=by
   intro w N;rcases Asg.1 N with rfl|N
   .exact g.Out
   .exact g.Esc.2 w N
  unfold YW at no yes;generalize B4 l=ws at no yes y q |-;refine AA ws.length (λj=>KB m a p k ws j) (λj=>∀i,i<j->OL m a (ws.getD i [])=true) (λi hi=>oM) ?_;intro j hj O J2 next2;refine ArC (AaH _ m a p k ws j J J2) ⟨λz=>?_,λU=>?_⟩
  .have c:j<ws.length:=by have:=AQ z;omega
   have A:(j:Int).toNat=j:=oM
   have r:=q _ (Av (d:=[]) c);have no2:OL m a (ws.getD j [])=false->false=b:=λh=>no (BW (f:=λj=>OL m a (ws.getD j [])) c h)
   have yes2:OL m a (ws.getD j [])=true->J2 (KB m a p k ws ((j:Int)+1)):=λh=>next2 _ c (BV O h) (Up.of rfl)
   refine AA (ws.getD j []).length (λh=>NA m a p k ws j h) (λh=>∀i,i<h->U8 m a ((ws.getD j []).getD i default).S=true) (λi hi=>oM) ?_;intro h3 X B J3 next3;refine ArC (AaG _ m a p k ws j h3 J J2 J3) ?_;rw[A];have V:=r.1;refine⟨⟨oM,oM⟩,λC=>?_,λE=>?_⟩
   .have e:h3<(ws.getD j []).length:=by have:=AQ C;omega
    have F:(h3:Int).toNat=h3:=oM
    rw[F];have P:=(r.2 _ (Av (d:=default) e)).S;refine⟨⟨oM,oM⟩,⟨oM,oM⟩,U8 m a ((ws.getD j []).getD h3 default).S,Af9 G s H (AfE P),λQ=>AB (no2 ?_),λQ=>next3 _ e (BV B (by simpa using Q)) (Up.of ?_)⟩
    .exact BW (f:=λh=>U8 m a ((ws.getD j []).getD h default).S) e (by simpa using Q)
    grind[Aj]
   .have R:(ws.getD j []).length<=h3:=by have:=AP E;omega
    rw[Aj oM];exact yes2 (A0.2 λi hi=>B i oM)
  grind[AP,Aj,A0]
 .have W:p.Locs.length<=k:=by have:=AP K;omega
  rw[(A0 (n:=p.Locs.length) (f:=λk=>YW m a (p.Locs.getD k default))).2 λi hi=>T i oM,Ar7]at x;refine⟨λh2=>AB ?_,λh2=>⟨GS m a p.Provided false,HQ G s H ?_ v,AB ?_⟩⟩
  .rw[x,h2]<;>rfl
  .grind
  .rw[x,h2]<;>rfl
def Afu (p:D.Proc):Bool :=
 bif bif bif bif bif decide ((p.Frame.length:Int) > 128)then true else(p.Init.length:Int) != (p.Frame.length:Int)then true else decide (p.Params<0)then true else decide (p.Params > (p.Frame.length:Int))then true else decide ((p.Locs.length:Int)<1)then true else decide ((p.Locs.length:Int) > 256)
def Aft (m:D.Model)(p:D.Proc)(y:Int):Bool :=
 bif bif bif bif bif bif bif bif bif bif decide (y>=0)then true else decide (p.Start<0)then true else decide (p.Start>=(p.Locs.length:Int))then true else decide (p.Final<0)then true else decide (p.Final>=(p.Locs.length:Int))then true else decide (p.Active<0)then true else decide (p.Active > 16)then true else decide (p.Prio<1)then true else decide (p.Prio > 255)then true else decide (p.Provided<(-1:Int))then true else decide (p.Provided>=(m.Exprs.length:Int))
def Ajj (m:D.Model)(a:Int)(p:D.Proc):Bool :=
 bif a==m.Claim then bif bif decide ((p.Frame.length:Int) > 0)then true else decide (p.Active > 0)then true else decide (p.Provided>=0)else false
def Ql (m:D.Model)(a:Int)(p:D.Proc)(k:Int)(l:D.Loc):Bool :=
 bif bif bif decide ((l.Esc.length:Int) > 8)then true else bif l.Dstep then l.Atomic else false then true else bif k==p.Final then bif decide ((l.Out.length:Int) > 0)then true else decide ((l.Esc.length:Int) > 0)else false then true else bif a==m.Claim then bif bif decide ((l.Esc.length:Int) > 0)then true else l.Atomic then true else l.Dstep else false
def Kw (p:D.Proc)(t:D.Trans):Bool:=bif decide (t.To<0)then true else decide (t.To>=(p.Locs.length:Int))
def Kq (j:Int)(w:List D.Trans):Bool:=bif decide (j > 0)then(w.length:Int)==0 else false
def Tv (p:D.Proc)(ws:List (List D.Trans)):Bool:=CL ws.length λj=>!Kq j (ws.getD j [])&&CL (ws.getD j []).length λh=>!Kw p ((ws.getD j []).getD h default)
def IL (ws:List (List D.Trans)):Nat:=(ws.map List.length).sum
def O8 (ls:List D.Loc):Nat:=(ls.map λl=>IL (B4 l)).sum
def Fz (m:D.Model)(a:Int):Bool :=
 !Afu (AY m a)&&(!Aft m (AY m a) (Fx (AY m a).Frame (AY m a).Init)&&(!Ajj m a (AY m a) &&
  ((CL (AY m a).Locs.length λk=>!Ql m a (AY m a) k ((AY m a).Locs.getD k default)&&Tv (AY m a) (B4 ((AY m a).Locs.getD k default)))&&decide ((O8 (AY m a).Locs:Int)<=1024))))
def AhD {ws:List (List D.Trans)}{j}(hj:j<ws.length):IL (ws.take (j+1))=IL (ws.take j)+(ws.getD j []).length:=by
 unfold IL;grind[Dh,AsJ]
def AhE {ls:List D.Loc}{j}(hj:j<ls.length):O8 (ls.take (j+1))=O8 (ls.take j)+IL (B4 (ls.getD j default)):=by
 unfold O8;grind[Dh,AsJ]
def XT {m}{a:Int}(z:AS m)(K:0<=a)(Y:a<m.Procs.length):Ai prog 44 [] [.agg (Ag m),Aa a] [] (Ad (Fz m a)):=by
 have u:Hk (AY m a):=z.Procs.2 _ (Av oM);refine Ay func44 (AaO _ m a rfl rfl rfl rfl) ⟨⟨K,Y⟩,?_⟩;have e:Fz m a=(!Afu (AY m a)&&(!Aft m (AY m a) (Fx (AY m a).Frame (AY m a).Init)&&(!Ajj m a (AY m a) &&
  ((CL (AY m a).Locs.length λk=>!Ql m a (AY m a) k ((AY m a).Locs.getD k default)&&Tv (AY m a) (B4 ((AY m a).Locs.getD k default)))&&decide ((O8 (AY m a).Locs:Int)<=1024))))):=rfl
 change(Afu (AY m a)=true->_)/\(Afu (AY m a)=false->∃y,Ai _ _ _ [AE true (AY m a).Frame,Ac true (AY m a).Init] _ _/\(Aft m (AY m a) y=true->_)/\(Aft m (AY m a) y=false->(Ajj m a (AY m a)=true->_)/\(Ajj m a (AY m a)=false->Au _ _ (Hw m a (AY m a) 0 0))));generalize Fz m a=b at e |-;generalize AY m a=p at e u |-;have L:=u.Frame.1;refine⟨λh=>AB (by rw[e,h]<;>rfl),λh=>?_⟩;have hA:p.Init.length=p.Frame.length/\p.Locs.length<=256:=by
  unfold Afu at h;simp at h;omega
 rw[h]at e;refine⟨Fx p.Frame p.Init,PU oM L,λh2=>AB (by rw[e,h2]<;>rfl),λh2=>?_⟩;rw[h2]at e;refine⟨λh3=>AB (by rw[e,h3]<;>rfl),λh3=>?_⟩;rw[h3]at e;simp only[Bool.not_false,Ar7]at e;refine AA p.Locs.length (λk=>Hw m a p (O8 (p.Locs.take k)) k) (λk=>(∀i,i<k->(!Ql m a p i (p.Locs.getD i default)&&Tv p (B4 (p.Locs.getD i default)))=true)/\O8 (p.Locs.take k)<=k*9437184) ⟨λi hi=>oM,by simp[O8]⟩ ?_;intro k hk ⟨Z,N⟩ J next
 refine ArC (XW _ m a p _ k J rfl) ⟨λO=>?_,λP=>?_⟩
 .have g:k<p.Locs.length:=by have:=AQ O;omega
  have Q:(k:Int).toNat=k:=oM
  rw[Q];have r:=u.Locs.2 _ (Av (d:=default) g);have no:(!Ql m a p k (p.Locs.getD k default)&&Tv p (B4 (p.Locs.getD k default)))=false->false=b:=λh=>by grind[BW]
  have A:=AhE g;have yes:(!Ql m a p k (p.Locs.getD k default)&&Tv p (B4 (p.Locs.getD k default)))=true->IL (B4 (p.Locs.getD k default))<=9437184->J (Hw m a p ((O8 (p.Locs.take k):Int)+IL (B4 (p.Locs.getD k default))) ((k:Int)+1)):=λh h'=>next _ g gD (Up.of (by rw[A]<;>rfl))
  clear next
  generalize O8 (p.Locs.take k)=many at N yes |-;generalize p.Locs.getD k default=l at r no yes |-;have ho:=r.Out.1;have R:=r.Esc.1;refine⟨⟨oM,oM⟩,λv=>AB (no ?_),λv=>⟨B4 l,R0 R,?_⟩⟩
  .rw[show Ql m a p k l=true from v]<;>rfl
  have S:l.Esc.length<=8:=gD
  rw[show Ql m a p k l=false from v]at no yes;simp only[Bool.not_false,Ar7]at no yes;have B:(B4 l).length<=9:=by simp[B4];omega
  have s:∀w∈B4 l,w.length<=1048576:=by
   intro w z;rcases Asg.1 z with rfl|z
   .exact ho
   .exact(r.Esc.2 w z).1
  generalize B4 l=ws at no yes B s |-;unfold Tv at no yes;refine AA ws.length (λj=>IX m a p ((many:Int)+IL (ws.take j)) k ws j) (λj=>(∀i:Nat,i<j->(!Kq i (ws.getD i [])&&CL (ws.getD i []).length λh=>!Kw p ((ws.getD i []).getD h default))=true)/\IL (ws.take j)<=j*1048576) ⟨λi hi=>oM,by simp[IL]⟩ ?_ |> λh=>by rw[show(many:Int)+(IL (ws.take 0):Nat)=many by simp[IL]]at h;exact h
  intro j hj ⟨C,T⟩ J2 next2;refine ArC (XV _ m a p _ k ws j J J2) ⟨λE=>?_,λF=>?_⟩
  .have c:j<ws.length:=by have:=AQ E;omega
   have t:(j:Int).toNat=j:=oM
   rw[t];have W:=s _ (Av (d:=[]) c);have U:=AhD c;have no2:(!Kq j (ws.getD j [])&&CL (ws.getD j []).length λh=>!Kw p ((ws.getD j []).getD h default))=false->false=b:=λh=>no (BW (f:=λj:Nat=>!Kq j (ws.getD j [])&&CL (ws.getD j []).length λh=>!Kw p ((ws.getD j []).getD h default)) c h)
   have yes2:(!Kq j (ws.getD j [])&&CL (ws.getD j []).length λh=>!Kw p ((ws.getD j []).getD h default))=true->J2 (IX m a p ((many:Int)+(IL (ws.take j)+(ws.getD j []).length:Nat)) k ws ((j:Int)+1)):=λh=>next2 _ c ⟨λi hi=>by
    rcases AsR.1 hi with h2|rfl
    .exact C i h2
    .exact h,oM⟩ (Up.of (by rw[U]<;>rfl))
   refine⟨λ_=>⟨oM,oM⟩,λx=>AB (no2 ?_),λx=>⟨⟨oM,oM⟩,?_⟩⟩
   .rw[show Kq j (ws.getD j [])=true from x]<;>rfl
   rw[show Kq j (ws.getD j [])=false from x]at no2 yes2;simp only[Bool.not_false,Ar7]at no2 yes2;have hN:i64.wrap ((many:Int)+IL (ws.take j)+((ws.getD j []).length:Int))=(many:Int)+(IL (ws.take j)+(ws.getD j []).length:Nat):=by
    rw[AT oM oM];omega
   rw[hN];generalize(many:Int)+(IL (ws.take j)+(ws.getD j []).length:Nat)=M at yes2 |-;refine AA (ws.getD j []).length (λh=>Lu m a p M k ws j h) (λh=>∀i,i<h->(!Kw p ((ws.getD j []).getD i default))=true) (λi hi=>oM) ?_;intro h3 hh3 V J3 next3;refine ArC (XU _ m a p M k ws j h3 J J2 J3 rfl) ?_;rw[t];refine⟨⟨oM,oM⟩,λG=>?_,λX=>?_⟩
   .have o:h3<(ws.getD j []).length:=by have:=AQ G;omega
    have H:(h3:Int).toNat=h3:=oM
    rw[H];refine⟨⟨oM,oM⟩,⟨oM,oM⟩,λ_=>⟨oM,oM⟩,λ_=>⟨oM,oM⟩,λv=>AB (no2 ?_),λv=>next3 _ o (BV V ?_) (Up.of ?_)⟩
    .exact BW (f:=λh=>!Kw p ((ws.getD j []).getD h default)) o (by show(!Kw p _)=false;rw[show Kw p ((ws.getD j []).getD h3 default)=true from v]<;>rfl)
    .rw[show Kw p ((ws.getD j []).getD h3 default)=false from v]<;>rfl
    grind[Aj]
   grind[AP,Aj,A0]
  .have q:ws.length<=j:=by have:=AP F;omega
   rw[Aj oM,Ar8 q];rw[Ar8 q]at T;exact yes (A0.2 λi hi=>C i oM) oM
 .have I:p.Locs.length<=k:=by have:=AP P;omega
  rw[(A0 (n:=p.Locs.length) (f:=λk:Nat=>!Ql m a p k (p.Locs.getD k default)&&Tv p (B4 (p.Locs.getD k default)))).2 λi hi=>Z i oM,Ar7]at e;rw[Ar8 I];exact AB e.symm
def ON {m}{a}(h:Fz m a):(AY m a).Provided<m.Exprs.length/\0<=(AY m a).Active/\(AY m a).Active<=16:=by
 unfold Fz at h;simp only[Arr,Asu]at h;have b:=h.2.1;unfold Aft at b;simp_all
def VE {m}(A:AS m):Ai prog 43 [] [.agg (Ag m)] [] (.tup [Aa (Cj m).1,Aa (Cj m).2]):=by
 have T:=A.Globals.1;have hS:=A.Shapes.1;have hC:=A.Chans.1;have hE:=A.Exprs.1;have O:=A.Procs.1;refine Ay func43 (XS _ _ m) ?_;have U:(bif decide ((m.Globals.length:Int) > 128)then true else(m.Init.length:Int) != (m.Globals.length:Int))=(decide (128<m.Globals.length)||!decide (m.Init.length=m.Globals.length)):=gD
 have t2:(bif decide ((m.Shapes.length:Int) > 32)then true else decide ((m.Chans.length:Int) > 32))=(decide (32<m.Shapes.length)||decide (32<m.Chans.length)):=gD
 have W:(bif bif bif bif decide ((m.Procs.length:Int)<1)then true else decide ((m.Procs.length:Int) > 16)then true else decide (m.Claim<(-1:Int))then true else decide (m.Claim>=(m.Procs.length:Int))then true else decide ((m.Exprs.length:Int) > 4096)) =
   (decide (m.Procs.length<1)||(decide (16<m.Procs.length)||(decide (m.Claim < -1)||(decide ((m.Procs.length:Int)<=m.Claim)||decide (4096<m.Exprs.length))))):=gD
 rw[U,t2];generalize B:Cj m=R;unfold Cj at B;refine⟨λh=>Gj gD,λh=>⟨Fx m.Globals m.Init,PU (by simp at h;omega) T,λh2=>Gj gD,λh2=>⟨λh3=>Gj ?_,λh3=>?_⟩⟩⟩
 .grind
 rw[h,Arq,h2,Arq,h3,Arq]at B;refine AA m.Shapes.length (λk=>QG m k) (λk=>∀i,i<k->C3 (m.Shapes.getD i default)=true) (λi hi=>oM) ?_;intro k hk v J next
 refine ArC (Agg _ _ m k J) ⟨λq=>?_,λr=>?_⟩
 .have b:k<m.Shapes.length:=by have:=AQ q;omega
  refine⟨⟨oM,oM⟩,C3 (m.Shapes.getD k default),XX (A.Shapes.2 _ (Av b)),λn=>Gj ?_,λn=>next _ b (BV v (by simpa using n)) (Up.of ?_)⟩
  .have e:Hl m=k:=EF (f:=λi=>C3 (m.Shapes.getD i default)) v b (by simpa using n);grind
  grind[Aj]
 have x:m.Shapes.length<=k:=by have:=AP r;omega
 have es:Hl m=-1:=DX (f:=λi=>C3 (m.Shapes.getD i default)) λi hi=>v i oM
 rw[es,show decide ((0:Int)<=-1)=false from rfl,Arq]at B;clear v next
 refine AA m.Chans.length (λk=>QF m k) (λk=>∀i,i<k->inP m.Shapes.length (m.Chans.getD i 0)=true) (λi hi=>oM) ?_;intro k hk v J next
 refine ArC (Agf _ _ m k J rfl rfl) ⟨λq=>?_,λr=>?_⟩
 .have b:k<m.Chans.length:=by have:=AQ q;omega
  have s:(k:Int).toNat=k:=oM
  rw[s];have c:inP m.Shapes.length (m.Chans.getD k 0)=!(bif decide (m.Chans.getD k 0<0)then true else decide (m.Chans.getD k 0>=(m.Shapes.length:Int))):=by unfold inP;rw[Ase];simp
  refine⟨⟨oM,oM⟩,λ_=>⟨oM,oM⟩,λn=>Gj ?_,λn=>next _ b (BV v (by rw[c,n]<;>rfl)) (Up.of ?_)⟩
  .have e:J7 m=k:=EF (f:=λi=>inP m.Shapes.length (m.Chans.getD i 0)) v b gD;grind
  grind[Aj]
 have x:m.Chans.length<=k:=by have:=AP r;omega
 have ec:J7 m=-1:=DX (f:=λi=>inP m.Shapes.length (m.Chans.getD i 0)) λi hi=>v i oM
 rw[ec,show decide ((0:Int)<=-1)=false from rfl,Arq]at B;rw[W];refine⟨λh4=>Gj gD,λh4=>⟨⟨oM,oM,oM⟩,?_⟩⟩;rw[h4,Arq]at B;clear v next
 have G:((m.Exprs.length:Int).toNat)=(Bi m).length:=by simp[Bi]
 have H:(Bi m).length=m.Exprs.length:=by simp[Bi]
 refine Au.le (l':=[(1,.bp 0 0),(8,.ow 1 0 (Bi m).length),(9,Aa 0)]) (hs':=[.box (Ag m),.arr true 0 (Bi m).length 1 (EP (Bi m))]) ?_ ?_ ?_
 .rw[G];exact AH _
 .rw[G];refine⟨Ob.le_refl _,ArT λi hi=>AO ?_,trivial⟩;have:(Bi m).getD i false=false:=by
   have P:i<m.Exprs.length:=by rw[<- H];exact hi
   simp[Bi,List.getD,P]
  show _=[Ad ((Bi m).getD i false)];rw[this]<;>rfl
 generalize Y:JX m=X at B;have fin:∀{y:Int×Int},(bif decide (0<=X)then((3:Int),X)else(0,0))=y->y=R:=λh=>by rw[<- h];exact B
 refine Az (λg st=>∃(k:Nat)(had:List Bool),k<=m.Exprs.length/\g=m.Exprs.length-k/\had.length=m.Exprs.length/\GD m (m.Exprs.length-k) k had=X/\st=Vs m had k) ⟨_,Up.of ⟨0,Bi m,Arv _,rfl,H,Y,rfl⟩⟩ ?_;rintro g st ⟨k,had,hk,rfl,Q,w,rfl⟩;refine ArC (Age _ _ m had k _) ⟨λq=>?_,λr=>Gj (fin ?_)⟩
 .have b:k<m.Exprs.length:=by have:=AQ q;omega
  have s:(k:Int).toNat=k:=oM
  rw[s];have t:Ln (m.Exprs.getD k default):=A.Exprs.2 _ (Av b);rw[show m.Exprs.length-k=(m.Exprs.length-(k+1))+1 by omega]at w;unfold GD at w;refine⟨EC m k,Aa3 oM oM (by unfold As;rw[s];exact t) O,λn=>Gj (fin ?_),λn=>⟨⟨oM,oM⟩,BU (m.Exprs.getD k default),R3 t.Args.1 t.V.Dims.1,?_⟩⟩
  .grind
  .have I:EC m k=true:=by simpa using n
   rw[I,Art]at w;have c:=Og I;have C:=Oe t.Args.1 t.V.Dims.1;unfold As at c;rw[s]at c;generalize BU (m.Exprs.getD k default)=l at c C w |-;generalize Z:TD had l=o at w;refine Az (λg st=>∃(j:Nat)(a:List Bool),j<=l.length/\g=l.length-j/\a.length=m.Exprs.length/\TD a (l.drop j)=o/\st=Vr m a k l j) ⟨_,Up.of ⟨0,had,Arv _,rfl,Q,Z,rfl⟩⟩ ?_;rintro g st ⟨j,a,hj,rfl,K,z,rfl⟩;refine ArC (Agd _ _ m a k l j _ _ rfl) ⟨λL=>?_,λM=>?_⟩
   .have u:j<l.length:=by have:=AQ L;omega
    have N:(j:Int).toNat=j:=oM
    rw[N];have S:=c _ (Av (d:=0) u);rw[Br (d:=0) u]at z;generalize l.getD j 0=p at S z |-;unfold TD at z;refine⟨⟨oM,oM⟩,⟨oM,oM⟩,λn=>Gj (fin ?_),λn=>⟨⟨oM,oM⟩,⟨oM,oM⟩,l.length-(j+1),oM,?_⟩⟩
    .grind
    .rw[n,Arq]at z;have E:(a.set p.toNat true).length=a.length:=sM
     rw[Aj oM];refine Up.mk (l':=[(1,.bp 0 0),(8,.ow 1 0 (a.set p.toNat true).length),(9,Aa k),(11,Ac true l),(12,Aa ((j+1:Nat):Int))])
      (hs':=[.box (Ag m),.arr true 0 (a.set p.toNat true).length 1 (EP (a.set p.toNat true))]) ?_ ?_ ⟨j+1,a.set p.toNat true,oM,rfl,by rw[E];exact K,z,rfl⟩
     .rw[E];exact AH _
     .rw[E];exact⟨Ob.le_refl _,ArT λi hi=>AO (QS hi),trivial⟩
   .have F:l.length<=j:=by have:=AP M;omega
    rw[AsE F]at z;unfold TD at z;rw[<- z]at w;rw[Aj oM];exact⟨m.Exprs.length-(k+1),oM,Up.of gD⟩
 .have x:m.Exprs.length<=k:=by have:=AP r;omega
  rw[show m.Exprs.length-k=0 by omega]at w;unfold GD at w;rw[<- w]<;>rfl
def RF (m:D.Model):Int:=Jg m.Procs.length λi:Nat=>Fz m i
def AiF (m:D.Model):Int:=Jg m.Procs.length λi:Nat=>Kp m i
def J5 (m:D.Model):Int×Int×Int :=
 bif decide (0<(Cj m).1)then(40,Cj m)else bif decide (0<=RF m)then(40,4,RF m)else bif decide (16<Fi m m.Procs.length)then(40,5,-1)
 else bif decide (0<=AiF m)then(40,6,AiF m)else(0,0,0)
def V3 (m:D.Model):Bool:=(J5 m).1==0
def X6 {m}(q:AS m):Ai prog 23 [] [.agg (Ag m)] [] (.tup [Aa (J5 m).1,Aa (J5 m).2.1,Aa (J5 m).2.2]):=by
 have w:=q.Procs.1;refine Ay func23 (Aba _ _ _ m) ⟨Cj m,VE q,?_⟩;generalize r:J5 m=R;unfold J5 at r;refine⟨λh=>Mm gD,λh=>?_⟩;have b:=Jx q (ArP h);rw[show decide (0<(Cj m).1)=false from h,Arq]at r;refine AA m.Procs.length (λk=>Lx m (Fi m k) k) (λk=>(∀i:Nat,i<k->Fz m i=true)/\0<=Fi m k/\Fi m k<=16*k) ⟨λi hi=>oM,by simp[Fi],by simp[Fi]⟩ ?_;intro k hk ⟨c,t,u⟩ J next
 refine ArC (X8 _ _ _ m (Fi m k) k J rfl) ⟨λg=>?_,λj=>?_⟩
 .have a:k<m.Procs.length:=by have:=AQ g;omega
  have n:(k:Int).toNat=k:=oM
  rw[n];refine⟨Fz m k,XT q oM oM,λl=>Mm ?_,λl=>⟨⟨oM,oM⟩,?_⟩⟩
  .have e:RF m=k:=EF (f:=λi:Nat=>Fz m i) c a (by simpa using l);grind
  .have o:Fz m k=true:=by simpa using l
   have p:=(ON o).2;unfold AY at p;rw[n]at p;have v:=Uz a;refine next _ a ⟨BV c o,oM,oM⟩ (Up.of ?_)
   grind[Aj,AT]
 .have d:k=m.Procs.length:=by have:=AP j;omega
  subst d;have e:RF m=-1:=DX (f:=λi:Nat=>Fz m i) λi hi=>c i oM
  rw[e,show decide ((0:Int)<=-1)=false from rfl,Arq]at r;refine⟨λh2=>Mm gD,λh2=>?_⟩;rw[show decide (16<Fi m m.Procs.length)=false from h2,Arq]at r;have s:∀i:Nat,i<m.Procs.length->(AY m i).Provided<m.Exprs.length:=λi hi=>(ON (c i hi)).1
  clear c next
  refine AA m.Procs.length (λk=>Lw m k) (λk=>∀i:Nat,i<k->Kp m i=true) (λi hi=>oM) ?_;intro k hk c J next
  refine ArC (X7 _ _ _ m k J) ⟨λg=>?_,λj=>Mm ?_⟩
  .have a:k<m.Procs.length:=by have:=AQ g;omega
   refine⟨Kp m k,Ty b oM oM (s _ oM),λl=>Mm ?_,λl=>next _ a (BV c (by simpa using l)) (Up.of ?_)⟩
   .have e:AiF m=k:=EF (f:=λi:Nat=>Kp m i) c a (by simpa using l);grind
   grind[Aj]
  .have d:m.Procs.length<=k:=by have:=AP j;omega
   have e:AiF m=-1:=DX (f:=λi:Nat=>Kp m i) λi hi=>c i oM
   grind
def X2 {m}(a:AS m):Ai prog 10 [] [.agg (Ag m)] [] (Ad (V3 m)) :=
 Ay func10 (AaX _ m) ⟨J5 m,X6 a,AB rfl⟩
def YT {m}(h:V3 m):Cj m=(0,0):=by
 unfold V3 J5 at h;have a:¬0<(Cj m).1:=gD
 have cases2:(Cj m)=(0,0)\/0<(Cj m).1:=by
  unfold Cj;grind
 exact cases2.resolve_right a
def JG {t}{l}(f:Len l.length):Ai prog 24 [] [AE true t,Ac true l] [] (Ad (BR t l)):=by
 unfold Len at f;refine Ay func24 (XP _ t l) ⟨λh=>AB ?_,λh=>?_⟩
 .unfold BR;grind
 .have c:t.length=l.length:=by simp at h;omega
  have e:BR t l=CL l.length λi=>C1 (t.getD i default) (l.getD i 0):=by unfold BR;grind
  rw[e];refine AA t.length (λk=>Hv t l k) (λk=>∀i,i<k->C1 (t.getD i default) (l.getD i 0)=true) (λi hi=>oM) ?_;intro k hk g J next
  refine ArC (VD _ t l k J) ⟨λb=>?_,λj=>AB ?_⟩
  .have a:k<t.length:=by have:=AQ b;omega
   refine⟨⟨oM,oM⟩,⟨oM,oM⟩,C1 (t.getD k default) (l.getD k 0),R5 _ _,λd=>AB ?_,λd=>next _ a (BV g (by simpa using d)) (Up.of ?_)⟩
   .grind[BW]
   .rw[Aj oM]<;>rfl
  grind[AP,A0]
def Agk {m}{s}(hs:BX s)(O:m.Claim<m.Procs.length):Ai prog 11 [] [.agg (Ag m),.agg (Ae s)] [] (Ad (Dz m s)):=by
 have F:=hs.c;have hp:=hs.p;unfold Len at F hp;have P:(bif bif bif bif bif bif bif !(BR m.Globals s.Globals)then true else decide ((s.Chans.length:Int) > 32)then true else decide ((s.Procs.length:Int) > 16)then true else decide (s.Last<0)then true else decide (s.Last > 15)then true else decide (s.Alone<(-1:Int))then true else decide (s.Alone>=(s.Procs.length:Int))then true else bif decide (m.Claim<0)then s.Claim != (-1:Int)else false) =
   !(Jc m s&&(bif decide (m.Claim<0)then decide (s.Claim=-1)else true)):=by
  unfold Jc;grind
 refine Ay func11 (Ako _ m s) ⟨BR m.Globals s.Globals,JG hs.g,?_⟩;rw[P];have x:Dz m s=(Jc m s&&(CL s.Chans.length λi=>De m (s.Chans.getD i default))&&(CL s.Procs.length λi=>Bo m (s.Procs.getD i default))&&Fu m s):=rfl;generalize Dz m s=b at x |-;refine⟨λh=>AB ?_,λh=>⟨λh2=>?_,λh2=>AB ?_,λh2=>?_⟩⟩
 .rw[x];unfold Fu;grind
 .grind
 .rw[x];unfold Fu;cases t:decide (m.Claim<0)
  .rw[show decide (m.Claim>=0)=true by simp at t |-;omega,Art]at h2;rw[Arq,show inP (AY m m.Claim).Locs.length s.Claim=false from ?_,Bool.and_false];have u:(bif decide (s.Claim<0)then true else decide (s.Claim>=((AY m m.Claim).Locs.length:Int)))=true:=h2;rw[Asp];intro F;unfold inP at F;simp at F u;omega
  grind
 have L:Jc m s=true/\Fu m s=true:=by
  simp only[Atk,Arr]at h;refine⟨h.1,?_⟩;unfold Fu;have h3:=h.2;cases t:decide (m.Claim<0)
  .rw[show decide (m.Claim>=0)=true by simp at t |-;omega,Art]at h2;rw[Arq];have u:(bif decide (s.Claim<0)then true else decide (s.Claim>=((AY m m.Claim).Locs.length:Int)))=false:=h2;unfold inP;simp at u |-;omega
  grind
 rw[L.1,L.2,Ar7,Bool.and_true]at x;refine AA s.Chans.length (λk=>NF m s k) (λk=>∀i,i<k->De m (s.Chans.getD i default)=true) (λi hi=>oM) ?_;intro k hk y J next
 refine ArC (Agn _ m s k J rfl) ⟨λv=>?_,λz=>?_⟩
 .have a:k<s.Chans.length:=by have:=AQ v;omega
  have w:(k:Int).toNat=k:=oM
  rw[w];have e:=hs.cs _ (Av (d:=default) a);have no:De m (s.Chans.getD k default)=false->false=b:=λh=>by grind[BW]
  have yes:De m (s.Chans.getD k default)=true->J (NF m s ((k:Int)+1)):=λh=>next _ a (BV y h) (Up.of rfl)
  clear next
  generalize s.Chans.getD k default=c at e no yes |-;have Q:=e.q;unfold Len at Q;have G:(m.Shapes.getD c.Shape.toNat default)=B8 m c.Shape:=rfl;rw[G];have ecp:De m c=(inP m.Shapes.length c.Shape&&decide ((c.Queue.length:Int)<=(B8 m c.Shape).Room)&&CL c.Queue.length λi=>BR (B8 m c.Shape).Fields (c.Queue.getD i [])):=rfl;refine⟨⟨oM,oM⟩,λr=>?_,λr=>AB (no ?_),λr=>?_⟩
  .simp at r;omega
  .grind[CB]
  have l:0<=c.Shape/\c.Shape<m.Shapes.length/\(c.Queue.length:Int)<=(B8 m c.Shape).Room:=gD
  rw[CB.2 ⟨l.1,l.2.1⟩,show decide ((c.Queue.length:Int)<=(B8 m c.Shape).Room)=true by simpa using l.2.2,Ar7,Ar7]at ecp;rw[ecp]at no yes;refine AA c.Queue.length (λj=>QH m s k c j) (λj=>∀i,i<j->BR (B8 m c.Shape).Fields (c.Queue.getD i [])=true) (λi hi=>oM) ?_;intro j hj H J2 next2;refine ArC (Agm _ m s k c j J J2) ⟨λA=>?_,λM=>?_⟩
  .have o:j<c.Queue.length:=by have:=AQ A;omega
   have B:(j:Int).toNat=j:=oM
   rw[B];refine⟨⟨l.1,l.2.1⟩,⟨oM,oM⟩,BR (B8 m c.Shape).Fields (c.Queue.getD j []),JG (e.m _ (Av o)),λr=>AB (no ?_),λr=>next2 _ o (BV H (by simpa using r)) (Up.of ?_)⟩
   .grind[BW]
   grind[Aj]
  grind[AP,Aj,A0]
 have N:s.Chans.length<=k:=by have:=AP z;omega
 rw[(A0 (n:=s.Chans.length) (f:=λi=>De m (s.Chans.getD i default))).2 λi hi=>y i oM,Ar7]at x;clear y next
 refine AA s.Procs.length (λk=>NE m s k) (λk=>∀i,i<k->Bo m (s.Procs.getD i default)=true) (λi hi=>oM) ?_;intro k hk y J next
 refine ArC (Agl _ m s k J rfl rfl) ⟨λv=>?_,λz=>AB ?_⟩
 .have a:k<s.Procs.length:=by have:=AQ v;omega
  have w:(k:Int).toNat=k:=oM
  rw[w];have e:=hs.ps _ (Av (d:=default) a);have no:Bo m (s.Procs.getD k default)=false->false=b:=λh=>by grind[BW]
  have yes:Bo m (s.Procs.getD k default)=true->J (NE m s ((k:Int)+1)):=λh=>next _ a (BV y h) (Up.of rfl)
  clear next
  generalize s.Procs.getD k default=p at e no yes |-;have I:m.Procs.getD p.Type_.toNat default=AY m p.Type_:=rfl;rw[I];have ep:Bo m p=(C0 m p.Type_&&inP (AY m p.Type_).Locs.length p.Loc&&decide (p.Prio=(AY m p.Type_).Prio)&&BR (AY m p.Type_).Frame p.Frame):=rfl;refine⟨⟨oM,oM⟩,λr=>AB (no ?_),λr=>?_⟩
  .rw[ep,show C0 m p.Type_=false from ?_]
   .rfl
   .unfold C0;grind
  have C:0<=p.Type_/\p.Type_<m.Procs.length/\p.Type_≠m.Claim:=by simp at r;omega
  rw[show C0 m p.Type_=true by unfold C0;simp;omega,Ar7]at ep;refine⟨⟨C.1,C.2.1⟩,BR (AY m p.Type_).Frame p.Frame,JG e,?_⟩;have K:(bif bif bif !(BR (AY m p.Type_).Frame p.Frame)then true else decide (p.Loc<0)then true else decide (p.Loc>=((AY m p.Type_).Locs.length:Int))then true else p.Prio != (AY m p.Type_).Prio)=!(Bo m p):=by
   rw[ep];unfold inP;grind
  rw[K];refine⟨λE=>AB (no (by simpa using E)),λE=>?_⟩;grind[Aj]
 grind[AP,A0]
def HM (m:D.Model)(s:D.State):Int:=bif V3 m then(bif Dz m s then 0 else 41)else 40
def VF {m}{s}(a:AS m)(hs:BX s):Ai prog 5 [] [.agg (Ag m),.agg (Ae s)] [] (Aa (HM m s)):=by
 refine Ay func5 (XZ _ m s) ⟨V3 m,X2 a,λh=>BY ?_,λh=>⟨Dz m s,Agk hs (RG (YT (by simpa using h))).claim.2,λh2=>BY ?_,λh2=>BY ?_⟩⟩
 .unfold HM;grind
 .unfold HM;grind
 .unfold HM;grind
def Afj (e:D.Env):D.Proc:=AY e.M (e.S.Procs.getD e.Pid.toNat default).Type_
def Ald (e:D.Env)(esc:Int):List D.Trans :=
 bif decide (esc<0)then((Afj e).Locs.getD (e.S.Procs.getD e.Pid.toNat default).Loc.toNat default).Out else((Afj e).Locs.getD (e.S.Procs.getD e.Pid.toNat default).Loc.toNat default).Esc.getD esc.toNat []
def PV {e}(h1:0<=e.Pid/\e.Pid<e.S.Procs.length)(h2:0<=(e.S.Procs.getD e.Pid.toNat default).Type_/\(e.S.Procs.getD e.Pid.toNat default).Type_<e.M.Procs.length):Ai prog 31 [] [.agg (Af e)] [] (.agg (A9 (Afj e))) :=
 Ay func31 (AaN _ e) ⟨h1,h2,trivial,lR⟩
def AaY {e}{esc:Int}(h1:0<=e.Pid/\e.Pid<e.S.Procs.length)(h2:0<=(e.S.Procs.getD e.Pid.toNat default).Type_/\(e.S.Procs.getD e.Pid.toNat default).Type_<e.M.Procs.length)
  (h3:0<=(e.S.Procs.getD e.Pid.toNat default).Loc/\(e.S.Procs.getD e.Pid.toNat default).Loc<(Afj e).Locs.length) (h4:0<=esc->esc<((Afj e).Locs.getD (e.S.Procs.getD e.Pid.toNat default).Loc.toNat default).Esc.length) :
  Ai prog 36 [] [.agg (Af e),Aa esc] [] (Ao true (Ald e esc)):=by
 refine Ay func36 (Ago _ e esc rfl) ⟨Afj e,PV h1 h2,h1,h3,λh=>⟨trivial,?_⟩,λh=>?_⟩
 .unfold Ald;rw[h,Art];exact lR
 .have h0:0<=esc:=gD
  refine⟨⟨h0,h4 h0⟩,trivial,?_⟩;unfold Ald;rw[h,Arq];exact lR
def Qg {xs}(c:xs.length*8<=140737488355328):Ai prog 30 [] [Ac true xs] [] (Ac true xs):=by
 refine Ai.hand ⟨_,func30,rfl,kR⟩ λw E vs d m _ _ hs=>?_
 obtain⟨n,us1,rfl,f,hs⟩:=hs.cons_inv;obtain rfl:=hs.nil_inv;obtain⟨ao,cap,rfl,h1,h2,h3⟩:=V.sl_inv f;refine(Wo h1 h2 c λhp=>?_).mono ?_
 .obtain⟨b,off,rfl,_,_,_,u,g,hv⟩:=h3 hp;refine⟨_,rfl,λi hi=>?_⟩;have a:=g i 0 _ hi rfl;have h:=(hv i 0 _ hi rfl).sc_inv;rw[Addr.add_lit];rw[h]at a;simpa using a
 .rintro e w' ⟨j,rfl,k,l⟩;exact⟨j,rfl,Ajc k d,l⟩
def Cn (l:List D.Chan):Nat->List VV:=λi=>Am (l.getD i default)
def B2 (l:List D.Process):Nat->List VV:=λi=>Ap (l.getD i default)
def BE (l:List (List Int)):Nat->List VV:=λi=>[Ac true (l.getD i [])]
def CH (x:D.State)(c p:VV):List VV:=[Ac true x.Globals,c,p,Aa x.Last,Aa x.Alone,Aa x.Claim]
def F8 (x:D.Env)(c p:VV):List VV:=[AE true x.M.Globals,Ac true x.M.Init,A1 true x.M.Shapes,Ac true x.M.Chans,Bb true x.M.Procs,Aa x.M.Claim,Bf true x.M.Exprs,Ac true x.S.Globals,c,p,Aa x.S.Last,Aa x.S.Alone,Aa x.S.Claim,Aa x.Pid,Ad x.Timeout,AM true x.Able]
def obC (s:D.State):Ob:=.arr true 0 s.Chans.length 2 (Cn s.Chans)
def obP (s:D.State):Ob:=.arr true 0 s.Procs.length 4 (B2 s.Procs)
def hsE (e:D.Env):List Ob:=[.box (F8 e (.ow 1 0 e.S.Chans.length) (.ow 2 0 e.S.Procs.length)),obC e.S,obP e.S]
def AmR:Shp:={α:=D.State,enc:=λy=>([obC y,obP y],.agg (CH y (.ow 0 0 y.Chans.length) (.ow 1 0 y.Procs.length)))}
def AqF:Shp:={α:=D.Env×Int,enc:=λy=>(hsE y.1,Aa y.2),lend:=true}
def Api:Shp:={α:=D.Env×Int×Int,enc:=λy=>(hsE y.1,.tup [Aa y.2.1,Aa y.2.2]),lend:=true}
def Aph:Shp:={α:=D.Env×ByteArray×Int,enc:=λy=>(hsE y.1,.tup [AI y.2.1,Aa y.2.2]),lend:=true}
def AjR:Shp:={α:=D.State×ByteArray×Int,enc:=λy=>([],.tup [.agg (Ae y.1),AI y.2.1,Aa y.2.2])}
def Apl:Shp:={α:=List Bool×Int,enc:=λy=>([],.tup [AM true y.1,Aa y.2])}
def Aox:Shp:={α:=D.State,enc:=λy=>([],.agg (Ae y))}
def Aow:Shp:={α:=ByteArray,enc:=λy=>([],AI y)}
def Tx (f:FuncId):Shp :=
 bif Nat.beq f 15 then AmR else bif Nat.beq f 77 then Aph else bif Nat.beq f 122 then Api else bif Nat.beq f 123||Nat.beq f 126||Nat.beq f 127||Nat.beq f 128||Nat.beq f 173 then AqF else bif Nat.beq f 74 then Aox else bif Nat.beq f 49 then AjR else bif Nat.beq f 27 then Apl else bif Nat.beq f 20 then Vx else bif Nat.beq f 36 then AjN else  bif Nat.beq f 29||Nat.beq f 30 then AfK else bif Nat.beq f 125 then Aow else CZ f
def E6:Ann:={keep:=fun
  | [0,1,0,1,1,1,1]=>[1,2,3,19,20,21]
  | [0,1,0,1,1,0,0,1,1,0,0,1,0,1,1,1,1]=>[1,2,3,5,6,19,20,21,26,27,28]
  | [0,1,0,1,1,1,1,1]=>[2,3,49,50,51]
  | _=>[]}
def L7:Ann:={keep:=fun
  | [0,1,0,1,1,1]=>[2,3,7,21,22]
  | _=>[]}
def AiD:Ann:={base:=3,keep:=λ_=>[]}
def Adx (m:D.Model)(s:D.State)(l:List Bool)(k:Int):St:=Aq [(2,.bp 0 0),(3,.bp 1 0),(7,.ow 2 0 l.length),(21,Aa s.Procs.length),(22,Aa k)] [.box (Ag m),.box (Ae s),.arr true 0 l.length 1 (EP l)]
def DY:List VV:=[.nl,.nl,.nl,Aa 0,Aa 0,Aa 0]
def I5 (is:List Nat)(φ:Phi):Phi:=λj=>(is[j]?).bind φ
def YD (is:List Nat)(hs:List Ob):List Ob:=is.map λi=>X4 false (idx is) (λ_ g=>some g) (λg=>g) (BT hs i)
def Aa6 (p):GY (λg=>g) p=p:=by cases p<;>rfl
def Ai.pick {P}{f}{hs d}{xs}{r}(is)(h:Ai P f hs xs d r)(o:Fh d.length is)
  (O:∀j,j<hs.length->is[j]?=some j\/(∀cs,BT hs j≠.box cs)/\∃i,is[j]?=some i/\∀cs,BT d i≠.box cs) :
  Ai P f hs xs (YD is d) (ME false (idx is) (λ_ g=>some g) 8 r):=by
 refine⟨h.callable,λw E φ vs Q N hφ H=>(h.call w E φ vs Q N hφ H).mono ?_⟩;rintro e w' ⟨v,φ',rfl,h1,h2,h3,h4⟩;have l:∀k,Own (I5 is φ') k->Own φ' k:=by
  rintro k ⟨j,t⟩;obtain⟨p,hp,u⟩:=Bd.1 t;unfold I5 at hp;cases m:is[j]? with
  | none=>rw[m]at hp;cases hp
  | some i=>rw[m]at hp;exact⟨i,Bd.2 ⟨p,hp,u⟩⟩
 have hrel:U2 false (idx is) (λ_ g=>some g) (E.up φ') φ' (E.up (I5 is φ')) (I5 is φ'):=by
  refine⟨λk hk=>hk.imp id (l k),λ_ k hk=>hk.imp id (l k),λid i b hi t=>?_,λid i gen g c len hd hi hg I J=>?_⟩
  .unfold I5;rw[EB hi];exact t
  .obtain rfl:=ArS hg;refine⟨c,?_,J,λe=>e⟩;unfold I5;rw[EB hi];exact I
 have s:∀j i,is[j]?=some i->I5 is φ' j=φ' i:=λj i hj=>by unfold I5;rw[hj];rfl
 refine⟨v,I5 is φ',rfl,⟨h1.sub,λj p e=>?_,λi j k hi hj=>?_,λk hk=>h1.free k (l k hk)⟩,⟨h2.os,h2.tape,h2.output,h2.size,h2.block,λk hk=>h2.new k (l k hk),λid p z e=>?_⟩,λj=>?_,Ft hrel 8 _ _ h4⟩
 .cases m:is[j]? with
  | none=>unfold I5 at e;rw[m]at e;cases e
  | some i =>
   rw[s j i m]at e;have:=NW (og:=λg=>g) hrel (h1.ob i p e);rw[Aa6]at this;have A:BT (YD is d) j=X4 false (idx is) (λ_ g=>some g) (λg=>g) (BT d i):=by
    unfold YD BT;rw[ArN,Ar1,m];rfl
   rw[A];exact this
 .have toOld:∀j k,Blk (I5 is φ') j k->∃i,is[j]?=some i/\Blk φ' i k:=by
   intro j k t;obtain⟨p,hp,u⟩:=Bd.1 t;unfold I5 at hp;cases m:is[j]? with
   | none=>rw[m]at hp;cases hp
   | some i=>rw[m]at hp;exact⟨i,rfl,Bd.2 ⟨p,hp,u⟩⟩
  obtain⟨a,R,K⟩:=toOld i k hi;obtain⟨b,t,L⟩:=toOld j k hj;obtain rfl:=h1.inj a b k K L;have A:=MT o i a R;have C:=MT o j a t;rw[A]at C;exact ArS C
 .rcases O id z with hi|⟨n1,i,hi,n2⟩
  .obtain⟨p',A,C⟩:=h2.kind id p z e;exact⟨p',by rw[s id id hi];exact A,C⟩
  .have y:i<d.length:=by
    have:=(h3 i);exact ArW λM=>by
     have hj:=G2 o _ _ hi;exact M hj
   obtain⟨q,m⟩:∃q,φ' i=some q:=Atb.1 ((h3 i).2 y);refine⟨q,by rw[s id i hi];exact m,?_⟩;have F:=N.ob id p e;have G:=h1.ob i q m;cases p with
   | box b =>
    exfalso;generalize S:BT hs id=x at F n1;cases x with
    | box cs=>exact n1 cs rfl
    | arr=>exact F.elim
    | gone=>exact F.elim
    | kar=>exact F.elim
   | arr c n hd =>
    cases q with
    | arr c' n' hd'=>exact⟨c',n',hd',rfl⟩
    | box b =>
     exfalso;generalize S:BT d i=x at G n2;cases x with
     | box cs=>exact n2 cs rfl
     | arr=>exact G.elim
     | gone=>exact G.elim
     | kar=>exact G.elim
 .have B:(YD is d).length=is.length:=by simp[YD]
  rw[B];constructor
  .intro M;refine ArW λT=>M ?_
   unfold I5;rw[AsI oM];rfl
  .intro y;have hj:is[j]?=some is[j]:=ArF y;rw[s j _ hj];exact(h3 _).2 (G2 o _ _ hj)
def JV (ids:List Nat):Nat->List Ob->List Ob
 | _,[]=>[]
 | k,o::l=>(bif ids.any (Nat.beq k)then(match o with
   | .arr _ g _ _ _=>.gone (g+1)
   | .gone g=>.gone (g+1)
   | .kar g _ _ _ _ _=>.gone (g+1)
   | .box cs=>.box cs)else o)::JV ids (k+1) l
def MW (ids):∀(l)(k),(JV ids k l).length=l.length
 | [],_=>rfl
 | _::l,k=>by simp only[JV,Asc,MW ids l (k+1)]
def UM (ids):∀(l)(k j),j<l.length->(JV ids k l).getD j (.gone 0)=bif ids.any (Nat.beq (k+j))then(match l.getD j (.gone 0)with
   | .arr _ g _ _ _=>.gone (g+1)
   | .gone g=>.gone (g+1)
   | .kar g _ _ _ _ _=>.gone (g+1)
   | .box cs=>.box cs)else l.getD j (.gone 0)
 | [],_,j,h=>absurd h (Asm j)
 | o::l,k,0,_=>rfl
 | o::l,k,j+1,h=>by
  have:=UM ids l (k+1) j (Nat.lt_of_succ_lt_succ h);rw[show k+(j+1)=k+1+j by omega];exact this
def KL (H:Nat->Ob)(k:Nat):List Ob->Option (List Ob×List Nat)
 | []=>some ([],[])
 | .box cs::l =>
  match DF (FC H k) cs with
  | some r=>match KL H k l with
   | some q=>some (.box (r.map (·.1))::q.1,r.flatMap (·.2)++q.2)
   | none=>none
  | none=>none
 | o::l=>match KL H k l with
  | some q=>some (o::q.1,q.2)
  | none=>none
def OX {H}{k}:∀{l l'}{ids},KL H k l=some (l',ids)->l'.length=l.length/\∀j,j<l.length->l'.getD j (.gone 0)=l.getD j (.gone 0)/\(∀cs,l.getD j (.gone 0)≠.box cs) \/
  ∃cs r,l.getD j (.gone 0)=.box cs/\l'.getD j (.gone 0)=.box (r.map (·.1))/\DF (FC H k) cs=some r/\∀p∈r,∀i∈p.2,i∈ids
 | [],l',ids,h=>by
  simp only[KL,Ars,Ar6]at h;obtain⟨rfl,rfl⟩:=h;exact⟨rfl,λj hj=>absurd hj (Asm j)⟩
 | o::l,l',ids,h=>by
  have other:(∀cs,o≠.box cs)->(match KL H k l with
    | some q=>some (o::q.1,q.2)
    | none=>none)=some (l',ids)->l'.length=(o::l).length/\∀j,j<(o::l).length->(l'.getD j (.gone 0)=(o::l).getD j (.gone 0)/\(∀cs,(o::l).getD j (.gone 0)≠.box cs)) \/
     ∃cs r,(o::l).getD j (.gone 0)=.box cs/\l'.getD j (.gone 0)=.box (r.map (·.1))/\DF (FC H k) cs=some r/\∀p∈r,∀i∈p.2,i∈ids:=by
   intro d h;split at h
   .rename_i q a;simp only[Ars,Ar6]at h;obtain⟨rfl,rfl⟩:=h;obtain⟨b,c⟩:=OX (l':=q.1) (ids:=q.2) a;refine⟨by simp[b],λj hj=>?_⟩;cases j with
    | zero=>exact .inl ⟨rfl,d⟩
    | succ j=>exact c j (Nat.lt_of_succ_lt_succ hj)
   .cases h
  cases o with
  | box cs =>
   simp only[KL]at h;split at h
   .rename_i r e;split at h
    .rename_i q a;simp only[Ars,Ar6]at h;obtain⟨rfl,rfl⟩:=h;obtain⟨b,c⟩:=OX (l':=q.1) (ids:=q.2) a;refine⟨by simp[b],λj hj=>?_⟩;cases j with
     | zero=>exact .inr ⟨cs,r,rfl,rfl,e,λp hp i hi=>List.mem_append_left _ (Atf.2 ⟨p,hp,hi⟩)⟩
     | succ j =>
      rcases c j (Nat.lt_of_succ_lt_succ hj)with h|⟨cs',m,h1,h2,h3,h4⟩
      .exact .inl h
      .exact .inr ⟨cs',m,h1,h2,h3,λp hp i hi=>List.mem_append_right _ (h4 p hp i hi)⟩
    .cases h
   .cases h
  | arr fr g n sz f=>exact other (λ_ h=>by cases h) h
  | gone g=>exact other (λ_ h=>by cases h) h
  | kar=>exact other (λ_ h=>by cases h) h
def Cv.pubB {l}{hs hs'}{ids}(k)(h:KL (BT hs) k hs=some (hs',ids)):Cv (Aq l hs) (Aq l (JV ids 0 hs')):=by
 intro N E φ a w f;have hg:=f.hp.gone (ids:=ids);obtain⟨g,n⟩:=OX h;refine⟨B6 ids φ,⟨f.sz,f.df,f.old.ext Cw,λB=>?_,⟨hg.sub,λid p e=>?_,hg.inj,hg.free⟩,λj hj=>?_,λj hj=>?_⟩,Cw⟩
 .have hv:V w _ _ (Cs B l) _:=f.tm B;exact hv.ext Cw
 .have h1:=hg.ob id p e;have o:id<hs.length:=ArW λC=>by
   have:=(Cq (ids:=ids)).2 (f.fr id (Nat.le_of_not_lt C));rw[this]at e;cases e
  have m:=UM ids hs' 0 id oM;rw[Ar4]at m;show ObV w E (B6 ids φ) ((JV ids 0 hs').getD id (.gone 0)) p;rw[m];rcases n id o with⟨s,C⟩ | ⟨cs,r,s,J,K,L⟩
  .rw[s];exact h1
  .rw[J];have t:∀q,φ id=some q->ObV w E φ (.box cs) q:=λq i=>by
    have:=f.hp.ob id q i;have u:(Aq l hs).H id=.box cs:=s;rw[u]at this;exact this
   have v:(bif ids.any (Nat.beq id)then Ob.box (r.map (·.1))else Ob.box (r.map (·.1)))=Ob.box (r.map (·.1)):=by cases ids.any (Nat.beq id)<;>rfl
   show ObV w E (B6 ids φ) (bif ids.any (Nat.beq id)then Ob.box (r.map (·.1))else Ob.box (r.map (·.1))) p;rw[v];have hp:∃q,φ id=some q/\(p=q\/p=Wg q):=by
    unfold B6 at e;cases i:ids.any (Nat.beq id)with
    | false=>rw[i]at e;exact⟨p,e,.inl rfl⟩
    | true =>
     rw[i]at e;simp only[Art,ArE]at e;obtain⟨q,h1,h2⟩:=e;exact⟨q,h1,.inr h2.symm⟩
   obtain⟨q,i,A⟩:=hp;have F:=t q i;cases q with
   | arr=>exact F.elim
   | box b =>
    have:p=.box b:=by rcases A with h|h<;>exact h
    subst this;obtain⟨c,ty,k1,k2⟩:=F;obtain⟨M,O⟩:=Du K;refine⟨c,ty,k1,⟨by simp[M,k2.1],λj y G=>?_⟩⟩;simp only[Ar1,ArE]at G;obtain⟨z,I,rfl⟩:=G;obtain⟨x,P,Q⟩:=O j z I;exact(V.unhold (GK f.hp (ids:=ids) k _ _ _ _ (k2.2 j x P) Q (L z (Asb I)))).held
 .have d:(JV ids 0 hs').length<=j:=hj;rw[MW,g]at d;exact Cq.2 (f.fr j d)
 .have d:j<(JV ids 0 hs').length:=hj;rw[MW,g]at d;exact λh=>f.lv j d (Cq.1 h)
def Au.cv {c}{rel}{st a}(h:Cv st a)(k:Au c rel a):Au c rel st:=Sat.cv h k
def AhG (r:VV->VV->Bool):List VV->List VV->Bool
 | [],[]=>true
 | y::ys,x::xs=>r y x&&AhG r ys xs
 | _,_=>false
def leF:Nat->VV->VV->Bool
 | 0,_,_=>false
 | _+1,.sc u,.sc v=>Alc u v
 | _+1,.nl,.nl=>true
 | _+1,.nl,.sl _ n _ _=>Nat.beq n 0
 | k+1,.sl z n s f,.sl z' n' s' a=>(z==z')&&(Nat.beq n n'&&(Nat.beq s s'&&CL n λi=>AhG (leF k) (f i) (a i)))
 | k+1,.agg ys,.agg xs=>AhG (leF k) ys xs
 | _+1,_,_=>false
def Q2 {r}(a:∀y x,r y x->VV.le y x):∀{ys xs},AhG r ys xs->leL ys xs
 | [],[],_=>trivial
 | y::ys,x::xs,h=>by
  simp only[AhG,Arr]at h;exact⟨a _ _ h.1,Q2 a h.2⟩
 | [],_::_,h=>by cases h
 | _::_,[],h=>by cases h
def Acp:∀(k)(y x),leF k y x->VV.le y x
 | 0,_,_,h=>by cases h
 | k+1,y,x,h=>by
  unfold leF at h;split at h
  .cases h
  .obtain rfl:=Alb h;exact lR
  .exact lR
  .obtain rfl:=Aru h;exact Ar2
  .simp only[Arr,beq_iff_eq]at h;obtain⟨rfl,h1,h2,h3⟩:=h;obtain rfl:=Aru h1;exact Asy (.inl (Aru h2)) λi hi=>Q2 (λy x h=>Acp _ y x h) (A0.1 h3 i hi)
  .exact Asi (Q2 (λy x h=>Acp _ y x h) h)
  .cases h
def YY (k:Nat):List Ob->List Ob->Bool
 | [],[]=>true
 | .box cs::l,.box cs'::l'=>AhG (leF k) cs cs'&&YY k l l'
 | .gone g::l,.gone g'::l'=>Nat.beq g g'&&YY k l l'
 | _,_=>false
def Wd {k}:∀{l l'},YY k l l'->leO l l'
 | [],[],_=>trivial
 | .box cs::l,.box cs'::l',h=>by
  simp only[YY,Arr]at h;exact⟨Atm (Q2 (λy x h=>Acp _ y x h) h.1),Wd h.2⟩
 | .gone g::l,.gone g'::l',h=>by
  simp only[YY,Arr]at h;obtain rfl:=Aru h.1;exact⟨Ob.le_refl _,Wd h.2⟩
 | [],_::_,h=>by cases h
 | .box _::_,[],h=>by cases h
 | .box _::_,.arr ..::_,h=>by cases h
 | .box _::_,.gone _::_,h=>by cases h
 | .gone _::_,[],h=>by cases h
 | .gone _::_,.arr ..::_,h=>by cases h
 | .gone _::_,.box _::_,h=>by cases h
 | .arr ..::_,_,h=>by simp[YY]at h
 | .kar ..::_,_,h=>by simp[YY]at h
 | .box _::_,.kar ..::_,h=>by cases h
 | .gone _::_,.kar ..::_,h=>by cases h
def Au.pubB {c}{rel}{l}{hs hs'}(k n)(h:(match KL (BT hs) k hs with
  | some q=>YY n (JV q.2 0 q.1) hs'
  | none=>false)=true) (kk:Au c rel (Aq l hs')):Au c rel (Aq l hs):=by
 split at h
 .rename_i q a;exact Au.cv (Cv.pubB (hs':=q.1) (ids:=q.2) k a) (Au.le (AH _) (Wd h) kk)
 .cases h
def KU (ids:List Nat)(i:Nat):Bool:=ids.any (Nat.beq i)
def AaB (H:Nat->Ob)(ids:List Nat):Nat->VV->Option VV
 | k+1,.tup xs=>(DF (AaB H ids k) xs).map .tup
 | k+1,.agg xs=>(DF (AaB H ids k) xs).map .agg
 | _,.ow id g n=>bif KU ids id then(match FC H 9 (.ow id g n)with
   | some p=>bif p.2.all (KU ids)then some p.1 else none
   | none=>none)else some (.ow id g n)
 | _,x=>some x
def AmV (H:Nat->Ob)(ids:List Nat)(j:Nat)(o:Ob):Option Ob :=
 bif KU ids j then some (DD ids (λ_=>o) j)else match o with
  | .kar g n sz k r f=>match DF (FC H 9) r with
   | some q=>bif(q.flatMap (·.2)).all (KU ids)then some (.arr true g n sz (Kk k (q.map (·.1)) f))else none
   | none=>none
  | o=>some o
def AmW (H:Nat->Ob)(ids:List Nat):Nat->List Ob->Option (List Ob)
 | _,[]=>some []
 | j,o::l=>match AmV H ids j o,AmW H ids (j+1) l with
  | some a,some b=>some (a::b)
  | _,_=>none
section
variable {w : World} {E:A2} {φ:Phi} {H:Nat->Ob} {ids:List Nat}
def Aew {l:List Nat}(h:l.all (KU ids)):∀i∈l,i∈ids:=λi hi=>V2.1 (Ar3.1 h i hi)
def AmX (h:HRel E H φ w):∀(k)(x y)(v),V w (E.up φ) (some φ) x v->AaB H ids k x=some y->V w (E.up (B6 ids φ)) (some (B6 ids φ)) y v:=by
 have base:∀{x y:VV}{v:Value},V w (E.up φ) (some φ) x v->some x=some y->V w (E.up (B6 ids φ)) (some (B6 ids φ)) y v:=λhv e=>by
  obtain rfl:=ArS e;exact hv.ext Cw
 have a:∀{id g n:Nat}{y:VV}{v:Value},V w (E.up φ) (some φ) (.ow id g n) v->(bif KU ids id then(match FC H 9 (.ow id g n)with
   | some p=>bif p.2.all (KU ids)then some p.1 else none
   | none=>none)else some (.ow id g n))=some y->V w (E.up (B6 ids φ)) (some (B6 ids φ)) y v:=λ{id g n y v} hv e=>by
  cases hi:KU ids id with
  | false=>rw[hi,Arq]at e;exact base hv e
  | true =>
   rw[hi,Art]at e;split at e
   .rename_i p hp;cases b:p.2.all (KU ids)with
    | false=>rw[b]at e;cases e
    | true =>
     rw[b,Art]at e;obtain rfl:=ArS e;exact V.held (V.unhold (GK h 9 _ _ _ p.2 hv hp (Aew b)))
   .cases e
 intro k
 induction k with
 | zero =>
  intro x y v hv e;cases x with
  | ow id g n=>exact a hv e
  | _=>exact base hv e
 | succ k ih =>
  intro x y v hv e;have rec':∀{cs ys:List VV}{vs:Array Value},DF (AaB H ids k) cs=some ys->(∀(j:Nat) x,cs[j]?=some x->V w (E.up φ) (some φ) x (vs.getD j undef))->ys.length=cs.length/\∀(j:Nat) x,ys[j]?=some x->V w (E.up (B6 ids φ)) (some (B6 ids φ)) x (vs.getD j undef):=λh1 h2=>by
   obtain⟨f,i⟩:=Du h1;refine⟨f,λj z l=>?_⟩;obtain⟨u,m,o⟩:=i j z l;exact ih u z _ (h2 j u m) o
  cases x with
  | ow id g n=>exact a hv e
  | tup cs =>
   simp only[AaB,ArE]at e;obtain⟨ys,c,rfl⟩:=e;cases hv with|tup h1 h2 =>
   obtain⟨g1,d⟩:=rec' c h2;exact .tup (by rw[h1,g1]) d
  | agg cs =>
   simp only[AaB,ArE]at e;obtain⟨ys,c,rfl⟩:=e;obtain⟨vs,rfl,h1,h2⟩:=hv.agg_inv;obtain⟨g1,d⟩:=rec' c h2;exact .agg (by rw[h1,g1]) d
  | _=>exact base hv e
def AmU (h:HRel E H φ w){j}{o}(e:AmV H ids j (H j)=some o){p}(hp:B6 ids φ j=some p):ObV w E (B6 ids φ) o p:=by
 have hg:=h.gone (ids:=ids);have d:=hg.ob j p hp;unfold AmV at e;cases hi:KU ids j with
 | true =>
  rw[hi,Art]at e;obtain rfl:=ArS e;exact d
 | false =>
  rw[hi,Arq]at e;have C:DD ids H j=H j:=by unfold DD;rw[show ids.any (Nat.beq j)=false from hi];rfl
  rw[C]at d;have F:φ j=some p:=by unfold B6 at hp;rw[show ids.any (Nat.beq j)=false from hi]at hp;exact hp
  have l:=h.ob j p F;cases B:H j with
  | kar g n sz k r f =>
   rw[B]at e d l;simp only at e;split at e
   .rename_i q M;cases G:(q.flatMap (·.2)).all (KU ids)with
    | false=>rw[G]at e;cases e
    | true =>
     rw[G,Art]at e;obtain rfl:=ArS e;have s:=Aew G;cases p with
     | box b=>exact d.elim
     | arr c m hd =>
      obtain⟨rfl,rfl,I,J⟩:=l;obtain⟨C,N⟩:=Du M;refine⟨rfl,rfl,I.both J (λi hi=>?_) λi j x hi v u L y=>?_⟩
      .by_cases a:i=k
       .subst a;rw[Di,Di,Asr,C]
       .rw[Cz a,Cz a]
      .by_cases a:i=k
       .subst a;rw[Di]at v L;rw[Ar1]at v;obtain⟨p,A,rfl⟩:=ArE.1 v;obtain⟨z,O,K⟩:=N j p A;exact GK h 9 z p.1 u p.2 (L z O) K λt P=>s t (Atf.2 ⟨p,Asb A,P⟩)
       .rw[Cz a]at v y;exact(y x v).less (λj hj=>hj.imp (λh=>h) λh=>GC h) λ_ h=>h
   .cases e
  | box cs=>rw[B]at e d;obtain rfl:=ArS e;exact d
  | arr=>rw[B]at e d;obtain rfl:=ArS e;exact d
  | gone=>rw[B]at e d;obtain rfl:=ArS e;exact d
end
def AdS {H}{ids}:∀{l l'}{j},AmW H ids j l=some l'->l'.length=l.length/\∀i,i<l.length->AmV H ids (j+i) (l.getD i (.gone 0))=some (l'.getD i (.gone 0))
 | [],l',j,h=>by
  obtain rfl:=ArS h;exact⟨rfl,λi hi=>absurd hi (Asm i)⟩
 | o::l,l',j,h=>by
  simp only[AmW]at h;split at h
  .rename_i a b c d;obtain rfl:=ArS h;obtain⟨e,f⟩:=AdS d;refine⟨by simp[e],λi hi=>?_⟩
   match i with
   | 0=>exact c
   | i+1=>rw[show j+(i+1)=j+1+i by omega];exact f i (Nat.lt_of_succ_lt_succ hi)
  .cases h
def Ai.sel {P}{f}{hs a hs2}{xs}{r r2}(h:Ai P f hs xs a r)(ids)(d:AaB (BT a) ids 9 r=some r2)(g:AmW (BT a) ids 0 a=some hs2):Ai P f hs xs hs2 r2:=by
 refine h.conv λw E φ v b hφ _ hv=>?_
 obtain⟨i,j⟩:=AdS g;have hg:=b.gone (ids:=ids);refine⟨B6 ids φ,⟨hg.sub,λid p e=>?_,hg.inj,hg.free⟩,Cw,λid=>?_,AmX b 9 _ _ _ hv d⟩
 .have c:id<a.length:=(hφ id).1 λk=>by have:=(Cq (ids:=ids)).2 k;rw[this]at e;cases e
  have:=j id c;rw[Ar4]at this;exact AmU b this e
 .rw[i,<- hφ id];exact not_congr Cq
def AJ (x:D.State)(g c p:VV):List VV:=[g,c,p,Aa x.Last,Aa x.Alone,Aa x.Claim]
def C4 (x:D.State):List VV:=AJ x (Ac true x.Globals) (AG false x.Chans) (Aw false x.Procs)
def obG (s:D.State):Ob:=.arr true 0 s.Globals.length 1 (AD s.Globals)
def Od (p:D.Process)(id:Nat):List VV:=[Aa p.Type_,Aa p.Loc,Aa p.Prio,.ow id 0 p.Frame.length]
def obK (s:D.State)(w id:Nat):Ob:=.kar 0 s.Procs.length 4 w (Od (s.Procs.getD w default) id) (B2 s.Procs)
def obF (p:D.Process):Ob:=.arr true 0 p.Frame.length 1 (AD p.Frame)
def AcS (s:D.State):List VV:=AJ s (.ow 0 0 s.Globals.length) (.ow 1 0 s.Chans.length) (.ow 2 0 s.Procs.length)
def XE:Shp:={α:=D.State×Nat,enc:=λy=>([obG y.1,obC y.1,obK y.1 y.2 3,obF (y.1.Procs.getD y.2 default)],.agg (AcS y.1))}
def AdP:Shp:={α:=List Int,enc:=λy=>([.arr true 0 y.length 1 (AD y)],.ow 0 0 y.length)}
def Vy (f:FuncId):Shp:=bif Nat.beq f 29 then AdP else Tx f
def Arl (f:FuncId):Shp:=bif Nat.beq f 15 then XE else Tx f
def Aou (s:D.State)(cs:List D.Chan)(k:Int):St:=Aq [(1,.bp 0 0),(2,.bp 1 0),(3,.bp 2 0),(19,AG false s.Chans),(20,Aa s.Chans.length),(21,Aa k)] [.box (C4 s),.box DY,.box (AJ s (.ow 3 0 s.Globals.length) (.ow 4 0 cs.length) .nl),obG s,.arr true 0 cs.length 2 (Cn cs)]
def Aot (s:D.State)(cs:List D.Chan)(k:Int)(c:D.Chan)(q:List (List Int))(j:Int):St:=Aq [(1,.bp 0 0),(2,.bp 1 0),(3,.bp 2 0),(5,.bp 5 0),(6,.ow 6 0 q.length),(19,AG false s.Chans),(20,Aa s.Chans.length),(21,Aa k),(26,BI true c.Queue),(27,Aa c.Queue.length),(28,Aa j)] [.box (C4 s),.box DY,.box (AJ s (.ow 3 0 s.Globals.length) (.ow 4 0 cs.length) .nl),obG s,.arr true 0 cs.length 2 (Cn cs),.box (Am c),.arr true 0 q.length 1 (BE q)]
def lKc (s:D.State)(k:Int):List (Nat×VV):=[(2,.bp 0 0),(3,.bp 1 0),(49,Aw false s.Procs),(50,Aa s.Procs.length),(51,Aa k)]
def AcA (s:D.State)(n:Nat)(o:List Ob):List Ob:=[.box DY,.box (AJ s (.ow 2 0 s.Globals.length) (.ow 3 0 s.Chans.length) (.ow 4 0 n)),obG s,obC s]++o
def AdK (s:D.State)(ps:List D.Process)(k:Int):St:=Aq (lKc s k) (AcA s ps.length [.arr true 0 ps.length 4 (B2 ps)])
def AjA (s:D.State)(ps:List D.Process)(w:Nat)(k:Int):St:=Aq (lKc s k) (AcA s ps.length [.kar 0 ps.length 4 w [] (B2 ps)])
def Ajz (s:D.State)(ps:List D.Process)(w:Nat)(p:D.Process)(k:Int):St:=Aq (lKc s k) (AcA s ps.length [.kar 0 ps.length 4 w (Od p 5) (B2 ps),obF p])
def AhI (hs')(r)(s):(BO prog tb Vy E6 false f15 hs' (r)).goal (St.init [] [.agg (C4 s)]) =
  ∃(y:_),Ai prog 29 [] [Ac true s.Globals] [Ob.arr true 0 y.length 1 (AD y)] (VV.ow 0 0 y.length)/\Au (BO prog tb Vy E6 false f15 hs' r) [1,1,1,1,0,1,0] (Aq [(1,VV.bp 0 0),(2,VV.bp 1 0),(3,VV.bp 2 0),(19,AG false s.Chans),(20,Aa (↑s.Chans.length)),(21,Aa 0)] [Ob.box (C4 s),Ob.box [VV.nl,VV.nl,VV.nl,Aa 0,Aa 0,Aa 0],Ob.box (AJ s (VV.ow 3 0 y.length) VV.nl VV.nl),Ob.arr true 0 y.length 1 (AD y)]):=kR
def Acv (hs')(r)(s)(cs)(k)(J){a}(b:a=s.Chans.getD k.toNat default){z2}(c:z2=BO prog tb Vy E6 false f15 hs' r){z3}(d:z3=[VV.nl,VV.nl,VV.nl,Aa 0,Aa 0,Aa 0]):((BO prog tb Vy E6 false f15 hs' (r)).loop [1,1,1,1,0,1,0] J).goal (Aou s cs k) =
  BB (decide (k<(↑s.Chans.length))) (inX k s.Chans.length/\Au (z2.loop [1,1,1,1,0,1,0] J) [1,1,0,0,1,1,0,1,0] (Aq [(1,.bp 0 0),(2,.bp 1 0),(3,.bp 2 0),(5,.bp 5 0),(6,.nl),(19,AG false s.Chans),(20,Aa (↑s.Chans.length)),(21,Aa k),(26,BI true a.Queue),(27,Aa (↑a.Queue.length)),(28,Aa 0)] [.box (C4 s),.box z3,.box (AJ s (.ow 3 0 s.Globals.length) (.ow 4 0 cs.length) .nl),obG s,.arr true 0 cs.length 2 (Cn cs),.box (Am a)])) (Au z2 [1,1,1,1,1,0,1,0] (Aq [(2,.bp 0 0),(3,.bp 1 0),(49,Aw false s.Procs),(50,Aa (↑s.Procs.length)),(51,Aa 0)] [.box z3,.box (AJ s (.ow 2 0 s.Globals.length) (.ow 3 0 cs.length) .nl),obG s,.arr true 0 cs.length 2 (Cn cs)])):=by subst b c d;kernel_rfl
def Acu (hs')(r)(s)(cs)(k)(c)(q)(j)(J J2){a}(b:a=[VV.nl,VV.nl,VV.nl,Aa 0,Aa 0,Aa 0]):(((BO prog tb Vy E6 false f15 hs' (r)).loop [1,1,1,1,0,1,0] J).loop [1,1,0,0,1,1,0,1,0] J2).goal (Aot s cs k c q j) =
  BB (decide (j<(↑c.Queue.length))) (inX j c.Queue.length/\∃(y:_),VC 30 [Ac true (c.Queue.getD j.toNat [])] (Ac true y)/\(q.length+1)*24<=140737488355328/\J2 (Aq [(1,.bp 0 0),(2,.bp 1 0),(3,.bp 2 0),(5,.bp 5 0),(6,.ow 6 0 (q.length+1)),(19,AG false s.Chans),(20,Aa (↑s.Chans.length)),(21,Aa k),(26,BI true c.Queue),(27,Aa (↑c.Queue.length)),(28,Aa (i64.wrap (j+(1))))] [.box (C4 s),.box a,.box (AJ s (.ow 3 0 s.Globals.length) (.ow 4 0 cs.length) .nl),obG s,.arr true 0 cs.length 2 (Cn cs),.box (Am c),.arr true 0 (q.length+1) 1 λ(i)=>bif i.blt q.length then[Ac true (q.getD i [])]else(λ(i)=>List.take 1 (List.drop (i*1) [Ac true y])) (i-q.length)])) ((cs.length+1)*32<=140737488355328/\J (Aq [(1,.bp 0 0),(2,.bp 1 0),(3,.bp 2 0),(19,AG false s.Chans),(20,Aa (↑s.Chans.length)),(21,Aa (i64.wrap (k+(1))))] [.box (C4 s),.box a,.box (AJ s (.ow 3 0 s.Globals.length) (.ow 4 0 (cs.length+1)) .nl),obG s,.arr true 0 (cs.length+1) 2 λ(i)=>bif i.blt cs.length then Am (cs.getD i default)else(λ(i)=>(List.map (λ(x)=>x.fst) [([Aa c.Shape,BI true q],List.flatMap (λ(x)=>x.snd) [(Aa c.Shape,[]),(BI true q,[6])])]).getD i []) (i-cs.length)])):=by subst b;kernel_rfl
def Acs (hs')(r)(s)(ps)(k)(J){a}(b:a=s.Procs.getD k.toNat default):((BO prog tb Vy E6 false f15 hs' (r)).loop [1,1,1,1,1,0,1,0] J).goal (AdK s ps k) =
  BB (decide (k<(↑s.Procs.length))) (inX k s.Procs.length/\∃(y:_),Ai prog 29 [] [Ac true a.Frame] [.arr true 0 y.length 1 (AD y)] (.ow 0 0 y.length)/\(ps.length+1)*48<=140737488355328/\J (Aq [(2,.bp 0 0),(3,.bp 1 0),(49,Aw false s.Procs),(50,Aa (↑s.Procs.length)),(51,Aa (i64.wrap (k+(1))))] [.box [.nl,.nl,.nl,Aa 0,Aa 0,Aa 0],.box (AJ s (.ow 2 0 s.Globals.length) (.ow 3 0 s.Chans.length) (.ow 4 0 (ps.length+1))),obG s,obC s,.arr true 0 (ps.length+1) 4 λ(i)=>bif i.blt ps.length then Ap (ps.getD i default)else(λ(i)=>(List.map (λ(x)=>x.fst) [([Aa a.Type_,Aa a.Loc,Aa a.Prio,Ac true y],List.flatMap (λ(x)=>x.snd) [(Aa a.Type_,[]),(Aa a.Loc,[]),(Aa a.Prio,[]),(Ac true y,[6])])]).getD i []) (i-ps.length)])) (leO [obG s,obC s,.arr true 0 ps.length 4 (B2 ps)] hs'/\(VV.agg (AJ s (.ow 0 0 s.Globals.length) (.ow 1 0 s.Chans.length) (.ow 2 0 ps.length))).le r):=by subst b;kernel_rfl
def Acr (hs')(r)(s)(ps)(w)(k)(J){a}(b:a=s.Procs.getD k.toNat default):((BO prog tb Vy E6 false f15 hs' (r)).loop [1,1,1,1,1,0,1,0] J).goal (AjA s ps w k) =
  BB (decide (k<(↑s.Procs.length))) (inX k s.Procs.length/\∃(y:_),Ai prog 29 [] [Ac true a.Frame] [.arr true 0 y.length 1 (AD y)] (.ow 0 0 y.length)/\(ps.length+1)*48<=140737488355328/\ps.length=w/\J (Aq [(2,.bp 0 0),(3,.bp 1 0),(49,Aw false s.Procs),(50,Aa (↑s.Procs.length)),(51,Aa (i64.wrap (k+(1))))] [.box [.nl,.nl,.nl,Aa 0,Aa 0,Aa 0],.box (AJ s (.ow 2 0 s.Globals.length) (.ow 3 0 s.Chans.length) (.ow 4 0 (ps.length+1))),obG s,obC s,Ob.kar 0 (ps.length+1) 4 w [Aa a.Type_,Aa a.Loc,Aa a.Prio,.ow 5 0 y.length] (B2 ps),.arr true 0 y.length 1 (AD y)])) (leO [obG s,obC s,Ob.kar 0 ps.length 4 w [] (B2 ps)] hs'/\(VV.agg (AJ s (.ow 0 0 s.Globals.length) (.ow 1 0 s.Chans.length) (.ow 2 0 ps.length))).le r):=by subst b;kernel_rfl
def Acq (hs')(r)(s)(ps)(w)(p)(k)(J){a}(b:a=s.Procs.getD k.toNat default):((BO prog tb Vy E6 false f15 hs' (r)).loop [1,1,1,1,1,0,1,0] J).goal (Ajz s ps w p k) =
  BB (decide (k<(↑s.Procs.length))) (inX k s.Procs.length/\∃(y:_),Ai prog 29 [] [Ac true a.Frame] [.arr true 0 y.length 1 (AD y)] (.ow 0 0 y.length)/\(ps.length+1)*48<=140737488355328/\w<ps.length/\J (Aq [(2,.bp 0 0),(3,.bp 1 0),(49,Aw false s.Procs),(50,Aa (↑s.Procs.length)),(51,Aa (i64.wrap (k+(1))))] [.box [.nl,.nl,.nl,Aa 0,Aa 0,Aa 0],.box (AJ s (.ow 2 0 s.Globals.length) (.ow 3 0 s.Chans.length) (.ow 4 0 (ps.length+1))),obG s,obC s,Ob.kar 0 (ps.length+1) 4 w [Aa p.Type_,Aa p.Loc,Aa p.Prio,.ow 5 0 p.Frame.length] λ(i)=>bif i.blt ps.length then Ap (ps.getD i default)else(λ(i)=>(List.map (λ(x)=>x.fst) [([Aa a.Type_,Aa a.Loc,Aa a.Prio,Ac true y],List.flatMap (λ(x)=>x.snd) [(Aa a.Type_,[]),(Aa a.Loc,[]),(Aa a.Prio,[]),(Ac true y,[7])])]).getD i []) (i-ps.length),obF p])) (leO [obG s,obC s,Ob.kar 0 ps.length 4 w [Aa p.Type_,Aa p.Loc,Aa p.Prio,.ow 3 0 p.Frame.length] (B2 ps),obF p] hs'/\(VV.agg (AJ s (.ow 0 0 s.Globals.length) (.ow 1 0 s.Chans.length) (.ow 2 0 ps.length))).le r):=by subst b;kernel_rfl
def Nh (hs')(r)(e)(x v){d}(f:d=λ(a:D.State×Nat)=>AJ a.fst (VV.ow 0 0 a.fst.Globals.length) (VV.ow 1 0 a.fst.Chans.length) (VV.ow 2 0 a.fst.Procs.length)){c}(g:c=λ(a:D.State×Nat)=>a.fst.Procs.getD a.snd default){h}(i:h=[VV.nl,VV.nl,VV.nl,Aa 0,Aa 0,Aa 0]):(BO prog tb Arl AV false f171 hs' (r)).goal (St.init [] [.agg (Bq e),Aa x,Aa v]) =
  ∃(y:_),VC 85 [.agg (Bq e),Aa x] (Aa y)/\BB (y != 0) (leO [] hs'/\(VV.tup [.agg h,Aa y]).le r) (∃(y:_),VC 130 [.tp (Bq e),Aa x] (Kt y)/\BB (y.snd.snd != 0) (leO [] hs'/\(VV.tup [.agg h,Aa y.snd.snd]).le r) (∃(a:_),Ai prog 15 [] [.agg (C4 e.S)] [obG a.fst,obC a.fst,obK a.fst a.snd 3,obF (c a)] (.agg (d a))/\BB (decide (y.fst<0)) (inX y.snd.fst e.M.Globals.length/\∃(b:_),VC 204 [.agg (Bp (e.M.Globals.getD y.snd.fst.toNat default)),Aa v] (Aa b)/\inX y.snd.fst a.fst.Globals.length/\leO [.arr true 0 a.fst.Globals.length 1 λ(j)=>bif j.beq y.snd.fst.toNat then[Aa b]else[Aa (a.fst.Globals.getD j 0)],obC a.fst,obK a.fst a.snd 3,obF (c a)] hs'/\(VV.tup [.agg (d a),Aa 0]).le r) (inX y.fst a.fst.Procs.length/\y.fst.toNat=a.snd/\inX y.fst a.fst.Procs.length/\y.fst.toNat=a.snd/\inX (c a).Type_ e.M.Procs.length/\inX y.snd.fst (e.M.Procs.getD (c a).Type_.toNat default).Frame.length/\∃(b:_),VC 204 [.agg (Bp ((e.M.Procs.getD (c a).Type_.toNat default).Frame.getD y.snd.fst.toNat default)),Aa v] (Aa b)/\inX y.snd.fst (c a).Frame.length/\leO [obG a.fst,obC a.fst,obK a.fst a.snd 3,.arr true 0 (c a).Frame.length 1 λ(j)=>bif j.beq y.snd.fst.toNat then[Aa b]else[Aa ((c a).Frame.getD j 0)]] hs'/\(VV.tup [.agg (d a),Aa 0]).le r))):=by subst f g i;kernel_rfl
end Go.Proofs.YtboifkdeeigcaaaGreatDoor
namespace Go.Proofs.YtboifkdeeigcaaaGreatDoor
open Go.RowKit Go.Proofs.Tryz
open IntKind(i64)
def Ml:Phi:=λ_=>none
def Ai.handN {P}{f}{xs}{r}{obs}(m:Il P f)
  (h:∀(w:World)(E:A2)(vs:Array Value),(∀k,E.fz k->k<w.heap.size)->Df w->(∀k,k∈FF->k<w.heap.size)->(∀k,E.br k->E.fz k)->Dw w E none xs vs ->
   Calls P f vs w λe w'=>∃v pls,e=.returned v/\E7 w E Ml 0 obs pls w'/\V w' (E.up (addP Ml 0 pls)) (some (addP Ml 0 pls)) r v):Ai P f [] xs obs r:=by
 refine⟨m,λw E φ vs d l hφ hs=>?_⟩;obtain rfl:φ=Ml:=funext λid=>ArW λc=>by have:=(hφ id).1 c;simp at this
 have b:∀id,Ml id=none:=λ_=>rfl
 refine(h w E vs d.lt d.lib.at' d.lib.lt l.sub ⟨hs.1,λj x n=>?_⟩).mono ?_
 .exact((hs.2 j x n).unmap b).less (λk hk=>.inl hk) λk hk=>.inl hk
 .rintro e w' ⟨v,pls,rfl,c,hv⟩;have a:∀i,i<obs.length->Ml (0+i)=none:=λ_ _=>rfl
  refine⟨v,addP Ml 0 pls,rfl,l.news d.lt c a (λk hk=>absurd rfl hk) λi o p=>?_,AsU (c.ext a),λid=>?_,hv⟩
  .unfold BT;rw[Ar4,ArN,p];rfl
  .rcases Ar5 id obs.length with g|g
   .have q:id<pls.length:=by rw[c.len];exact g
    have:=Fv (φ:=Ml) (nx:=0) (pls:=pls) (i:=id) (ArF q);rw[Ar4]at this;rw[this];simp[g]
   .rw[ED (.inr (by rw[c.len];omega))];simp[Ml];omega
def Ana {w}{n0 sz n}{e}{v}{xs}(h:w.ownsRow n0 e sz v n xs)(b:∀u∈xs,u.oneCell') :
  ∃hd,hdV hd n v/\(∀k cap,hd=some (k,cap)->v.ownBlock=some k/\n0<=k/\∃cur,w.heap[k]?=some (.cells cur e (0,0))) /\
   ∀(E) (φ) (f),(∀i,i<n->(f i).length=sz)->(∀i j x,i<n->(f i)[j]?=some x->V w (E.up φ).hold none x (xs.getD (i*sz+j) undef))->Ht w E φ true n sz f hd:=by
 obtain⟨o,⟨rfl,rfl⟩ | ⟨g,cap,cur,rfl,hg,l,h1,h2,h3,h4⟩⟩:=h
 .exact⟨none,⟨rfl,rfl⟩,(λk cap h=>by cases h),λ_ _ _ _ _=>rfl⟩
 .have p:n*sz<=cur.size:=by rw[h3];exact ArO _ h1
  have cell:∀k,k<n*sz->cur.getD k undef=xs.getD k undef:=λk hk=>by
   have d:k<cur.size:=oM
   rw[<- h4];simp[List.getD,Array.getD,d,hk]
  refine⟨some (g,cap),⟨rfl,h1⟩,λk c hk=>?_,λE φ f a hv=>⟨cur,e,l,h3,h1,h2,a,λi j x hi m=>?_,λk hk=>?_⟩⟩
  .simp only[Ars,Ar6]at hk;obtain⟨rfl,rfl⟩:=hk;exact⟨rfl,hg,cur,l⟩
  .have hj:j<sz:=by rw[<- a i hi];exact(ArB.1 m).1
   have hk:i*sz+j<n*sz:=by
    have:(i+1)*sz<=n*sz:=ArO _ hi;rw[Nat.succ_mul]at this;omega
   show V w (E.up φ).hold none x _;rw[cell _ hk];exact hv i j x hi m
  .rw[cell k hk];refine b _ ?_;have:k<xs.length:=by rw[o];exact hk
   simp[List.getD,this]
def G4 {xs}(g:xs.length*8<=140737488355328):Ai prog 29 [] [Ac true xs] [.arr true 0 xs.length 1 (AD xs)] (.ow 0 0 xs.length):=by
 refine Ai.handN ⟨_,func29,rfl,kR⟩ λw E vs s t _ h hs=>?_
 obtain⟨v,us1,rfl,l,hs⟩:=hs.cons_inv;obtain rfl:=hs.nil_inv;obtain⟨ao,cap,rfl,h1,h2,h3⟩:=V.sl_inv l;refine(Zr h1 h2 g λhp=>?_).mono ?_
 .obtain⟨b,off,rfl,_,_,_,u,m,hv⟩:=h3 hp;refine⟨_,rfl,λi hi=>?_⟩;have c:=m i 0 _ hi rfl;have d:=(hv i 0 _ hi rfl).sc_inv;rw[Addr.add_lit];rw[d]at c;simpa using c
 .rintro e w' ⟨n,rfl,o,p⟩;obtain⟨hd,c,d,q⟩:=Ana o (λu r=>by
   obtain⟨x,_,rfl⟩:=AsD.1 r;rfl)
  have f:addP Ml 0 [Pl.arr 0 xs.length hd] 0=some (.arr 0 xs.length hd):=Fv (nx:=0) (i:=0) rfl;refine⟨n,[Pl.arr 0 xs.length hd],rfl,E7.one (Room.one p λk hk=>?_) ⟨rfl,rfl,q E _ _ (λ_ _=>rfl) λi j x hi a=>?_⟩,.ow f (Arx _) c λ_=>⟨rfl,Arx _⟩⟩
  .obtain⟨cap',hk⟩:=hk;exact(d k cap' hk).2.1
  .match j,a with
   | 0,a =>
    obtain rfl:=ArS a;have:(xs.map (Value.int .i64)).getD (i*1+0) undef=.int .i64 (xs.getD i 0):=by simp[List.getD,hi]
    rw[this];exact .sc
   | j+1,a=>simp[AD]at a
def Ai.more {P}{f}{hs a}{xs}{r}(h:Ai P f hs xs a r)(sz)(g):Ai P f hs xs (a++[.arr true 0 0 sz g]) r :=
 h.conv λw E φ v b hφ c hv=>by
  obtain⟨h1,h2,h3,_⟩:=Aee b hφ c sz g;exact⟨_,h1,h2,h3,hv.ext h2⟩
def Pa {s}(B:Fit s)(w){hs'}{r}(h1:w<s.Procs.length->leO [obG s,obC s,obK s w 3,obF (s.Procs.getD w default)] hs')(h2:s.Procs.length<=w->leO [obG s,obC s,obP s] hs')(O:VV.le (.agg (AcS s)) r) :
  Ai prog 15 [] [.agg (C4 s)] hs' r:=by
 have hg:=B.g;have Q:=B.c;have hp:=B.p;refine Ay func15 (AhI hs' r s) ⟨s.Globals,G4 oM,?_⟩;refine Az (λg st=>∃k:Nat,k<=s.Chans.length/\g=s.Chans.length-k/\st=Aou s (s.Chans.take k) k) ⟨_,Up.cv (Atd 2 1 2 (Cn []) rfl rfl) (Up.of ⟨0,Arv _,rfl,rfl⟩)⟩ ?_;rintro g st ⟨k,hk,rfl,rfl⟩;have a:(s.Chans.take k).length=k:=by simp;omega
 refine ArC (Acv _ _ s (s.Chans.take k) k _ rfl rfl rfl) ⟨λy=>?_,λb=>?_⟩
 .have z:k<s.Chans.length:=by have:=AQ y;omega
  have t:(k:Int).toNat=k:=oM
  rw[t];have u:s.Chans.take (k+1)=s.Chans.take k++[s.Chans.getD k default]:=Dh z;have I:=B.q _ (Av (d:=default) z);generalize s.Chans.getD k default=c at u I |-;refine⟨⟨oM,oM⟩,?_⟩;refine Au.own 4 6 1 (BE []) rfl ?_;refine Az (λg st=>∃j:Nat,j<=c.Queue.length/\g=c.Queue.length-j/\st=Aot s (s.Chans.take k) k c (c.Queue.take j) j) ⟨_,Up.of ⟨0,Arv _,rfl,rfl⟩⟩ ?_;rintro g st ⟨j,hj,rfl,rfl⟩;have M:(c.Queue.take j).length=j:=by simp;omega
  refine ArC (Acu _ _ s (s.Chans.take k) k c (c.Queue.take j) j _ _ rfl) ⟨λe=>?_,λm=>?_⟩
  .have v:j<c.Queue.length:=by have:=AQ e;omega
   have J:(j:Int).toNat=j:=oM
   rw[J];have o:c.Queue.take (j+1)=c.Queue.take j++[c.Queue.getD j []]:=Dh v;have R:=I.2 _ (Av (d:=[]) v);refine⟨⟨oM,oM⟩,c.Queue.getD j [],Qg oM,by rw[M];omega,c.Queue.length-(j+1),oM,?_⟩;rw[Aj oM];refine Up.mk (l':=[(1,.bp 0 0),(2,.bp 1 0),(3,.bp 2 0),(5,.bp 5 0),(6,.ow 6 0 (c.Queue.take (j+1)).length),(19,AG false s.Chans),(20,Aa s.Chans.length),(21,Aa k),(26,BI true c.Queue),(27,Aa c.Queue.length),(28,Aa ((j+1:Nat):Int))])
    (hs':=[.box (C4 s),.box DY,.box (AJ s (.ow 3 0 s.Globals.length) (.ow 4 0 (s.Chans.take k).length) .nl),obG s,.arr true 0 (s.Chans.take k).length 2 (Cn (s.Chans.take k)),.box (Am c),.arr true 0 (c.Queue.take (j+1)).length 1 (BE (c.Queue.take (j+1)))]) ?_ ?_ ⟨j+1,oM,rfl,rfl⟩
   .rw[o,ArA];exact AH _
   .rw[o,ArA];refine⟨Ob.le_refl _,Ob.le_refl _,Ob.le_refl _,Ob.le_refl _,Ob.le_refl _,Ob.le_refl _,ArT λi hi=>AO ?_,trivial⟩;refine Bu (l:=c.Queue.take j) (r:=[c.Queue.getD j []]) (f:=λw=>[Ac true w]) (d:=[]) (F:=λi=>[Ac true ((c.Queue.take j).getD i [])]) (G:=λi=>List.take 1 (List.drop (i*1) [Ac true (c.Queue.getD j [])])) (λi hi=>rfl) (λi hi=>?_) (by simpa using hi);obtain rfl:i=0:=by simpa using hi
    rfl
  .have C:c.Queue.length<=j:=by have:=AP m;omega
   rw[Ar8 C];refine⟨by rw[a];omega,s.Chans.length-(k+1),oM,?_⟩;rw[Aj oM];refine Up.mk (l':=[(1,.bp 0 0),(2,.bp 1 0),(3,.bp 2 0),(19,AG false s.Chans),(20,Aa s.Chans.length),(21,Aa ((k+1:Nat):Int))])
    (hs':=[.box (C4 s),.box DY,.box (AJ s (.ow 3 0 s.Globals.length) (.ow 4 0 (s.Chans.take (k+1)).length) .nl),obG s,.arr true 0 (s.Chans.take (k+1)).length 2 (Cn (s.Chans.take (k+1)))]) (AH _) ?_ ⟨k+1,oM,rfl,rfl⟩
   rw[u,ArA];refine⟨Ob.le_refl _,Ob.le_refl _,Ob.le_refl _,Ob.le_refl _,ArT λi hi=>AO ?_,trivial⟩;exact Bu (l:=s.Chans.take k) (r:=[c]) (f:=Am) (d:=default) (F:=λi=>Am ((s.Chans.take k).getD i default)) (G:=λi=>[Am c].getD i []) (λi hi=>rfl) gD (by simpa using hi)
 have A:s.Chans.length<=k:=by have:=AP b;omega
 rw[Ar8 A];clear A b a hk;refine Au.cv (Atd 1 2 4 (B2 []) rfl rfl) ?_;have K:∀k:Nat,k<=w->k<=s.Procs.length->Up (λst=>(k<w\/s.Procs.length<=w)/\k<=w/\st=AdK s (s.Procs.take k) k\/k=w/\k<s.Procs.length/\st=AjA s (s.Procs.take k) w k\/w<k/\st=Ajz s (s.Procs.take k) w (s.Procs.getD w default) k) (AdK s (s.Procs.take k) k):=λk hk n=>by
  by_cases h:k<w\/s.Procs.length<=w
  .exact Up.of (.inl ⟨h,hk,rfl⟩)
  .exact Up.mk (l':=lKc s k) (hs':=AcA s (s.Procs.take k).length [.kar 0 (s.Procs.take k).length 4 w [] (B2 (s.Procs.take k))]) (AH _) ⟨Ob.le_refl _,Ob.le_refl _,Ob.le_refl _,Ob.le_refl _,AtA (by rw[Ast];omega),trivial⟩ (.inr (.inl ⟨oM,oM,rfl⟩))
 have x:∀k,k<s.Procs.length->(s.Procs.take (k+1)).length=(s.Procs.take k).length+1:=λk hk=>by rw[Ast,Ast];omega
 have app:∀(k:Nat),k<s.Procs.length->∀i,i<(s.Procs.take k).length+1->(bif Nat.blt i (s.Procs.take k).length then Ap ((s.Procs.take k).getD i default)else[Ap (s.Procs.getD k default)].getD (i-(s.Procs.take k).length) [])=B2 (s.Procs.take (k+1)) i:=λk hk i hi=>by
  rw[Dh hk];exact Bu (l:=s.Procs.take k) (r:=[s.Procs.getD k default]) (f:=Ap) (d:=default) (F:=λi=>Ap ((s.Procs.take k).getD i default)) (G:=λi=>[Ap (s.Procs.getD k default)].getD i []) (λi hi=>rfl) (λi hi=>by
   obtain rfl:i=0:=by simpa using hi
   rfl) (by simpa using hi)
 refine Az (λg st=>∃k:Nat,k<=s.Procs.length/\g=s.Procs.length-k/\((k<w\/s.Procs.length<=w)/\k<=w/\st=AdK s (s.Procs.take k) k\/k=w/\k<s.Procs.length/\st=AjA s (s.Procs.take k) w k\/w<k/\st=Ajz s (s.Procs.take k) w (s.Procs.getD w default) k))
  ⟨_,let ⟨E,h1,h2⟩:=K 0 (Arv _) (Arv _);⟨E,h1,0,Arv _,rfl,h2⟩⟩ ?_
 rintro g st ⟨k,hk,rfl,h⟩;have t:(k:Int).toNat=k:=oM
 have a:(s.Procs.take k).length=k:=by simp;omega
 rcases h with⟨y,P,rfl⟩ | ⟨rfl,H,rfl⟩ | ⟨y,rfl⟩
 .refine ArC (Acs _ _ s (s.Procs.take k) k _ rfl) ⟨λe=>?_,λb=>?_⟩
  .have n:k<s.Procs.length:=by have:=AQ e;omega
   rw[t];have I:=B.f _ (Av (d:=default) n);refine⟨⟨oM,oM⟩,_,G4 oM,by rw[a];omega,s.Procs.length-(k+1),oM,?_⟩;rw[Aj oM];obtain⟨E,h1,h2⟩:=K (k+1) oM oM;have L:=app k n;refine Up.cv (Qo.mk' (AH _) (l':=lKc s ((k+1:Nat):Int)) (hs':=AcA s (s.Procs.take (k+1)).length [.arr true 0 (s.Procs.take (k+1)).length 4 (B2 (s.Procs.take (k+1)))]) ?_).cv ⟨E,h1,k+1,oM,rfl,h2⟩;rw[x k n];exact⟨Ob.le_refl _,Ob.le_refl _,Ob.le_refl _,Ob.le_refl _,ArT λi hi=>AO (L i hi),trivial⟩
  .have m:s.Procs.length<=k:=by have:=AP b;omega
   rw[Ar8 m];exact⟨h2 oM,O⟩
 .refine ArC (Acr _ _ s (s.Procs.take k) k k _ rfl) ⟨λ_=>?_,λb=>?_⟩
  .rw[t];have I:=B.f _ (Av (d:=default) H);refine⟨⟨oM,oM⟩,_,G4 oM,by rw[a];omega,a,s.Procs.length-(k+1),oM,?_⟩;rw[Aj oM];have L:=app k H;refine Up.mk (l':=lKc s ((k+1:Nat):Int)) (hs':=AcA s (s.Procs.take (k+1)).length [.kar 0 (s.Procs.take (k+1)).length 4 k (Od (s.Procs.getD k default) 5) (B2 (s.Procs.take (k+1))),obF (s.Procs.getD k default)]) (AH _) ?_ ⟨k+1,oM,rfl,.inr (.inr ⟨Asq k,rfl⟩)⟩;rw[x k H];refine⟨Ob.le_refl _,Ob.le_refl _,Ob.le_refl _,Ob.le_refl _,Atx (λi hi N=>AO ?_) (D0 _),Ob.le_refl _,trivial⟩;rw[<- L i hi,show Nat.blt i (s.Procs.take k).length=true from Nat.ble_eq_true_of_le oM,Art];rfl
  .have:=AP b;omega
 .refine ArC (Acq _ _ s (s.Procs.take k) w (s.Procs.getD w default) k _ rfl) ⟨λe=>?_,λb=>?_⟩
  .have n:k<s.Procs.length:=by have:=AQ e;omega
   rw[t];have I:=B.f _ (Av (d:=default) n);refine⟨⟨oM,oM⟩,_,G4 oM,by rw[a];omega,by rw[a];exact y,s.Procs.length-(k+1),oM,?_⟩;rw[Aj oM];have L:=app k n;refine Up.mk (l':=lKc s ((k+1:Nat):Int)) (hs':=AcA s (s.Procs.take (k+1)).length [.kar 0 (s.Procs.take (k+1)).length 4 w (Od (s.Procs.getD w default) 5) (B2 (s.Procs.take (k+1))),obF (s.Procs.getD w default)]) (AH _) ?_ ⟨k+1,oM,rfl,.inr (.inr ⟨oM,rfl⟩)⟩;rw[x k n];exact⟨Ob.le_refl _,Ob.le_refl _,Ob.le_refl _,Ob.le_refl _,Atx (λi hi N=>AO (L i hi)) (D0 _),Ob.le_refl _,trivial⟩
  .have m:s.Procs.length<=k:=by have:=AP b;omega
   rw[Ar8 m];exact⟨h1 oM,O⟩
def AnB {g n s k}{r}{f}(h:n<=k):Ob.le (.arr true g n s f) (.kar g n s k r f):=λw E φ p hp=>by
 obtain⟨h1,h2⟩:=Et.1 (AtA h w E φ p hp);exact Et.2 ⟨ArT (λi hi=>by rw[Cz oM,Cz oM];exact D0 _) w E φ p h1,h2⟩
def Ap1 {s}:leS (.agg (Ae s)) (.agg (C4 s)):=by
 refine Wb rfl λj x y a b=>?_
 rcases Ar5 j 6 with hj|hj
 .rcases(show j=0\/j=1\/j=2\/j=3\/j=4\/j=5 by omega)with rfl|rfl|rfl|rfl|rfl|rfl <;>
   (obtain rfl:=ArS a;obtain rfl:=ArS b;first | exact Dd _ | exact IM)
 .rw[AsI (by show(6:Nat)<=j;exact hj)]at a;cases a
def SF {s}(a:Fit s)(w):Ai prog 15 [] [.agg (C4 s)] [obG s,obC s,obK s w 3,obF (s.Procs.getD w default)] (.agg (AcS s)):=by
 rcases Ar5 w s.Procs.length with h|h
 .exact Pa a w (λ_=>⟨Ob.le_refl _,Ob.le_refl _,Ob.le_refl _,Ob.le_refl _,trivial⟩) (λb=>oM) lR
 .have h1:=(Pa a w (hs':=[obG s,obC s,obP s]) (λb=>oM) (λ_=>⟨Ob.le_refl _,Ob.le_refl _,Ob.le_refl _,trivial⟩) lR).more 1 (AD []);refine h1.le trivial (D0 _) ⟨Ob.le_refl _,Ob.le_refl _,AnB h,?_,trivial⟩ lR;rw[show s.Procs.getD w default=default by simp[List.getD,h]];exact Ob.le_refl _
def Pi {s}(c:Fit s):Ai prog 15 [] [.agg (Ae s)] [obC s,obP s] (.agg (CH s (.ow 0 0 s.Chans.length) (.ow 1 0 s.Procs.length))):=by
 have h:=(Pa c s.Procs.length (hs':=[obG s,obC s,obP s]) (λd=>oM) (λ_=>⟨Ob.le_refl _,Ob.le_refl _,Ob.le_refl _,trivial⟩) lR).frz (ys:=[.agg (Ae s)]) rfl λj x y a b=>?_
 .exact(h.sel [0] (hs2:=[.gone 1,obC s,obP s]) (r2:=.agg (AJ s (Ac true s.Globals) (.ow 1 0 s.Chans.length) (.ow 2 0 s.Procs.length))) kR kR).pick [1,2] rfl λj hj=>absurd hj (Asm j)
 .match j,a,b with
  | 0,a,b=>obtain rfl:=ArS a;obtain rfl:=ArS b;exact Ap1
  | j+1,a,_=>simp at a
def Xi {f}{xs}{S}{w}{p}{rows}{y}(h:Ai prog f [] xs [obG S,obC S,.kar 0 S.Procs.length 4 w (Od p 3) rows,obF p] (.tup [.agg (AcS S),.sc y]))
  (a:∀i,i<S.Procs.length->Kk w (Ap p) rows i=B2 S.Procs i):Ai prog f [] xs [obC S,obP S] (.tup [.agg (CH S (.ow 0 0 S.Chans.length) (.ow 1 0 S.Procs.length)),.sc y]) :=
 Ai.le (hs:=[]) (xs:=xs) (hs':=[obC S,.arr true 0 S.Procs.length 4 (Kk w (Ap p) rows)]) (r:=.tup [.agg (CH S (.ow 0 0 S.Chans.length) (.ow 1 0 S.Procs.length)),.sc y])
  ((h.sel [0,3] (hs2:=[.gone 1,obC S,.arr true 0 S.Procs.length 4 (Kk w (Ap p) rows),.gone 1]) (r2:=.tup [.agg (AJ S (Ac true S.Globals) (.ow 1 0 S.Chans.length) (.ow 2 0 S.Procs.length)),.sc y]) kR kR).pick [1,2] rfl λj hj=>absurd hj (Asm j))
  trivial (D0 _) ⟨Ob.le_refl _,ArT λi hi=>AO (a i hi),trivial⟩ lR
def Ai.thawP {P}{f}{xs ys ws zs}{r}(h:Ai P f [] (.tp xs::zs) [] r)(l:Ts r)(c:Kx ys xs)(i:Kx ws zs):Ai P f [] (.tp ys::ws) [] r:=by
 refine Ai.hand h.callable λw E vs n m hB o hs=>?_
 refine(h.start m hB ⟨hs.1.trans (congrArg (·+1) (IV i)),λj x a=>?_⟩).mono ?_
 .match j,a with
  | 0,a =>
   obtain rfl:=ArS a;have k:=hs.2 0 _ rfl;generalize vs.getD 0 undef=p at k;cases k with
   | tp u h1 _ h3 h4 =>
    refine .tp u h1 (λh=>h) (λj x a=>?_) λj x a=>?_<;>obtain⟨y,b,d⟩:=HJ c j x a
    .exact h3 j y b
    .exact d _ _ _ (h4 j y b) _
  | j+1,a =>
   obtain⟨y,b,d⟩:=HJ i j x (by simpa using a);exact d _ _ _ (hs.2 (j+1) y (by simpa using b)) _
 .rintro e w' ⟨v,rfl,g,hv⟩;exact⟨v,rfl,l _ _ _ _ _ _ hv,g⟩
def Afn {e}:Kx (Bq e) (Af e):=⟨Bs rfl,Bs rfl,Bs rfl,Bs rfl,Bs rfl,Bs rfl,Bs rfl,Bs rfl,Qu λ_ _=>IU rfl,Qu λ_ _=>IU rfl,Bs rfl,Bs rfl,Bs rfl,Bs rfl,Bs rfl,Bs rfl,trivial⟩
def Ai.ownA {P:Program}{f:FuncId}{hs b:List Ob}{xs ys:List VV}{y:VV}(h:Ai P f hs xs b (.tup [.agg ys,y]))(j:Nat)(sz:Nat)(g:Nat->List VV)(hj:ys[j]?=some .nl:=by rfl):Ai P f hs xs (b++[.arr true 0 0 sz g]) (.tup [.agg (ys.set j (.ow b.length 0 0)),y]) :=
 h.conv λw E φ v d hφ k hv=>by
  obtain⟨h1,h2,h3,h4⟩:=Aee d hφ k sz g;refine⟨_,h1,h2,h3,?_⟩;cases hv with|tup k1 k2 =>
  refine .tup k1 λi x a=>?_
  match i,a with
  | 1,a=>exact(k2 1 x a).ext h2
  | 0,a =>
   obtain rfl:=ArS a;obtain⟨vs,e,l1,l2⟩:=(k2 0 _ rfl).agg_inv;rw[e];refine .agg (by simp[l1]) λi x a=>?_
   rw[Ato]at a;split at a
   .rename_i c;subst c;split at a
    .obtain rfl:=ArS a;rw[(l2 j _ hj).nl_inv];exact .ow h4 (Arx _) (hd0:=none) ⟨rfl,rfl⟩ λ_=>⟨rfl,Arx _⟩
    .cases a
   .exact(l2 i x a).ext h2
  | i+2,a=>simp at a
def Acf {l:List Int}{k:Nat}{y}:Ob.le (.arr true 0 l.length 1 λj=>bif Nat.beq j k then[Aa y]else[Aa (l.getD j 0)]) (.arr true 0 (l.set k y).length 1 (AD (l.set k y))):=by
 rw[Asn];refine ArT λi hi=>AO ?_
 show _=[Aa ((l.set k y).getD i 0)]
 by_cases h:i=k
 .subst h;rw[Asz,Art];simp[List.getD,hi]
 .rw[Bw h,Arq];simp[List.getD,Ne.symm h]
def RJ {e}(d:AS e.M)(hs:BX e.S)(x v):Ai prog 171 [] [.agg (Bq e),Aa x,Aa v] [obC (Bm e x v).1,obP (Bm e x v).1]
  (.tup [.agg (CH (Bm e x v).1 (.ow 0 0 (Bm e x v).1.Chans.length) (.ow 1 0 (Bm e x v).1.Procs.length)),Aa (Bm e x v).2]):=by
 have lz:∀{y:Int},VV.le (.tup [VV.agg [VV.nl,VV.nl,VV.nl,Aa 0,Aa 0,Aa 0],Aa y]) (.tup [.agg (CH default .nl .nl),Aa y]):=Aso ⟨Asi ⟨Ar2,lR,lR,lR,lR,lR,trivial⟩,lR,trivial⟩;have f:=(JY d hs x).thaw KN (show Kx [VV.agg (Bq e),Aa x] [.agg (Af e),Aa x]from⟨Nu,Qv,trivial⟩);have bad:∀{y:Int},Bm e x v=(default,y)->Ai prog 171 [] [.agg (Bq e),Aa x,Aa v] [] (.tup [.agg (CH default .nl .nl),Aa y])->Ai prog 171 [] [.agg (Bq e),Aa x,Aa v] [obC (Bm e x v).1,obP (Bm e x v).1]
  (.tup [.agg (CH (Bm e x v).1 (.ow 0 0 (Bm e x v).1.Chans.length) (.ow 1 0 (Bm e x v).1.Procs.length)),Aa (Bm e x v).2]):=λz h=>by
  rw[z];exact(h.ownA 1 2 (Cn [])).ownA 2 4 (B2 [])
 have b:Bm e x v=bif decide (C7 e x≠0)then(default,C7 e x)
  else bif decide ((B9 e (Gh e) (As e.M x)).2.2≠0)then(default,(B9 e (Gh e) (As e.M x)).2.2)
  else(JD e.M e.S (B9 e (Gh e) (As e.M x)).1 (B9 e (Gh e) (As e.M x)).2.1 v,0):=rfl
 cases c:decide (C7 e x≠0)with
 | true =>
  rw[c,Art]at b;have no1:∀{p:Prop},(C7 e x != 0)=false->p:=λh=>by rw[AU,c]at h;cases h
  exact bad b (Ay func171 (Nh _ _ e x v rfl rfl rfl) ⟨_,f,λ_=>⟨trivial,lz⟩,(no1)⟩)
 | false =>
  rw[c,Arq]at b;have no1:∀{p:Prop},(C7 e x != 0)=true->p:=λh=>by rw[AU,c]at h;cases h
  obtain⟨j,h0,h1⟩:=MZ d (show C7 e x=0 by simpa using c);have g:=(AdN j ⟨h0,h1⟩ (Aeo j h0 h1) λa A r=>T0 j h1 A r).thawP (ys:=Bq e) (ws:=[Aa x]) (LI λx s=>by
   simp only[Asg,List.not_mem_nil,or_false]at s;rcases s with rfl|rfl|rfl<;>exact KN) (Afn) ⟨Qv,trivial⟩
  have l:=λB=>LC j h0 h1 (ev:=Gh e) B
  have t:=j.fit;generalize B9 e (Gh e) (As e.M x)=R at b g l;cases m:decide (R.2.2≠0)with
  | true =>
   rw[m,Art]at b;have no2:∀{p:Prop},(R.2.2 != 0)=false->p:=λh=>by rw[AU,m]at h;cases h
   exact bad b (Ay func171 (Nh _ _ e x v rfl rfl rfl) ⟨_,f,(no1),λ_=>⟨R,g,λ_=>⟨trivial,lz⟩,(no2)⟩⟩)
  | false =>
   rw[m,Arq]at b;have no2:∀{p:Prop},(R.2.2 != 0)=true->p:=λh=>by rw[AU,m]at h;cases h
   have u:=l (by simpa using m);cases k:decide (R.1<0)with
   | true =>
    have no3:∀{p:Prop},decide (R.1<0)=false->p:=λh=>by rw[k]at h;cases h
    have hk:=u.glob (ArD k);have h4:JD e.M e.S R.1 R.2.1 v=setG e.M e.S R.2.1 v:=by unfold JD;rw[k]<;>rfl
    rw[b];simp only;rw[h4];refine Xi (w:=R.1.toNat) (p:=e.S.Procs.getD R.1.toNat default) (rows:=B2 e.S.Procs) (Ay func171 (Nh _ _ e x v rfl rfl rfl) ⟨_,f,(no1),λ_=>⟨R,g,(no2),λ_=>⟨(e.S,R.1.toNat),SF t _,λ_=>?_,(no3)⟩⟩⟩) λi hi=>?_
    .have C:=j.globals;refine⟨⟨hk.1,oM⟩,_,KX _ _,hk,⟨Acf,Ob.le_refl _,Ob.le_refl _,Ob.le_refl _,trivial⟩,?_⟩;unfold AcS setG;simp only[Asn];exact lR
    .by_cases d:i=R.1.toNat
     .rw[d,Di]<;>rfl
     .rw[Cz d]<;>rfl
   | false =>
    have H:=ArP k;have no3:∀{p:Prop},decide (R.1<0)=true->p:=λh=>by rw[k]at h;cases h
    have hk:=u.own oM;have h4:JD e.M e.S R.1 R.2.1 v=setO e.M e.S R.1 R.2.1 v:=by unfold JD;rw[k]<;>rfl
    rw[b];simp only;rw[h4];have n:e.S.Procs.getD R.1.toNat default∈e.S.Procs:=Av oM;obtain⟨E,I,F,J,_⟩:=DN (j.proc n);have o:inX R.1 e.S.Procs.length:=⟨oM,hk.1⟩;have q:inX R.2.1 (e.S.Procs.getD R.1.toNat default).Frame.length:=⟨hk.2.1,hk.2.2⟩;refine Xi (w:=R.1.toNat) (p:=AaA e.M (e.S.Procs.getD R.1.toNat default) R.2.1 v) (rows:=B2 e.S.Procs) (Ay func171 (Nh _ _ e x v rfl rfl rfl) ⟨_,f,(no1),λ_=>⟨R,g,(no2),λ_=>⟨(e.S,R.1.toNat),SF t _,(no3),λ_=>?_⟩⟩⟩) λi hi=>?_
    .refine⟨o,rfl,o,rfl,E,⟨hk.2.1,by have:=q.2;rw[F]at this;exact this⟩,_,KX _ _,q,⟨Ob.le_refl _,Ob.le_refl _,?_,Acf,trivial⟩,?_⟩
     .unfold setO obK Od AaA;simp only[Asn];exact Ob.le_refl _
     .unfold AcS setO;simp only[Asn];exact lR
    .show _=Ap ((setO e.M e.S R.1 R.2.1 v).Procs.getD i default);unfold setO
     by_cases d:i=R.1.toNat
     .subst d;have G:R.1.toNat<e.S.Procs.length:=oM
      rw[Di];simp[List.getD,G]
     .rw[Cz d];simp[B2,List.getD,Ne.symm d]
def Amr (r:D.State×ByteArray×Int)(e)(w){k}(l:k=λ(a:D.Env×ByteArray×Int)=>λ(b:D.Trans)=>λ(j:Nat)=>bif j.beq w.With.toNat then[Aa (a.fst.S.Procs.getD w.With.toNat default).Type_,Aa b.To,Aa (a.fst.S.Procs.getD w.With.toNat default).Prio,Ac true (a.fst.S.Procs.getD w.With.toNat default).Frame]else Ap (a.fst.S.Procs.getD j default)){d}(m:d=VV.tup [VV.agg (Ae r.fst),AI r.snd.fst,Aa r.snd.snd]){f}(n:f=[VV.nl,VV.nl,VV.nl,Aa 0,Aa 0,Aa 0]){g}(o:g=[VV.agg (Af e)]):(fc Tx AV f49 [] (.tup [.agg (Ae r.1),AI r.2.1,Aa r.2.2])).goal (St.init [] [.agg (Af e),.agg (AW w)]) =
  ∃(y:_),VC 72 g (Aa y)/\BB (y != 0) (LQ (.tup [.agg f,AI (⟨#[]⟩),Aa y]) d) (∃(y:_),VC 52 g (AZ true y)/\∃(h:_),VC 73 [AZ true y,.agg (AW w)] (Ad h)/\BB (!h) (LQ (.tup [.agg f,AI (⟨#[]⟩),Aa 42]) d) (BB (w.Err != 0) (LQ (.tup [.agg f,AI (⟨#[]⟩),Aa w.Err]) d) (BB (decide (w.Way<0)) (∃(y:_),VC 74 g (.agg (Ae y))/\LQ (.tup [.agg (Ae y),AI (⟨#[]⟩),Aa 0]) d) (∃(y:_),Ai prog 15 [] [.agg (Ae e.S)] [obC y,obP y] (.agg (CH y (.ow 0 0 y.Chans.length) (.ow 1 0 y.Procs.length)))/\∃(i:_),VC 76 g (.agg (A4 i))/\∃(c:_),VC 75 [.agg (A4 i),Aa w.Esc,Aa w.Way] (.agg (DK c))/\∃(a:_),Ai prog 77 [.box [AE true e.M.Globals,Ac true e.M.Init,A1 true e.M.Shapes,Ac true e.M.Chans,Bb true e.M.Procs,Aa e.M.Claim,Bf true e.M.Exprs,Ac true y.Globals,.ow 1 0 y.Chans.length,.ow 2 0 y.Procs.length,Aa y.Last,Aa y.Alone,Aa y.Claim,Aa e.Pid,Ad e.Timeout,AM true e.Able],obC y,obP y] [.bp 0 0,.agg (An c.S),.agg (AW w)] (hsE a.fst) (.tup [AI a.snd.fst,Aa a.snd.snd])/\BB (a.snd.snd != 0) (LQ (.tup [.agg f,AI (⟨#[]⟩),Aa a.snd.snd]) d) (BB (decide (w.With>=0)) (∃(y:_),VC 76 [.agg [AE true e.M.Globals,Ac true e.M.Init,A1 true e.M.Shapes,Ac true e.M.Chans,Bb true e.M.Procs,Aa e.M.Claim,Bf true e.M.Exprs,Ac true e.S.Globals,AG true e.S.Chans,Aw true e.S.Procs,Aa e.S.Last,Aa e.S.Alone,Aa e.S.Claim,Aa w.With,Ad e.Timeout,AM true e.Able]] (.agg (A4 y))/\∃(b:_),VC 75 [.agg (A4 y),Aa w.WithEsc,Aa w.WithWay] (.agg (DK b))/\inX w.With a.fst.S.Procs.length/\inX e.Pid a.fst.S.Procs.length/\LQ (.tup [.agg [Ac true a.fst.S.Globals,AG true a.fst.S.Chans,.sl true a.fst.S.Procs.length 4 λ(j)=>bif j.beq e.Pid.toNat then bif Nat.beq 1 4 then[Aa c.To]else List.take 1 ((k a b) e.Pid.toNat)++[Aa c.To]++List.drop 2 ((k a b) e.Pid.toNat)else(k a b) j,Aa e.Pid,Aa a.fst.S.Alone,Aa a.fst.S.Claim],AI a.snd.fst,Aa 0]) d) (inX e.Pid a.fst.S.Procs.length/\LQ (.tup [.agg [Ac true a.fst.S.Globals,AG true a.fst.S.Chans,.sl true a.fst.S.Procs.length 4 λ(j)=>bif j.beq e.Pid.toNat then[Aa (a.fst.S.Procs.getD e.Pid.toNat default).Type_,Aa c.To,Aa (a.fst.S.Procs.getD e.Pid.toNat default).Prio,Ac true (a.fst.S.Procs.getD e.Pid.toNat default).Frame]else Ap (a.fst.S.Procs.getD j default),Aa e.Pid,Aa a.fst.S.Alone,Aa a.fst.S.Claim],AI a.snd.fst,Aa 0]) d)))))):=by subst l m n o;kernel_rfl
def Ae4 (l)(r)(m)(s){a}(b:a=(↑s.Procs.length:Int)){c}(d:c=fc Tx L7 f27 [] (VV.tup [AM true l,Aa r])):(fc Tx L7 f27 [] (.tup [AM true l,Aa r])).goal (St.init [] [.agg (Ag m),.agg (Ae s)]) =
  ∃(y:_),VC 20 [.agg (Ag m),.agg (Ae s)] (Aa y)/\BB (y != 0) (LQ (.tup [.nl,Aa y]) (.tup [AM true l,Aa r])) (((0)<=a/\a<=a/\a*(↑1)<=140737488355328)/\Au c [1,1,1,0,1,0] (Aq [(2,.bp 0 0),(3,.bp 1 0),(7,.ow 2 0 a.toNat),(21,Aa a),(22,Aa 0)] [.box (Ag m),.box (Ae s),.arr true 0 a.toNat 1 λ(_)=>(c.T 4).zero])):=by subst b d;kernel_rfl
def AeY (y)(t)(r)(e)(s)(w){z1}(f:z1=[AI t,Aa r]){c}(g:c=VV.tup z1){h}(j:h=(leO (hsE e) (hsE y)/\(VV.tup [AI (⟨#[]⟩:ByteArray),Aa 0]).le c)){d}(k:d=(e.S.Chans.length+1)):(BO prog tb Tx AiD false f77 (hsE y) (.tup [AI t,Aa r])).goal (St.init (hsE e) [.bp 0 0,.agg (An s),.agg (AW w)]) =
  (BB (s.Kind==1) (∃(a:_),VC 121 [.agg (Ag e.M),Aa s.A] (Ad a)/\BB a (∃(b:D.Env×Int×Int),Ai prog 122 (hsE e) [.bp 0 0,Aa s.A] (hsE b.fst) (vII b.snd)/\leO (hsE b.fst) (hsE y)/\(VV.tup [AI (⟨#[]⟩),Aa b.snd.snd]).le c) h) (BB (s.Kind==2) (∃(a:D.Env×Int),Ai prog 123 (hsE e) [.bp 0 0,.agg (An s)] (hsE a.fst) (Aa a.snd)/\leO (hsE a.fst) (hsE y)/\(VV.tup [AI (⟨#[]⟩),Aa a.snd]).le c) (BB (s.Kind==3) (∃(a:_),VC 53 [.agg (Bq e),Aa s.A] (vII a)/\BB (bif a.snd==0 then a.fst==0 else false) (leO (hsE e) (hsE y)/\(VV.tup [AI (⟨#[]⟩),Aa 50]).le c) (leO (hsE e) (hsE y)/\(VV.tup [AI (⟨#[]⟩),Aa a.snd]).le c)) (BB (s.Kind==4) (∃(a:List Int×Int),Ai prog 124 [] [.agg (Bq e),Ac true s.Args] [.arr true 0 a.fst.length 1 (AD a.fst)] (.tup [.ow 0 0 a.fst.length,Aa a.snd])/\BB (a.snd != 0) (leO (hsE e) (hsE y)/\(VV.tup [AI (⟨#[]⟩),Aa a.snd]).le c) (∃(b:_),VC 125 [AI s.Text,Ac false a.fst] (AI b)/\leO (hsE e) (hsE y)/\(VV.tup [AI b,Aa 0]).le c)) (BB (s.Kind==9) (d*32<=140737488355328/\∃(a:D.Env×Int),Ai prog 126 [.box (F8 e (.ow 1 0 d) (.ow 2 0 e.S.Procs.length)),.arr true 0 d 2 λ(i)=>bif i.blt e.S.Chans.length then Am (e.S.Chans.getD i default)else(λ(i)=>List.take 2 (List.drop (i*2) [Aa s.N,.nl])) (i-e.S.Chans.length),obP e.S] [.bp 0 0,Aa s.A,Aa (↑d)] (hsE a.fst) (Aa a.snd)/\leO (hsE a.fst) (hsE y)/\(VV.tup [AI (⟨#[]⟩),Aa a.snd]).le c) (BB (s.Kind==5) (∃(a:D.Env×Int),Ai prog 127 (hsE e) [.bp 0 0,.agg (An s),.agg (AW w)] (hsE a.fst) (Aa a.snd)/\leO (hsE a.fst) (hsE y)/\(VV.tup [AI (⟨#[]⟩),Aa a.snd]).le c) (BB (s.Kind==6) (∃(a:D.Env×Int),Ai prog 128 (hsE e) [.bp 0 0,.agg (An s)] (hsE a.fst) (Aa a.snd)/\leO (hsE a.fst) (hsE y)/\(VV.tup [AI (⟨#[]⟩:ByteArray),Aa a.snd]).le c) h))))))):=by subst f g j k;kernel_rfl
def Z7 (l)(r)(m)(s)(l')(k)(J):((fc Tx L7 f27 [] (.tup [AM true l,Aa r])).loop [1,1,1,0,1,0] J).goal (Adx m s l' k) =
  BB (decide (k<(↑s.Procs.length))) (∃(y:_),VC 52 [VV.agg [AE true m.Globals,Ac true m.Init,A1 true m.Shapes,Ac true m.Chans,Bb true m.Procs,Aa m.Claim,Bf true m.Exprs,Ac true s.Globals,AG true s.Chans,Aw true s.Procs,Aa s.Last,Aa s.Alone,Aa s.Claim,Aa k,Ad false,VV.nl]] (AZ true y)/\inX k l'.length/\J (Aq [(2,VV.bp 0 0),(3,VV.bp 1 0),(7,VV.ow 2 0 l'.length),(21,Aa (↑s.Procs.length)),(22,Aa (i64.wrap (k+(1))))] [Ob.box (Ag m),Ob.box (Ae s),Ob.arr true 0 l'.length 1 λ(j)=>bif j.beq k.toNat then[Ad (decide ((↑y.length:Int) > 0))]else[Ad (l'.getD j false)]])) (LQ (VV.tup [AM true l',Aa 0]) (VV.tup [AM true l,Aa r])):=kR
end Go.Proofs.YtboifkdeeigcaaaGreatDoor
namespace Go.Proofs.YtboifkdeeigcaaaGreatDoor
open Go.RowKit Go.Proofs.Tryz
open IntKind(i64)
def CF (l:D.Loc)(esc:Int):List D.Trans:=bif decide (esc<0)then l.Out else l.Esc.getD esc.toNat []
def YQ:∀{r} {k} {i} {ws},(i,ws)∈SO k r->∃j:Nat,i=(k+j:Nat)/\r[j]?=some ws
 | [],k,i,ws,h=>by cases h
 | w::r,k,i,ws,h=>by
  rcases Asg.1 h with h|h
  .simp only[Ar6]at h;obtain⟨rfl,rfl⟩:=h;exact⟨0,oM,rfl⟩
  .obtain⟨j,hj,a⟩:=YQ h;exact⟨j+1,oM,by simpa using a⟩
def HA {l}{i}{ws}(h:(i,ws)∈Fb l):CF l i=ws/\-1<=i/\i<l.Esc.length/\(ws=l.Out\/ws∈l.Esc):=by
 rcases ArX.1 h with h|h
 .obtain⟨j,rfl,hj⟩:=YQ h;obtain⟨a,rfl⟩:=ArB.1 hj;refine⟨?_,oM,oM,.inr (Atr _)⟩;unfold CF;grind
 .simp only[Ar0,Ar6]at h;obtain⟨rfl,rfl⟩:=h;exact⟨rfl,oM,oM,.inl rfl⟩
section
variable {e : D.Env} {mt:Int->List Int->List Pn} {ws:List D.Trans} {self:Bool}
def Ajm {s}(h:(Cg e mt s self).is=false):(Cg e mt s self).wth=[]:=by
 unfold Cg at h |-;split
 .cases CJ e s.A<;>rfl
 .rename_i n1;rw[ArG n1]at h;split
  .cases CJ e s.B<;>rfl
  .rename_i n2;rw[ArG n2]at h;split
   .rfl
   .rename_i a;rw[ArG a]at h;split
    .rename_i b;rw[ArY b]at h;unfold FB at h |-;cases c:decide ((AK e s.A).2≠0)with
     | true=>rfl
     | false =>
     rw[c,Arq]at h;rw[Arq];cases d:decide ((Bh e (AK e s.A).1).length≠s.Args.length)with
     | true=>rfl
     | false =>
     rw[d,Arq]at h;rw[Arq];cases f:decide (0<(B8 e.M (BS e (AK e s.A).1).Shape).Room)with
     | true=>rfl
     | false =>
     rw[f,Arq]at h;rw[Arq];cases g:self with
     | true=>rfl
     | false =>
     rw[g,Arq]at h;rw[Arq];cases i:decide ((AC e s).2.2≠0)with
     | true=>rfl
     | false =>
     simp_all
    grind
def Afw {s}(h:s.Kind=7):Cg e mt s self=⟨false,0,[]⟩:=by
 unfold Cg;grind
def XA:∀{n},Ez e mt ws self n=false->∀j,j<n->(Cg e mt (ws.getD j default).S self).is=false
 | 0,_,j,hj=>absurd hj (Asm j)
 | n+1,h,j,hj=>by
  unfold Ez at h;rw[ArJ]at h;rcases AsR.1 hj with a|rfl
  .exact XA h.1 j a
  .exact h.2
def Aon (x:Ab):Prop:=x.is=true\/x.wth≠[]
def Al9 {j}(hk:(ws.getD j default).S.Kind=7)(h:Aon (Ek e mt ws self j)):Ez e mt ws self ws.length=false:=by
 unfold Ek at h;rw[Afw hk,show decide ((ws.getD j default).S.Kind=7)=true by simpa using hk]at h;cases hs:Ez e mt ws self ws.length with
 | false=>rfl
 | true =>
  rw[hs]at h;rcases h with h|h
  .cases h
  .exact absurd rfl h
def Al8 {j}(hj:j<ws.length)(hs:Ez e mt ws self ws.length=false)(h:Aon (Ek e mt ws self j)):(ws.getD j default).S.Kind=7:=by
 refine ArW λb=>?_
 have a:=XA hs j hj;have c:=Ajm a;unfold Ek at h;rw[show decide ((ws.getD j default).S.Kind=7)=false by simpa using b]at h;rcases h with h|h
 .grind
 .exact h c
def Ahw {i}{k}{x}{w}(h:w∈FV i k x):w.Esc=i/\w.Way=k/\Aon x:=by
 rcases ArX.1 h with h|h
 .cases c:(x.is&&decide (x.wth.length=0))with
  | false=>rw[c]at h;cases h
  | true =>
   rw[c]at h;obtain rfl:=Ar0.1 h;simp only[Arr]at c;exact⟨rfl,rfl,.inl c.1⟩
 .obtain⟨p,hp,rfl⟩:=AsD.1 h;refine⟨rfl,rfl,.inr ?_⟩;grind
def Sx {i}:∀{l}{k}{w},w∈C6 i k l->∃(j:_)(x:_),l[j]?=some x/\w.Esc=i/\w.Way=(k+j:Nat)/\Aon x
 | [],k,w,h=>by cases h
 | x::r,k,w,h=>by
  rcases ArX.1 (show w∈FV i k x++C6 i (k+1) r from h)with h|h
  .obtain⟨h1,h2,h3⟩:=Ahw h;exact⟨0,x,rfl,h1,h2,h3⟩
  .obtain⟨j,y,h1,h2,h3,h4⟩:=Sx h;exact⟨j+1,y,h1,h2,by rw[h3];congr 1;omega,h4⟩
def SV {j}{x}(h:(Dv e mt ws self)[j]?=some x):j<ws.length/\x=Ek e mt ws self j:=by
 unfold Dv at h;grind
theorem P7:∀{r},Ff e r=[]\/∃i ws,(i,ws)∈r/\Ff e r=C6 i 0 (Dv e (B0 e) ws false)
 | []=>.inl rfl
 | (i,ws)::r=>by
  have a:Ff e ((i,ws)::r)=bif decide (0<(C6 i 0 (Dv e (B0 e) ws false)).length)then C6 i 0 (Dv e (B0 e) ws false)else Ff e r:=rfl
  rw[a];cases decide (0<(C6 i 0 (Dv e (B0 e) ws false)).length)with
  | true=>exact .inr ⟨i,ws,Arw,rfl⟩
  | false =>
   rcases P7 (r:=r)with h|⟨b,ws',h1,h2⟩
   .exact .inl h
   .exact .inr ⟨b,ws',ArI _ h1,h2⟩
def G0:A5 e=[]\/(∃er,A5 e=[I9 er])\/∃i ws,(i,ws)∈Fb (CA e)/\A5 e=C6 i 0 (Dv e (B0 e) ws false):=by
 unfold A5;grind[P7]
def Ro {w}(a:w∈A5 e) :
  (w.Way<0->(A5 e).length=1)/\(0<=w.Way->-1<=w.Esc/\w.Esc<(CA e).Esc.length/\∀w'∈A5 e,w'.Esc=w.Esc/\0<=w'.Way/\w'.Way<(CF (CA e) w.Esc).length /\
   (((CF (CA e) w.Esc).getD w.Way.toNat default).S.Kind=7->((CF (CA e) w.Esc).getD w'.Way.toNat default).S.Kind=7)):=by
 rcases G0 (e:=e)with h|⟨er,h⟩|⟨i,ws,hi,h⟩
 .rw[h]at a;cases a
 .rw[h]at a;obtain rfl:=Ar0.1 a;exact⟨λ_=>by rw[h]<;>rfl,λh0=>by unfold I9 at h0;simp at h0⟩
 .rw[h]at a |-;obtain⟨f,h1,h2,_⟩:=HA hi;obtain⟨j,x,g,k,d,l⟩:=Sx a;obtain⟨b1,rfl⟩:=SV g;refine⟨λm=>by rw[d]at m;omega,λ_=>⟨oM,oM,λw' b=>?_⟩⟩;obtain⟨n,s,o,p,c,q⟩:=Sx b;obtain⟨r,rfl⟩:=SV o;rw[k,f];refine⟨p,by rw[c];omega,by rw[c];omega,λhk=>?_⟩;rw[show w.Way.toNat=j by rw[d];omega]at hk;rw[show w'.Way.toNat=n by rw[c];omega];exact Al8 r (Al9 hk l) q
end
section
variable {e : D.Env}
def WX {i}:∀{l}{k},(∀x∈l,x.wth.length<=16384)->(C6 i k l).length<=l.length*16385
 | [],_,_=>Arv _
 | x::r,k,h=>by
  rw[OJ,ArA,Asc,Nat.succ_mul];have h1:=WX (i:=i) (k:=k+1) λy a=>h y (ArI _ a)
  have h2:(FV i k x).length<=16385:=by
   have b:=h x Arw;unfold FV;rw[ArA,Asr];cases(x.is&&decide (x.wth.length=0))
   .simp;omega
   .simp;omega
  omega
def Hz (h:Ci e):(A5 e).length<=16778240:=by
 rcases G0 (e:=e)with a|⟨er,a⟩|⟨i,ws,hi,a⟩
 .rw[a];simp
 .rw[a];simp
 .rw[a];obtain⟨_,_,_,b⟩:=HA hi;have c:=(h.ws (ws:=ws) (by rcases b with rfl|b;exact Arw;exact ArI _ b)).len;have h1:=WX (i:=i) (k:=0) (l:=Dv e (B0 e) ws false) (SX h);have h2:(Dv e (B0 e) ws false).length=ws.length:=by simp[Dv]
  rw[h2]at h1;have:=ArO 16385 c;omega
end
section
variable {e : D.Env} {w:Wy}
def CN:D.State:=⟨[],[],[],0,0,0⟩
def SC {c}:VV.le (.tup [.agg [.nl,.nl,.nl,Aa 0,Aa 0,Aa 0],AI ⟨#[]⟩,Aa c]) (.tup [.agg (Ae CN),AI ⟨#[]⟩,Aa c]) :=
 Aso ⟨Asi ⟨Ar2,Ar2,Ar2,lR,lR,lR,trivial⟩,lR,lR,trivial⟩
def KE {l:List D.Process}{t j:Nat}{p}(hj:j<l.length):(bif j.beq t then Ap p else Ap (l.getD j default))=Ap ((l.set t p).getD j default):=by
 cases b:j.beq t with
 | true =>
  have:=Aru b;subst this;simp[List.getD,hj]
 | false =>
  have a:t≠j:=by rintro rfl;simp at b
  simp[List.getD,a]
def Aes (m:D.Model)(s:D.State)(k:Int):D.Env:=⟨m,s,k,false,[]⟩
def Jr (m:D.Model)(s:D.State)(k:Nat):Bool:=decide (((A5 (Aes m s k)).length:Int) > 0)
def B1 (m:D.Model)(s:D.State)(k:Nat):List Bool:=(List.range s.Procs.length).map λi=>bif Nat.blt i k then Jr m s i else false
def GI {m}{s}{k}:(B1 m s k).length=s.Procs.length:=by simp[B1]
def Tp {m}{s}{k j}(hj:j<s.Procs.length):(B1 m s k).getD j false=bif Nat.blt j k then Jr m s j else false:=by
 simp[B1,List.getD,hj]
def U1 {m}{s}(n:AS m)(hs:BX s)(o:Co m s=0):Ai prog 27 [] [.agg (Ag m),.agg (Ae s)] [] (.tup [AM true (B1 m s s.Procs.length),Aa 0]):=by
 obtain⟨q,r⟩:=M1 o;have b:=SK q r;have hp:=b.p;have c:∀k:Nat,k<s.Procs.length->Ci (Aes m s k):=λk hk=>⟨⟨r,q,n,by show -1<=(k:Int);omega,by show(k:Int)<s.Procs.length;omega⟩,by show 0<=(k:Int);omega⟩
 refine Ay func27 (Ae4 (B1 m s s.Procs.length) 0 m s rfl rfl) ⟨Co m s,E0 n hs (λh=>(IK h).clp),λh1=>?_,λ_=>⟨⟨oM,oM,oM⟩,?_⟩⟩
 .rw[o]at h1;cases h1
 have f:((s.Procs.length:Int).toNat)=(B1 m s 0).length:=by rw[GI];omega
 rw[f];refine Au.le (l':=[(2,.bp 0 0),(3,.bp 1 0),(7,.ow 2 0 (B1 m s 0).length),(21,Aa s.Procs.length),(22,Aa 0)]) (hs':=[.box (Ag m),.box (Ae s),.arr true 0 (B1 m s 0).length 1 (EP (B1 m s 0))]) (AH _) ⟨Ob.le_refl _,Ob.le_refl _,ArT λi hi=>AO ?_,trivial⟩ ?_
 .rw[GI]at hi;show _=[Ad ((B1 m s 0).getD i false)];rw[Tp hi]<;>rfl
 refine AA s.Procs.length (λk=>Adx m s (B1 m s k) k) (λ_=>True) trivial ?_;intro k hk _ J next
 refine ArC (Z7 _ 0 m s (B1 m s k) k J) ⟨λg=>?_,λj=>?_⟩
 .have a:k<s.Procs.length:=by have:=AQ g;omega
  have l:(k:Int).toNat=k:=oM
  rw[l];refine⟨A5 (Aes m s k),(Kn (c k a)).le trivial ⟨Asi ⟨lR,lR,lR,lR,lR,lR,lR,lR,lR,lR,lR,lR,lR,lR,lR,Ar2,trivial⟩,trivial⟩ trivial lR,⟨oM,by rw[GI];omega⟩,next _ a trivial ?_⟩;rw[Aj oM];refine Up.mk (l':=[(2,.bp 0 0),(3,.bp 1 0),(7,.ow 2 0 (B1 m s (k+1)).length),(21,Aa s.Procs.length),(22,Aa ((k+1:Nat):Int))]) (hs':=[.box (Ag m),.box (Ae s),.arr true 0 (B1 m s (k+1)).length 1 (EP (B1 m s (k+1)))]) ?_ ?_ rfl
  .rw[GI,GI];exact AH _
  .rw[GI,GI];refine⟨Ob.le_refl _,Ob.le_refl _,ArT λi hi=>AO ?_,trivial⟩;show _=[Ad ((B1 m s (k+1)).getD i false)];rw[Tp (k:=k+1) hi];cases t:i.beq k with
   | true =>
    have:=Aru t;subst this;rw[Art,GP (Asq _)]<;>rfl
   | false =>
    rw[Arq,Tp (k:=k) hi];have u:i≠k:=by rintro rfl;simp at t
    rcases Ar5 i k with h|h
    .rw[GP h,GP oM]<;>rfl
    .rw[IA h,IA oM]<;>rfl
 .have d:k=s.Procs.length:=by have:=AP j;omega
  subst d;exact⟨trivial,lR⟩
end
def AjP:Shp:={α:=D.State×Int,enc:=λy=>([obC y.1,obP y.1],.tup [.agg (CH y.1 (.ow 0 0 y.1.Chans.length) (.ow 1 0 y.1.Procs.length)),Aa y.2])}
def Ao7:Shp:={α:=D.Chan×Int,enc:=λy=>([],.tup [.agg (Am y.1),Aa y.2])}
def XH (f:FuncId):Shp:=bif Nat.beq f 171 then AjP else bif Nat.beq f 172 then AjQ else bif Nat.beq f 174 then Ao7 else Tx f
def M4:Ann:={base:=3,keep:=fun
  | [0,1,0,1]=>[0,2,4,11,12,13]
  | _=>[]}
def Lz (e:D.Env)(s:D.Stmt)(m:List Int)(k:Int):St:=Aq [(0,.bp 0 0),(2,Ac true m),(4,.bp 3 0),(11,Ac true s.Args),(12,Aa s.Args.length),(13,Aa k)] (hsE e++[.box (An s)])
def Ra (hs')(r)(e)(x v):(BO prog tb XH AiD false f126 hs' (Aa r)).goal (St.init (hsE e) [.bp 0 0,Aa x,Aa v]) =
  ∃(y:D.State×Int),Ai prog 171 [] [VV.agg (Bq e),Aa x,Aa v] [obC y.fst,obP y.fst] (VV.tup [VV.agg (CH y.fst (VV.ow 0 0 y.fst.Chans.length) (VV.ow 1 0 y.fst.Procs.length)),Aa y.snd])/\BB (y.snd==0) (leO [Ob.box [AE true e.M.Globals,Ac true e.M.Init,A1 true e.M.Shapes,Ac true e.M.Chans,Bb true e.M.Procs,Aa e.M.Claim,Bf true e.M.Exprs,Ac true y.fst.Globals,VV.ow 3 0 y.fst.Chans.length,VV.ow 4 0 y.fst.Procs.length,Aa y.fst.Last,Aa y.fst.Alone,Aa y.fst.Claim,Aa e.Pid,Ad e.Timeout,AM true e.Able],obC e.S,obP e.S,obC y.fst,obP y.fst] hs'/\(Aa y.snd).le (Aa r)) (leO (hsE e) hs'/\(Aa y.snd).le (Aa r)):=kR
def Z1 (y)(r)(e)(s)(m):(BO prog tb XH M4 false f173 (hsE y) (Aa r)).goal (St.init (hsE e) [.bp 0 0,.agg (An s),Ac true m]) =
  Au (BO prog tb XH M4 false f173 (hsE y) (Aa r)) [1,0,1,0] (Lz e s m (0)):=kR
def WL (y)(r)(e)(s)(m)(k)(J):((BO prog tb XH M4 false f173 (hsE y) (Aa r)).loop [1,0,1,0] J).goal (Lz e s m k) =
  BB (decide (k<(↑s.Args.length))) (inX k s.Args.length/\inX k s.Match.length/\BB (s.Match.getD k.toNat 0 != 0) (J (Lz e s m (i64.wrap (k+(1))))) (inX k m.length/\∃(a:D.Env×Int),Ai prog 126 (hsE e) [VV.bp 0 0,Aa (s.Args.getD k.toNat 0),Aa (m.getD k.toNat 0)] (hsE a.fst) (Aa a.snd)/\BB (a.snd != 0) (leO (hsE a.fst) (hsE y)/\(Aa a.snd).le (Aa r)) (J (Lz a.fst s m (i64.wrap (k+(1))))))) (leO (hsE e) (hsE y)/\(Aa 0).le (Aa r)):=kR
def AeG (hs')(r)(e)(s)(w){c}(f:c=λ(y:Int×List Int×Int)=>i64.wrap (y.fst-(1:Int))):(BO prog tb XH AiD false f127 hs' (Aa r)).goal (St.init (hsE e) [.bp 0 0,.agg (An s),.agg (AW w)]) =
  ∃(y:_),VC 172 [.agg (Bq e),.agg (An s)] (.tup [Aa y.fst,Ac true y.snd.fst,Aa y.snd.snd])/\BB (y.snd.snd != 0) (leO (hsE e) hs'/\(Aa y.snd.snd).le (Aa r)) (BB (decide (w.With>=0)) (∃(b:_),VC 76 [.agg [AE true e.M.Globals,Ac true e.M.Init,A1 true e.M.Shapes,Ac true e.M.Chans,Bb true e.M.Procs,Aa e.M.Claim,Bf true e.M.Exprs,Ac true e.S.Globals,AG false e.S.Chans,Aw false e.S.Procs,Aa e.S.Last,Aa e.S.Alone,Aa e.S.Claim,Aa w.With,Ad e.Timeout,AM true e.Able]] (.agg (A4 b))/\∃(d:_),VC 75 [.agg (A4 b),Aa w.WithEsc,Aa w.WithWay] (.agg (DK d))/\∃(a:D.Env×Int),Ai prog 173 [.box [AE true e.M.Globals,Ac true e.M.Init,A1 true e.M.Shapes,Ac true e.M.Chans,Bb true e.M.Procs,Aa e.M.Claim,Bf true e.M.Exprs,Ac true e.S.Globals,.ow 1 0 e.S.Chans.length,.ow 2 0 e.S.Procs.length,Aa e.S.Last,Aa e.S.Alone,Aa e.S.Claim,Aa w.With,Ad e.Timeout,AM true e.Able],obC e.S,obP e.S] [.bp 0 0,.agg (An d.S),Ac true y.snd.fst] (hsE a.fst) (Aa a.snd)/\leO [.box [AE true e.M.Globals,Ac true e.M.Init,A1 true e.M.Shapes,Ac true e.M.Chans,Bb true e.M.Procs,Aa e.M.Claim,Bf true e.M.Exprs,Ac true a.fst.S.Globals,.ow 1 0 a.fst.S.Chans.length,.ow 2 0 a.fst.S.Procs.length,Aa a.fst.S.Last,Aa a.fst.S.Alone,Aa a.fst.S.Claim,Aa e.Pid,Ad e.Timeout,AM true e.Able],obC a.fst.S,obP a.fst.S] hs'/\(Aa a.snd).le (Aa r)) (inX (c y) e.S.Chans.length/\inX (e.S.Chans.getD (c y).toNat default).Shape e.M.Shapes.length/\∃(b:D.Chan×Int),VC 174 [.agg (BH (e.M.Shapes.getD (e.S.Chans.getD (c y).toNat default).Shape.toNat default)),.agg (Am (e.S.Chans.getD (c y).toNat default)),Ac true y.snd.fst,Ad (s.N==1)] (.tup [.agg (Am b.fst),Aa b.snd])/\inX (c y) e.S.Chans.length/\leO [.box (F8 e (.ow 1 0 e.S.Chans.length) (.ow 2 0 e.S.Procs.length)),.arr true 0 e.S.Chans.length 2 λ(j)=>bif j.beq (c y).toNat then Am b.fst else Am (e.S.Chans.getD j default),obP e.S] hs'/\(Aa b.snd).le (Aa r))):=by subst f;kernel_rfl
def AeT (l)(e){z1}(a:z1=e.S.Procs.getD e.Pid.toNat default):(fc XH AV f76 [] (.agg (A4 l))).goal (St.init [] [.agg (Bq e)]) =
  (inX e.Pid e.S.Procs.length/\inX z1.Type_ e.M.Procs.length/\inX z1.Loc (e.M.Procs.getD z1.Type_.toNat default).Locs.length/\LQ (.agg (A4 ((e.M.Procs.getD z1.Type_.toNat default).Locs.getD z1.Loc.toNat default))) (.agg (A4 l))):=by subst a;kernel_rfl
end Go.Proofs.YtboifkdeeigcaaaGreatDoor
namespace Go.Proofs.YtboifkdeeigcaaaGreatDoor
open Go.RowKit Go.Proofs.Tryz
open IntKind(i64)
def stE (e:D.Env)(x v:Int):D.Env:=bif decide ((Bm e x v).2=0)then{e with S:=(Bm e x v).1}else e
def F5 (m mt:List Int):Nat->List Int->D.Env->D.Env×Int
 | _,[],e=>(e,0)
 | k,x::r,e=>bif decide (mt.getD k 0≠0)then F5 m mt (k+1) r e
   else bif decide ((Bm e x (m.getD k 0)).2≠0)then(e,(Bm e x (m.getD k 0)).2)else F5 m mt (k+1) r (stE e x (m.getD k 0))
def CX (e:D.Env)(s:D.Stmt)(m:List Int):D.Env×Int:=F5 m s.Match 0 s.Args e
structure Qq (e e':D.Env):Prop where
 M:e'.M=e.M
 pid:e'.Pid=e.Pid
 t:e'.Timeout=e.Timeout
 a:e'.Able=e.Able
 chans:e'.S.Chans=e.S.Chans
 procs:e'.S.Procs.length=e.S.Procs.length
def Qq.refl (e):Qq e e:=⟨rfl,rfl,rfl,rfl,rfl,rfl⟩
def Qq.trans {a b c}(h:Qq a b)(k:Qq b c):Qq a c:=⟨k.M.trans h.M,k.pid.trans h.pid,k.t.trans h.t,k.a.trans h.a,k.chans.trans h.chans,k.procs.trans h.procs⟩
def AfN (m)(s)(who k v):(JD m s who k v).Chans=s.Chans/\(JD m s who k v).Procs.length=s.Procs.length:=by
 unfold JD;cases decide (who<0)with
 | true=>exact⟨rfl,rfl⟩
 | false=>exact⟨rfl,by simp[setO]⟩
def Aam {e}{x v}(h:(Bm e x v).2=0):(Bm e x v).1.Chans=e.S.Chans/\(Bm e x v).1.Procs.length=e.S.Procs.length:=by
 unfold Bm at h |-;cases a:decide (C7 e x≠0)with
 | true =>
  grind
 | false =>
  rw[a,Arq]at h;rw[Arq];cases b:decide ((B9 e (Gh e) (As e.M x)).2.2≠0)with
  | true =>
   grind
  | false=>rw[Arq];exact AfN _ _ _ _ _
def RS (e)(x v):Qq e (stE e x v):=by
 unfold stE;cases c:decide ((Bm e x v).2=0)with
 | true =>
  obtain⟨h1,h2⟩:=Aam (ArD c);exact⟨rfl,rfl,rfl,rfl,h1,h2⟩
 | false=>exact Qq.refl e
def KV (m mt):∀(l)(k)(e),Qq e (F5 m mt k l e).1
 | [],_,e=>Qq.refl e
 | x::r,k,e=>by
  unfold F5;cases decide (mt.getD k 0≠0)with
  | true=>exact KV m mt r (k+1) e
  | false =>
   rw[Arq];cases decide ((Bm e x (m.getD k 0)).2≠0)with
   | true=>exact Qq.refl e
   | false=>exact(RS e x _).trans (KV m mt r (k+1) _)
def Uh {e}{c}{m}{i}{p}:∀{ws}{k},p∈DS e c m i k ws->p.pid=e.Pid/\p.esc=i/\∃j:Nat,p.way=(k+j:Nat)/\j<ws.length/\Fy e (ws.getD j default).S c m
 | [],_,h=>by cases h
 | t::r,k,h=>by
  rcases ArX.1 (show p∈(bif Fy e t.S c m then[(⟨e.Pid,i,k⟩:Pn)]else[])++DS e c m i (k+1) r from h)with h|h
  .cases q:Fy e t.S c m with
   | false=>rw[q]at h;cases h
   | true =>
    rw[q]at h;obtain rfl:=Ar0.1 h;exact⟨rfl,rfl,0,rfl,Nat.succ_pos _,q⟩
  .obtain⟨h1,h2,j,h3,h4,h5⟩:=Uh h;exact⟨h1,h2,j+1,by rw[h3];congr 1;omega,Nat.succ_lt_succ h4,h5⟩
def Uf {e}{c}{m}{p}:∀{l},p∈HU e c m l->∃i ws,(i,ws)∈l/\p∈DS e c m i 0 ws
 | [],h=>by cases h
 | (i,ws)::r,h=>by
  have b:HU e c m ((i,ws)::r)=bif decide (0<(DS e c m i 0 ws).length)||isSome (Dv e Hp ws true)then DS e c m i 0 ws else HU e c m r:=rfl
  rw[b]at h;cases a:(decide (0<(DS e c m i 0 ws).length)||isSome (Dv e Hp ws true))with
  | true=>rw[a]at h;exact⟨i,ws,Arw,h⟩
  | false =>
   rw[a]at h;obtain⟨d,ws',h1,h2⟩:=Uf h;exact⟨d,ws',ArI _ h1,h2⟩
def Agu {e}{c}{m}{p}(h:p∈ER e c m):p.pid=e.Pid/\-1<=p.esc/\p.esc<(CA e).Esc.length/\0<=p.way/\p.way<(CF (CA e) p.esc).length /\
  ((CF (CA e) p.esc).getD p.way.toNat default).S.Kind=6/\((CF (CA e) p.esc).getD p.way.toNat default).S.Args.length=m.length:=by
 unfold ER at h;cases b:(!(Be e).1||decide ((Be e).2≠0))with
 | true=>rw[b]at h;cases h
 | false =>
  rw[b,Arq]at h;obtain⟨i,ws,hi,hp⟩:=Uf h;obtain⟨d,f,j,a,l,g⟩:=Uh hp;obtain⟨l1,l2,k,_⟩:=HA hi;rw[f,l1];refine⟨d,l2,k,by rw[a];omega,by rw[a];omega,?_⟩;rw[show p.way.toNat=j by rw[a];omega];unfold Fy at g;grind
def Sy {e}{c}{m}{p}:∀{n},p∈CP e c m n->∃q:Nat,q<n/\q≠e.Pid/\p∈ER (BQ e q) c m
 | 0,h=>by cases h
 | n+1,h=>by
  rcases ArX.1 (show p∈CP e c m n++(bif decide ((n:Int)≠e.Pid)then ER (BQ e n) c m else[])from h)with h|h
  .obtain⟨q,h1,h2⟩:=Sy h;exact⟨q,oM,h2⟩
  .cases a:decide ((n:Int)≠e.Pid)with
   | true=>rw[a]at h;exact⟨n,Asq _,ArD a,h⟩
   | false=>rw[a]at h;cases h
def ZG {ev}:∀{l out},(IP ev out l).2=0->(IP ev out l).1.length=out.length+l.length
 | [],out,_=>rfl
 | x::l,out,h=>by
  have a:IP ev out (x::l)=bif decide ((ev x).2≠0)then([],(ev x).2)else IP ev (out++[(ev x).1]) l:=rfl
  rw[a]at h |-;cases c:decide ((ev x).2≠0)with
  | true=>rw[c]at h;exact absurd h (ArD c)
  | false =>
   rw[c,Arq]at h;rw[Arq,ZG h];simp;omega
theorem KQ {e}{s}(h:(AC e s).2.2=0):(AC e s).2.1.length=s.Args.length:=by
 unfold AC at h |-;cases b:decide ((AK e s.A).2≠0)with
 | true=>grind
 | false =>
  rw[b,Arq]at h;rw[Arq];cases a:decide ((Bh e (AK e s.A).1).length≠s.Args.length)with
  | true=>rw[a]at h;cases h
  | false =>
   rw[a,Arq]at h;rw[Arq];cases c:decide ((BC e s.Args).2≠0)with
   | true=>grind
   | false =>
    rw[Arq];have h0:(BC e s.Args).2=0:=by simpa using c
    have:=ZG (ev:=Bc e) (l:=s.Args) (out:=[]) h0;rw[AsB,Ar4]at this;show(Hr _ _).length=_;unfold Hr;rw[Asr,Atn];exact this
def Afv {e}{mt}{s}{self}{p}(h:p∈(Cg e mt s self).wth):s.Kind=5/\(AC e s).2.2=0/\p∈mt (AK e s.A).1 (AC e s).2.1:=by
 have no:∀{q:Prop},p∈([]:List Pn)->q:=λh=>by cases h
 unfold Cg at h;split at h
 .cases q:CJ e s.A<;>rw[q]at h<;>exact no h
 split at h
 .cases q:CJ e s.B<;>rw[q]at h<;>exact no h
 split at h
 .exact no h
 split at h
 .rename_i hk;refine⟨hk,?_⟩;unfold FB at h;grind
 grind
def Ak7 {e}{w}(f:w∈A5 e) :
  (w.With<0->w.WithEsc=-1/\w.WithWay=-1) /\
  (0<=w.With->0<=w.Way/\w.With≠e.Pid/\w.With<e.S.Procs.length/\((CF (CA e) w.Esc).getD w.Way.toNat default).S.Kind=5/\-1<=w.WithEsc/\w.WithEsc<(CA (BQ e w.With)).Esc.length/\0<=w.WithWay /\
   w.WithWay<(CF (CA (BQ e w.With)) w.WithEsc).length/\((CF (CA (BQ e w.With)) w.WithEsc).getD w.WithWay.toNat default).S.Kind=6 /\
   ((CF (CA e) w.Esc).getD w.Way.toNat default).S.Args.length=((CF (CA (BQ e w.With)) w.WithEsc).getD w.WithWay.toNat default).S.Args.length):=by
 rcases G0 (e:=e)with h|⟨er,h⟩|⟨i,ws,hi,h⟩
 .rw[h]at f;cases f
 .rw[h]at f;obtain rfl:=Ar0.1 f;exact⟨λ_=>⟨rfl,rfl⟩,λh0=>by unfold I9 at h0;simp at h0⟩
 .rw[h]at f;obtain⟨A,h1,h2,_⟩:=HA hi;have n:∀{l:List Ab}{k:Nat},w∈C6 i k l->∃(j:Nat)(x:Ab),l[j]?=some x/\w∈FV i (k+j) x:=by
   intro l
   induction l with
   | nil=>intro k h;cases h
   | cons x r ih =>
    intro k h;rcases ArX.1 (show w∈FV i k x++C6 i (k+1) r from h)with h|h
    .exact⟨0,x,rfl,h⟩
    .obtain⟨j,y,a,b⟩:=ih h;exact⟨j+1,y,a,gD⟩
  obtain⟨j,x,s,d⟩:=n f;obtain⟨b1,rfl⟩:=SV s;rw[Ar4]at d;rcases ArX.1 d with d|d
  .cases c:((Ek e (B0 e) ws false j).is&&decide ((Ek e (B0 e) ws false j).wth.length=0))with
   | false=>rw[c]at d;cases d
   | true =>
    grind
  .obtain⟨p,hp,rfl⟩:=AsD.1 d;have g:(Ek e (B0 e) ws false j).wth=(Cg e (B0 e) (ws.getD j default).S false).wth:=by
    unfold Ek;grind
   rw[g]at hp;obtain⟨s1,s2,t⟩:=Afv hp;obtain⟨q,B,C,u⟩:=Sy (show p∈CP e _ _ e.S.Procs.length from t);obtain⟨v,r2,E,F,G,H,I⟩:=Agu u;have m:p.pid=q:=v;have z:BQ e p.pid=BQ e q:=by rw[m]
   refine⟨λh0=>?_,λ_=>?_⟩
   .have o:p.pid<0:=h0;rw[m]at o;omega
   .show 0<=(j:Int)/\p.pid≠e.Pid/\p.pid<e.S.Procs.length/\((CF (CA e) i).getD (j:Int).toNat default).S.Kind=5/\-1<=p.esc/\p.esc<(CA (BQ e p.pid)).Esc.length/\0<=p.way/\p.way<(CF (CA (BQ e p.pid)) p.esc).length /\
     ((CF (CA (BQ e p.pid)) p.esc).getD p.way.toNat default).S.Kind=6/\((CF (CA e) i).getD (j:Int).toNat default).S.Args.length=((CF (CA (BQ e p.pid)) p.esc).getD p.way.toNat default).S.Args.length
    grind[KQ]
end Go.Proofs.YtboifkdeeigcaaaGreatDoor
namespace Go.Proofs.YtboifkdeeigcaaaGreatDoor.Ch
open  Go.Proofs.Tryz
open IntKind(i64)
def lessP:List Int->List Int->Bool
 | a::aa,b::bs=>if a=b then lessP aa bs else decide (a<b)
 | [],_::_=>true
 | _,[]=>false
def MR:∀(n)(xs ys),n<=xs.length->n<=ys.length->(∀j,j<n->xs.getD j 0=ys.getD j 0)->lessP xs ys=lessP (xs.drop n) (ys.drop n)
 | 0,_,_,_,_,_=>rfl
 | n+1,a::aa,b::bs,h1,h2,h=>by
  have h0:=h 0 oM;simp only[List.getD_cons_zero]at h0;subst h0;rw[lessP,ArY rfl,List.drop_succ_cons,List.drop_succ_cons];exact MR n aa bs (by simpa using h1) (by simpa using h2) λj hj=>by simpa using h (j+1) oM
 | n+1,[],_,h1,_,_=>by simp at h1
 | n+1,_::_,[],_,h2,_=>by simp at h2
def Q7 {α:Type}[Inhabited α](xs:List α)(n)(d)(h:n<xs.length):xs.drop n=xs.getD n d::xs.drop (n+1):=by
 rw[Atz h];simp[List.getD,h]
def lessP_differ (n)(xs ys)(h1:n<xs.length)(h2:n<ys.length)(h:∀j,j<n->xs.getD j 0=ys.getD j 0)(a:xs.getD n 0≠ys.getD n 0):lessP xs ys=decide (xs.getD n 0<ys.getD n 0):=by
 rw[MR n xs ys oM oM h,Q7 xs n 0 h1,Q7 ys n 0 h2,lessP,ArG a]
def lessP_end (n)(xs ys)(h1:n<=xs.length)(h2:n<=ys.length)(h3:n=xs.length\/n=ys.length)(h:∀j,j<n->xs.getD j 0=ys.getD j 0):lessP xs ys=decide (xs.length<ys.length):=by
 rw[MR n xs ys h1 h2 h]
 by_cases b:n=xs.length
 .rw[b,As6]
  by_cases a:xs.length<ys.length
  .rw[Q7 ys _ 0 a,lessP];simp[a]
  .rw[AsE oM,lessP];simp[a]
 .have a:n=ys.length:=oM
  subst a;rw[As6,Q7 xs _ 0 oM,lessP];simp;omega
def firstP (x:List Int):List (List Int)->Nat
 | []=>0
 | y::q=>if lessP x y then 0 else firstP x q+1
def firstP_le (x):∀q,firstP x q<=q.length
 | []=>Arx _
 | y::q=>by
  unfold firstP;have:=firstP_le x q;split<;>simp;omega
def firstP_hit (x):∀(q) (k) (y),q[k]?=some y->(∀j a,j<k->q[j]?=some a->lessP x a=false)->lessP x y->firstP x q=k
 | [],k,y,h,_,_=>by simp at h
 | z::q,0,y,h,_,h2=>by
  simp at h;subst h;simp[firstP,h2]
 | z::q,k+1,y,h,h1,h2=>by
  have h0:=h1 0 z oM rfl;rw[firstP,h0];simp only[Atl,if_false];rw[firstP_hit x q k y (by simpa using h) (λj a hj b=>h1 (j+1) a oM (by simpa using b)) h2]
def firstP_miss (x):∀(q),(∀(j:Nat)(a),q[j]?=some a->lessP x a=false)->firstP x q=q.length
 | [],_=>rfl
 | z::q,h=>by
  rw[firstP,h 0 z rfl];simp only[Atl,if_false];rw[firstP_miss x q λj a b=>h (j+1) a (by simpa using b)];rfl
def idxP (x:List Int)(q:List (List Int)):Int:=if firstP x q<q.length then firstP x q else -1
end Go.Proofs.YtboifkdeeigcaaaGreatDoor.Ch
namespace Go.Proofs.YtboifkdeeigcaaaGreatDoor.Ch
open Go.RowKit Go.Proofs.Tryz
open IntKind(i64)
def putAt {α:Type}(l:List α)(i:Nat)(x:α):List α:=l.take i++x::l.drop i
def putAt_len {α}{l}{i}{x:α}(h:i<=l.length):(putAt l i x).length=l.length+1:=by
 unfold putAt;simp;omega
def putAt_lo {α}{l}{i j}{x:α}(h:i<=l.length)(hj:j<i):(putAt l i x)[j]?=l[j]?:=by
 unfold putAt;rw[ArM (by simp;omega),AsS,ArY hj]
def putAt_at {α}{l}{i}{x:α}(h:i<=l.length):(putAt l i x)[i]?=some x:=by
 unfold putAt;rw[ArZ (by simp;omega)];simp[show i-min i l.length=0 by omega]
def putAt_hi {α}{l}{i j}{x:α}(h:i<=l.length)(hj:i<j):(putAt l i x)[j]?=l[j-1]?:=by
 unfold putAt;rw[ArZ (by simp;omega),Ast,show min i l.length=i by omega,show j-i=(j-1-i)+1 by omega,Asl,Asd]
 congr 1;omega
def putAt_end {α}(l)(x:α):putAt l l.length x=l++[x]:=by simp[putAt]
def cutAt {α:Type}(l:List α)(i:Nat):List α:=l.take i++l.drop (i+1)
theorem cutAt_len {α}{l:List α}{i}(h:i<l.length):(cutAt l i).length=l.length-1:=by
 unfold cutAt;simp;omega
def cutAt_lo {α}{l:List α}{i j}(h:i<l.length)(hj:j<i):(cutAt l i)[j]?=l[j]?:=by
 unfold cutAt;rw[ArM (by simp;omega),AsS,ArY hj]
def cutAt_hi {α}{l:List α}{i j}(h:i<l.length)(hj:i<=j):(cutAt l i)[j]?=l[j+1]?:=by
 unfold cutAt;rw[ArZ (by simp;omega),Ast,Asd]
 congr 1;omega
def typeP (t:D.Type):Bool:=decide (1<=t.Bits)&&decide (t.Bits<=32)&&(!t.Signed||decide (t.Bits=16)||decide (t.Bits=32))
def Small (q:List (List Int)):Prop:=q.length*24<=140737488355328/\∀m∈q,m.length*8<=140737488355328
def Afr {α:Type}{q:List α}{k}{m}(h:q[k]?=some m):q.take (k+1)=q.take k++[m]:=by
 obtain⟨hk,rfl⟩:=ArB.1 h;rw[List.take_succ_eq_append_getElem hk]
def fitM (fs:List D.Type)(m:List Int):List Int:=List.zipWith (λt v=>F6 t.Bits t.Signed v) fs m
def putE (room:Int)(fs:List D.Type)(q:List (List Int))(m:List Int):Int :=
 if m.length≠fs.length then 42 else if fs.all typeP=false then 42 else if room<=q.length then 45 else 0
def putX (fs:List D.Type)(q:List (List Int))(m:List Int)(sorted:Bool):List (List Int):=putAt q (if sorted then firstP (fitM fs m) q else q.length) (fitM fs m)
def putSh (room:Int)(fs:List D.Type)(q:List (List Int))(m:List Int)(sh:Int):Int:=if putE room fs q m=0 then sh else 0
def putQ (room:Int)(fs:List D.Type)(q:List (List Int))(m:List Int)(sorted:Bool):List (List Int):=if putE room fs q m=0 then putX fs q m sorted else[]
def putSh_bad {room sh}{fs}{q}{m}{e}(h:putE room fs q m=e)(a:e≠0):putSh room fs q m sh=0:=by unfold putSh;rw[h,ArG a]
def putQ_bad {room}{fs}{q}{m}{sorted}{e}(h:putE room fs q m=e)(a:e≠0):putQ room fs q m sorted=[]:=by unfold putQ;rw[h,ArG a]
def fitTo (fs:List D.Type)(m:List Int)(k:Nat):List Int:=(fitM fs m).take k++List.replicate (m.length-k) 0
def fitM_len {fs}{m}(h:m.length=fs.length):(fitM fs m).length=m.length:=by simp[fitM,h]
def fitTo_len {fs}{m}{k}(h:m.length=fs.length)(hk:k<=m.length):(fitTo fs m k).length=m.length:=by
 simp[fitTo,fitM_len h];omega
def fitTo_all {fs}{m}(h:m.length=fs.length):fitTo fs m m.length=fitM fs m:=by
 simp[fitTo];rw[<- fitM_len h,AsH]
def fitTo_set {fs}{m}{k}(h:m.length=fs.length)(hk:k<m.length)(t)(a:fs[k]?=some t) :
  (fitTo fs m k).set k (F6 t.Bits t.Signed (m.getD k 0))=fitTo fs m (k+1):=by
 have c:=fitM_len h;have b:(fitM fs m)[k]?=some (F6 t.Bits t.Signed (m.getD k 0)):=by
  simp[fitM,List.getElem?_zipWith,a,List.getD,hk]
 unfold fitTo;rw[List.set_append_right _ _ (by simp;omega),Afr b,show m.length-k=(m.length-(k+1))+1 by omega,List.replicate_succ];simp[show k-min k (fitM fs m).length=0 by omega]
end Go.Proofs.YtboifkdeeigcaaaGreatDoor.Ch
namespace Go.Proofs.YtboifkdeeigcaaaGreatDoor
open Go.RowKit Go.Proofs.Tryz
open IntKind(i64)
def Km (f:List D.Type)(args init:List Int)(k:Nat):List Int:=(List.range init.length).map λi=>if i<k then H3 (f.getD i default) (args.getD i 0)else init.getD i 0
def EJ (m:D.Model)(typ:Int)(args:List Int):D.Process:=⟨typ,(AY m typ).Start,(AY m typ).Prio,Km (AY m typ).Frame args (AY m typ).Init args.length⟩
def Ak3:D.Process:=⟨0,0,0,[]⟩
def GX (m:D.Model)(typ:Int)(args:List Int):D.Process×Int :=
 bif !Hq m then(Ak3,40)
 else bif decide (typ<0)||(decide ((m.Procs.length:Int)<=typ)||(decide (typ=m.Claim)||decide ((args.length:Int)≠(AY m typ).Params)))then(Ak3,42)
 else(EJ m typ args,0)
def Hi (e:D.Env)(p:D.Process):D.Env:={e with S:={e.S with Procs:=e.S.Procs++[p]}}
def Bl (e:D.Env)(x:Int):D.Env×Int×Int :=
 bif decide ((BC e (As e.M x).Args).2≠0)then(e,0,(BC e (As e.M x).Args).2)
 else bif decide ((GX e.M (As e.M x).N (BC e (As e.M x).Args).1).2≠0)then(e,0,(GX e.M (As e.M x).N (BC e (As e.M x).Args).1).2)
 else(Hi e (GX e.M (As e.M x).N (BC e (As e.M x).Args).1).1,e.S.Procs.length,0)
def BF (e:D.Env)(x v:Int):D.Env×Int:=(stE e x v,(Bm e x v).2)
def F1 (e:D.Env)(s:D.Stmt):D.Env×Int :=
 bif CJ e s.B then(bif decide ((Bl e s.B).2.2≠0)then((Bl e s.B).1,(Bl e s.B).2.2)else BF (Bl e s.B).1 s.A (Bl e s.B).2.1)
 else bif decide ((Bc e s.B).2≠0)then(e,(Bc e s.B).2)else BF e s.A (Bc e s.B).1
def GV (e:D.Env)(c:Int)(k:D.Chan):D.Env:={e with S:={e.S with Chans:=e.S.Chans.set (c-1).toNat k}}
def CT (k:D.Chan)(n:Int):D.Chan×List Int×Int :=
 bif decide (n<0)||decide ((k.Queue.length:Int)<=n)then(⟨0,[]⟩,[],46)else(⟨k.Shape,Ch.cutAt k.Queue n.toNat⟩,k.Queue.getD n.toNat [],0)
def Er (e:D.Env)(s:D.Stmt):D.Env×Int :=
 bif decide ((Bg e s).2.2≠0)then(e,(Bg e s).2.2)
 else bif decide ((CT (BS e (Bg e s).1) (Bg e s).2.1).2.2≠0)then(e,(CT (BS e (Bg e s).1) (Bg e s).2.1).2.2)
 else CX (bif decide (s.N<2)then GV e (Bg e s).1 (CT (BS e (Bg e s).1) (Bg e s).2.1).1 else e) s (CT (BS e (Bg e s).1) (Bg e s).2.1).2.1
def N2 (m:D.Model)(k:D.Chan)(l:List Int)(sorted:Bool):D.Chan×Int :=
 (⟨Ch.putSh (B8 m k.Shape).Room (B8 m k.Shape).Fields k.Queue l k.Shape,Ch.putQ (B8 m k.Shape).Room (B8 m k.Shape).Fields k.Queue l sorted⟩,Ch.putE (B8 m k.Shape).Room (B8 m k.Shape).Fields k.Queue l)
def RW (e:D.Env)(s:D.Stmt):D.Env×Int :=
 (GV e (AC e s).1 (N2 e.M (BS e (AC e s).1) (AC e s).2.1 (decide (s.N=1))).1,(N2 e.M (BS e (AC e s).1) (AC e s).2.1 (decide (s.N=1))).2)
def Cf (e:D.Env)(w:Wy):D.Trans:=(CF (CA e) w.Esc).getD w.Way.toNat default
def FW (e:D.Env)(w:Wy):D.Trans:=(CF (CA (BQ e w.With)) w.WithEsc).getD w.WithWay.toNat default
def Fd (e:D.Env)(s:D.Stmt)(w:Wy):D.Env×Int :=
 bif decide ((AC e s).2.2≠0)then(e,(AC e s).2.2)
 else bif decide (0<=w.With)then({e with S:=(CX (BQ e w.With) (FW e w).S (AC e s).2.1).1.S},(CX (BQ e w.With) (FW e w).S (AC e s).2.1).2)
 else RW e s
def El (e:D.Env)(n:Int):D.Env:={e with S:={e.S with Chans:=e.S.Chans++[⟨n,[]⟩]}}
def E5 (e:D.Env)(s:D.Stmt):Int:=bif decide ((Bc e s.A).2=0)&&decide ((Bc e s.A).1=0)then 50 else(Bc e s.A).2
def CC (pr:ByteArray->List Int->ByteArray)(e:D.Env)(s:D.Stmt)(w:Wy):D.Env×ByteArray×Int :=
 if s.Kind=1 then(bif CJ e s.A then((Bl e s.A).1,⟨#[]⟩,(Bl e s.A).2.2)else(e,⟨#[]⟩,0))
 else if s.Kind=2 then((F1 e s).1,⟨#[]⟩,(F1 e s).2)
 else if s.Kind=3 then(e,⟨#[]⟩,E5 e s)
 else if s.Kind=4 then(e,bif decide ((BC e s.Args).2≠0)then⟨#[]⟩else pr s.Text (BC e s.Args).1,(BC e s.Args).2)
 else if s.Kind=9 then((BF (El e s.N) s.A (e.S.Chans.length+1:Nat)).1,⟨#[]⟩,(BF (El e s.N) s.A (e.S.Chans.length+1:Nat)).2)
 else if s.Kind=5 then((Fd e s w).1,⟨#[]⟩,(Fd e s w).2)
 else if s.Kind=6 then((Er e s).1,⟨#[]⟩,(Er e s).2)
 else(e,⟨#[]⟩,0)
def D8 (l:List D.Process)(k to:Int):List D.Process:=l.set k.toNat {l.getD k.toNat default with Loc:=to}
def G3 (e:D.Env)(w:Wy)(s:D.State):D.State :=
 {s with Procs:=D8 (bif decide (0<=w.With)then D8 s.Procs w.With (FW e w).To else s.Procs) e.Pid (Cf e w).To,Last:=e.Pid}
def AcR (e:D.Env):D.State:={e.S with Procs:=e.S.Procs.take e.Pid.toNat,Last:=e.Pid,Alone:=bif decide (e.Pid<=e.S.Alone)then -1 else e.S.Alone}
def PJ:D.State:=⟨[],[],[],0,0,0⟩
def goE (pr:ByteArray->List Int->ByteArray)(e:D.Env)(w:Wy):D.State×ByteArray×Int :=
 bif decide (w.Err≠0)then(PJ,⟨#[]⟩,w.Err)else bif decide (w.Way<0)then(AcR e,⟨#[]⟩,0)
 else bif decide ((CC pr e (Cf e w).S w).2.2≠0)then(PJ,⟨#[]⟩,(CC pr e (Cf e w).S w).2.2)
 else(G3 e w (CC pr e (Cf e w).S w).1.S,(CC pr e (Cf e w).S w).2.1,0)
end Go.Proofs.YtboifkdeeigcaaaGreatDoor
namespace Go.Proofs.YtboifkdeeigcaaaGreatDoor
open Go.RowKit Go.Proofs.Tryz
open IntKind(i64)
structure FN (m:D.Model) (s:D.State):Prop where
 g:BR m.Globals s.Globals=true
 cl:s.Chans.length<=32
 pl:s.Procs.length<=16
 l:0<=s.Last/\s.Last<16
 a:-1<=s.Alone/\s.Alone<s.Procs.length
 c:∀c∈s.Chans,De m c=true
 p:∀p∈s.Procs,Bo m p=true
 k:Fu m s=true
theorem Cr {m}{s}:Dz m s↔FN m s:=by
 unfold Dz Jc;simp only[Arr,Ary];rw[CR (d:=default) (f:=λc=>De m c),CR (d:=default) (f:=λp=>Bo m p)];exact⟨λ⟨⟨⟨⟨⟨⟨⟨⟨⟨h1,h2⟩,h3⟩,h4⟩,h5⟩,h6⟩,h7⟩,e⟩,i⟩,b⟩=>⟨h1,h2,h3,⟨h4,h5⟩,⟨h6,h7⟩,e,i,b⟩,
  λh=>⟨⟨⟨⟨⟨⟨⟨⟨⟨h.g,h.cl⟩,h.pl⟩,h.l.1⟩,h.l.2⟩,h.a.1⟩,h.a.2⟩,h.c⟩,h.p⟩,h.k⟩⟩
structure G9 (b:Int->Prop) (s t:D.State):Prop where
 last:t.Last=s.Last
 alone:t.Alone=s.Alone
 claim:t.Claim=s.Claim
 len:s.Procs.length<=t.Procs.length
 old:∀i:Nat,i<s.Procs.length->(t.Procs.getD i default).Type_=(s.Procs.getD i default).Type_/\(t.Procs.getD i default).Loc=(s.Procs.getD i default).Loc/\(¬b i->(t.Procs.getD i default).Frame=(s.Procs.getD i default).Frame)
def G9.refl {b}{s}:G9 b s s:=⟨rfl,rfl,rfl,Arx _,λ_ _=>⟨rfl,rfl,λ_=>rfl⟩⟩
def G9.trans {b}{s t u}(h:G9 b s t)(k:G9 b t u):G9 b s u :=
 ⟨k.last.trans h.last,k.alone.trans h.alone,k.claim.trans h.claim,Ar9 h.len k.len,λi hi=>by
  obtain⟨a,c,d⟩:=h.old i hi;obtain⟨b1,b2,b3⟩:=k.old i (ArQ hi h.len);grind⟩
def G9.less {b c}{s t}(h:G9 b s t)(d:∀i,b i->c i):G9 c s t :=
 ⟨h.last,h.alone,h.claim,h.len,λi hi=>⟨(h.old i hi).1,(h.old i hi).2.1,λe=>(h.old i hi).2.2 λa=>e (d _ a)⟩⟩
theorem Jd {α:Type}{l:List α}{t j}{p d}:(l.set t p).getD j d=if t=j/\j<l.length then p else l.getD j d:=gD
theorem Oj {t}{v}(h:EY t):C1 t (H3 t v):=by
 have h0:=h;unfold EY at h;simp only[Arr,Ary]at h;obtain⟨h1,h2,h3⟩:=h;unfold C1 H3 F6;rw[h0,ArY ⟨h1,h2⟩,Ar7];cases hs:t.Signed with
 | true =>
  rw[hs]at h3;simp at h3;rcases h3 with h3|h3<;>rw[h3]<;>simp<;>omega
 | false =>
  have hp:(0:Int)<2 ^ t.Bits.toNat:=Int.pow_pos dZ;simp_all[Atj,Int.ne_of_gt,Int.emod_lt_of_pos]
theorem Xa {t}{v}(h:C1 t v):EY t:=by
 unfold C1 at h;grind
def Afi {t}{l}{k}(h:BR t l)(hk:k<l.length):C1 (t.getD k default) (l.getD k 0):=by
 unfold BR at h;simp only[Arr,Ary]at h;exact A0.1 h.2 k hk
def Nt {t}{l}(a:t.length=l.length)(h:∀k,k<l.length->C1 (t.getD k default) (l.getD k 0)):BR t l:=by
 unfold BR;simp_all[A0]
def TX {t}{l}(h:BR t l)(k)(v):BR t (l.set k (H3 (t.getD k default) v)):=by
 have a:=EE h;refine Nt (by simp[a]) λi hi=>?_
 rw[Asn]at hi;have b:=Afi h hi;grind[Jd,Oj,Xa]
section
variable {m : D.Model} {s:D.State}
def FN.setP (h:FN m s){l}(b:l.length=s.Procs.length)(hp:∀p∈l,Bo m p):FN m {s with Procs:=l} :=
 ⟨h.g,h.cl,by show l.length<=16;rw[b];exact h.pl,h.l,⟨h.a.1,by show s.Alone<(l.length:Int);rw[b];exact h.a.2⟩,h.c,hp,h.k⟩
def FN.addP (h:FN m s){p}(d:s.Procs.length<16)(hp:Bo m p):FN m {s with Procs:=s.Procs++[p]}:=by
 refine⟨h.g,h.cl,gD,h.l,⟨h.a.1,?_⟩,h.c,λq b=>?_,h.k⟩
 .have:=h.a.2;grind
 .rcases ArX.1 b with b|b
  .exact h.p _ b
  grind
def FN.setC (h:FN m s){k}{c}(b:De m c):FN m {s with Chans:=s.Chans.set k c} :=
 ⟨h.g,by show(s.Chans.set k c).length<=32;rw[Asn];exact h.cl,h.pl,h.l,h.a,λx d=>(GM d).elim (h.c x) λe=>by rw[e];exact b,h.p,h.k⟩
def Ab4 {p}{f}(h:Bo m p)(a:BR (AY m p.Type_).Frame f):Bo m {p with Frame:=f}:=by
 unfold Bo at h |-;grind
theorem AkQ {p}{to}(h:Bo m p)(a:inP (AY m p.Type_).Locs.length to):Bo m {p with Loc:=to}:=by
 unfold Bo at h |-;grind
def ApR {l:List D.Process}{i}(h:i<l.length):l.getD i default∈l:=Av h
def FN.put (h:FN m s){who k v:Int}(hi:0<=who->who<s.Procs.length):FN m (JD m s who k v):=by
 unfold JD;cases c:decide (who<0)with
 | true=>exact⟨TX h.g _ _,h.cl,h.pl,h.l,h.a,h.c,h.p,h.k⟩
 | false =>
  have h0:0<=who:=gD
  have d:=hi h0;refine h.setP (Asn ..) λp hp=>?_
  rcases GM hp with hp|rfl
  .exact h.p _ hp
  .have b:=h.p _ (ApR (i:=who.toNat) oM);exact Ab4 b (TX (DN b).2.2.2.1 _ _)
def AhH {who k v}{b}(a:0<=who->b who):G9 b s (JD m s who k v):=by
 unfold JD;cases c:decide (who<0)with
 | true=>exact⟨rfl,rfl,rfl,Arx _,λ_ _=>⟨rfl,rfl,λ_=>rfl⟩⟩
 | false =>
  have h0:0<=who:=gD
  refine⟨rfl,rfl,rfl,by show s.Procs.length<=(s.Procs.set _ _).length;grind,λi hi=>?_⟩;show((s.Procs.set who.toNat (AaA m (s.Procs.getD who.toNat default) k v)).getD i default).Type_=_/\((s.Procs.set who.toNat (AaA m (s.Procs.getD who.toNat default) k v)).getD i default).Loc=_/\(_->((s.Procs.set who.toNat (AaA m (s.Procs.getD who.toNat default) k v)).getD i default).Frame=_);rw[Jd];split
  .rename_i hk;obtain⟨rfl,_⟩:=hk;exact⟨rfl,rfl,gD⟩
  grind
end
def AjK {e}{ev}{x}(hs:x.V.Scope≠2)(h0:0<=x.V.Scope/\x.V.Scope<=2)(h:0<=(B9 e ev x).1)(h2:(B9 e ev x).2.2=0):(B9 e ev x).1=e.Pid:=by
 unfold B9 at h h2 |-;cases b:decide (x.Op≠2)with
 | true=>grind
 | false =>
 rw[b,Arq]at h h2;rw[Arq];cases a:decide ((Dl e ev x.V).2≠0)with
 | true=>grind
 | false =>
 rw[a,Arq]at h h2;rw[Arq];cases c:decide ((D3 ev x.V.Slot x.V.Dims).2≠0)with
 | true=>grind
 | false =>
 rw[c,Arq]at h;rw[Arq];show(Dl e ev x.V).1=e.Pid;have h:0<=(Dl e ev x.V).1:=h;unfold Dl at h a |-;grind
theorem T3 {e}{x v}(j:AS e.M)(hs:(As e.M x).V.Scope≠2)(h:(Bm e x v).2=0):FN e.M e.S/\FN e.M (Bm e x v).1/\G9 (λi=>i=e.Pid) e.S (Bm e x v).1:=by
 unfold Bm at h |-;cases f:decide (C7 e x≠0)with
 | true=>grind
 | false =>
 rw[f,Arq]at h;rw[Arq];obtain⟨a,h0,h1⟩:=MZ (x:=x) j (by simpa using f);cases k:decide ((B9 e (Gh e) (As e.M x)).2.2≠0)with
 | true=>grind
 | false =>
 rw[Arq];have b:(B9 e (Gh e) (As e.M x)).2.2=0:=by simpa using k
 have c:=LC a h0 h1 b;have g:=Cr.1 a.fits;have d:(As e.M x).Op=2:=by
  unfold B9 at b;grind
 exact⟨g,g.put λhp=>(c.own hp).1,AhH λhp=>AjK hs (Jv ((Aeo a h0 h1).var d)).scope hp b⟩
structure Qr (b:Int->Prop) (e f:D.Env) (er:Int):Prop where
 M:f.M=e.M
 pid:f.Pid=e.Pid
 keep:G9 b e.S f.S
 more:f.S.Procs.length<=e.S.Procs.length+1
 fits:er=0->FN e.M f.S
section
variable {e : D.Env} {b:Int->Prop}
def Qr.none {er}(h:FN e.M e.S):Qr b e e er:=⟨rfl,rfl,G9.refl,As7 _,λ_=>h⟩
def Qr.bad {er}(h:er≠0):Qr b e e er:=⟨rfl,rfl,G9.refl,As7 _,λa=>absurd a h⟩
def HL {x v}(d:AS e.M)(hs:(As e.M x).V.Scope≠2) :
  G9 (λi=>i=e.Pid) e.S (BF e x v).1.S/\(BF e x v).1.S.Procs.length=e.S.Procs.length/\(BF e x v).1.M=e.M/\(BF e x v).1.Pid=e.Pid/\((BF e x v).2=0->FN e.M (BF e x v).1.S):=by
 show G9 _ e.S (stE e x v).S/\(stE e x v).S.Procs.length=e.S.Procs.length/\(stE e x v).M=e.M/\(stE e x v).Pid=e.Pid/\((Bm e x v).2=0->FN e.M (stE e x v).S);have a:=RS e x v;refine⟨?_,a.procs,a.M,a.pid,λh=>?_⟩
 .unfold stE;cases c:decide ((Bm e x v).2=0)with
  | true=>exact(T3 d hs (ArD c)).2.2
  | false=>exact G9.refl
 .unfold stE;grind[ArR,T3]
def Pc (m mt):∀(l)(k)(e),AS e.M->(∀j,j<l.length->mt.getD (k+j) 0=0->(As e.M (l.getD j 0)).V.Scope≠2) ->
  G9 (λi=>i=e.Pid) e.S (F5 m mt k l e).1.S/\((F5 m mt k l e).2=0->FN e.M e.S->FN e.M (F5 m mt k l e).1.S)
 | [],k,e,c,_=>⟨G9.refl,λ_ h=>h⟩
 | x::r,k,e,c,f=>by
  have g:∀j,j<r.length->mt.getD (k+1+j) 0=0->(As e.M (r.getD j 0)).V.Scope≠2:=λj hj h=>by
   have:=f (j+1) (Nat.succ_lt_succ hj) (by rw[show k+(j+1)=k+1+j by omega];exact h);simpa[List.getD]using this
  unfold F5;cases p:decide (mt.getD k 0≠0)with
  | true=>exact Pc m mt r (k+1) e c g
  | false =>
   rw[Arq];have h0:=f 0 (Nat.succ_pos _) (by rw[AsY];simpa using p);obtain⟨k1,k2,a,d,q⟩:=HL (v:=m.getD k 0) c (show(As e.M x).V.Scope≠2 from h0);have a:(stE e x (m.getD k 0)).M=e.M:=a;have d:(stE e x (m.getD k 0)).Pid=e.Pid:=d;cases n:decide ((Bm e x (m.getD k 0)).2≠0)with
   | true=>exact⟨G9.refl,λh=>absurd h (ArD n)⟩
   | false =>
    rw[Arq];obtain⟨g1,o⟩:=Pc m mt r (k+1) (stE e x (m.getD k 0)) (by rw[a];exact c) (by rw[a];exact g);rw[d]at g1;rw[a]at o;exact⟨G9.trans k1 g1,λh _=>o h (q (show(Bm e x (m.getD k 0)).2=0 by simpa using n))⟩
def ZK (m:D.Model)(s:D.Stmt):Prop:=∀j,j<s.Args.length->s.Match.getD j 0=0->(As m (s.Args.getD j 0)).V.Scope≠2
def MU {s}{m}(a:AS e.M)(c:ZK e.M s) :
  G9 (λi=>i=e.Pid) e.S (CX e s m).1.S/\((CX e s m).2=0->FN e.M e.S->FN e.M (CX e s m).1.S)/\Qq e (CX e s m).1:=by
 obtain⟨h1,h2⟩:=Pc m s.Match s.Args 0 e a (λj hj h=>c j hj (by rwa [Ar4]at h));exact⟨h1,h2,KV m s.Match s.Args 0 e⟩
theorem Jw {m}{a}(h:B5 m a):(As m a).V.Scope≠2:=by
 unfold B5 at h;grind
def DW.t2 {m}{s}(h:DW m s)(hk:s.Kind=2):(As m s.A).V.Scope≠2:=by
 have:=h.st;unfold AF at this;simp_all[Jw]
def DW.t9 {m}{s}(h:DW m s)(hk:s.Kind=9):(As m s.A).V.Scope≠2:=by
 have:=h.st;unfold AF at this;simp_all[Jw]
def DW.t6 {m}{s}(h:DW m s)(hk:s.Kind=6):ZK m s:=by
 have h6:=h.k6 hk;have:=h.st;unfold AF at this;rw[ArG oM,ArG oM,ArG oM,ArG oM,ArY hk]at this;simp only[Arr]at this;have:=this.1.1.1.2;unfold Gp at this;simp only[Arr]at this;intro j hj a;grind[A0,ArR,Jw]
theorem Amg {m}{typ:Int}{args}(f:Hq m)(h0:0<=typ/\typ<m.Procs.length)(h:typ≠m.Claim):Bo m (EJ m typ args):=by
 obtain⟨_,h2,_⟩:=Dj f;obtain⟨a,c⟩:=E4 h2 typ.toNat oM;have a:Ed (AY m typ)=true:=a;have c:FG (AY m typ)=true:=c;unfold Ed at a;unfold FG at c;simp only[Arr,Ary]at a c;have hi:=a.1.1.1.1.1.1.2;have g:∀i,i<(AY m typ).Frame.length->C1 ((AY m typ).Frame.getD i default) ((AY m typ).Init.getD i 0)=true:=Ge (by have:=a.1.1.1.1.1.1.1.2;unfold Fx at *;omega);unfold Bo C0 EJ;simp only[Arr,Ary];have d:(Km (AY m typ).Frame args (AY m typ).Init args.length).length=(AY m typ).Init.length:=by simp[Km]
 refine⟨gD,Nt (by rw[d];omega) λk hk=>?_⟩;rw[d]at hk;have j:=g k oM;have:(Km (AY m typ).Frame args (AY m typ).Init args.length).getD k 0=if k<args.length then H3 ((AY m typ).Frame.getD k default) (args.getD k 0)else(AY m typ).Init.getD k 0:=by simp[Km,List.getD,hk]
 grind[Oj,Xa]
theorem Am8 {m}{typ}{args}(h:(GX m typ args).2=0):Bo m (GX m typ args).1:=by
 unfold GX at h |-;cases a:Hq m with
 | false=>grind
 | true =>
  rw[a]at h;rw[AsX,Arq]at h |-;grind[ArJ,ArV,Amg]
def YZ {p}:G9 b e.S (Hi e p).S:=by
 refine⟨rfl,rfl,rfl,by show _<=(e.S.Procs++[p]).length;simp,λi hi=>?_⟩;have:(e.S.Procs++[p]).getD i default=e.S.Procs.getD i default:=gD
 show((e.S.Procs++[p]).getD i default).Type_=_/\((e.S.Procs++[p]).getD i default).Loc=_/\(_->((e.S.Procs++[p]).getD i default).Frame=_);grind
def K6 {x}:(Bl e x).1=e/\(Bl e x).2.2≠0\/∃p,(Bl e x).1=Hi e p/\(Bl e x).2.2=0/\Bo e.M p:=by
 unfold Bl;cases a:decide ((BC e (As e.M x).Args).2≠0)with
 | true=>grind
 | false =>
  rw[Arq];cases c:decide ((GX e.M (As e.M x).N (BC e (As e.M x).Args).1).2≠0)with
  | true=>grind
  | false=>grind[Am8]
def UY {x}(h:FN e.M e.S)(a:e.S.Procs.length<16):Qr b e (Bl e x).1 (Bl e x).2.2:=by
 rcases K6 (e:=e) (x:=x)with⟨h1,h2⟩ | ⟨p,h1,h2,h3⟩
 .rw[h1];exact .bad h2
 .rw[h1];exact⟨rfl,rfl,YZ,by show(e.S.Procs++[p]).length<=_;simp,λ_=>h.addP a h3⟩
def AjY {s}(f:AS e.M)(_:FN e.M e.S)(hs:(As e.M s.A).V.Scope≠2):Qr (λi=>i=e.Pid) e (F1 e s).1 (F1 e s).2:=by
 unfold F1;cases k:CJ e s.B with
 | true =>
  rw[Art];rcases K6 (e:=e) (x:=s.B)with⟨h1,h2⟩ | ⟨p,h1,h2,h3⟩
  .rw[ArR h2,Art,h1];exact .bad h2
  .rw[ArK (λg=>g h2),Arq,h1];obtain⟨k1,k2,a,c,d⟩:=HL (e:=Hi e p) (x:=s.A) (v:=(Bl e s.B).2.1) f hs;exact⟨a,c,YZ.trans k1,by rw[k2];show(e.S.Procs++[p]).length<=_;simp,d⟩
 | false =>
  rw[Arq];cases j:decide ((Bc e s.B).2≠0)with
  | true=>exact .bad (ArD j)
  | false =>
   obtain⟨k1,k2,a,c,d⟩:=HL (e:=e) (x:=s.A) (v:=(Bc e s.B).1) f hs;exact⟨a,c,k1,by rw[Arq,k2];omega,d⟩
def SE {c}{k}:G9 b e.S (GV e c k).S:=⟨rfl,rfl,rfl,Arx _,λ_ _=>⟨rfl,rfl,λ_=>rfl⟩⟩
def Vh {m}{k}{n}(h:De m k)(h0:(CT k n).2.2=0):De m (CT k n).1:=by
 unfold CT at h0 |-;cases c:(decide (n<0)||decide ((k.Queue.length:Int)<=n))with
 | true=>grind
 | false =>
  rw[Arq];obtain⟨⟨j,l⟩,p,o⟩:=EW h;have a:∀x∈Ch.cutAt k.Queue n.toNat,x∈k.Queue:=λx g=>(ArX.1 g).elim List.mem_of_mem_take Ats
  have i:(Ch.cutAt k.Queue n.toNat).length<=k.Queue.length:=by unfold Ch.cutAt;simp;omega
  unfold De;simp only[Arr,Ary];exact⟨⟨CB.2 ⟨j,l⟩,oM⟩,(CR (d:=[]) (f:=λx=>BR (B8 m k.Shape).Fields x)).2 λx g=>o x (a x g)⟩
def ApJ {m}{k}{l}{sorted}(h:De m k)(h0:(N2 m k l sorted).2=0):De m (N2 m k l sorted).1:=by
 have h0:Ch.putE (B8 m k.Shape).Room (B8 m k.Shape).Fields k.Queue l=0:=h0;unfold N2 Ch.putSh Ch.putQ;rw[h0,ArY rfl,ArY rfl];obtain⟨⟨q,r⟩,y,z⟩:=EW h;unfold Ch.putE at h0;split at h0
 .cases h0
 split at h0
 .cases h0
 split at h0
 .cases h0
 rename_i g1 g A;have g1:l.length=(B8 m k.Shape).Fields.length:=Classical.not_not.1 g1;have g:(B8 m k.Shape).Fields.all Ch.typeP=true:=by simpa using g
 have n:∀x∈Ch.putX (B8 m k.Shape).Fields k.Queue l sorted,x∈k.Queue\/x=Ch.fitM (B8 m k.Shape).Fields l:=λx c=>by
  rcases ArX.1 c with c|c
  .grind
  grind
 have o:(Ch.putX (B8 m k.Shape).Fields k.Queue l sorted).length<=k.Queue.length+1:=by unfold Ch.putX Ch.putAt;simp;omega
 have p:BR (B8 m k.Shape).Fields (Ch.fitM (B8 m k.Shape).Fields l)=true:=by
  have s:(Ch.fitM (B8 m k.Shape).Fields l).length=l.length:=Ch.fitM_len g1;refine Nt oM λj hj=>?_
  rw[s]at hj;have a:j<(B8 m k.Shape).Fields.length:=oM
  have t:(Ch.fitM (B8 m k.Shape).Fields l).getD j 0=H3 ((B8 m k.Shape).Fields.getD j default) (l.getD j 0):=by
   have i:j<(Ch.fitM (B8 m k.Shape).Fields l).length:=oM
   have u:(Ch.fitM (B8 m k.Shape).Fields l).getD j 0=(Ch.fitM (B8 m k.Shape).Fields l)[j]:=by simp[List.getD,i]
   have v:(B8 m k.Shape).Fields.getD j default=(B8 m k.Shape).Fields[j]:=by simp[List.getD,a]
   have w:l.getD j 0=l[j]:=by simp[List.getD,hj]
   rw[u,v,w];simp[Ch.fitM,H3]
  rw[t];refine Oj ?_;have:=Ar3.1 g _ (Av (d:=default) a);unfold Ch.typeP at this;unfold EY;simp only[Arr,Asx]at this |-;exact⟨this.1.1,this.1.2,this.2.elim (λh=>h.elim .inl λh=>.inr (.inl h)) λh=>.inr (.inr h)⟩
 unfold De;simp only[Arr,Ary];refine⟨⟨CB.2 ⟨q,r⟩,oM⟩,(CR (d:=[]) (f:=λx=>BR (B8 m k.Shape).Fields x)).2 λx c=>?_⟩;grind
def Ov (a:FN e.M e.S){n}(h:AiJ e n):De e.M (BS e n):=a.c _ (Av (by have:=h.lo;have:=h.hi;omega))
def Y7 {s}(d:AS e.M)(h:(Bg e s).2.2=0):AiJ e (Bg e s).1/\(Bh e (Bg e s).1).length=s.Args.length:=by
 unfold Bg at h |-;cases a:decide ((AK e s.A).2≠0)with
 | true=>grind
 | false =>
 rw[a,Arq]at h;rw[Arq];cases c:decide ((Bh e (AK e s.A).1).length≠s.Args.length)with
 | true=>grind
 | false =>
 rw[c,Arq]at h;rw[Arq];cases f:decide ((B7 e s).2≠0)with
 | true=>grind
 | false=>grind[Fk]
def Agt {s}(c:AS e.M)(h:FN e.M e.S)(g:ZK e.M s):Qr (λi=>i=e.Pid) e (Er e s).1 (Er e s).2:=by
 unfold Er;cases j:decide ((Bg e s).2.2≠0)with
 | true=>exact .bad (ArD j)
 | false =>
 rw[Arq];cases k:decide ((CT (BS e (Bg e s).1) (Bg e s).2.1).2.2≠0)with
 | true=>exact .bad (ArD k)
 | false =>
 rw[Arq];have d:=(Y7 c (show(Bg e s).2.2=0 by simpa using j)).1;have hk:=Vh (Ov h d) (by simpa using k);generalize CT (BS e (Bg e s).1) (Bg e s).2.1=t at hk;cases decide (s.N<2)with
 | true =>
  rw[Art];obtain⟨g1,f,a⟩:=MU (e:=GV e (Bg e s).1 t.1) (s:=s) (m:=t.2.1) c g;exact⟨a.M,a.pid,SE.trans g1,by rw[a.procs];exact As7 _,λh0=>f h0 (h.setC hk)⟩
 | false =>
  rw[Arq];obtain⟨g1,f,a⟩:=MU (e:=e) (s:=s) (m:=t.2.1) c g;exact⟨a.M,a.pid,g1,by rw[a.procs];exact As7 _,λh0=>f h0 h⟩
def MP {s}(g:AS e.M)(h:(AC e s).2.2=0):AiJ e (AC e s).1/\BR (Bh e (AC e s).1) (AC e s).2.1:=by
 unfold AC at h |-;cases d:decide ((AK e s.A).2≠0)with
 | true=>grind
 | false =>
 rw[d,Arq]at h;rw[Arq];cases f:decide ((Bh e (AK e s.A).1).length≠s.Args.length)with
 | true=>grind
 | false =>
 rw[f,Arq]at h;rw[Arq];cases j:decide ((BC e s.Args).2≠0)with
 | true=>grind
 | false =>
  have a:=Fk g (show(AK e s.A).2=0 by simpa using d);refine⟨a,?_⟩;show BR (Bh e (AK e s.A).1) (Hr (Bh e (AK e s.A).1) (BC e s.Args).1)=true;have l:=a.sh;have c:=a.ok.tab.shape (BS e (AK e s.A).1).Shape.toNat oM;have n:=Jq (show(BC e s.Args).2=0 by simpa using j);have o:(Bh e (AK e s.A).1).length=s.Args.length:=by simpa using f
  unfold C3 at c;simp only[Arr,Ary]at c;have c:=A0.1 c.2;change ∀i,i<(Bh e (AK e s.A).1).length->EY ((Bh e (AK e s.A).1).getD i default)=true at c;have m:(Hr (Bh e (AK e s.A).1) (BC e s.Args).1).length=(BC e s.Args).1.length:=by simp[Hr]
  refine Nt oM λk hk=>?_
  rw[m]at hk;have:(Hr (Bh e (AK e s.A).1) (BC e s.Args).1).getD k 0=H3 ((Bh e (AK e s.A).1).getD k default) ((BC e s.Args).1.getD k 0):=by simp[Hr,List.getD,hk]
  grind[Oj]
def Aj1 {s}{w}(c:AS e.M)(h:FN e.M e.S)(f:0<=w.With->ZK e.M (FW e w).S):Qr (λi=>i=e.Pid\/i=w.With) e (Fd e s w).1 (Fd e s w).2:=by
 unfold Fd;cases d:decide ((AC e s).2.2≠0)with
 | true=>exact .bad (ArD d)
 | false =>
 rw[Arq];cases g:decide (0<=w.With)with
 | true =>
  rw[Art];obtain⟨g1,j,k⟩:=MU (e:=BQ e w.With) (s:=(FW e w).S) (m:=(AC e s).2.1) c (f (ArD g));exact⟨rfl,rfl,g1.less λi hi=>.inr hi,by show(CX (BQ e w.With) _ _).1.S.Procs.length<=_;rw[k.procs];exact As7 _,λh0=>j h0 h⟩
 | false =>
  rw[Arq];have a:=(MP c (show(AC e s).2.2=0 by simpa using d)).1;exact⟨rfl,rfl,SE,As7 _,λh0=>h.setC (ApJ (Ov h a) h0)⟩
def SQ {pr}{s}{w}(a:AS e.M)(h:FN e.M e.S)(hs:DW e.M s)(d:s.Kind=1->CJ e s.A->e.S.Procs.length<16)(j:0<=w.With->ZK e.M (FW e w).S) :
  Qr (λi=>i=e.Pid\/i=w.With) e (CC pr e s w).1 (CC pr e s w).2.2:=by
 have up:∀{f:D.Env}{er:Int},Qr (λi=>i=e.Pid) e f er->Qr (λi=>i=e.Pid\/i=w.With) e f er:=λg=>⟨g.M,g.pid,g.keep.less λi hi=>.inl hi,g.more,g.fits⟩
 unfold CC;split
 .rename_i hk;cases c:CJ e s.A with
  | true=>exact UY h (d hk c)
  | false=>exact .none h
 split
 .rename_i hk;exact up (AjY a h (hs.t2 hk))
 split
 .exact .none h
 split
 .exact .none h
 split
 .rename_i hk;obtain⟨k1,k2,k,l,m⟩:=HL (e:=El e s.N) (x:=s.A) (v:=(e.S.Chans.length+1:Nat)) a (hs.t9 hk);have n:G9 (λi=>i=e.Pid) e.S (El e s.N).S:=⟨rfl,rfl,rfl,Arx _,λ_ _=>⟨rfl,rfl,λ_=>rfl⟩⟩;exact up ⟨k,l,G9.trans n k1,by show(BF (El e s.N) s.A _).1.S.Procs.length<=_;rw[k2];exact As7 _,m⟩
 split
 .exact Aj1 a h j
 split
 .rename_i hk;exact up (Agt a h (hs.t6 hk))
 exact .none h
end
def Aqz:Shp:={α:=D.Process,enc:=λy=>([],.agg (Ap y))}
def Ao8:Shp:={α:=D.Process×Int,enc:=λy=>([],.tup [.agg (Ap y.1),Aa y.2])}
def AmO:Shp:={α:=D.Chan×List Int×Int,enc:=λy=>([],.tup [.agg (Am y.1),Ac true y.2.1,Aa y.2.2])}
def AfM (f:FuncId):Shp:=bif Nat.beq f 160 then Ao8 else bif Nat.beq f 200 then Aqz else bif Nat.beq f 176 then AmO else XH f
def Apq (f:FuncId):Shp:=bif Nat.beq f 29 then AdP else XH f
def Tc:Ann:={keep:=fun
  | [0,1,0,1,1,1]=>[6,7,8,25,26,27]
  | _=>[]}
def Vq (m:D.Model)(typ:Int)(args l:List Int)(k:Int):St:=Aq [(6,.bp 0 0),(7,.bp 1 0),(8,.bp 2 0),(25,Ac false args),(26,Aa args.length),(27,Aa k)] [.box [Aa 0,Aa 0,Aa 0,.nl],.box (A9 (AY m typ)),.box [Aa typ,Aa (AY m typ).Start,Aa (AY m typ).Prio,.ow 3 0 l.length],.arr true 0 l.length 1 (AD l)]
def Aj5 (p)(m)(typ)(args){a}(b:a=m.Procs.getD typ.toNat default):(fc Apq Tc f200 [] (.agg (Ap p))).goal (St.init [] [.agg (Ag m),Aa typ,Ac false args]) =
  (inX typ m.Procs.length/\∃(y:_),Ai prog 29 [] [Ac true a.Init] [.arr true 0 y.length 1 (AD y)] (.ow 0 0 y.length)/\Au (fc Apq Tc f200 [] (.agg (Ap p))) [1,1,1,0,1,0] (Aq [(6,.bp 0 0),(7,.bp 1 0),(8,.bp 2 0),(25,Ac false args),(26,Aa (↑args.length)),(27,Aa 0)] [.box [Aa 0,Aa 0,Aa 0,.nl],.box (A9 a),.box [Aa typ,Aa a.Start,Aa a.Prio,.ow 3 0 y.length],.arr true 0 y.length 1 (AD y)])):=by subst b;kernel_rfl
def Akf (p)(r)(m)(typ)(args){a}(b:a=VV.tup [VV.agg (Ap p),Aa r]):(fc AfM AV f160 [] (.tup [.agg (Ap p),Aa r])).goal (St.init [] [.agg (Ag m),Aa typ,Ac false args]) =
  ∃(y:_),VC 40 [.agg (Ag m)] (Ad y)/\BB (!y) (LQ (.tup [.agg [Aa 0,Aa 0,Aa 0,.nl],Aa 40]) a) (((true&&(bif bif decide (typ<0)then true else decide (typ>=(↑m.Procs.length))then true else typ==m.Claim)==false)->inX typ m.Procs.length)/\BB (bif bif bif decide (typ<0)then true else decide (typ>=(↑m.Procs.length))then true else typ==m.Claim then true else(↑args.length) != (m.Procs.getD typ.toNat default).Params) (LQ (.tup [.agg [Aa 0,Aa 0,Aa 0,.nl],Aa 42]) a) (∃(y:_),VC 200 [.agg (Ag m),Aa typ,Ac false args] (.agg (Ap y))/\LQ (.tup [.agg (Ap y),Aa 0]) a)):=by subst b;kernel_rfl
def Z6 (hs')(v r)(e)(x){b}(c:b=e.S.Procs.length+1):(BO prog tb AfM AiD false f122 hs' (.tup [Aa v,Aa r])).goal (St.init (hsE e) [.bp 0 0,Aa x]) =
  (inX x e.M.Exprs.length/\∃(y:List Int×Int),Ai prog 124 [] [.agg (Bq e),Ac true (e.M.Exprs.getD x.toNat default).Args] [.arr true 0 y.fst.length 1 (AD y.fst)] (.tup [.ow 0 0 y.fst.length,Aa y.snd])/\BB (y.snd != 0) (leO (hsE e) hs'/\(VV.tup [Aa 0,Aa y.snd]).le (.tup [Aa v,Aa r])) (∃(a:D.Process×Int),VC 160 [.agg (Ag e.M),Aa (e.M.Exprs.getD x.toNat default).N,Ac false y.fst] (.tup [.agg (Ap a.fst),Aa a.snd])/\BB (a.snd != 0) (leO (hsE e) hs'/\(VV.tup [Aa 0,Aa a.snd]).le (.tup [Aa v,Aa r])) (b*48<=140737488355328/\leO [.box (F8 e (.ow 1 0 e.S.Chans.length) (.ow 2 0 b)),obC e.S,.arr true 0 b 4 λ(i)=>bif i.blt e.S.Procs.length then Ap (e.S.Procs.getD i default)else(λ(i)=>List.take 4 (List.drop (i*4) (Ap a.fst))) (i-e.S.Procs.length)] hs'/\(VV.tup [Aa (i64.wrap ((↑b)-(1))),Aa 0]).le (.tup [Aa v,Aa r])))):=by subst c;kernel_rfl
def AeF (hs')(r)(e)(s):(BO prog tb AfM AiD false f123 hs' (Aa r)).goal (St.init (hsE e) [.bp 0 0,.agg (An s)]) =
  ∃(y:_),VC 121 [VV.agg (Ag e.M),Aa s.B] (Ad y)/\BB y (∃(y:D.Env×Int×Int),Ai prog 122 (hsE e) [VV.bp 0 0,Aa s.B] (hsE y.fst) (vII y.snd)/\BB (y.snd.snd != 0) (leO (hsE y.fst) hs'/\(Aa y.snd.snd).le (Aa r)) (∃(a:D.Env×Int),Ai prog 126 (hsE y.fst) [VV.bp 0 0,Aa s.A,Aa y.snd.fst] (hsE a.fst) (Aa a.snd)/\leO (hsE a.fst) hs'/\(Aa a.snd).le (Aa r))) (∃(y:_),VC 53 [VV.agg (Bq e),Aa s.B] (vII y)/\BB (y.snd != 0) (leO (hsE e) hs'/\(Aa y.snd).le (Aa r)) (∃(a:D.Env×Int),Ai prog 126 (hsE e) [VV.bp 0 0,Aa s.A,Aa y.fst] (hsE a.fst) (Aa a.snd)/\leO (hsE a.fst) hs'/\(Aa a.snd).le (Aa r))):=kR
def ZR (hs')(r)(e)(s):(BO prog tb AfM AiD false f128 hs' (Aa r)).goal (St.init (hsE e) [.bp 0 0,.agg (An s)]) =
  ∃(y:_),VC 175 [VV.agg (Bq e),VV.agg (An s)] (Kt y)/\BB (y.snd.snd != 0) (leO (hsE e) hs'/\(Aa y.snd.snd).le (Aa r)) (inX (i64.wrap (y.fst-(1))) e.S.Chans.length/\∃(a:D.Chan×List Int×Int),VC 176 [VV.agg (Am (e.S.Chans.getD (i64.wrap (y.fst-(1))).toNat default)),Aa y.snd.fst] (VV.tup [VV.agg (Am a.fst),Ac true a.snd.fst,Aa a.snd.snd])/\BB (a.snd.snd != 0) (leO (hsE e) hs'/\(Aa a.snd.snd).le (Aa r)) (BB (decide (s.N<2)) (inX (i64.wrap (y.fst-(1))) e.S.Chans.length/\∃(b:D.Env×Int),Ai prog 173 [Ob.box (F8 e (VV.ow 1 0 e.S.Chans.length) (VV.ow 2 0 e.S.Procs.length)),Ob.arr true 0 e.S.Chans.length 2 λ(j)=>bif j.beq (i64.wrap (y.fst-(1))).toNat then Am a.fst else Am (e.S.Chans.getD j default),obP e.S] [VV.bp 0 0,VV.agg (An s),Ac true a.snd.fst] (hsE b.fst) (Aa b.snd)/\leO (hsE b.fst) hs'/\(Aa b.snd).le (Aa r)) (∃(y:D.Env×Int),Ai prog 173 (hsE e) [VV.bp 0 0,VV.agg (An s),Ac true a.snd.fst] (hsE y.fst) (Aa y.snd)/\leO (hsE y.fst) hs'/\(Aa y.snd).le (Aa r)))):=kR
def AeX (s)(e):(fc AfM AV f74 [] (.agg (Ae s))).goal (St.init [] [.agg (Af e)]) =
  ∃(y:_),Ai prog 15 [] [VV.agg (Ae e.S)] [obC y,obP y] (VV.agg (CH y (VV.ow 0 0 y.Chans.length) (VV.ow 1 0 y.Procs.length)))/\((0)<=e.Pid/\e.Pid<=(↑y.Procs.length))/\BB (decide (y.Alone>=(↑e.Pid.toNat))) (LQ (VV.agg [Ac true y.Globals,AG true y.Chans,VV.sl true e.Pid.toNat 4 (B2 y.Procs),Aa e.Pid,Aa (-1),Aa y.Claim]) (VV.agg (Ae s))) (LQ (VV.agg [Ac true y.Globals,AG true y.Chans,VV.sl true e.Pid.toNat 4 (B2 y.Procs),Aa e.Pid,Aa y.Alone,Aa y.Claim]) (VV.agg (Ae s))):=kR
def AfV (p)(m)(typ)(args l)(k)(J){a}(b:a=AY m typ):((fc Apq Tc f200 [] (.agg (Ap p))).loop [1,1,1,0,1,0] J).goal (Vq m typ args l k) =
  BB (decide (k<(↑args.length))) (inX k args.length/\inX k a.Frame.length/\∃(y:_),VC 204 [.agg (Bp (a.Frame.getD k.toNat default)),Aa (args.getD k.toNat 0)] (Aa y)/\inX k l.length/\J (Aq [(6,.bp 0 0),(7,.bp 1 0),(8,.bp 2 0),(25,Ac false args),(26,Aa (↑args.length)),(27,Aa (i64.wrap (k+(1))))] [.box [Aa 0,Aa 0,Aa 0,.nl],.box (A9 a),.box [Aa typ,Aa a.Start,Aa a.Prio,.ow 3 0 l.length],.arr true 0 l.length 1 λ(j)=>bif j.beq k.toNat then[Aa y]else[Aa (l.getD j 0)]])) (LQ (.agg [Aa typ,Aa a.Start,Aa a.Prio,Ac true l]) (.agg (Ap p))):=by subst b;kernel_rfl
end Go.Proofs.YtboifkdeeigcaaaGreatDoor
namespace Go.Proofs.YtboifkdeeigcaaaGreatDoor
open Go.RowKit Go.Proofs.Tryz
open IntKind(i64)
section
variable {e : D.Env} {w:Wy}
def Nm {i}:∀{l}{k},w∈C6 i k l->∃(j:_)(x:_),l[j]?=some x/\w∈FV i (k+j) x
 | [],_,h=>by cases h
 | x::r,k,h=>by
  rcases ArX.1 (show w∈FV i k x++C6 i (k+1) r from h)with h|h
  .exact⟨0,x,rfl,h⟩
  .obtain⟨j,y,a,b⟩:=Nm h;exact⟨j+1,y,a,by rw[show k+(j+1)=k+1+j by omega];exact b⟩
def OI {i}{k}{x}(h:w∈FV i k x):w.Way=k/\w.Esc=i/\(x.is\/∃p∈x.wth,w.With=p.pid):=by
 rcases ArX.1 h with h|h
 .grind
 .obtain⟨p,hp,rfl⟩:=AsD.1 h;exact⟨rfl,rfl,.inr ⟨p,hp,rfl⟩⟩
def Ur:∀{l},w∈Ff e l->0<=w.Way
 | [],h=>by cases h
 | (i,ws)::r,h=>by
  have a:Ff e ((i,ws)::r)=bif decide (0<(C6 i 0 (Dv e (B0 e) ws false)).length)then C6 i 0 (Dv e (B0 e) ws false)else Ff e r:=rfl
  rw[a]at h;cases c:decide (0<(C6 i 0 (Dv e (B0 e) ws false)).length)with
  | true =>
   rw[c]at h;obtain⟨j,x,_,h2⟩:=Nm h;have:=(OI h2).1;omega
  | false=>rw[c]at h;exact Ur h
def Zm (h:w∈A5 e)(f:w.Way<0)(c:w.Err=0):e.Pid=e.S.Procs.length-1:=by
 unfold A5 at h;cases d:decide ((DB e e.Pid).Loc=(CU e).Final)with
 | true =>
  grind
 | false =>
  rw[d,Arq]at h;cases a:decide ((Be e).2≠0)with
  | true =>
   rw[a,Art]at h;obtain rfl:=Ar0.1 h;exact absurd c (ArD a)
  | false =>
   rw[a,Arq]at h;cases b:(!(Be e).1)with
   | true=>rw[b]at h;cases h
   | false =>
    rw[b,Arq]at h;have:=Ur h;omega
def R1 (h:w∈A5 e)(h0:0<=w.Way)(hk:(Cf e w).S.Kind=1)(g:CJ e (Cf e w).S.A):e.S.Procs.length<16:=by
 rcases G0 (e:=e)with a|⟨er,a⟩|⟨i,ws,hi,a⟩
 .rw[a]at h;cases h
 .rw[a]at h;obtain rfl:=Ar0.1 h;exact absurd (show(0:Int)<=-1 from h0) dZ
 .rw[a]at h;obtain⟨k,_⟩:=HA hi;obtain⟨j,x,l,f⟩:=Nm h;rw[Ar4]at f;obtain⟨b1,rfl⟩:=SV l;obtain⟨m,n,c⟩:=OI f;have o:ws.getD j default=Cf e w:=by
   unfold Cf;rw[n,k,m]<;>rfl
  have b:Ek e (B0 e) ws false j=Cg e (B0 e) (Cf e w).S false:=by
   unfold Ek;grind
  have d:Cg e (B0 e) (Cf e w).S false=I1 e:=by
   unfold Cg;rw[ArY hk,g]<;>rfl
  rw[b,d]at c;rcases c with c|⟨p,hp,_⟩
  .exact ArD c
  .cases hp
def Dg {l}{k to}:(D8 l k to).length=l.length:=Asn ..
def RB {l}{k to}{j:Nat}(h:(j:Int)≠k)(hk:0<=k):(D8 l k to).getD j default=l.getD j default:=by
 unfold D8;grind
def RC {m}{l}{k to}(h:∀p∈l,Bo m p)(h0:0<=k)(hk:k<l.length)(a:inP (AY m (l.getD k.toNat default).Type_).Locs.length to):∀p∈D8 l k to,Bo m p:=λp hp=>by
 rcases GM hp with hp|rfl
 .exact h p hp
 grind[AkQ,Av]
structure Whole (e:D.Env) (w:Wy) (s:D.State):Prop where
 fits:FN e.M s
 last:s.Last=e.Pid
 claim:s.Claim=e.S.Claim
 n1:(e.S.Procs.length:Int)-1<=s.Procs.length
 n2:s.Procs.length<=e.S.Procs.length+1
 old:∀k:Nat,k<s.Procs.length->k<e.S.Procs.length->(k:Int)≠e.Pid->(k:Int)≠w.With->(s.Procs.getD k default).Frame=(e.S.Procs.getD k default).Frame/\(s.Procs.getD k default).Loc=(e.S.Procs.getD k default).Loc /\
  (s.Procs.getD k default).Type_=(e.S.Procs.getD k default).Type_
def TY {l:List D.Process}{n k}(h:k<n):(l.take n).getD k default=l.getD k default:=by simp[List.getD,h]
def Ah9 (h:Ci e)(hp:e.Pid=(e.S.Procs.length:Int)-1):Whole e w (AcR e):=by
 have b:=Cr.1 h.ok.fits;have h0:=h.p0;have d:=b.pl;have f:(e.S.Procs.take e.Pid.toNat).length=e.Pid.toNat:=by simp;omega
 have i:=b.a;refine⟨⟨b.g,b.cl,by show(List.take _ _).length<=16;omega,⟨h0,by show e.Pid<16;omega⟩,?_,b.c,λp hp=>b.p _ (List.mem_of_mem_take hp),b.k⟩,rfl,rfl,by show _<=((List.take _ _).length:Int);omega,by show(List.take _ _).length<=_;omega,λk hk _ _ _=>?_⟩
 .show -1<=(bif decide (e.Pid<=e.S.Alone)then -1 else e.S.Alone)/\(bif decide (e.Pid<=e.S.Alone)then -1 else e.S.Alone)<((List.take e.Pid.toNat e.S.Procs).length:Int);grind
 .have hk:k<(e.S.Procs.take e.Pid.toNat).length:=hk;show((e.S.Procs.take e.Pid.toNat).getD k default).Frame=_/\((e.S.Procs.take e.Pid.toNat).getD k default).Loc=_/\((e.S.Procs.take e.Pid.toNat).getD k default).Type_=_;grind
structure Aqf (e:D.Env) (w:Wy):Prop where
 st:DW e.M (Cf e w).S
 to:inP (AY e.M (DB e e.Pid).Type_).Locs.length (Cf e w).To=true
 v:0<=w.With->w.With≠e.Pid/\w.With<e.S.Procs.length/\DW e.M (FW e w).S/\(FW e w).S.Kind=6/\inP (AY e.M (DB e w.With).Type_).Locs.length (FW e w).To=true
theorem AcH {pr}(h:Ci e)(n:w∈A5 e)(h0:0<=w.Way)(g:Aqf e w)(q:(CC pr e (Cf e w).S w).2.2=0):Whole e w (G3 e w (CC pr e (Cf e w).S w).1.S):=by
 have r:=Cr.1 h.ok.fits;have b:=h.p0;have s:=h.ok.pid;have d:=SQ (pr:=pr) h.ok.wf r g.st (λhk u=>R1 n h0 hk u) (λhv=>(g.v hv).2.2.1.t6 (g.v hv).2.2.2.1);generalize CC pr e (Cf e w).S w=y at q d |-;have ff:=d.fits q;have t:=d.keep.len;have o:=d.more;have f:∀i:Nat,i<e.S.Procs.length->(y.1.S.Procs.getD i default).Type_=(e.S.Procs.getD i default).Type_:=λi hi=>(d.keep.old i hi).1
 unfold G3;have j:∀l:List D.Process,l.length=y.1.S.Procs.length->(∀p∈l,Bo e.M p=true)->(l.getD e.Pid.toNat default).Type_=(DB e e.Pid).Type_ ->
   (∀k:Nat,(k:Int)≠e.Pid->(k:Int)≠w.With->l.getD k default=y.1.S.Procs.getD k default)->Whole e w {y.1.S with Procs:=D8 l e.Pid (Cf e w).To,Last:=e.Pid}:=by
  intro l x hp z A;have m:(D8 l e.Pid (Cf e w).To).length=y.1.S.Procs.length:=by rw[Dg,x]
  refine⟨⟨ff.g,ff.cl,by show(D8 _ _ _).length<=16;rw[m];exact ff.pl,⟨b,by show e.Pid<16;have:=r.pl;omega⟩,⟨ff.a.1,by show y.1.S.Alone<((D8 _ _ _).length:Int);rw[m];exact ff.a.2⟩,ff.c,RC hp b oM (by rw[z];exact g.to),ff.k⟩,
   rfl,d.keep.claim,gD,gD,λk hk B n1 n2=>?_⟩
  show((D8 l e.Pid (Cf e w).To).getD k default).Frame=_/\((D8 l e.Pid (Cf e w).To).getD k default).Loc=_/\((D8 l e.Pid (Cf e w).To).getD k default).Type_=_;rw[RB n1 b,A k n1 n2];obtain⟨E,F,G⟩:=d.keep.old k B;grind
 cases c:decide (0<=w.With)with
 | false=>exact j _ rfl ff.p (f e.Pid.toNat oM) λ_ _ _=>rfl
 | true =>
  have hv:=ArD c;obtain⟨H,I,_,_,C⟩:=g.v hv;rw[Art];refine j _ Dg (RC ff.p hv oM ?_) ?_ λk n1 n2=>RB n2 hv
  .rw[f w.With.toNat oM];exact C
  .rw[RB oM hv];exact f e.Pid.toNat oM
def Alp {pr}(h:Ci e)(a:w∈A5 e)(g:0<=w.Way->Aqf e w)(b:(goE pr e w).2.2=0):Whole e w (goE pr e w).1:=by
 unfold goE at b |-;cases c:decide (w.Err≠0)with
 | true=>grind
 | false =>
 rw[c,Arq]at b;rw[Arq];cases d:decide (w.Way<0)with
 | true=>exact Ah9 h (Zm a (ArD d) (by simpa using c))
 | false =>
 rw[d,Arq]at b;rw[Arq];have h0:0<=w.Way:=gD
 cases f:decide ((CC pr e (Cf e w).S w).2.2≠0)with
 | true=>grind
 | false=>grind[AcH]
end
end Go.Proofs.YtboifkdeeigcaaaGreatDoor
namespace Go.Proofs
open Go.Shelf
def Tryz.ren:Go.Shelf.Ren:=⟨λ| 129=>233 | 166=>162 | 167=>166 | 169=>170 | 173=>168 | 240=>201 | 246=>203 | 276=>224 | 283=>225 | 284=>226 | 285=>227 | 286=>228 | 317=>232 | 318=>234 | 319=>235 | 320=>236 | 337=>242 | 338=>243 | n=>n,λ| 0=>0 | 2=>2 | 3=>3 | 4=>4 | 5=>5 | 9=>9 | 20=>20 | 37=>230 | 46=>276 | 51=>253 | 53=>252 | 70=>242 | 72=>244 | 75=>247 | 80=>257 | 127=>284 | 164=>298 | 171=>301 | 173=>304 | 212=>309 | 213=>310 | 232=>317 | 233=>318 | n=>n,λ| 17=>0 | 18=>1 | 19=>2 | n=>n⟩
def Tryz.lays169:Go.Proofs.Lays.n169 prog Tryz.ren:=by constructor<;>(intros;kernel_rfl)
def Tryz.Builder_Extra_169:Builder.Extra prog Tryz.ren:=by constructor<;>first | (intros;kernel_rfl) | decide | (constructor<;>(intros;kernel_rfl))
open Go.RowKit in
def Tryz.Builder_String_any_k (B b)(l)(w)(h:Lib.IsBuilderF 244 5 B b (Lib.byteCells l) w)(a:B<=w.heap.size) :
  Calls prog 170 #[.pointer (some ⟨b,0,none⟩)] w λe w'=>e=.returned (.string ⟨l.toArray⟩)/\Lib.IsBuilderF 244 5 B b (Lib.byteCells l) w'/\Below B w w'/\Lib.OthersKept 5 (some b) w w':=Any.Builder_String_any_k Tryz.lays169 Tryz.Builder_Extra_169 B b l w h a
def Tryz.Builder_Extra_166:Builder.Extra prog Tryz.ren:=by constructor<;>first | (intros;kernel_rfl) | decide | (constructor<;>(intros;kernel_rfl))
def Tryz.lays166:Go.Proofs.Lays.n166 prog Tryz.ren:=by constructor<;>(intros;kernel_rfl)
def Tryz.Builder_Extra_167:Builder.Extra prog Tryz.ren:=by constructor<;>first | (intros;kernel_rfl) | decide | (constructor<;>(intros;kernel_rfl))
def Tryz.lays167:Go.Proofs.Lays.n167 prog Tryz.ren:=by constructor<;>(intros;kernel_rfl)
def Tryz.laysM173:Go.Proofs.LaysM.n173 prog Tryz.ren:=by constructor<;>first | (intros;kernel_rfl) | (constructor<;>(intros;kernel_rfl))
open Go.RowKit Go.Sort Go.Lib in
def Tryz.strconv_FormatInt_10 (n)(h0:-9223372036854775808<=n)(h1:n<=9223372036854775807)(w)(a:Lib.TabIs prog w "internal/strconv.uint64pow10" .u64 Lib.pow10Tab) :
  Calls prog 168 #[.int .i64 n,.int .i64 10] w λe w'=>e=.returned (.string ⟨(Lib.itoa n).toArray⟩)/\∃k os,w'=grow (w.drewN k) os:=Any.strconv_FormatInt_10 Tryz.laysM173 n h0 h1 w a
def Tryz.lays283:Go.Proofs.Lays.n283 prog Tryz.ren:=by constructor<;>(intros;kernel_rfl)
open Go.Lib in
def Tryz.internal_strconv_small (i:Nat)(h:i<100)(w) :
  Calls prog 225 #[.int .i64 i] w λe w'=>e=.returned (.string ⟨(Lib.decDigits i).toArray⟩)/\w'=w:=Any.internal_strconv_small Tryz.lays283 i h w
def Tryz.laysM284:Go.Proofs.LaysM.n284 prog Tryz.ren:=by constructor<;>first | (intros;kernel_rfl) | (constructor<;>(intros;kernel_rfl))
open Go.Lib in
def Tryz.internal_strconv_numDigits (u:Nat)(h1:1<=u)(h2:u<18446744073709551616)(w)(a:Lib.TabIs prog w "internal/strconv.uint64pow10" .u64 Lib.pow10Tab) :
  Calls prog 226 #[.int .u64 u] w λe w'=>e=.returned (.int .i64 (Lib.nDigits u))/\w'=w:=Any.internal_strconv_numDigits Tryz.laysM284 u h1 h2 w a
def Tryz.lays285:Go.Proofs.Lays.n285 prog Tryz.ren:=by constructor<;>(intros;kernel_rfl)
open Go.RowKit Go.Sort Go.Lib in
def Tryz.internal_strconv_formatBase10 (blk off cap)(u:Nat)(d)(w)(f:Holds (λ(b:UInt8)=>Value.int .u8 (b.toNat:Int)) w blk off d)(g:u<10 ^ d.size)(a:u<18446744073709551616)(c:d.size<4611686018427387904) :
  Calls prog 227 #[.slice (some ⟨blk,off,none⟩) d.size cap,.int .u64 u] w λe w' =>
   e=.returned (.tuple #[])/\∃(n h:_)(dk:_),w'=(putRow (λ b=>Value.int .u8 (b.toNat)) w blk off dk).drewN n/\FmtInv d.size u 0 h dk:=Any.internal_strconv_formatBase10 Tryz.lays285 blk off cap u d w f g a c
end Go.Proofs
namespace Go.Proofs.YtboifkdeeigcaaaGreatDoor
open Go.RowKit Go.Proofs.Tryz
open IntKind(i64)
abbrev By:=List UInt8
def I64 (n:Int):Prop:=-9223372036854775808<=n/\n<=9223372036854775807
def bs (s:ByteArray):By:=s.data.toList
def mk (l:By):ByteArray:=⟨l.toArray⟩
def Kh (l):bs (mk l)=l:=by simp[bs,mk]
def YO (s):mk (bs s)=s:=by simp[bs,mk]
theorem Iq (s):s.size=(bs s).length:=rfl
theorem Cp (l):(mk l).size=l.length:=by simp[ByteArray.size,mk]
def KS (n:Int):ByteArray:=mk (Lib.itoa n)
end Go.Proofs.YtboifkdeeigcaaaGreatDoor
namespace Go.Proofs.YtboifkdeeigcaaaGreatDoor
open Go.RowKit Go.Proofs.Tryz
open IntKind(i64)
def Fm (d:Nat):UInt8:=if d<10 then UInt8.ofNat (48+d)else UInt8.ofNat (87+d)
def IB (b:Nat):Nat->Nat->By
 | 0,_=>[]
 | g+1,u=>if u<b then[Fm u]else IB b g (u / b)++[Fm (u % b)]
def Gc (b u:Nat):By:=IB b 64 u
def KR (n:Int):Nat:=(n % 4294967296).toNat
def BK (c:UInt8)(n:Int):By :=
 if c=117 then Gc 10 (KR n)else if c=120 then Gc 16 (KR n)else if c=111 then Gc 8 (KR n)else if c=99 then[UInt8.ofNat (n % 256).toNat]else Lib.itoa n
def GB (c:UInt8):Bool:=c==100||(c==105||(c==101||(c==117||(c==120||(c==111||c==99)))))
def Ck:By->List Int->By
 | [],_=>[]
 | [c],_=>[c]
 | c::d::r,l =>
  bif !(c==37)then c::Ck (d::r) l
  else bif d==37 then 37::Ck r l
  else bif GB d then(match l with | []=>Ck r [] | n::l=>BK d n++Ck r l)
  else 37::d::Ck r l
def B3 (t:ByteArray)(l:List Int):ByteArray:=mk (Ck (bs t) l)
structure Mv where
 Pid:Int
 Esc:Int
 Way:Int
 With:Int
 WithEsc:Int
 WithWay:Int
 Claim:Int
deriving DecidableEq
instance : Inhabited Mv:=⟨⟨0,0,0,0,0,0,0⟩⟩
structure Nx where
 Move:Mv
 State:D.State
 Err:Int
 Text:ByteArray
instance : Inhabited Nx:=⟨⟨default,⟨[],[],[],0,0,0⟩,0,⟨#[]⟩⟩⟩
def noT:ByteArray:=⟨#[]⟩
def goP (e:D.Env)(w:Wy):D.State×ByteArray×Int:=goE B3 e w
abbrev Gn:Type:=D.Env×List Wy
def FH (e:D.Env)(i:Nat):List Gn:=bif decide (0<(FP (BQ e i)).1.length)then[(BQ e i,(FP (BQ e i)).1)]else[]
def Ce (e:D.Env):Nat->List Gn
 | 0=>[]
 | n+1=>Ce e n++FH e n
def C5 (e:D.Env)(g:Gn):Int:=(DB e g.1.Pid).Prio
def CM (e:D.Env):Int->List Gn->Option Gn×Int
 | most,[]=>(none,most)
 | most,g::r=>bif decide (g.1.Pid=e.S.Alone)then(some g,most)else CM e (max most (C5 e g)) r
def CG (e:D.Env):List Gn :=
 match CM e 0 (Ce e e.S.Procs.length)with
 | (some g,_)=>[g]
 | (none,most)=>(Ce e e.S.Procs.length).filter λg=>decide (C5 e g=most)
def G8 (m:D.Model)(s:D.State):List Bool:=bif decide (Co m s=0)then B1 m s s.Procs.length else[]
def Fc (m:D.Model)(s:D.State):List Gn :=
 bif decide (0<(CG ⟨m,s,0,false,G8 m s⟩).length)then CG ⟨m,s,0,false,G8 m s⟩else CG ⟨m,s,0,true,G8 m s⟩
def BM:List Gn->List (D.Env×Wy)
 | []=>[]
 | g::r=>g.2.map (λw=>(g.1,w))++BM r
def Eu (m:D.Model)(s:D.State):List (D.Env×Wy):=BM (Fc m s)
def Cc (m:D.Model)(s:D.State)(pid:Int):D.Loc×Bool :=
 bif decide (pid<0)||decide ((s.Procs.length:Int)<=pid)then(default,false)else((FE m (s.Procs.getD pid.toNat default).Type_).getD (s.Procs.getD pid.toNat default).Loc.toNat default,true)
def onS (m:D.Model)(pid:Int):Nat->D.State->ByteArray->D.State×ByteArray×Int
 | k,s,t=>bif !(Cc m s pid).2||!(Cc m s pid).1.Dstep then(s,t,0)else
  match k with
  | 0=>(CN,noT,53)
  | k+1 =>
   match(FP ⟨m,s,pid,false,[]⟩).1.find? λw=>decide (w.With<0)with
   | none=>(CN,noT,53)
   | some w=>bif decide ((goP ⟨m,s,pid,false,[]⟩ w).2.2≠0)then(CN,noT,(goP ⟨m,s,pid,false,[]⟩ w).2.2)
    else onS m pid k (goP ⟨m,s,pid,false,[]⟩ w).1 (t++(goP ⟨m,s,pid,false,[]⟩ w).2.1)
def DE (m:D.Model)(s:D.State)(pid:Int):D.State:=bif(Cc m s pid).2&&(Cc m s pid).1.Atomic then{s with Alone:=pid}else s
def Ha (e:D.Env)(w:Wy):Mv:=⟨e.Pid,w.Esc,w.Way,w.With,w.WithEsc,w.WithWay,-1⟩
def DM (e:D.Env)(w:Wy):Nx :=
 bif decide ((goP e w).2.2≠0)then⟨Ha e w,CN,(goP e w).2.2,noT⟩
 else bif decide ((onS e.M e.Pid 200 (goP e w).1 noT).2.2≠0)then⟨Ha e w,CN,(onS e.M e.Pid 200 (goP e w).1 noT).2.2,noT⟩
 else⟨Ha e w,DE e.M (DE e.M {(onS e.M e.Pid 200 (goP e w).1 noT).1 with Alone:=-1} e.Pid) w.With,0,(goP e w).2.1++(onS e.M e.Pid 200 (goP e w).1 noT).2.1⟩
def Cb (m:D.Model)(s:D.State):List Nx×Int:=bif decide (Co m s≠0)then([],Co m s)else((Eu m s).map λp=>DM p.1 p.2,0)
def Ej (e:D.Env)(s:D.Stmt):Bool×Int :=
 if s.Kind=1 then(decide ((Bc e s.A).1≠0)||decide ((Bc e s.A).2≠0),(Bc e s.A).2)
 else if s.Kind=3 then(true,E5 e s)else(decide (s.Kind=8),0)
def Ax (m:D.Model)(s:D.State):List D.Trans:=((AY m m.Claim).Locs.getD s.Claim.toNat default).Out
def CY (m:D.Model)(s:D.State):D.Env:=⟨m,s,-1,false,G8 m s⟩
def Mh (m:D.Model)(s:D.State):Bool:=(Ax m s).any λt=>(Ej (CY m s) t.S).1
def HG (m:D.Model)(s:D.State)(i:Nat):Bool×Int :=
 let t:=(Ax m s).getD i default
 bif decide (t.S.Kind=7)&&!Mh m s then(true,(Ej (CY m s) t.S).2)else Ej (CY m s) t.S
def Eg (m:D.Model)(s:D.State):List (Bool×Int):=(List.range (Ax m s).length).map (HG m s)
def Db (c:Int):Mv:=⟨-1,-1,-1,-1,-1,-1,c⟩
def EM (c to:Int)(n:Nx):Nx:=bif decide (n.Err=0)then⟨{n.Move with Claim:=c},{n.State with Claim:=to},n.Err,n.Text⟩else⟨{n.Move with Claim:=c},n.State,n.Err,n.Text⟩
def EQ (m:D.Model)(s:D.State):List Nx:=bif decide (0<(Cb m s).1.length)then(Cb m s).1 else[⟨Db (-1),s,0,noT⟩]
def FS (m:D.Model)(s:D.State)(c:Nat):List Nx :=
 let w:=HG m s c
 bif !w.1 then[]else bif decide (w.2≠0)then[⟨Db c,CN,w.2,noT⟩]else(EQ m s).map (EM c ((Ax m s).getD c default).To)
def DV (m:D.Model)(s:D.State):Nat->List Nx
 | 0=>[]
 | n+1=>DV m s n++FS m s n
def D9 (m:D.Model)(s:D.State):List Nx×Int:=bif decide ((Cb m s).2≠0)||decide (m.Claim<0)then Cb m s else(DV m s (Ax m s).length,0)
def KZ (x:Mv):List VV:=[Aa x.Pid,Aa x.Esc,Aa x.Way,Aa x.With,Aa x.WithEsc,Aa x.WithWay,Aa x.Claim]
def Bz (x:Nx):List VV:=[Aa x.Move.Pid,Aa x.Move.Esc,Aa x.Move.Way,Aa x.Move.With,Aa x.Move.WithEsc,Aa x.Move.WithWay,Aa x.Move.Claim,
 Ac true x.State.Globals,AG true x.State.Chans,Aw true x.State.Procs,Aa x.State.Last,Aa x.State.Alone,Aa x.State.Claim,Aa x.Err,AI x.Text]
def AX (fz:Bool)(l:List Nx):VV:=.sl fz l.length 15 λi=>Bz (l.getD i default)
def CE (l:List Nx):Nat->List VV:=λi=>Bz (l.getD i default)
instance : Inhabited Gn:=⟨(default,[])⟩
def FI (g:Gn):List VV:=[AE true g.1.M.Globals,Ac true g.1.M.Init,A1 true g.1.M.Shapes,Ac true g.1.M.Chans,Bb true g.1.M.Procs,Aa g.1.M.Claim,Bf true g.1.M.Exprs,
 Ac true g.1.S.Globals,AG true g.1.S.Chans,Aw true g.1.S.Procs,Aa g.1.S.Last,Aa g.1.S.Alone,Aa g.1.S.Claim,Aa g.1.Pid,Ad g.1.Timeout,AM true g.1.Able,AZ true g.2]
def Cd (fz:Bool)(l:List Gn):VV:=.sl fz l.length 17 λi=>FI (l.getD i default)
def JI (l:List Gn):Nat->List VV:=λi=>FI (l.getD i default)
abbrev Wc:Type:=Bool×Int
def DP (w:Wc):List VV:=[Ad w.1,Aa w.2]
def CQ (fz:Bool)(l:List Wc):VV:=.sl fz l.length 2 λi=>DP (l.getD i default)
def KH (l:List Wc):Nat->List VV:=λi=>DP (l.getD i default)
def rnd (ro:Option Nat):Fence:={Fence.wide with round:=ro}
section
variable {P : Program} {T:TypeId->TE} {Sh:Shs} {N:Nat} {L:Ann} {Q:Exit->Act->World->Prop} {ops:Array Oper} {ro:Option Nat}
def Am9 {row}{args}{w}{R}(h:Rows P row args w R):RowsIn (rnd ro) 0 P row args w R:=λc cs _ =>
 let ⟨v,w',r,s⟩:=h c cs
 ⟨v,w',r,(stepsIn_wide (P:=P)).2 s⟩
def AqS {o:Oper}{a}{w}{K}(b:∀c,o.op≠.defer c)(h:o.wp P a w K Q):o.wpIn (rnd ro) 0 P a w K Q:=by
 refine⟨λ_ _=>trivial,?_⟩;rw[Oper.semAt_eq _ _ _ b];unfold Oper.wp at h;generalize(execOp a.eval o).run P w=r at h |-;cases r with
 | ok n w' =>
  cases n with
  | enter f args=>exact⟨λh=>by simp[rnd,Fence.wide]at h,CallsIn.mono (callsIn_wide.2 h) λ_ _ h=>h⟩
  | row r args=>exact⟨λh=>by simp[rnd,Fence.wide]at h,Am9 h⟩
  | round=>exact h.elim
  | _=>exact h
 | halt e w' =>
  cases e with
  | panic v=>exact h
  | _=>exact h.elim
def Ad9 {i}{a}{w}{K}(b:∀(i:Nat) o c,ops[i]?=some o->o.op≠.defer c)(f:¬LetsOut Q)(h:wpOp P ops Q i K a w):wpOpIn (rnd ro) 0 P ops Q i K a w:=by
 unfold wpOp at h;unfold wpOpIn;cases d:ops[i]? with
 | none=>rw[d]at h;exact h
 | some o =>
  rw[d]at h;simp only at h |-;split
  .rename_i e;rw[ArY e]at h;exact AqS (b i o · d) (h.resolve_right λh=>f h.2)
  .rename_i e;rw[ArG e]at h;exact⟨λ_ _=>trivial,h⟩
def VX (b:∀(i:Nat) o c,ops[i]?=some o->o.op≠.defer c)(d:¬LetsOut Q):∀(is)(a)(w),wpOps P ops Q is a w->wpOpsIn (rnd ro) 0 P ops Q is a w
 | [],a,w,h=>h
 | i::is,a,w,h=>by
  rw[wpOps_cons]at h;rw[wpOpsIn_cons];exact wpOpIn_mono (λa w h=>VX b d is a w h) (Ad9 b d h)
def Amk {md}(b:∀(i:Nat) o c,ops[i]?=some o->o.op≠.defer c)(d:¬LetsOut Q):∀(fuel)(listed)(a)(w),wpAny P md ops Q fuel listed a w->wpAnyIn (rnd ro) 0 P md ops Q fuel listed a w
 | 0,_,_,_,h=>h
 | fuel+1,_,_,_,h=>⟨h.1,λi hi=>wpOpIn_mono (λa w h=>Amk b d fuel _ a w h) (Ad9 b d (h.2 i hi))⟩
def K5 (ops:Array Oper):Bool:=ops.toList.all λo=>match o.op with
 | .defer _=>false
 | _=>true
def Wt (h:K5 ops)(i:Nat)(o)(c)(a:ops[i]?=some o):o.op≠.defer c:=λe=>by
 have:=Ar3.1 h o (by have:=Array.mem_of_getElem? a;simpa using this);rw[e]at this;cases this
def Ue {st0}{E}{w0}{φ0}{a}(t:TOk P T)(q:P.follows .mixedOrders)(hB:NY ops N)(y:K5 ops){K:St->Prop}{id}{draw}
  (h:Kd P T Sh draw ops 0 ops.toList st0 [] [] λb=>K (clr ops b)) (hrel:Rel N E st0 φ0 a w0) :
  (Code.region id ops draw).wpIn (rnd ro) 0 P (λe r w'=>e=.normal/\∃b φ',K b/\Rel N E b φ' r w'/\Ext w0 φ0 w' φ') a w0:=by
 obtain⟨O,u,z⟩:=EL ops.toList 0 st0 [] [] h;have m:=NX hB;obtain⟨s,v⟩:=IQ (T:=T) (O:=O) (st0:=st0) ops.toList 0 sM (Arv _) z;have n:∀(j:Nat) o,ops[j]?=some o->IC draw T O ops st0 j o:=λj o=>s j o (Arv _)
 have d:=Wt y;have x:¬LetsOut (λe r w'=>e=Exit.normal/\∃b φ',K b/\Rel N E b φ' r w'/\Ext w0 φ0 w' φ'):=λ⟨_,_,h,_⟩=>by cases h
 cases draw with
 | false =>
  refine wpIn_region (VX d x _ _ _ ?_);rw[List.range_eq_range'];refine Ss t u m n (λD φ a w f g=>⟨rfl,_,φ,v,g.finish m n f,g.ext⟩) ops.size 0 φ0 a w0 oM ?_;have e:(λi=>decide (i<0))=λ_=>false:=by funext i;simp
  rw[e];exact RI.start hrel
 | true =>
  obtain⟨c,k⟩:=hrel.drew;refine wpIn_region_any q (Amk d x _ _ _ _ ?_);refine Amj rfl t u m n (w0:={w0 with drawn:=w0.drawn+1}) (φ0:=φ0) (λD φ a w f g=>⟨rfl,_,φ,v,g.finish m n f,k.trans g.ext⟩) ops.size _ φ0 a _ sM ?_ ?_ ?_
  .intro i o e hi f;have h0:(Array.replicate ops.size false).getD i false=false:=by simp[Array.getD]
   exact absurd (h0.symm.trans f) sM
  .have:=List.countP_le_length (p:=λi=>!(Array.replicate ops.size false).getD i false) (l:=List.range ops.size);simpa using this
  .have e:(λi=>(Array.replicate ops.size false).getD i false)=λ_=>false:=by funext i;simp[Array.getD]
   rw[e];exact RI.start c
def KI (N:Nat):Code->Bool
 | .skip | .ret | .exit _=>true
 | .region _ ops _=>NY ops N&&K5 ops
 | .seq x y=>KI N x&&KI N y
 | .cond _ x y=>KI N x&&KI N y
 | .block _ c=>KI N c
 | _=>false
def PN (m:TOk P T)(l:P.follows .mixedOrders)(i:∀p,L.cut p=false):∀(c),KI N c->∀(p)(K)(st),xc P T Sh N L p c K st->∀(E) (φ) (a) (w),Rel N E st φ a w ->
  c.wpIn (rnd ro) 0 P (λe n w'=>∃d φ',K e d/\Rel N E d φ' n w'/\Ext w φ w' φ') a w
 | .skip,_,p,K,st,h,E,φ,a,w,k=>wpIn_skip ⟨st,φ,h,k,Ext.refl _ _⟩
 | .exit id,_,p,K,st,h,E,φ,a,w,k=>wpIn_exit ⟨st,φ,h,k,Ext.refl _ _⟩
 | .ret,_,p,K,st,h,E,φ,a,w,k=>wpIn_ret ⟨st,φ,h,k,Ext.refl _ _⟩
 | .region id ops draw,hB,p,K,st,h,E,φ,a,w,k=>by
  simp only[KI,Arr]at hB;exact wpIn_mono (Ue (id:=id) (draw:=draw) m l hB.1 hB.2 (K:=λd=>K .normal d) h k) λe n w' ⟨q,d,φ',h1,h2,h3⟩=>⟨d,φ',by rw[q];exact h1,h2,h3⟩
 | .seq x y,hB,p,K,st,h,E,φ,a,w,k=>by
  simp only[KI,Arr]at hB;refine wpIn_seq (wpIn_mono (PN m l i x hB.1 _ _ st h E φ a w k) ?_);rintro e n w' ⟨d,φ',h1,h2,h3⟩;cases e with
  | normal =>
   simp only[Aj0]at h1;rw[i,Arq]at h1;exact wpIn_mono (PN m l i y hB.2 _ K d h1 E φ' n w' h2) λe r s ⟨st'',φ'',g1,u,z⟩=>⟨st'',φ'',g1,u,h3.trans z⟩
  | _=>exact⟨d,φ',h1,h2,h3⟩
 | .cond c x y,hB,p,K,st,h,E,φ,a,w,k=>by
  simp only[KI,Arr]at hB;have o:V w (E.up φ) (some φ) (st.val c) (a.eval c):=by
   cases c with
   | tmp t=>exact k.tm t
   | const v=>exact V.litC v
   | global g=>exact .dead
   | func f=>exact .fn rfl λj x A=>by simp at A
  simp only[xc]at h;split at h
  .rename_i b e;rw[e]at o;refine wpIn_cond (t:=b) o.sc_inv ?_;cases b with
   | true=>exact PN m l i x hB.1 _ K st (h.1 rfl) E φ a w k
   | false=>exact PN m l i y hB.2 _ K st (h.2 rfl) E φ a w k
  .exact h.elim
 | .block id c,hB,p,K,st,h,E,φ,a,w,k=>by
  refine wpIn_block (wpIn_mono (PN m l i c hB _ _ st h E φ a w k) ?_);rintro e n w' ⟨d,φ',h1,h2,h3⟩;cases e with
  | exit j =>
   simp only[Exit.inBlock]
   by_cases hj:j=id
   .subst hj;simp only[Pk,Asz,Art]at h1;rw[ArY rfl];exact⟨d,φ',h1,h2,h3⟩
   .have B:Nat.beq j id=false:=by
     cases C:Nat.beq j id with
     | true=>exact absurd (Aru C) hj
     | false=>rfl
    simp only[Pk,B,Arq]at h1;rw[ArG hj];exact⟨d,φ',h1,h2,h3⟩
  | _=>exact⟨d,φ',h1,h2,h3⟩
def Qb (N:Nat):Code->Bool
 | .skip=>true
 | .region _ ops _=>NY ops N&&K5 ops
 | .seq x y=>Qb N x&&Qb N y
 | _=>false
def Wj (i:TOk P T)(f:P.follows .mixedOrders)(d:∀p,L.cut p=false):∀(c),Qb N c->∀(p)(K)(st),xc P T Sh N L p c K st->∀(E) (φ) (a) (w),Rel N E st φ a w ->
  c.wpIn (rnd ro) 0 P (λe j w'=>e=.normal/\∃b φ',K .normal b/\Rel N E b φ' j w'/\Ext w φ w' φ') a w
 | .skip,_,p,K,st,h,E,φ,a,w,g=>wpIn_skip ⟨rfl,st,φ,h,g,Ext.refl _ _⟩
 | .region id ops draw,hB,p,K,st,h,E,φ,a,w,g=>by
  simp only[Qb,Arr]at hB;exact Ue (id:=id) (draw:=draw) i f hB.1 hB.2 (K:=λb=>K .normal b) h g
 | .seq x y,hB,p,K,st,h,E,φ,a,w,g=>by
  simp only[Qb,Arr]at hB;refine wpIn_seq (wpIn_mono (Wj i f d x hB.1 _ _ st h E φ a w g) ?_);rintro e j w' ⟨rfl,b,φ',h1,h2,h3⟩;simp only[Aj0]at h1;rw[d,Arq]at h1;exact wpIn_mono (Wj i f d y hB.2 _ K b h1 E φ' j w' h2) λe k l ⟨m,st'',φ'',g1,n,o⟩=>⟨m,st'',φ'',g1,n,h3.trans o⟩
end
def A2.add (E:A2)(S:Nat->Prop):A2:=⟨λk=>E.fz k\/S k,λk=>E.br k\/S k,0,[]⟩
def U (S T:Nat->Prop):Nat->Prop:=λk=>S k\/T k
structure Chg (w:World) (S:Nat->Prop) (w':World) (S':Nat->Prop):Prop where
 os:w'.os=w.os
 tape:w'.tape=w.tape
 output:w'.output=w.output
 size:w.heap.size<=w'.heap.size
 block:∀k,k<w.heap.size->¬S k->w'.heap[k]?=w.heap[k]?
 new:∀k,S' k->S k\/w.heap.size<=k
 lt:∀k,S' k->k<w'.heap.size
structure Gd (E:A2) (S:Nat->Prop) (w:World):Prop where
 sub:∀k,E.br k->E.fz k
 ez:∀k,E.fz k->k<w.heap.size
 sz:∀k,S k->k<w.heap.size
 lib:Df w
 lt:∀k,k∈FF->k<w.heap.size
 out:∀k,k∈FF->¬S k
section
variable {w w' w'':World} {E:A2} {S S' S'':Nat->Prop} {x:VV} {v:Value}
def Chg.trans (h:Chg w S w' S')(k:Chg w' S' w'' S''):Chg w S w'' S'' where
 os:=k.os.trans h.os
 tape:=k.tape.trans h.tape
 output:=k.output.trans h.output
 size:=Ar9 h.size k.size
 block:=λb a c=>(k.block b (ArQ a h.size) λe=>by
  rcases h.new b e with e|e
  .exact c e
  .omega).trans (h.block b a c)
 new:=λb e=>by
  rcases k.new b e with e|e
  .exact h.new b e
  .exact .inr (Ar9 h.size e)
 lt:=k.lt
def Gd.chg (g:Gd E S w)(h:Chg w S w' S'):Gd E S' w' where
 sub:=g.sub
 ez:=λk hk=>ArQ (g.ez k hk) h.size
 sz:=h.lt
 lib:=g.lib.congr λk hk=>h.block k (g.lt k hk) (g.out k hk)
 lt:=λk hk=>ArQ (g.lt k hk) h.size
 out:=λk hk hs=>by
  rcases h.new k hs with e|e
  .exact g.out k hk e
  .have:=g.lt k hk;omega
end
def PH (P:Program)(gf:FuncId)(hi:List Ob)(caps:List VV)(n:Nat)(xs:Nat->List VV):Prop :=
 ∀(E:A2)(S:Nat->Prop) (φ:Phi) (w:World) (lb:Array Value) (l:Nat),Gd E (U S (Own φ)) w->(∀k,S k->¬Own φ k)->HRel (E.add S) (BT hi) φ w->(∀id,φ id≠none↔id<hi.length)->Dw w ((E.add S).up φ) (some φ) caps lb ->
 ∀(J:Nat->(Nat->Prop)->(Nat->Prop)->World->Prop) (R:(Nat->Prop)->(Nat->Prop)->World->Prop),J 0 S (Own φ) w ->
 (∀k S T T' a c,J k S T a->(∀b,S b->¬T b)->Chg a T c T'->J k S T' c)->(∀S T T' a c,R S T a->(∀b,S b->¬T b)->Chg a T c T'->R S T' c) ->
 (∀k S T a vs,k<n->J k S T a->(∀b,S b->¬T b)->Gd E (U S T) a->Dw a (E.add (U S T)) none (xs k) vs->YieldAt Fence.wide 0 P l vs a λe c =>
  (e=.returned (.bool true)/\∃S',J (k+1) S' T c/\Chg a S c S')\/(e=.returned (.bool false)/\∃S',R S' T c/\Chg a S c S')) ->
 CallsIn Fence.wide 0 P gf (#[.func (.yield l) #[] #[]]++lb) w λe w'=>(∃v,e=.returned v)/\((∃S' T',J n S' T' w'/\(∀b,S' b->¬T' b)/\Gd E (U S' T') w')\/∃S' T',R S' T' w')
def WB (W:World)(S S':Nat->Prop):Prop:=∀k (o:Obj),S k->W.heap[k]?=some o->o.isCells=false->S' k
def ApC (J:(Nat->Prop)->World->Prop)(Ix:Code->(Nat->Prop)->World->Prop)(S:Nat->Prop)(W:World):Exit->Act->World->Prop
 | .normal,_,W'=>KeepsOthers W W'/\∃S',Chg W S W' S'/\WB W S S'/\J S' W'
 | .ret,_,W'=>KeepsOthers W W'/\∃S',Chg W S W' S'/\WB W S S'/\Ix .ret S' W'
 | _,_,_=>False
def J4 {S}{W}{l}(a)(hs:S l)(b:∀k,S k->k<W.heap.size):Chg W S (W.putObj l a) S :=
 ⟨rfl,rfl,rfl,sM,λk _ c=>World.putObj_heap_other λe=>c (by rw[e];exact hs),λ_ h=>.inl h,λk hk=>by simp;exact b k hk⟩
def Chg.inU {w w'}{S S' T}(h:Chg w S w' S')(b:∀k,T k->k<w.heap.size):Chg w (U S T) w' (U S' T) :=
 ⟨h.os,h.tape,h.output,h.size,λk hk c=>h.block k hk λe=>c (.inl e),λk hk=>hk.elim (λa=>(h.new k a).imp .inl id) λa=>.inl (.inr a),λk hk=>hk.elim (h.lt k) λa=>ArQ (b k a) h.size⟩
def AiV {P}{g}{ps}{assign body}{Q}{a}{w}{E}{S}{φ}
  {gf:Nat} {lb} (hg:a.eval g=.func (.func gf) #[] lb) (eg:∀args w,(callFunc gf args).run P w=.ok (.enter gf args) w)
  {hi} {caps} {n} {xs} (hit:PH P gf hi caps n xs) (hps:∀k,(xs k).length=ps.size) (gd:Gd E (U S (Own φ)) w) (hdis:∀k,S k->¬Own φ k)
  (hH:HRel (E.add S) (BT hi) φ w) (hφ:∀id,φ id≠none↔id<hi.length) (C:Dw w ((E.add S).up φ) (some φ) caps lb)
  (I:Nat->(Nat->Prop)->(Nat->Prop)->World->Prop) (Ix:Code->(Nat->Prop)->(Nat->Prop)->World->Prop)
  (hI1:∀k S T T' W W',I k S T W->(∀b,S b->¬T b)->Chg W T W' T'->I k S T' W')
  (hI2:∀k S T W l o o',I k S T W->Gd E (U S T) W->W.heap[l]?=some o->o.isCells=false->S l->I k S T (W.putObj l o'))
  (hIx1:∀c S T T' W W',Ix c S T W->(∀b,S b->¬T b)->Chg W T W' T'->Ix c S T' W')
  (hIx:∀c S T W l o o',Ix c S T W->W.heap[l]?=some o->o.isCells=false->S l->Ix c S T (W.putObj l o'))
  (h0:∀W,Below w.heap.size w W->(∀b,b=w.heap.size\/b=w.heap.size+1->b<W.heap.size)->I 0 (λk=>S k\/k=w.heap.size\/k=w.heap.size+1) (Own φ) W)
  (L:∀(l k:Nat)(S1 T1:Nat->Prop)(W:World)(vs:Array Value),k<n->I k S1 T1 W->(∀b,S1 b->¬T1 b)->Gd E (U S1 T1) W->Dw W (E.add (U S1 T1)) none (xs k) vs ->
   assign.wpIn (Fence.wide.inRound l) 0 P (Exit.then (λa₁ W1=>KeepsOthers W W1/\∃S2,Chg W S1 W1 S2/\WB W S1 S2/\∀W2 r o,W2=W1.putObj r o->(∃o1,W1.heap[r]?=some (.loop o1))->S2 r->Gd E (U S2 T1) W1->Gd E (U S2 T1) W2->Chg W1 S2 W2 S2 ->
    body.wpIn (Fence.wide.inRound l) 0 P (ApC (λS W=>I (k+1) S T1 W) (λc S W=>Ix c S T1 W) S2 W2) a₁ W2) (λ_ _ _=>False)) {tmps:=(ps.zip vs).foldl (λt (p,v)=>t.setIfInBounds p v) a.tmps,defers:=[]} W)
  (hdone:∀(D:Nat)(S1 T1:Nat->Prop)(W:World),I n S1 T1 W->(∀b,S1 b->¬T1 b)->Gd E (U S1 T1) W->W.heap[D]?=some (.deferred (some []))->S1 D->w.heap.size<=D->Q .normal {a with defers:={target:=.collected D,args:=#[]}::a.defers} W)
  (hstop:∀(D:Nat)(S1 T1:Nat->Prop)(c:Code)(W:World),Ix c S1 T1 W->W.heap[D]?=some (.deferred (some []))->S1 D->w.heap.size<=D->c.wpIn Fence.wide 0 P Q {a with defers:={target:=.collected D,args:=#[]}::a.defers} W) :
  (Code.rangeFunc g ps assign body).wpIn Fence.wide 0 P Q a w:=by
 refine wpIn_rangeFunc ?_;intro fn hfn;obtain⟨rec,d⟩:∃rec:LoopState->Option Code->Loop,rec=λst pe=>{state:=st,pending:=pe,fn,tmps:=a.tmps,params:=ps,assign,body,defers:=w.heap.size}:=⟨_,rfl⟩
 obtain⟨W1,F⟩:∃W1,(w.alloc (.deferred (some []))).alloc (.loop (rec .ready none))=W1:=⟨_,rfl⟩;have hL1:W1.heap[w.heap.size+1]?=some (.loop (rec .ready none)):=by
  rw[<- F];have:=World.alloc_heap_new (w.alloc (.deferred (some []))) (.loop (rec .ready none));rwa [World.size_alloc]at this
 have hK1:W1.heap[w.heap.size]?=some (.deferred (some [])):=by
  rw[<- F];exact(Below.heap_alloc _ _ _ sM).trans (World.alloc_heap_new w _)
 have i:Below w.heap.size w W1:=by rw[<- F];exact((Below.refl _ w).alloc (Arx _) _).alloc sM _
 have hsz1:W1.heap.size=w.heap.size+1+1:=by rw[<- F];simp
 obtain⟨S0,q⟩:∃S0:Nat->Prop,S0=λk=>S k\/k=w.heap.size\/k=w.heap.size+1:=⟨_,rfl⟩
 have hdis0:∀k,S0 k->¬Own φ k:=λk hk ho=>by
  rw[q]at hk;have:=hH.lt ho;rcases hk with h|rfl|rfl
  .exact hdis k h ho
  .omega
  .omega
 have hc1:Chg w (U S (Own φ)) W1 (U S0 (Own φ)):=⟨i.os,i.tape,i.output,i.size,λk hk _=>i.block k hk,λk hk=>by
   rcases hk with hk|hk
   .rw[q]at hk;rcases hk with h|rfl|rfl
    .exact .inl (.inl h)
    .exact .inr (Arx _)
    .exact .inr (As7 _)
   .exact .inl (.inr hk),λk hk=>by
  rcases hk with hk|hk
  .rw[q]at hk;rcases hk with h|rfl|rfl
   .have:=gd.sz k (.inl h);omega
   .omega
   .omega
  .have:=gd.sz k (.inr hk);omega⟩
 have hg1:=gd.chg hc1;have M:∀(A:Nat->Prop) k,k<w.heap.size->¬(A k\/S k)->W1.heap[k]?=w.heap[k]?/\¬(A k\/S0 k):=λA k hk hn=>⟨i.block k hk,λe=>by
  rcases e with e|e
  .exact hn (.inl e)
  .rw[q]at e;rcases e with h|rfl|rfl
   .exact hn (.inr h)
   .omega
   .omega⟩
 have hH1:HRel (E.add S0) (BT hi) φ W1:=hH.over (λk hk=>hk.imp (gd.sub k) id) i.size (M _) (M _);have N:Dw W1 ((E.add S0).up φ) (some φ) caps lb:=⟨C.1,λj x hx=>(C.2 j x hx).over i.size (M _) (M _)⟩;have hI1':I 0 S0 (Own φ) W1:=by rw[q];exact h0 W1 i λb V=>oM
 refine⟨w.heap.size+1,[{target:=.collected w.heap.size,args:=#[]}],W1,{target:=.fn (.func gf) lb,args:=#[.func (.yield (w.heap.size+1)) #[] #[]]},W1,gf,
  #[.func (.yield (w.heap.size+1)) #[] #[]]++lb,W1,?_,?_,?_,?_,λh=>by simp[Fence.wide]at h,?_⟩
 .rw[<- F,d];exact run_enterLoop_outer _ _ _ _ _
 .simp only[resolve,hg];simp[go_sem]
 .intro f' _;trivial
 .simp[invoke,go_sem,eg]
 .have fin:∀(jump:Option Code)(W W3:World),w.heap.size+1<W.heap.size->W.heap[w.heap.size]?=some (.deferred (some []))->KeepsOthers (W.putObj (w.heap.size+1) (.loop {rec .ready none with state:=.busy})) W3 ->
    (Instr.endRound (w.heap.size+1) jump).run P W3=.ok (.bool jump.isNone) (W3.putObj (w.heap.size+1) (.loop (rec (if jump.isNone then .ready else .done) jump))) /\
    W3.heap[w.heap.size+1]?=some (.loop {rec .ready none with state:=.busy}) /\
    (W3.putObj (w.heap.size+1) (.loop (rec (if jump.isNone then .ready else .done) jump))).heap[w.heap.size+1]?=some (.loop (rec (if jump.isNone then .ready else .done) jump)) /\
    (W3.putObj (w.heap.size+1) (.loop (rec (if jump.isNone then .ready else .done) jump))).heap[w.heap.size]?=some (.deferred (some [])):=λjump W W3 hlt hk u=>by
   have hl2:(W.putObj (w.heap.size+1) (.loop {rec .ready none with state:=.busy})).heap[w.heap.size+1]?=some (.loop {rec .ready none with state:=.busy}):=World.putObj_heap_same hlt;have hk2:(W.putObj (w.heap.size+1) (.loop {rec .ready none with state:=.busy})).heap[w.heap.size]?=some (.deferred (some [])):=(World.putObj_heap_other oM).trans hk;have m:=u.same _ _ hl2 rfl;have:=run_endRound (P:=P) jump m;rw[d]at this |-;exact⟨this,by rw[d]at m;exact m,World.putObj_heap_same (Arz.1 m).1,(World.putObj_heap_other oM).trans (u.same _ _ hk2 rfl)⟩
  refine(hit E S0 φ W1 lb (w.heap.size+1) hg1 hdis0 hH1 hφ N
   (λk S1 T1 W=>I k S1 T1 W/\W.heap[w.heap.size+1]?=some (.loop (rec .ready none))/\W.heap[w.heap.size]?=some (.deferred (some []))/\S1 (w.heap.size+1)/\S1 w.heap.size)
   (λS1 T1 W=>∃c,Ix c S1 T1 W/\W.heap[w.heap.size+1]?=some (.loop (rec .done (some c)))/\W.heap[w.heap.size]?=some (.deferred (some []))/\S1 (w.heap.size+1)/\S1 w.heap.size)
   ⟨hI1',hL1,hK1,by rw[q];exact .inr (.inr rfl),by rw[q];exact .inr (.inl rfl)⟩
   (λk S1 T1 T2 w1 w2 h hd V=>⟨hI1 k S1 T1 T2 w1 w2 h.1 hd V,(V.block _ (Arz.1 h.2.1).1 (hd _ h.2.2.2.1)).trans h.2.1,(V.block _ (Arz.1 h.2.2.1).1 (hd _ h.2.2.2.2)).trans h.2.2.1,h.2.2.2⟩)
   (λS1 T1 T2 w1 w2 h hd V=>by
    obtain⟨c,h1,h2,h3,h4,h5⟩:=h;exact⟨c,hIx1 c S1 T1 T2 w1 w2 h1 hd V,(V.block _ (Arz.1 h2).1 (hd _ h4)).trans h2,(V.block _ (Arz.1 h3).1 (hd _ h5)).trans h3,h4,h5⟩) ?_).mono ?_
  ·
   rintro k S1 T1 W vs hlt ⟨hi,K,hk,y,G⟩ hd hgW X;have hlw:w.heap.size+1<W.heap.size:=(Arz.1 K).1;have hy:=run_yield (P:=P) (args:=vs) K (by rw[d];exact X.1.trans (hps k));rw[d]at hy;refine⟨fn,_,assign,body,hy,roundIn_of_wpIn hfn (wpIn_mono (L (w.heap.size+1) k S1 T1 W vs hlt hi hd hgW X) ?_)⟩;rintro e a1 Wa hp;cases e with
   | normal =>
    obtain⟨hba,S2,O,Y,hbody⟩:=hp;have hla:=hba.same _ _ K rfl;have hka:=hba.same _ _ hk rfl;have H:w.heap.size+1<Wa.heap.size:=(Arz.1 hla).1;have s:=Y _ _ y K rfl;have Z:=Y _ _ G hk rfl;have hTz:∀k,T1 k->k<W.heap.size:=λk hk=>hgW.sz k (.inr hk)
    have hgA:=hgW.chg (O.inU hTz);have z:=J4 (S:=S2) (W:=Wa) (.loop {rec .ready none with state:=.busy}) s O.lt;have hTz2:∀k,T1 k->k<Wa.heap.size:=λk hk=>hgA.sz k (.inr hk)
    have hgP:=hgA.chg (z.inU hTz2);refine⟨_,run_beginRound hla (by rw[d]),?_⟩;refine wpIn_mono (hbody (Wa.putObj (w.heap.size+1) (.loop {rec .ready none with state:=.busy})) _ _ rfl ⟨_,hla⟩ s hgA hgP z) ?_;have hlP:(Wa.putObj (w.heap.size+1) (.loop {rec .ready none with state:=.busy})).heap[w.heap.size+1]?=some (.loop {rec .ready none with state:=.busy}):=World.putObj_heap_same H;have hkP:(Wa.putObj (w.heap.size+1) (.loop {rec .ready none with state:=.busy})).heap[w.heap.size]?=some (.deferred (some [])):=(World.putObj_heap_other oM).trans hka;rintro e a3 W3 hp;cases e with
    | normal =>
     obtain⟨u,S3,B,J,hi3⟩:=hp;obtain⟨hr,m,hl4,hk4⟩:=fin none Wa W3 H hka u;have f:=J _ _ s hlP rfl;have hcq:=J4 (S:=S3) (W:=W3) (.loop (rec .ready none)) f B.lt;have hg3:=hgP.chg (B.inU λk hk=>hgP.sz k (.inr hk));exact⟨_,_,hr,.inl ⟨rfl,S3,⟨hI2 _ _ _ _ _ _ _ hi3 hg3 m rfl f,hl4,hk4,f,J _ _ Z hkP rfl⟩,((O.trans z).trans B).trans hcq⟩⟩
    | ret =>
     obtain⟨u,S3,B,J,hi3⟩:=hp;obtain⟨hr,m,hl4,hk4⟩:=fin (some .ret) Wa W3 H hka u;have f:=J _ _ s hlP rfl;have hcq:=J4 (S:=S3) (W:=W3) (.loop (rec .done (some .ret))) f B.lt;exact⟨_,_,hr,.inr ⟨rfl,S3,⟨.ret,hIx _ _ _ _ _ _ _ hi3 m rfl f,hl4,hk4,f,J _ _ Z hkP rfl⟩,((O.trans z).trans B).trans hcq⟩⟩
    | _=>exact hp.elim
   | _=>exact hp.elim
  ·
   rintro e W2 ⟨⟨v,rfl⟩,(⟨S1,T1,⟨hi,K,hk,y,G⟩,hd,R⟩ | ⟨S1,T1,c,hi,K,hk,y,G⟩)⟩
   .have z:=J4 (S:=S1) (W:=W2) (.loop {rec .ready none with state:=.exhausted}) y λk hk=>R.sz k (.inl hk)
    exact⟨none,_,by have:=run_endLoop (P:=P) K (by rw[d];simp);rw[d]at this;exact this,hdone _ S1 T1 _ (hI2 _ _ _ _ _ _ _ hi R K rfl y) hd (by have:=R.chg (z.inU λk hk=>R.sz k (.inr hk));rw[d]at this;exact this) ((World.putObj_heap_other oM).trans hk) G (Arx _)⟩
   .exact⟨some c,_,by have:=run_endLoop (P:=P) K (by rw[d];simp);rw[d]at this;exact this,hstop _ S1 T1 c _ (hIx _ _ _ _ _ _ _ hi K rfl y) ((World.putObj_heap_other oM).trans hk) G (Arx _)⟩
def rgL (nb:Nat):Ann:={keep:=λ_=>[],base:=nb}
def Sq (nb:Nat)(st:St):List Ob:=(Q3 nb [] st).map (ET st (Q3 nb [] st))
def rgK (nb:Nat)(l0:List (Nat×VV))(b:List Ob)(K:Exit->St->Prop):Exit->St->Prop
 | .normal,st=>bif okF nb [] st then(leO (Sq nb st) b/\True)else False
 | .ret,st=>bif okF nb [] st then K .ret (Aq l0 (Sq nb st))else False
 | _,_=>False
def Ajo (nb:Nat):VV->Bool
 | .bp id _=>Nat.blt id nb
 | x=>x.mem
def Xn (nb:Nat)(l:List (Nat×VV)):Bool:=l.all λp=>Ajo nb p.2
section
variable {P : Program} {T:TypeId->TE} {Sh:Shs} {N:Nat} {E:A2} {w:World} {φ:Phi} {a:Act} {st:St}
def Sz {nb t}:∀{l},Xn nb l->Ajo nb (Cs t l)
 | [],_=>rfl
 | (j,x)::l,h=>by
  unfold Xn at h;rw[Ati,Arr]at h;simp only[Cs];cases Nat.beq t j with
  | true=>exact h.1
  | false=>exact Sz (l:=l) h.2
def V.stab {E':A2}{w'}{φ'}{nb}{x}{v}(h:V w (E.up φ) (some φ) x v)(e:Ajo nb x)(hs:w.heap.size<=w'.heap.size)
  (g:∀k,k<w.heap.size->¬(E.up φ).fz k->w'.heap[k]?=w.heap[k]?/\¬(E'.up φ').fz k) (hk:∀id p,id<nb->φ id=some p->∃p',φ' id=some p'/\PlK p p'):V w' (E'.up φ') (some φ') x v:=by
 have c:x.mem=true->V w' (E'.up φ') (some φ') x v:=λf=>by
  have h1:V w (E.up φ).hold none x v:=h.mem f rfl;have h2:V w' (E'.up φ').hold none x v:=h1.mono hs (λk hk d=>g k hk d) (λ_ _ d=>(d trivial).elim) trivial;exact h2.mem f rfl
 cases x with
 | bp id off =>
  obtain⟨b,h1,rfl⟩:=h.bp_inv;obtain⟨p',h2,h3⟩:=hk id _ (ArH e) h1;simp only[PlK]at h3;subst h3;exact .bp h2
 | _=>exact c e
def LP {H}(h:HRel E H φ w){k}(e:Own φ k){o}(hk:w.heap[k]?=some o):o.isCells:=by
 obtain⟨id,d⟩:=e;obtain⟨p,hp,d⟩:=Bd.1 d;have:=h.ob id p hp;generalize H id=ob at this;cases ob with
 | box cs =>
  cases p with
  | box b =>
   obtain⟨c,ty,h1,_⟩:=this;simp only[PlB]at d;subst d;rw[hk]at h1;cases h1;rfl
  | arr=>exact this.elim
 | arr fr g n sz f =>
  cases p with
  | box b=>exact this.elim
  | arr g' n' hd =>
   obtain⟨cap,rfl⟩:=d;obtain⟨_,_,c,ty,h1,_⟩:=this;rw[hk]at h1;cases h1;rfl
 | kar g n sz q r f =>
  cases p with
  | box b=>exact this.elim
  | arr g' n' hd =>
   obtain⟨cap,rfl⟩:=d;obtain⟨_,_,⟨c,ty,h1,_⟩,_⟩:=this;rw[hk]at h1;cases h1;rfl
 | gone g =>
  cases p with
  | box b=>exact this.elim
  | arr g' n' hd =>
   obtain⟨cap,rfl⟩:=d;obtain⟨_,h1⟩:=this;cases h1
def Ext.keeps {H}{w'}{φ'}(h:HRel E H φ w)(e:Ext w φ w' φ'):KeepsOthers w w' :=
 ⟨e.size,λk o hk b=>(e.block k (Arz.1 hk).1 λc=>by rw[LP h c hk]at b;cases b).trans hk⟩
def AjZ {E}{m}:∀(ps:List Nat)(xs)(vs)(l) (A:Array Value),ps.Nodup->(∀p,p∈ps->p<A.size)->xs.length=ps.length->vs.length=ps.length ->
  (∀(j) x,xs[j]?=some x->V w E m x (vs.getD j undef))->(∀t,V w E m (Cs t l) (A.getD t undef)) ->
  ∀t,V w E m (Cs t (ps.zip xs++l)) (((ps.zip vs).foldl (λt p=>t.setIfInBounds p.1 p.2) A).getD t undef)
 | [],_,_,l,A,_,_,_,_,_,h,t=>by simpa using h t
 | p::ps,x::xs,v::vs,l,A,c,hp,h1,h2,hv,h,t=>by
  rw[Atv]at c;have ih:=AjZ ps xs vs ((p,x)::l) (A.setIfInBounds p v) c.2 (λq b=>by rw[Array.size_setIfInBounds];exact hp q (ArI _ b)) (by simpa using h1) (by simpa using h2) (λj x k=>by
   have:=hv (j+1) x k;simpa using this) (λt=>by
   simp only[Cs];cases b:Nat.beq t p with
   | true =>
    have:=Aru b;subst this;have d:=hp t (Arw ..);have h0:=hv 0 x rfl;have e:(A.setIfInBounds t v).getD t undef=v:=by simp[Array.getD,d]
    rw[e];simpa using h0
   | false =>
    have f:p≠t:=λe=>by subst e;simp at b
    rw[show(A.setIfInBounds p v).getD t undef=A.getD t undef by simp[Array.getElem?_setIfInBounds_ne f]];exact h t) t
  have e:Cs t ((p::ps).zip (x::xs)++l)=Cs t (ps.zip xs++(p,x)::l):=by
   have g:∀(L:List (Nat×VV)),(∀q,q∈L->q.1≠p)->Cs t ((p,x)::L++l)=Cs t (L++(p,x)::l):=by
    intro L
    induction L with
    | nil=>intro _;rfl
    | cons q L ih =>
     intro i;have b:=i q (Arw ..);have:=ih λq b=>i q (ArI _ b)
     simp only[AsM,Cs]at this |-;cases h1:Nat.beq t q.1 with
     | true =>
      have:=Aru h1;have h2:Nat.beq t p=false:=by
       cases h3:Nat.beq t p with
       | true=>exact absurd ((Aru h3).symm.trans this).symm b
       | false=>rfl
      rw[h2];rfl
     | false=>rw[Arq,<- this,Arq]
   exact g _ λq b e=>c.1 (by rw[<- e];exact(List.of_mem_zip b).1)
  rw[e];exact ih
def Qp (N:Nat)(E:A2)(φ:Phi)(a:Act)(w:World)(l0:List (Nat×VV))(K0:List Ob->Prop)(S T:Nat->Prop)(W:World):Prop :=
 ∃hs φk,∃X:Nat->Prop,K0 hs/\(∀b,S b↔Own φk b\/X b)/\(∀b,X b->Own φ b\/w.heap.size<=b)/\(∀b,T b->Own φ b\/w.heap.size<=b) /\
  Rel N (E.add (U X T)) (Aq l0 hs) φk {a with defers:=[]} W/\Fr 0 w φ W φk
def fr0 {w w'}{φ φ'}(h1:w'.os=w.os)(h2:w'.tape=w.tape)(h3:w'.output=w.output)(h4:w.heap.size<=w'.heap.size)(h5:∀k,k<w.heap.size->¬Own φ k->w'.heap[k]?=w.heap[k]?)(h6:∀k,Own φ' k->Own φ k\/w.heap.size<=k):Fr 0 w φ w' φ' :=
 ⟨h1,h2,h3,h4,h5,h6,λ_ _ h _=>absurd h (Asm _)⟩
def Rel.turn {E}{st}{φ}{a}{W}{l}(d)(h:Rel N E st φ a W)(h1:E.fz l)(h2:E.br l)(h3:l∉FF)(f:E.ds=[]):Rel N E st φ a (W.putObj l d):=by
 have b:∀k,k≠l->(W.putObj l d).heap[k]?=W.heap[k]?:=λk hk=>World.putObj_heap_other hk
 have:=h.over (E:=E) (w':=W.putObj l d) h.hp.sub sM (λk _ c=>⟨b k λe=>c (by rw[e];exact h1),c⟩) (λk _ c=>⟨b k λe=>c (by rw[e];exact h2),c⟩) (λk hk=>by simpa using h.old.lt k hk) (by rw[f];exact .nil (by simpa using h.df.2.1)) λk hk=>b k λe=>h3 (by rw[<- e];exact hk)
 rw[<- h.df.1]at this;exact this
section
variable {N : Nat} {E:A2} {φ:Phi} {a:Act} {w:World} {l0:List (Nat×VV)} {K0:List Ob->Prop} {S T:Nat->Prop} {W:World}
def Qp.iter (i:∀k,E.br k->E.fz k)(j:∀k,k∈FF->k<w.heap.size/\¬Own φ k){T'}{W'}(h:Qp N E φ a w l0 K0 S T W)(c:Chg W T W' T'):Qp N E φ a w l0 K0 S T' W':=by
 obtain⟨hs,φk,X,h1,h2,h3,h4,h5,h6⟩:=h;have g:∀b,T' b->Own φ b\/w.heap.size<=b:=λb l=>(c.new b l).elim (h4 b) λh=>.inr (Ar9 h6.size h)
 have f:∀(A:Nat->Prop) k,k<W.heap.size->¬(A k\/U X T k)->W'.heap[k]?=W.heap[k]?/\¬(A k\/U X T' k):=λA k hk d =>
  ⟨c.block k hk λe=>d (.inr (.inr e)),λe=>by
   rcases e with e|e|e
   .exact d (.inl e)
   .exact d (.inr (.inl e))
   .rcases c.new k e with e|e
    .exact d (.inr (.inr e))
    .omega⟩
 have:=h5.over (E:=E.add (U X T')) (w':=W') (λk hk=>hk.imp (i k) λh=>h) c.size (f _) (f _) (λk hk=>?_) (.nil ?_) λk hk=>?_
 .exact⟨hs,φk,X,h1,h2,h3,g,this,fr0 (c.os.trans h6.os) (c.tape.trans h6.tape) (c.output.trans h6.output) (Ar9 h6.size c.size) (λk hk d=>(c.block k (ArQ hk h6.size) λe=>(h4 k e).elim d λh=>oM).trans (h6.block k hk d)) h6.new⟩
 .rcases hk with hk|hk|hk
  .exact ArQ (h5.old.lt k (.inl hk)) c.size
  .exact ArQ (h5.old.lt k (.inr (.inl hk))) c.size
  .exact c.lt k hk
 .exact Ar9 h5.df.2.1 c.size
 .obtain⟨l1,l2⟩:=j k hk;exact c.block k (ArQ l1 h6.size) λe=>(h4 k e).elim l2 λh=>oM
def Qp.own (h:Qp N E φ a w l0 K0 S T W){l}(hs:S l):Own φ l\/w.heap.size<=l:=by
 obtain⟨_,φk,X,_,h2,h3,_,h5,h6⟩:=h;rcases(h2 l).1 hs with h|h
 .exact h6.new l h
 .exact h3 l h
def Qp.put (g:∀k,k∈FF->k<w.heap.size/\¬Own φ k){l}{o}(b)(h:Qp N E φ a w l0 K0 S T W)(i:W.heap[l]?=some o)(j:o.isCells=false)(hs:S l):Qp N E φ a w l0 K0 S T (W.putObj l b):=by
 have c:=h.own hs;obtain⟨hs',φk,X,h1,h2,h3,h4,h5,h6⟩:=h;have d:X l:=((h2 l).1 hs).resolve_left λh=>by have:=LP h5.hp h i;rw[j]at this;cases this
 refine⟨hs',φk,X,h1,h2,h3,h4,h5.turn b (.inr (.inl d)) (.inr (.inl d)) (λhk=>?_) rfl,fr0 h6.os h6.tape h6.output (by simpa using h6.size) (λk hk f=>(World.putObj_heap_other λe=>?_).trans (h6.block k hk f)) h6.new⟩
 .obtain⟨l1,l2⟩:=g l hk;exact c.elim l2 λh=>oM
 .subst e;exact c.elim f λh=>oM
end
end
def Uj {N}{E}{st}{φ}{a}{w}{l0}{K0}{S T}{W}(f:Rel N E st φ a w)(h:Qp N E φ a w l0 K0 S T W){D}(j:W.heap[D]?=some (.deferred (some [])))(s:S D)(t:w.heap.size<=D) :
  ∃E' d φ',E.Le E'/\(∃hs,K0 hs/\d=Aq l0 hs)/\Rel N E' d φ' {a with defers:={target:=.collected D,args:=#[]}::a.defers} W/\Fr 0 w φ W φ':=by
 obtain⟨hs,φk,X,h1,h2,h3,h4,h5,h6⟩:=h;have l:X D:=((h2 D).1 s).resolve_left λh=>by have:=LP h5.hp h j;cases this
 obtain⟨g,m,Ds,n,u,o⟩:=f.df;rw[<- g]at n;obtain⟨E',b⟩:∃E':A2,E'={E.add (U X T)with lo:=E.lo,ds:={target:=.collected D,args:=#[]}::a.defers}:=⟨_,rfl⟩;have p:=h5.over (E:=E') (w':=W) (λk hk=>by subst b;exact h5.hp.sub k hk) (Arx _) (λk _ i=>⟨rfl,by subst b;exact i⟩) (λk _ i=>⟨rfl,by subst b;exact i⟩) (λk hk=>by subst b;exact h5.old.lt k hk) ?_ λ_ _=>rfl
 .exact⟨E',_,φk,by subst b;exact⟨λ_ h=>.inl h,λ_ h=>.inl h,rfl⟩,⟨hs,h1,rfl⟩,by have e:E'.ds={target:=.collected D,args:=#[]}::a.defers:=(by rw[b]);rw[e]at p;exact p,h6⟩
 subst b;refine⟨Ar9 m h6.size,D::Ds,by show _::a.defers=_;rw[n];rfl,Atv.2 ⟨λv=>?_,u⟩,λD' c=>?_⟩
 .have:=(Arz.1 (o D v).1).1;omega
 .rcases Asg.1 c with rfl|c
  .exact⟨j,.inr (.inl l),.inr (.inl l),λhk=>by have:=f.old.lib.lt _ hk;omega,Ar9 m t⟩
  .obtain⟨q,r,x,y,z⟩:=o D' c;exact⟨(h6.block D' (Arz.1 q).1 λA=>f.hp.free D' A r).trans q,.inl r,.inl x,y,z⟩
def AfZ {P}{T}{N}{st}(hT:TOk P T)(hmx:P.follows .mixedOrders=true){lc}{K}{p q}(Sh){id tg}{ps:Array Tmp}{assign body}(hlc:lc=.block id (.rangeFunc (.tmp tg) ps assign body))
  (hB:(Qb N assign&&KI N body)=true) (hps:ps.toList.Nodup/\∀p,p∈ps.toList->p<N) {gf:Nat} (eg:∀args w,(callFunc gf args).run P w=.ok (.enter gf args) w) {hi} {caps} {n} {xs} (hit:PH P gf hi caps n xs)
  (hxs:∀k,(xs k).length=ps.size) (ic ii) (h1:Fh st.nx ic=true) (h2:Fh st.nx ii=true) (h3:(ic.all λi=>!(ii.any (Nat.beq i)))=true)
  (l0:List (Nat×VV)) (nb:Nat) (m:Nat->List Ob) (_:∀k,(m k).length=nb) (hl0:Xn nb l0=true) (ht:∀t,VV.le (Kg st ic (st.t t)) (Cs t l0)) (hh:leO (ic.map (ET st ic)) (m 0))
  (hg:VV.le (Kg st ii (st.t tg)) (.fn (.func gf) caps)) (hhi:leO (ii.map (ET st ii)) hi)
  (round:∀k,k<n->xc P T Sh N (rgL nb) q (.seq assign body) (rgK nb l0 (m (k+1)) K) (Aq (ps.toList.zip (xs k)++l0) (m k)))
  (done:K .normal (Aq l0 (m n))):Sat P N 0 p lc K st:=by
 subst hlc;refine⟨λE φ a w f=>(wpIn_wide (n:=0)).1 (wpIn_block ?_)⟩;have hE:=f.hp.sub;have hL:∀k,k∈FF->k<w.heap.size/\¬Own φ k:=λk hk=>⟨f.old.lib.lt k hk,f.old.lib.out k hk⟩
 have hlen0:=(Hb hh).1;have Q:=(Hb hhi).1;simp only[Asr]at hlen0 Q;have s:∀k,Own (Dk ii φ) k->Own φ k:=λk h=>EA.2 (.inr h)
 have R:∀k,Own (Dk ic φ) k->Own φ k:=λk h=>EA.2 (.inr h)
 have g:∀k,Hu ii φ k->Own φ k:=λk h=>EA.2 (.inl h)
 have H:∀k,Own (Dk ic φ) k->Hu ii φ k:=λk h=>by
  obtain⟨j,i,J,d⟩:=GA.1 h;have:=Ar3.1 h3 i (Asb J);exact⟨i,Wf (by simpa using this),d⟩
 have hdis:∀k,Hu ii φ k->¬Own (Dk ii φ) k:=λk ⟨i,hi,d⟩ I=>by
  obtain⟨j,i',J,hb'⟩:=GA.1 I;have:=f.hp.inj i i' k d hb';subst this;exact SH hi j J
 have hfn:∃lb,a.eval (.tmp tg)=.func (.func gf) #[] lb/\Dw w ((E.add (Hu ii φ)).up (Dk ii φ)) (some (Dk ii φ)) caps lb:=by
  have hv:=hg _ _ _ _ (Ft (Gz (E':=E.add (Hu ii φ)) f.hp (λ_ h=>h) λ_ h=>h) 8 _ _ (f.tm tg));have e:a.eval (.tmp tg)=a.tmps.getD tg undef:=rfl;rw[e];generalize a.tmps.getD tg undef=v at hv |-;cases hv with
  | fn J Y=>exact⟨_,rfl,J,Y⟩
 obtain⟨lb,hlb,hcaps⟩:=hfn;have hHI:HRel (E.add (Hu ii φ)) (BT hi) (Dk ii φ) w:=(f.hp.lend (E':=E.add (Hu ii φ)) h2 (λ_ h=>h) (λ_ h=>h) (λk h=>h.imp (hE k) λh=>h) (H':=BT (ii.map (ET st ii))) (λj id e=>by simp[BT,e])).le hhi;have hφI:∀j,Dk ii φ j≠none↔j<hi.length:=λj=>by rw[<- Q];exact Gy h2 f.lv j
 have hgd:Gd E (U (Hu ii φ) (Own (Dk ii φ))) w:=⟨hE,f.old.lt,λk hk=>f.hp.lt (hk.elim (g k) (s k)),f.old.lib.at',f.old.lib.lt,λk hk h=>f.old.lib.out k hk (h.elim (g k) (s k))⟩;refine AiV (E:=E) (S:=Hu ii φ) (φ:=Dk ii φ) hlb eg hit hxs hgd hdis hHI hφI hcaps (λk=>Qp N E φ a w l0 (λhs=>hs=m k))
  (λc S T W=>c=.ret/\Qp N E φ a w l0 (λhs=>K .ret (Aq l0 hs)) S T W) (λk S T T' W W' h _ c=>h.iter hE hL c) (λk S T W l o o' h _ hl I hs=>h.put hL o' hl I hs)
  (λc S T T' W W' ⟨hc,h⟩ _ hch=>⟨hc,h.iter hE hL hch⟩) (λc S T W l o o' ⟨hc,h⟩ hl I hs=>⟨hc,h.put hL o' hl I hs⟩) ?_ ?_ ?_ ?_
 ·
  intro W d M;obtain⟨φ0,hφ0⟩:∃φ0,Dk ic φ=φ0:=⟨_,rfl⟩;obtain⟨X,hX⟩:∃X:Nat->Prop,X=λb=>(Hu ii φ b/\¬Own φ0 b)\/b=w.heap.size\/b=w.heap.size+1:=⟨_,rfl⟩
  have O:Rel N (E.add (Hu ic φ)) (Aq l0 (m 0)) φ0 {a with defers:=[]} w:=by
   subst hφ0;refine⟨f.sz,⟨rfl,.nil (Arv _)⟩,⟨λk hk=>hk.elim (f.old.lt k) λh=>f.hp.lt (EA.2 (.inl h)),f.old.lib.at',f.old.lib.lt,λk hk h=>f.old.lib.out k hk (R k h)⟩,λt=>?_,?_,λid y=>?_,λid y=>?_⟩
   .exact ht t _ _ _ _ (Ft (Gz (E':=E.add (Hu ic φ)) f.hp (λ_ h=>h) λ_ h=>h) 8 _ _ (f.tm t))
   .exact(f.hp.lend (E':=E.add (Hu ic φ)) h1 (λ_ h=>h) (λ_ h=>h) (λk h=>h.imp (hE k) λh=>h) (H':=BT (ic.map (ET st ic))) (λj id e=>by simp[BT,e])).le hh
   .have hid':(m 0).length<=id:=y;exact ArW λu=>by have:=(Gy h1 f.lv id).1 u;omega
   .have hid':id<(m 0).length:=y;exact(Gy h1 f.lv id).2 oM
  have key:∀(A:Nat->Prop) k,k<w.heap.size->¬(A k\/Hu ic φ k)->W.heap[k]?=w.heap[k]?/\¬(A k\/U X (Own (Dk ii φ)) k):=λA k hk u=>⟨d.block k hk,λe=>by
   have hno:∀h:Own φ k,¬Own φ0 k->False:=λh h'=>by
    rcases(EA (ids:=ic)).1 h with h''|h''
    .exact u (.inr h'')
    .exact h' (by rw[<- hφ0];exact h'')
   rcases e with e|e|e
   .exact u (.inl e)
   .rw[hX]at e;rcases e with⟨J,Y⟩ | rfl | rfl
    .exact hno (g k J) Y
    .omega
    .omega
   .refine hno (s k e) λh=>hdis k (H k (by rw[hφ0];exact h)) e⟩
  have hR2:=O.over (E:=E.add (U X (Own (Dk ii φ)))) (w':=W) (λk hk=>hk.imp (hE k) λh=>h) d.size (key _) (key _) (λk hk=>?_) (.nil (Arv _)) λk hk=>d.block k (hL k hk).1
  .refine⟨m 0,φ0,X,rfl,λb=>⟨λh=>?_,λh=>?_⟩,λb h=>?_,λb h=>.inl (s b h),hR2,fr0 d.os d.tape d.output d.size (λk hk _=>d.block k hk) λk h=>.inl (R k (by rw[hφ0];exact h))⟩
   .rw[hX];rcases h with h|h|h
    .by_cases I:Own φ0 b
     .exact .inl I
     .exact .inr (.inl ⟨h,I⟩)
    .exact .inr (.inr (.inl h))
    .exact .inr (.inr (.inr h))
   .rw[hX]at h;rcases h with h|⟨h,_⟩|h
    .exact .inl (H b (by rw[hφ0];exact h))
    .exact .inl h
    .exact .inr h
   .rw[hX]at h;rcases h with⟨h,_⟩ | h | h
    .exact .inl (g b h)
    .exact .inr oM
    .exact .inr oM
  .rcases hk with hk|hk|hk
   .exact ArQ (f.old.lt k hk) d.size
   .rw[hX]at hk;rcases hk with⟨h,_⟩ | h | h
    .exact ArQ (f.hp.lt (g k h)) d.size
    .exact M k (.inl h)
    .exact M k (.inr h)
   .exact ArQ (f.hp.lt (s k hk)) d.size
 ·
  rintro l k S1 T1 W vs hk ⟨hs,φk,X,rfl,b1,b2,b3,O,hF⟩ hd hgd1 hsay;rw[Arr]at hB;have hr0:=round k hk;simp only[xc]at hr0;have hup:∀{x:VV}{v:Value},V W (E.add (U S1 T1)) none x v->V W ((E.add (U X T1)).up φk) (some φk) x v:=λh=>h.held.less
   (λk hk=>by
    rcases hk with(hk | hk | hk) | hk
    .exact .inl hk
    .exact .inr (.inl ((b1 k).2 (.inr hk)))
    .exact .inr (.inr hk)
    .exact .inr (.inl ((b1 k).2 (.inl hk)))) λk hk=>by
    rcases hk with(hk | hk | hk) | hk
    .exact .inl hk
    .exact .inr (.inl ((b1 k).2 (.inr hk)))
    .exact .inr (.inr hk)
    .exact .inr (.inl ((b1 k).2 (.inl hk)))
  have hR1:Rel N (E.add (U X T1)) (Aq (ps.toList.zip (xs k)++l0) (m k)) φk {tmps:=(ps.zip vs).foldl (λt (p,v)=>t.setIfInBounds p v) a.tmps,defers:=[]} W:=by
   have e:(ps.zip vs).foldl (λ(t:Array Value) (p,v)=>t.setIfInBounds p v) a.tmps=(ps.toList.zip vs.toList).foldl (λt (p:Nat×Value)=>t.setIfInBounds p.1 p.2) a.tmps:=by
    rw[<- Array.foldl_toList,Array.toList_zip]
   refine⟨?_,⟨rfl,O.df.2⟩,O.old,λt=>?_,O.hp,O.fr,O.lv⟩
   .show((ps.zip vs).foldl (λ(t:Array Value) (p,v)=>t.setIfInBounds p v) a.tmps).size=N;rw[e];have:∀(L:List (Nat×Value)) (A:Array Value),(L.foldl (λt (p:Nat×Value)=>t.setIfInBounds p.1 p.2) A).size=A.size:=by
     intro L
     induction L with
     | nil=>intro A;rfl
     | cons p L ih=>intro A;rw[List.foldl_cons,ih,Array.size_setIfInBounds]
    rw[this];exact O.sz
   .show V W _ _ (Cs t _) (((ps.zip vs).foldl (λ(t:Array Value) (p,v)=>t.setIfInBounds p v) a.tmps).getD t undef);rw[e];refine AjZ ps.toList (xs k) vs.toList l0 a.tmps hps.1 (λp hp=>by rw[show a.tmps.size=N from O.sz];exact hps.2 p hp) (by simpa using hxs k) (by rw[AsO,AsO,hsay.1,hxs k]) (λj x hx=>?_) (λt=>O.tm t) t;have:=hup (hsay.2 j x hx);simpa[Ash]using this
  have F:∀{st:St} {φ':Phi} {a':Act} {W':World},Rel N (E.add (U X T1)) st φ' a' W'->∀{r:Nat}{o:Obj},(Own φ' r\/X r)->W'.heap[r]?=some o->o.isCells=false->X r:=λh r o f I hc=>f.resolve_left λh'=>by
   have:=LP h.hp h' I;rw[hc]at this;cases this
  refine wpIn_mono (Wj (ro:=some l) (L:=rgL nb) hT hmx (λ_=>rfl) assign hB.1 _ _ _ hr0 _ _ _ _ hR1) ?_;rintro e a1 W1 ⟨rfl,st1,φ1,g1,g2,B⟩
  .skip
   have g1:xc P T Sh N (rgL nb) (1::q) body (rgK nb l0 (m (k+1)) K) st1:=g1;refine⟨Ext.keeps hR1.hp B,λb=>Own φ1 b\/X b,⟨B.os,B.tape,B.output,B.size,λb d u=>B.block b d λh=>u ((b1 b).2 (.inl h)),λb d=>?_,λb d=>?_⟩,λb o d I hc=>.inr (F hR1 ((b1 b).1 d) I hc),?_⟩
   .rcases d with h|h
    .exact(B.new b h).imp (λh=>(b1 b).2 (.inl h)) λh=>h
    .exact .inl ((b1 b).2 (.inr h))
   .rcases d with h|h
    .exact g2.hp.lt h
    .exact g2.old.lt b (.inr (.inl h))
   rintro W2 r o2 rfl ⟨o1,hr1⟩ hr2 _ _ _;have hXr:X r:=F g2 hr2 hr1 rfl;have hwr:=b2 r hXr;have hrl:r∉FF:=λh=>by
    obtain⟨l1,l2⟩:=hL r h;exact hwr.elim l2 λh=>oM
   have g2':=g2.turn o2 (.inr (.inl hXr)) (.inr (.inl hXr)) hrl rfl;refine wpIn_mono (PN (ro:=some l) (L:=rgL nb) hT hmx (λ_=>rfl) body hB.2 _ _ _ g1 _ _ _ _ g2') ?_;rintro e a3 W3 ⟨st3,φ3,Z,f2,G⟩;have hend:okF nb [] st3=true->∀(C:List Ob)(K1:List Ob->Prop),leO (Sq nb st3) C->K1 C->KeepsOthers (W1.putObj r o2) W3/\∃S',Chg (W1.putObj r o2) (λb=>Own φ1 b\/X b) W3 S'/\WB (W1.putObj r o2) (λb=>Own φ1 b\/X b) S'/\Qp N E φ a w l0 K1 S' T1 W3:=by
    intro z C K1 hle hK1;obtain⟨φ4,r4,f4⟩:=f2.forget z;have hl1:=(Hb hle).1;have hFt:∀b,b<W.heap.size->¬Own φk b->¬X b->W3.heap[b]?=W.heap[b]?:=λb d u hx=>by
     have h1:¬Own φ1 b:=λh=>(B.new b h).elim u λh=>oM
     have C:b<W1.heap.size:=ArQ d B.size;have Y:(W1.putObj r o2).heap[b]?=W1.heap[b]?:=World.putObj_heap_other λe=>hx (by rw[e];exact hXr)
     exact((G.block b (by simpa using C) h1).trans Y).trans (B.block b d u)
    have M:W.heap.size<=W3.heap.size:=Ar9 B.size (by simpa using G.size);have hnew:∀b,Own φ4 b->Own φk b\/W.heap.size<=b:=λb d=>by
     rcases f4.new b d with h|h
     .rcases G.new b h with h|h
      .exact B.new b h
      .exact .inr (Ar9 B.size (by simpa using h))
     .exact .inr (Ar9 M h)
    refine⟨Ext.keeps g2'.hp G,λb=>Own φ4 b\/X b,⟨G.os,G.tape,G.output,G.size,λb d u=>G.block b d λh=>u (.inl h),λb d=>?_,λb d=>?_⟩,λb o d I hc=>.inr (F g2' d I hc),?_⟩
    .rcases d with h|h
     .rcases f4.new b h with h|h
      .exact(G.new b h).imp .inl λh=>h
      .exact .inr (Ar9 G.size h)
     .exact .inl (.inr h)
    .rcases d with h|h
     .exact r4.hp.lt h
     .exact r4.old.lt b (.inr (.inl h))
    refine⟨C,φ4,X,hK1,λ_=>Iff.rfl,b2,b3,⟨O.sz,⟨rfl,.nil r4.df.2.1⟩,r4.old,λt=>?_,r4.hp.le hle,λid y=>r4.fr id ?_,λid y=>r4.lv id ?_⟩,?_⟩
    .refine(O.tm t).stab (nb:=nb) (Sz hl0) M (λb d u=>⟨hFt b d (λh=>u (.inr h)) λh=>u (.inl (.inr (.inl h))),λh=>?_⟩) λid p y hp=>?_
     .rcases h with h|h
      .exact u (.inl h)
      .exact(hnew b h).elim (λh=>u (.inr h)) λh=>oM
     .obtain⟨p1,J,k1⟩:=B.up id p hp;obtain⟨p2,Y,k2⟩:=G.up id p1 J;obtain⟨p3,e3,k3⟩:=f4.kind id p2 y Y;exact⟨p3,e3,(k1.kind.trans k2.kind).trans k3⟩
    .have:C.length<=id:=y;show(Sq nb st3).length<=id;omega
    .have:id<C.length:=y;show id<(Sq nb st3).length;omega
    .refine fr0 (G.os.trans (B.os.trans hF.os)) (G.tape.trans (B.tape.trans hF.tape)) (G.output.trans (B.output.trans hF.output)) (Ar9 hF.size M) (λb d u=>(hFt b (ArQ d hF.size) (λh=>(hF.new b h).elim u λh=>oM) λh=>(b2 b h).elim u λh=>oM).trans (hF.block b d u)) λb d=>?_
     rcases hnew b d with h|h
     .exact hF.new b h
     .exact .inr (Ar9 hF.size h)
   cases e with
   | normal =>
    simp only[rgK]at Z;cases z:okF nb [] st3 with
    | false=>rw[z]at Z;exact Z.elim
    | true=>rw[z,Art]at Z;exact hend z _ _ Z.1 rfl
   | ret =>
    simp only[rgK]at Z;cases z:okF nb [] st3 with
    | false=>rw[z]at Z;exact Z.elim
    | true =>
     rw[z,Art]at Z;obtain⟨k1,S',k2,k3,k4⟩:=hend z _ (λhs=>K .ret (Aq l0 hs)) (Ja _) Z;exact⟨k1,S',k2,k3,rfl,k4⟩
   | _=>exact Z.elim
 ·
  rintro D S1 T1 W h hd hgd1 hD hS hwD;obtain⟨E',st',φ',J,Y,e3,e4⟩:=Uj f h hD hS hwD;exact⟨E',st',φ',J,by obtain⟨hs,rfl,rfl⟩:=Y;exact done,e3,e4⟩
 ·
  rintro D S1 T1 c W ⟨rfl,h⟩ hD hS hwD;obtain⟨E',st',φ',J,Y,e3,e4⟩:=Uj f h hD hS hwD;exact wpIn_ret ⟨E',st',φ',J,by obtain⟨hs,h1,rfl⟩:=Y;exact h1,e3,e4⟩
def Akn:Code->Code
 | .block _ (.rangeFunc _ _ assign body)=>.seq assign body
 | _=>.skip
def Ctx.rg (c:Ctx)(rel:List Nat)(nb:Nat)(l0:List (Nat×VV))(b:List Ob):Ctx :=
 {c with L:=rgL nb,code:=Akn (FA rel c.code),p0:=[],K0:=rgK nb l0 b (c.k rel)}
def Ctx.after (c:Ctx)(rel:List Nat):Ctx:={c with code:=.skip,K0:=c.k rel}
def Qm {P}{g}(h:Il P g)(args)(w):(callFunc g args).run P w=.ok (.enter g args) w:=by
 obtain⟨fn,b,d,c⟩:=h;simp only[callFunc,Sem.run_bind,Sem.run_pure,Result.andThen_ok,run_program,b,c,d,Atl,if_false]
def AaE {c}(m:TOk c.P c.T)(d:c.P.follows .mixedOrders=true){rel}{st}(id tg)(ps:List Tmp)(assign body)(l:c.sub rel=.block id (.rangeFunc (.tmp tg) ps.toArray assign body))(o:c.L.base=0)
  (hB:(Qb c.N assign&&KI c.N body)=true) (e:ps.Nodup/\∀p,p∈ps->p<c.N) {gf:Nat} (eg:Il c.P gf) {hi} {caps} {n} {xs} (f:PH c.P gf hi caps n xs)
  (g:∀k,(xs k).length=ps.length) (ic ii) (h1:Fh st.nx ic=true) (h2:Fh st.nx ii=true) (h3:(ic.all λi=>!(ii.any (Nat.beq i)))=true)
  (l0:List (Nat×VV)) (nb:Nat) (b:Nat->List Ob) (r:∀k,(b k).length=nb) (h:Xn nb l0=true) (s:∀t,VV.le (Kg st ic (st.t t)) (Cs t l0)) (u:leO (ic.map (ET st ic)) (b 0))
  (hg:VV.le (Kg st ii (st.t tg)) (.fn (.func gf) caps)) (j:leO (ii.map (ET st ii)) hi)
  (round:∀k,k<n->(c.rg rel nb l0 (b (k+1))).goal (Aq (ps.zip (xs k)++l0) (b k))) (done:(c.after rel).goal (Aq l0 (b n))):Au c rel st:=by
 unfold Au;rw[o];refine AfZ (q:=[]) m d c.Sh l hB e (λargs w=>Qm eg args w) f (λk=>by simpa using g k) ic ii h1 h2 h3 l0 nb b r h s u hg j (λk hk=>?_) done;have v:Akn (FA rel c.code)=.seq assign body:=by
  have:FA rel c.code=.block id (.rangeFunc (.tmp tg) ps.toArray assign body):=l;rw[this];rfl
 have:=round k hk;unfold Ctx.goal Ctx.rg at this;simp only[v]at this;exact this
end Go.Proofs.YtboifkdeeigcaaaGreatDoor
