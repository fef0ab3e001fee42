/-
  Texts, joined: GdW4, GdW5, GdW6, CkP, CkS, CkA, CkH, CkW, Touch, StClone, ExS, CoP, CoV, CellRet, Scope, CoW, ExA, ExH, ValPlain, TwoPlain, ExP, ExOne, ExW1, ExW2, ExW3, ExW4, ExW5, EbP, EbS, EbW, EbX, EbV, EbY, EbZ, VjThaw, EbT, EgS, EcP, VjThawF, VjOwn, EcE, EcA.
-/
import Derived.Test.YtnhamlpcpngafaaGreatDoorQkB
import Derived.KernelRfl
import Derived.WalkKit
import Derived.OneCell
import Derived.Deep.QuietTactic
import Derived.BigRegion
import Derived.Deep.RegionLaw
import Derived.Deep.AppendLies
import Derived.Lib.SliceRun
import Derived.Lib.Hide
import Derived.Laws.Rows
import Derived.Test.YtnhamlpcpngafaaGreatDoorProg
import Derived.WalkSpells
import Derived.WalkLawsBesides
import Derived.BigQuiet
import Derived.Deep.RegionHeld3
namespace Go.Proofs.YtnhamlpcpngafaaGreatDoor
open Go.RowKit
def leS (x y:VV):Prop:=∀ (w:World) (E:AN) (m:Option Phi) (v:Value),(∀ k,E.br k->E.fz k)->V w E m x v->V w E m y v
theorem DJ (x:VV):leS x x:=fun _ _ _ _ _ h=>h
theorem OO {n sz:Nat}{f:Nat->List VV}:leS (.sl true n sz f) (.sl false n sz f):=by
 intro w E m v d h;obtain⟨a,cap,rfl,h1,h2,h3⟩:=V.sl_inv h;refine Arg h1 h2 fun hp=>?_
 obtain⟨b,off,rfl,e,g,k,u,l,hv⟩:=h3 hp;exact⟨b,off,rfl,e,fun c=>g (d b c),k,u,l,fun i j x hi o=>(hv i j x hi o).less (fun _ h=>h) fun _ _=>trivial⟩
theorem Aj.frz {P:Program}{f:FuncId}{hs hs':List Ob}{xs ys:List VV}{r:VV}(h:Aj P f hs xs hs' r)(e:ys.length=xs.length)(b:∀ (j:Nat) x y,xs[j]?=some x->ys[j]?=some y->leS y x):Aj P f hs ys hs' r:=by
 refine⟨h.callable,fun w E φ vs g c hφ a=>h.call w E φ vs g c hφ ⟨a.1.trans e,fun j x i=>?_⟩⟩;have d:j<ys.length:=by grind
 exact b j x _ i (ApH d) _ _ _ _ (fun k l=>l.imp (c.sub k) fun h=>h) (a.2 j _ (ApH d))
theorem ieq (a b:Int):(a==b)=decide (a=b):=by grind
theorem Bh (a b:Bool):(bif a then b else false)=(a&&b):=by cases a<;>rfl
theorem Br (a b:Bool):(bif a then true else b)=(a||b):=by cases a<;>rfl
theorem nge (n k:Nat):decide ((n:Int)>=k)=decide (k<=n):=by grind
theorem nle (n k:Nat):decide ((n:Int)<=k)=decide (n<=k):=by grind
theorem ge1 (n:Nat):decide ((n:Int)>=1)=decide (1<=n):=nge n 1
theorem le8 (n:Nat):decide ((n:Int)<=8)=decide (n<=8):=nle n 8
theorem AoX (n:Nat):decide ((n:Int)<=256)=decide (n<=256):=nle n 256
theorem AoU (n:Nat):decide ((n:Int)=0)=decide (n=0):=by grind
structure Pg (s:D.Stmt):Prop where
 a:s.Args.length<=1048576
 m:s.Match.length<=1048576
theorem Rb {m:D.Model}{s:D.Stmt}(hs:Pg s):Aj Tryz.prog 152 [] [tpM m,.agg (Au s)] [] (Ac (AA m s)):=by
 have e:=hs.a;have f:=hs.m;have em:∀ u v x:Bool,Aj Tryz.prog 183 [] [.agg (Au s),Ac u,Ac v,Ac x] [] (Ac (DR s u v x)):=fun u v x=>Acg e f
 have n1:∀ x:Bool,(bif x then s.B==(-1:Int) else false)=(x&&decide (s.B=-1)):=fun x=>by rw[ieq,Bh]
 have c:∀ {k:Int},(s.Kind==k)=true->s.Kind=k:=fun h=>by simpa using h
 have i:∀ {k:Int},(s.Kind==k)=false->s.Kind≠k:=fun h=>by simpa using h
 refine Aq Tryz.func152 (SU _ m s rfl rfl) ?_;have d:s.Kind=1∨s.Kind=3->AA m s=(DP m s.A&&decide (s.B=-1)&&DR s true true true):=fun h=>by unfold AA;rw[Aqc h]
 have t2:s.Kind=2->AA m s=(Ca m s.A&&DP m s.B&&DR s true true true):=fun h=>by unfold AA;grind
 have j:s.Kind=4->AA m s=(decide (s.A=-1)&&decide (s.B=-1)&&Cr m.Exprs.length s.Args&&decide (s.Match.length=0)&&decide (s.Text.size<=256)&&decide (s.N=0)):=fun h=>by unfold AA;grind
 have g:s.Kind=5->AA m s=(DP m s.A&&decide (s.B=-1)&&decide (1<=s.Args.length)&&decide (s.Args.length<=8)&&Cr m.Exprs.length s.Args&&decide (s.Match.length=0)&&(decide (s.N=0)||decide (s.N=1))&&decide (s.Text.size=0)):=fun h=>by unfold AA;grind
 have t6:s.Kind=6->AA m s=(DP m s.A&&decide (s.B=-1)&&GH m s&&decide (0<=s.N)&&decide (s.N<=3)&&decide (s.Text.size=0)):=fun h=>by unfold AA;grind
 have l:s.Kind=7∨s.Kind=8->AA m s=(decide (s.A=-1)&&decide (s.B=-1)&&DR s true true true):=fun h=>by unfold AA;grind
 have t9:s.Kind=9->AA m s=(Ca m s.A&&decide (s.B=-1)&&decide (0<=s.N)&&decide (s.N<m.Shapes.length)&&DR s true false true):=fun h=>by unfold AA;grind
 have tx:¬(s.Kind=1∨s.Kind=3)->s.Kind≠2->s.Kind≠4->s.Kind≠5->s.Kind≠6->¬(s.Kind=7∨s.Kind=8)->s.Kind≠9->AA m s=false:=fun h1 h2 h3 h4 h5 h6 h7=>by unfold AA;grind
 generalize AA m s=b at d t2 j g t6 l t9 tx ⊢;exact⟨fun h1=>⟨fun _=>⟨_,F5 m s.A,_,fun _=>em true true true,Aw (by grind)⟩,fun h=>bt h1 h⟩,fun h1=>⟨fun h3=>⟨_,F5 m s.A,_,fun _=>em true true true,Aw (by grind)⟩,fun h3=>⟨fun h2=>⟨_,Ki m s.A,_,fun _=>F5 m s.B,_,fun _=>em true true true,Aw (by grind)⟩,fun h2=>⟨fun h4=>⟨_,fun _=>Ge (by omega),Aw (by simp_all [ieq,AoX])⟩,fun h4=>⟨fun h5=>⟨_,F5 m s.A,_,fun _=>Ge (by omega),Aw (by rw[g (c h5)];simp only[ieq,Bh,Br,AoU,M9,le8,ge1])⟩,fun h5=>⟨fun h6=>⟨_,F5 m s.A,_,fun _=>ZU e f,Aw (by rw[t6 (c h6)];simp only[ieq,Bh,M9,AqM])⟩,fun h6=>⟨fun h7=>⟨fun _=>⟨_,fun _=>em true true true,Aw (by grind)⟩,fun h=>bt h7 h⟩,fun h7=>⟨fun n=>⟨_,fun _=>em true true true,Aw (by grind)⟩,fun n=>⟨fun o=>⟨_,Ki m s.A,_,fun _=>em true false true,Aw (by grind)⟩,fun o=>Aw (by grind)⟩⟩⟩⟩⟩⟩⟩⟩⟩
theorem IZ {x:D.Expr}(h1:x.Args.length<=1048576)(h2:x.V.Dims.length<=1048576):Aj Tryz.prog 116 [] [.agg (Az x)] [] (Ad true (BC x)):=by
 have s:=RR x.Op;have v:([x.A,x.B,x.C].take (AZ x.Op)).length=AZ x.Op:=by simp;omega
 have a:∀ i,i<([x.A,x.B,x.C].take (AZ x.Op)).length->List.take 1 (List.drop (i*1) [VV.sc (.int .i64 x.A),.sc (.int .i64 x.B),.sc (.int .i64 x.C)])=[Aa (([x.A,x.B,x.C].take (AZ x.Op)).getD i 0)]:=by
  intro i hi;rw[v]at hi;have:([x.A,x.B,x.C].take (AZ x.Op)).getD i 0=[x.A,x.B,x.C].getD i 0:=by grind
  rw[this];rcases(show i=0∨i=1∨i=2 by omega) with rfl | rfl | rfl<;>rfl
 have b:((AZ x.Op:Nat):Int).toNat=AZ x.Op:=by omega
 have loop:∀ (L:List Int),L.length<=2097152->L++x.V.Dims.map D.Dim.I=BC x->Ax (B8 Tryz.prog tb BI Ia true Tryz.f116 [] (Ad true (BC x))) [1,1,1,0,1,0,1,1,0] (Aac x L 0):=by
  intro L H y;generalize BC x=R at y ⊢;refine As x.V.Dims.length (fun k=>Aac x (L++(x.V.Dims.take k).map D.Dim.I) k) (fun _=>True) trivial ?_ |> fun h=>by simpa using h
  intro k K _ J next
  have m:(L++(x.V.Dims.take k).map D.Dim.I).length=L.length+k:=by simp;omega
  refine ApI (AgU _ x _ k J) ⟨fun t=>?_,fun E=>⟨trivial,?_⟩⟩
  ·have o:k<x.V.Dims.length:=by have:=AL t;omega
   have b:(k:Int).toNat=k:=by omega
   rw[b];refine⟨⟨by omega,by omega⟩,by rw[m];omega,next _ o trivial ?_⟩;have c:(x.V.Dims.take (k+1)).map D.Dim.I=(x.V.Dims.take k).map D.Dim.I++[(x.V.Dims.getD k default).I]:=by grind [Fj]
   have e:L++(x.V.Dims.take (k+1)).map D.Dim.I=(L++(x.V.Dims.take k).map D.Dim.I)++[(x.V.Dims.getD k default).I]:=by rw[c,Aqp]
   rw[e,Al (by omega)];generalize L++(x.V.Dims.take k).map D.Dim.I=M;generalize (x.V.Dims.getD k default).I=z;refine Up.mk (l':=[(3,.ow 0 0 (M++[z]).length),(45,Df true x.V.Dims),(46,Aa x.V.Dims.length),(47,Aa ((k+1:Nat):Int))]) (hs':=[.arr true 0 (M++[z]).length 1 (AJ (M++[z]))]) ?_ ?_ rfl
   ·grind [AS]
   ·rw[show M.length+1=(M++[z]).length by simp];exact⟨Ap6 fun i hi=>AV (BR (f:=fun n=>[Aa n]) (d:=0) (l:=M) (r:=[z]) (F:=fun i=>[.sc (.int .i64 (M.getD i 0))]) (fun i hi=>rfl) EX hi),trivial⟩
  grind [AP,Aqq,VV.le_refl]
 refine Aq Tryz.func116 (Aj4 _ x rfl rfl rfl rfl rfl rfl) ⟨(AZ x.Op:Nat),E6 _,?_⟩;rw[b];have p:AZ x.Op=([x.A,x.B,x.C].take (AZ x.Op)).length:=v.symm;generalize u:[x.A,x.B,x.C].take (AZ x.Op)=P at a p loop;have g:BC x=P++((if x.Op=30∨x.Op=39 then x.Args else[])++(if x.Op=2 then(if x.V.Scope=2 then[x.V.Who] else[])++x.V.Dims.map D.Dim.I else[])):=by unfold BC;rw[u]
 generalize BC x=R at g loop ⊢;rw[p]at s ⊢;refine⟨⟨by omega,by omega⟩,by omega,fun h=>⟨by omega,fun i hi=>rfl,fun k=>?_,fun k=>⟨trivial,?_⟩⟩,fun h=>⟨fun k=>⟨fun q=>⟨by omega,?_⟩,fun q=>?_⟩,fun k=>⟨trivial,?_⟩⟩⟩
 ·simp at h k;omega
 ·have e:R=P++x.Args:=by grind
  subst e;rw[show P.length+x.Args.length=(P++x.Args).length by simp];exact AqD (.inl rfl) fun i hi=>AV (BR (f:=fun n=>[Aa n]) (d:=0) (l:=P) (r:=x.Args) (G:=fun j=>[.sc (.int .i64 (x.Args.getD j 0))]) a (fun i hi=>rfl) hi)
 ·have w:¬(x.Op=30∨x.Op=39):=by simpa using h
  have e:(P++[x.V.Who])++x.V.Dims.map D.Dim.I=R:=by grind
  refine Ax.le (l':=[(3,.ow 0 0 (P++[x.V.Who]).length),(45,Df true x.V.Dims),(46,Aa x.V.Dims.length),(47,Aa 0)]) (hs':=[.arr true 0 (P++[x.V.Who]).length 1 (AJ (P++[x.V.Who]))]) ?_ ?_ (loop _ (by simp;omega) e)
  ·grind [AS]
  ·rw[show P.length+1=(P++[x.V.Who]).length by simp];exact⟨Ap6 fun i hi=>AV (BR (f:=fun n=>[Aa n]) (d:=0) (l:=P) (r:=[x.V.Who]) a EX hi),trivial⟩
 ·have w:¬(x.Op=30∨x.Op=39):=by simpa using h
  have e:P++x.V.Dims.map D.Dim.I=R:=by grind
  exact Afk (G:=AJ P) (fun i hi=>a i hi) (loop _ (by omega) e)
 ·have w:¬(x.Op=30∨x.Op=39):=by simpa using h
  have e:R=P:=by grind
  subst e;exact AqD (.inl rfl) fun i hi=>AV (a i hi)
structure EW (m:D.Model):Prop where
 wf:AG m
 ex:∀ k:Nat,k<m.Exprs.length->Ep m k=true
def InE (m:D.Model)(l:List Int):Prop:=∀ x∈l,0<=x/\x<m.Exprs.length
theorem N5 {m:D.Model}{k:Int}(h0:0<=k)(h:k<m.Exprs.length):Ao m k∈m.Exprs:=Av (by omega)
theorem EW.at {m:D.Model}(h:EW m){k:Int}(h0:0<=k)(a:k<m.Exprs.length):Ep m k=true:=by
 have:=h.ex k.toNat (by omega);grind
theorem EW.held {m:D.Model}(h:EW m){k:Int}(h0:0<=k)(a:k<m.Exprs.length):InE m (BC (Ao m k)):=fun x c=>by
 have:=N0 (h.at h0 a) x c;omega
theorem EW.small {m:D.Model}(h:EW m):∀ x∈m.Exprs,x.Args.length<=1048576/\x.V.Dims.length<=1048576:=fun x a =>
 ⟨(h.wf.Exprs.2 x a).Args.1,(h.wf.Exprs.2 x a).V.Dims.1⟩
theorem EW.slots {m:D.Model}(h:EW m){k:Int}(h0:0<=k)(g:k<m.Exprs.length)(h2:(Ao m k).Op=2):(Ao m k).V.Scope≠0->(Ao m k).V.Scope≠1->0<=(Ao m k).V.Type_/\(Ao m k).V.Type_<m.Procs.length:=by
 have a:=h.at h0 g;unfold Ep at a;simp only[Apv]at a;obtain⟨_,c⟩:=a;generalize Ao m k=x at *;rw[ApT (by omega),Aqc h2]at c;simp only[Apv,Dn]at c;obtain⟨⟨⟨⟨⟨⟨d,e⟩,_⟩,_⟩,_⟩,f⟩,_⟩:=c;intro n0 n1;have hs:x.V.Scope=2:=by simp at d e;omega
 simp only[hs,decide_true,Apy,Apv]at f;have:=f.2;unfold CR at this;simp at this;omega
structure Inv (m:D.Model) (i run:Int) (n:Nat) (b:Bool) (seen:List Bool) (todo:List Int) (k:Nat):Prop where
 sl:seen.length=m.Exprs.length
 le:k<=todo.length
 mem:InE m todo
 sum:todo.length+load m seen=n
 res:M6 m i run (todo.length - k+load m seen+1) seen (todo.drop k)=b
section
variable {m : D.Model} {i run:Int} {n:Nat} {b:Bool} {seen:List Bool} {todo:List Int} {k:Nat}
theorem Inv.at (h:Inv m i run n b seen todo k)(a:k<todo.length):0<=todo.getD k 0/\todo.getD k 0<m.Exprs.length:=h.mem _ (Av a)
theorem Inv.step (h:Inv m i run n b seen todo k)(a:k<todo.length) :
  (bif seen.getD (todo.getD k 0).toNat false then M6 m i run (todo.length - (k+1)+load m seen+1) seen (todo.drop (k+1)) else bif EY m i run (todo.getD k 0) then false
   else M6 m i run (todo.length - (k+1)+load m seen+1) (seen.set (todo.getD k 0).toNat true) (todo.drop (k+1)++BC (Ao m (todo.getD k 0))))=b:=by
 have:=h.res;rw[Bs (d:=0) a,show todo.length - k+load m seen+1=(todo.length - (k+1)+load m seen+1)+1 by omega]at this;exact this
theorem Inv.had (h:Inv m i run n b seen todo k)(a:k<todo.length)(hs:seen.getD (todo.getD k 0).toNat false=true):Inv m i run n b seen todo (k+1):=by
 have:=h.step a;rw[hs,Apy]at this;exact⟨h.sl,a,h.mem,h.sum,this⟩
theorem Inv.bad (h:Inv m i run n b seen todo k)(a:k<todo.length)(hs:seen.getD (todo.getD k 0).toNat false=false)(c:EY m i run (todo.getD k 0)=true):false=b:=by
 have:=h.step a;grind
theorem Inv.more (f:EW m)(h:Inv m i run n b seen todo k)(c:k<todo.length)(hs:seen.getD (todo.getD k 0).toNat false=false)(g:EY m i run (todo.getD k 0)=false) :
  Inv m i run n b (seen.set (todo.getD k 0).toNat true) (todo++BC (Ao m (todo.getD k 0))) (k+1):=by
 have d:=h.at c;have j:=AjQ (m:=m) hs (by rw[h.sl];omega) h.sl;have:=h.step c;rw[hs,Apw,g,Apw]at this;have e:=h.sum;have l:m.Exprs.getD (todo.getD k 0).toNat default=Ao m (todo.getD k 0):=rfl;rw[l]at j;refine⟨by simp[h.sl],by simp;omega,fun x a=>?_,by grind,?_⟩
 ·rcases Ap1.1 a with a | a
  ·exact h.mem x a
  ·exact f.held d.1 d.2 x a
 grind
end
theorem Tn (m:D.Model)(i run k:Int):EY m i run k=((bif bif (Ao m k).Op==39 then k != run else false then true else bif i==m.Claim then bif bif (Ao m k).Op==31 then true else(Ao m k).Op==39 then true else bif (Ao m k).Op==2 then(Ao m k).V.Scope==1 else false else false) ||
  ((Ao m k).Op==2&&decide (Fx m i (Ao m k).V<DC (Ao m k).V))):=by
 unfold EY;grind
theorem Qm {l:List Bool}{t j:Nat}(d:j<l.length):(bif j.beq t then[VV.sc (.bool true)] else[.sc (.bool (l.getD j false))])=[Ac ((l.set t true).getD j false)]:=by
 cases c:j.beq t with
 | true =>
  have:=ApA c;subst this;simp[List.getD,d,Ac]
 | false =>
  have a:t≠j:=by rintro rfl;simp at c
  simp[List.getD,a,Ac]
theorem V5 {l r:List Int}{F:Nat->List VV}(a:∀ i,i<l.length->F i=[Aa (l.getD i 0)]){i:Nat}(hi:i<(l++r).length):(bif i.blt l.length then F i else(fun j=>[Aa (r.getD j 0)]) (i - l.length))=AJ (l++r) i :=
 BR (f:=fun n=>[Aa n]) (d:=0) (l:=l) (r:=r) (G:=fun j=>[Aa (r.getD j 0)]) a (fun _ _=>rfl) hi
theorem Aey {m:D.Model}{i run:Int}{list:List Int}(s:EW m)(z:0<=i)(hi:i<m.Procs.length)(B:InE m list)(F:list.length<=2097152) :
  Aj Tryz.prog 119 [] [tpM m,Aa i,Ad false list,Aa run] [] (Ac (Ke m i list run)):=by
 have L:=s.wf.Exprs.1;have C:=AlU s.small (A9 m);have G:m.Exprs.length*2097156<=1048576*2097156:=ApS _ L;generalize M:Ke m i list run=b;have inv0:Inv m i run (list.length+load m (A9 m)) b (A9 m) list 0:=⟨by simp[A9],ApD _,B,rfl,by rw[← M]<;>rfl⟩;generalize S:list.length+load m (A9 m)=n at inv0;have N:n<=4398046511104:=by omega
 have small:∀ {t:Int},0<=t->t<m.Exprs.length->(Ao m t).Args.length<=1048576/\(Ao m t).V.Dims.length<=1048576:=fun h0 h1=>s.small _ (N5 h0 h1)
 have wfv:∀ {t:Int},0<=t->t<m.Exprs.length->Jd (Ao m t).V:=fun h0 h1=>(s.wf.Exprs.2 _ (N5 h0 h1)).V
 refine Aq Tryz.func119 (Ah9 _ m i list run) ?_;refine Afd Ai Ak 0 (fun g st=>∃ (seen:List Bool) (todo:List Int) (k:Nat),Inv m i run n b seen todo k/\g=todo.length - k+load m seen/\st=Rg m i list run seen todo k) (by kernel_rfl) (by kernel_rfl) (by kernel_rfl) (by kernel_rfl) (ApI (AeA _ m i list run _ rfl rfl rfl rfl) ?_) fun g st h=>?_
 ·have E:((m.Exprs.length:Int).toNat)=m.Exprs.length:=by omega
  rw[E];have u:Int.toNat 0=0:=rfl;have I:∀ j,j<m.Exprs.length->(A9 m).getD j false=false:=fun j p=>by simp[A9,List.getD,p]
  have O:(A9 m).length=m.Exprs.length:=by simp[A9]
  refine⟨⟨by omega,by omega,by omega⟩,by omega,fun _ _=>rfl,fun h=>Aw ?_,fun h=>?_⟩
  ·have h0:list.length=0:=by simp at h;omega
   have:=inv0.res;rw[ApV h0]at this;rw[← this]<;>rfl
  ·have h0:0<list.length:=by simp at h;omega
   have f:=inv0.at h0;rw[u];have hs:=I (list.getD 0 0).toNat (by omega);have a:=Tn m i run (list.getD 0 0);have more:=fun c=>inv0.more s h0 hs c
   have bad:=fun c=>inv0.bad h0 hs c
   have d:=small f.1 f.2;have v:=wfv f.1 f.2;have A:=inv0.sum;have o:=s.slots f.1 f.2;refine⟨⟨by omega,by omega⟩,⟨by omega,by omega⟩,fun h=>(by cases h),fun _=>⟨⟨by omega,by omega⟩,⟨by omega,by omega⟩,fun q=>Aw (bad (by rw[a,Aqv];exact .inl q)),fun q=>?_⟩⟩;have fin:EY m i run (list.getD 0 0)=false->(list.length+(BC (Ao m (list.getD 0 0))).length)*8<=140737488355328/\∃ g,Up (fun st=>∃ (seen:List Bool) (todo:List Int) (k:Nat),Inv m i run n b seen todo k/\g=todo.length - k+load m seen/\st=Rg m i list run seen todo k)
     (Ay [(0,tpM m),(1,Aa i),(2,Ad false list),(3,Aa run),(9,.ow 0 0 m.Exprs.length),(10,.ow 1 0 (list.length+(BC (Ao m (list.getD 0 0))).length)),(11,Aa (IntKind.i64.wrap (0+1)))]
      [.arr true 0 m.Exprs.length 1 (fun j=>bif j.beq (list.getD 0 0).toNat then[.sc (.bool true)] else[.sc (.bool false)]),.arr true 0 (list.length+(BC (Ao m (list.getD 0 0))).length) 1 (fun j=>bif j.blt list.length then(fun j=>[Aa (list.getD j 0)]) j else(fun j=>[Aa ((BC (Ao m (list.getD 0 0))).getD j 0)]) (j - list.length))]):=by
    intro c;have r:=more c;have e:=r.sum;generalize BC (Ao m (list.getD 0 0))=H at r e ⊢;generalize (list.getD 0 0).toNat=t at r e ⊢;rw[ApP]at e;refine⟨by omega,(list++H).length - (0+1)+load m ((A9 m).set t true),?_⟩;have P:IntKind.i64.wrap (0+1)=((1:Nat):Int):=rfl;have w:m.Exprs.length=((A9 m).set t true).length:=by simp[A9]
    refine Up.mk (l':=[(0,tpM m),(1,Aa i),(2,Ad false list),(3,Aa run),(9,.ow 0 0 ((A9 m).set t true).length),(10,.ow 1 0 (list++H).length),(11,Aa ((1:Nat):Int))])
     (hs':=[.arr true 0 ((A9 m).set t true).length 1 (Ex ((A9 m).set t true)),.arr true 0 (list++H).length 1 (AJ (list++H))]) ?_ ?_ ⟨_,_,_,r,rfl,rfl⟩
    ·grind [ApP,AS]
    ·rw[← w,← ApP];refine⟨Ap6 fun j p=>AV ?_,Ap6 fun j p=>AV (V5 (fun i hi=>rfl) p),trivial⟩;have:=Qm (l:=A9 m) (t:=t) (j:=j) (by omega);rw[I j p]at this;exact this
   refine⟨fun h2=>⟨_,Hv v,_,Rn (fun _=>⟨z,hi⟩) (o (eq_of_beq h2)),fun h3=>Aw (bad ?_),fun h3=>?_⟩,fun h2=>?_⟩
   ·rw[a,Aqv,Apv];exact .inr ⟨h2,h3⟩
   ·have c:EY m i run (list.getD 0 0)=false:=by
     rw[a,ApN,Arq];exact⟨q,.inr h3⟩
    obtain⟨x,y⟩:=fin c;exact⟨BC (Ao m (list.getD 0 0)),IZ d.1 d.2,x,fun i hi=>rfl,y⟩
   ·have c:EY m i run (list.getD 0 0)=false:=by
     rw[a,ApN,Arq];exact⟨q,.inl h2⟩
    obtain⟨x,y⟩:=fin c;exact⟨BC (Ao m (list.getD 0 0)),IZ d.1 d.2,x,fun i hi=>rfl,y⟩
 ·obtain⟨seen,todo,k,inv,rfl,rfl⟩:=h;refine ApI (Aez _ m i list run seen todo k _ rfl rfl rfl) ⟨fun h=>Aw ?_,fun h=>?_⟩
  ·have h0:k=todo.length:=by simp at h;omega
   have:=inv.res;rw[Aqz (by omega)]at this;rw[← this,M6]
  ·have Q:=inv.le;have h0:k<todo.length:=by simp at h;omega
   have f:=inv.at h0;have u:(k:Int).toNat=k:=by omega
   rw[u];have a:=Tn m i run (todo.getD k 0);have d:=small f.1 f.2;have v:=wfv f.1 f.2;have A:=inv.sum;have J:=inv.sl;have o:=s.slots f.1 f.2;refine⟨⟨by omega,by omega⟩,⟨by omega,by omega⟩,fun hs=>?_,fun hs=>?_⟩
   ·have R:=inv.had h0 hs;refine⟨todo.length - (k+1)+load m seen,by omega,Up.of ⟨seen,todo,k+1,R,rfl,?_⟩⟩;grind [Al]
   have more:=fun c=>inv.more s h0 hs c
   have bad:=fun c=>inv.bad h0 hs c
   refine⟨⟨by omega,by omega⟩,⟨by omega,by omega⟩,fun q=>Aw (bad (by rw[a,Aqv];exact .inl q)),fun q=>?_⟩;have fin:EY m i run (todo.getD k 0)=false->(todo.length+(BC (Ao m (todo.getD k 0))).length)*8<=140737488355328/\∃ K,K<todo.length - k+load m seen/\Up (fun st=>∃ (seen:List Bool) (todo:List Int) (k:Nat),Inv m i run n b seen todo k/\K=todo.length - k+load m seen/\st=Rg m i list run seen todo k)
     (Ay [(0,tpM m),(1,Aa i),(2,Ad false list),(3,Aa run),(9,.ow 0 0 seen.length),(10,.ow 1 0 (todo.length+(BC (Ao m (todo.getD k 0))).length)),(11,Aa (IntKind.i64.wrap (k+1)))]
      [.arr true 0 seen.length 1 (fun j=>bif j.beq (todo.getD k 0).toNat then[.sc (.bool true)] else[.sc (.bool (seen.getD j false))]),.arr true 0 (todo.length+(BC (Ao m (todo.getD k 0))).length) 1 (fun j=>bif j.blt todo.length then AJ todo j else(fun j=>[Aa ((BC (Ao m (todo.getD k 0))).getD j 0)]) (j - todo.length))]):=by
    intro c;have r:=more c;have e:=r.sum;generalize BC (Ao m (todo.getD k 0))=H at r e ⊢;generalize (todo.getD k 0).toNat=t at r e ⊢;rw[ApP]at e;refine⟨by omega,(todo++H).length - (k+1)+load m (seen.set t true),by grind,?_⟩;have w:seen.length=(seen.set t true).length:=by simp
    refine Up.mk (l':=[(0,tpM m),(1,Aa i),(2,Ad false list),(3,Aa run),(9,.ow 0 0 (seen.set t true).length),(10,.ow 1 0 (todo++H).length),(11,Aa ((k+1:Nat):Int))])
     (hs':=[.arr true 0 (seen.set t true).length 1 (Ex (seen.set t true)),.arr true 0 (todo++H).length 1 (AJ (todo++H))]) ?_ ?_ ⟨_,_,_,r,rfl,rfl⟩
    ·grind [Al,ApP,AS]
    ·rw[← w,← ApP];exact⟨Ap6 fun j p=>AV (Qm p),Ap6 fun j p=>AV (V5 (fun i hi=>rfl) p),trivial⟩
   refine⟨fun h2=>⟨_,Hv v,_,Rn (fun _=>⟨z,hi⟩) (o (eq_of_beq h2)),fun h3=>Aw (bad ?_),fun h3=>?_⟩,fun h2=>?_⟩
   ·rw[a,Aqv,Apv];exact .inr ⟨h2,h3⟩
   ·have c:EY m i run (todo.getD k 0)=false:=by
     rw[a,ApN,Arq];exact⟨q,.inr h3⟩
    obtain⟨x,y⟩:=fin c;exact⟨BC (Ao m (todo.getD k 0)),IZ d.1 d.2,x,fun i hi=>rfl,y⟩
   ·have c:EY m i run (todo.getD k 0)=false:=by
     rw[a,ApN,Arq];exact⟨q,.inl h2⟩
    obtain⟨x,y⟩:=fin c;exact⟨BC (Ao m (todo.getD k 0)),IZ d.1 d.2,x,fun i hi=>rfl,y⟩
theorem AcI {m:D.Model}{i run:Int}{list:List Int}{n:Nat}{F:Nat->List VV}(e:EW m)(c:0<=i)(hi:i<m.Procs.length)(d:InE m list)(a:list.length<=2097152)(f:n=list.length)(g:∀ j,j<list.length->F j=[Aa (list.getD j 0)]) :
  Aj Tryz.prog 119 [] [tpM m,Aa i,.sl false n 1 F,Aa run] [] (Ac (Ke m i list run)):=by
 subst f;exact(Aey e c hi d a).le trivial ⟨VV.le_refl _,VV.le_refl _,AqD (.inl rfl) fun j h=>AV (g j h),VV.le_refl _,trivial⟩ trivial (VV.le_refl _)
def BT (s:D.Stmt):List Int:=s.Args++((if 0<=s.A then[s.A] else[])++(if 0<=s.B then[s.B] else[]))
theorem Hd {m:D.Model}{a:Int}(h:DP m a=true):0<=a/\a<m.Exprs.length:=CT.1 h
theorem Q6 {m:D.Model}{a:Int}(h:Ca m a=true):0<=a/\a<m.Exprs.length:=by
 unfold Ca at h;simp only[Apv]at h;exact Hd h.1.1
theorem Yi {m:D.Model}{a:Int}{args mt:List Int}(h:B4 m a args mt=true):1<=args.length/\args.length<=8/\mt.length=args.length/\∀ x∈args,0<=x/\x<a:=by
 unfold B4 at h;simp_all [Fc]
theorem K6 {m:D.Model}{s:D.Stmt}(h:AA m s=true):InE m s.Args/\(0<=s.A->s.A<m.Exprs.length)/\(0<=s.B->s.B<m.Exprs.length):=by
 have none:∀ {n t:Bool},DR s true n t=true->InE m s.Args:=fun c=>by
  unfold DR at c;simp only[Apv,AqW,Aq3,ApB]at c;have:s.Args=[]:=ApV (by omega);rw[this];intro x d;cases d
 unfold AA at h;split at h
 ·simp_all [Hd]
 split at h
 ·simp_all [Q6,Hd]
 split at h
 ·simp only[Apv,ApB]at h;exact⟨Fc.1 h.1.1.1.2,fun h0=>by omega,fun h0=>by omega⟩
 split at h
 ·simp only[Apv,ApB]at h;exact⟨Fc.1 h.1.1.1.2,fun _=>(Hd h.1.1.1.1.1.1.1).2,fun h0=>by omega⟩
 split at h
 ·simp only[Apv,ApB]at h;have a:=h.1.1.1.2;unfold GH at a;simp only[Apv]at a;exact⟨(Yi a.1).2.2.2,fun _=>(Hd h.1.1.1.1.1).2,fun h0=>by omega⟩
 split at h
 ·grind
 simp_all [Q6]
theorem ZK {m:D.Model}{s:D.Stmt}(h:AA m s=true):InE m (BT s):=by
 obtain⟨h1,h2,h3⟩:=K6 h;intro x a;unfold BT at a;rcases Ap1.1 a with a | a
 ·exact h1 x a
 grind
theorem AhZ {m:D.Model}{i:Int}{s:D.Stmt}(E:EW m)(w:0<=i)(hi:i<m.Procs.length)(hs:Pg s):Aj Tryz.prog 118 [] [tpM m,Aa i,.agg (Au s)] [] (Ac (Mc m i s)):=by
 have K:=hs.a;have e:∀ {k:Int},(s.Kind==k)=true->s.Kind=k:=fun h=>by simpa using h
 have c:∀ {k:Int},(s.Kind==k)=false->s.Kind≠k:=fun h=>by simpa using h
 have ec:(bif bif bif bif i==m.Claim then s.Kind != 1 else false then s.Kind != 3 else false then s.Kind != 7 else false then s.Kind != 8 else false)=(decide (i=m.Claim)&&(decide (s.Kind≠1)&&(decide (s.Kind≠3)&&(decide (s.Kind≠7)&&decide (s.Kind≠8))))):=by grind
 refine Aq Tryz.func118 (Ak6 _ m i s rfl rfl rfl rfl rfl) ⟨AA m s,Rb hs,?_⟩;rw[ec];have ew:Mc m i s=(AA m s&&!(decide (i=m.Claim)&&(decide (s.Kind≠1)&&(decide (s.Kind≠3)&&(decide (s.Kind≠7)&&decide (s.Kind≠8)))))&&Ke m i (BT s) (if s.Kind=1 then s.A else if s.Kind=2 then s.B else -1)):=rfl;generalize (decide (i=m.Claim)&&(decide (s.Kind≠1)&&(decide (s.Kind≠3)&&(decide (s.Kind≠7)&&decide (s.Kind≠8)))))=cl at ew ⊢;refine⟨fun h=>Aw ?_,fun h=>?_⟩
 ·grind
 ·have x:AA m s=true:=by grind
  have y:cl=false:=by rw[x]at h;simpa using h
  rw[x,y]at ew;simp only[Bool.not_false,Ap7]at ew;have z:=ZK x;have go:∀ (run:Int) (n:Nat) (F:Nat->List VV),n=(BT s).length->(∀ j,j<(BT s).length->F j=[Aa ((BT s).getD j 0)])->Aj Tryz.prog 119 [] [tpM m,Aa i,.sl false n 1 F,Aa run] [] (Ac (Ke m i (BT s) run)):=fun run n F G H =>
   AcI E w hi z (by unfold BT;grind) G H
  have q:s.Kind=1->Mc m i s=Ke m i (BT s) s.A:=fun h=>by rw[ew,Aqc h]
  have t:s.Kind≠1->s.Kind=2->Mc m i s=Ke m i (BT s) s.B:=fun h C=>by rw[ew,ApT h,Aqc C]
  have u:s.Kind≠1->s.Kind≠2->Mc m i s=Ke m i (BT s) (-1):=fun h C=>by rw[ew,ApT h,ApT C]
  generalize Mc m i s=b at q t u ⊢;refine⟨by omega,fun _ _=>rfl,fun I=>⟨by omega,fun hB=>⟨by omega,?_⟩,fun hB=>?_⟩,fun I=>⟨fun hB=>⟨by omega,?_⟩,fun hB=>?_⟩⟩
  ·have p:BT s=(s.Args++[s.A])++[s.B]:=by unfold BT;grind
   have g:s.Args.length+1+1=(BT s).length:=by rw[p];simp
   have J:s.Args.length+1=(s.Args++[s.A]).length:=by simp
   have o:∀ j,j<(BT s).length->(bif Nat.blt j (s.Args.length+1) then(fun j=>bif Nat.blt j s.Args.length then[VV.sc (.int .i64 (s.Args.getD j 0))] else(fun i=>List.take 1 (List.drop (i*1) [VV.sc (.int .i64 s.A)])) (j - s.Args.length)) j else(fun i=>List.take 1 (List.drop (i*1) [VV.sc (.int .i64 s.B)])) (j - (s.Args.length+1)))=[Aa ((BT s).getD j 0)]:=by
    rw[p,J];exact fun j v=>BR (f:=fun n=>[Aa n]) (d:=0) (l:=s.Args++[s.A]) (r:=[s.B]) (F:=fun j=>bif Nat.blt j s.Args.length then[VV.sc (.int .i64 (s.Args.getD j 0))] else(fun i=>List.take 1 (List.drop (i*1) [VV.sc (.int .i64 s.A)])) (j - s.Args.length)) (fun i hi=>BR (f:=fun n=>[Aa n]) (d:=0) (l:=s.Args) (r:=[s.A]) (F:=fun j=>[.sc (.int .i64 (s.Args.getD j 0))]) (fun i hi=>rfl) EX hi) EX v
   exact⟨fun k1=>⟨_,go _ _ _ g o,Aw (q (e k1)).symm⟩,fun k1=>⟨fun k2=>⟨_,go _ _ _ g o,Aw (t (c k1) (e k2)).symm⟩,fun k2=>⟨_,go _ _ _ g o,Aw (u (c k1) (c k2)).symm⟩⟩⟩
  ·have p:BT s=s.Args++[s.A]:=by unfold BT;grind
   have g:s.Args.length+1=(BT s).length:=by rw[p];simp
   have o:∀ j,j<(BT s).length->(bif Nat.blt j s.Args.length then[VV.sc (.int .i64 (s.Args.getD j 0))] else(fun i=>List.take 1 (List.drop (i*1) [VV.sc (.int .i64 s.A)])) (j - s.Args.length))=[Aa ((BT s).getD j 0)]:=by
    rw[p];exact fun j v=>BR (f:=fun n=>[Aa n]) (d:=0) (l:=s.Args) (r:=[s.A]) (F:=fun j=>[.sc (.int .i64 (s.Args.getD j 0))]) (fun i hi=>rfl) EX v
   exact⟨fun k1=>⟨_,go _ _ _ g o,Aw (q (e k1)).symm⟩,fun k1=>⟨fun k2=>⟨_,go _ _ _ g o,Aw (t (c k1) (e k2)).symm⟩,fun k2=>⟨_,go _ _ _ g o,Aw (u (c k1) (c k2)).symm⟩⟩⟩
  ·have p:BT s=s.Args++[s.B]:=by unfold BT;grind
   have g:s.Args.length+1=(BT s).length:=by rw[p];simp
   have o:∀ j,j<(BT s).length->(bif Nat.blt j s.Args.length then[VV.sc (.int .i64 (s.Args.getD j 0))] else(fun i=>List.take 1 (List.drop (i*1) [VV.sc (.int .i64 s.B)])) (j - s.Args.length))=[Aa ((BT s).getD j 0)]:=by
    rw[p];exact fun j v=>BR (f:=fun n=>[Aa n]) (d:=0) (l:=s.Args) (r:=[s.B]) (F:=fun j=>[.sc (.int .i64 (s.Args.getD j 0))]) (fun i hi=>rfl) EX v
   exact⟨fun k1=>⟨_,go _ _ _ g o,Aw (q (e k1)).symm⟩,fun k1=>⟨fun k2=>⟨_,go _ _ _ g o,Aw (t (c k1) (e k2)).symm⟩,fun k2=>⟨_,go _ _ _ g o,Aw (u (c k1) (c k2)).symm⟩⟩⟩
  ·have p:BT s=s.Args:=by unfold BT;grind
   have g:s.Args.length=(BT s).length:=by rw[p]
   have o:∀ j,j<(BT s).length->[Aa (s.Args.getD j 0)]=[Aa ((BT s).getD j 0)]:=by rw[p];exact fun _ _=>rfl
   exact⟨fun k1=>⟨_,go _ _ _ g o,Aw (q (e k1)).symm⟩,fun k1=>⟨fun k2=>⟨_,go _ _ _ g o,Aw (t (c k1) (e k2)).symm⟩,fun k2=>⟨_,go _ _ _ g o,Aw (u (c k1) (c k2)).symm⟩⟩⟩
theorem AhT {t:D.Trans}(h:MX t):Pg t.S:=⟨h.S.Args.1,h.S.Match.1⟩
theorem Ak3 {l:D.Loc}(h:UE l):(BN l).length<=1048577/\∀ w∈BN l,KX w:=by
 refine⟨by have:=h.Esc.1;simp[BN];omega,fun w a=>?_⟩;rcases Aqk.1 a with rfl | a
 ·exact h.Out
 ·exact h.Esc.2 w a
theorem Agk {m:D.Model}{i:Int}(G:EW m)(q:0<=i)(hi:i<m.Procs.length)(H:(m.Procs.getD i.toNat default).Provided<m.Exprs.length) :
  Aj Tryz.prog 78 [] [tpM m,Aa i] [] (Ac (Du m i)):=by
 have I:=G.wf.Procs.2 _ (Av (d:=default) (show i.toNat<m.Procs.length by omega));refine Aq Tryz.func78 (Ajx _ m i) ⟨⟨q,hi⟩,?_⟩;generalize F:Du m i=b;unfold Du at F;simp only at F;generalize m.Procs.getD i.toNat default=p at I H F ⊢;have hl:=I.Locs.1;have bad:∀ k,k<p.Locs.length->Vu m i (p.Locs.getD k default)=false->false=b:=fun k W R=>by grind [BG]
 refine As p.Locs.length (fun k=>No m i p k) (fun k=>∀ j,j<k->Vu m i (p.Locs.getD j default)=true) (fun i hi=>by omega) ?_;intro k W X J next
 refine ApI (Agn _ m i p k J) ⟨fun K=>?_,fun L=>⟨Ke m i [p.Provided] (-1),fun r=>?_,Aw ?_⟩⟩
 ·have o:k<p.Locs.length:=by have:=AL K;omega
  have M:(k:Int).toNat=k:=by omega
  rw[M];have t:=I.Locs.2 _ (Av (d:=default) o);have bad':=bad k o;have next':∀ c,Vu m i (p.Locs.getD k default)=true->Up (fun s=>s=No m i p ((k+1:Nat):Int)) c->J c:=(by grind);generalize p.Locs.getD k default=l at t bad' next' ⊢;obtain⟨N,v⟩:=Ak3 t;refine⟨⟨by omega,by omega⟩,BN l,Th t.Esc.1,?_⟩;unfold Vu at bad' next';generalize BN l=ws at N v bad' next' ⊢;refine As ws.length (fun j=>Nn m i p k ws j) (fun j=>∀ x,x<j->Kf m i (ws.getD x [])=true) (fun i hi=>by omega) ?_;intro j Y Z J2 next2;refine ApI (Agm _ m i p k ws j J J2) ⟨fun z=>?_,fun T=>?_⟩
  ·have e:j<ws.length:=by have:=AL z;omega
   have A:(j:Int).toNat=j:=by omega
   rw[A];have g:=v _ (Av (d:=[]) e);have bad2:Kf m i (ws.getD j [])=false->false=b:=fun R=>bad' (BG (f:=fun x=>Kf m i (ws.getD x [])) e R)
   have next2':∀ c,Kf m i (ws.getD j [])=true->Up (fun s=>s=Nn m i p k ws ((j+1:Nat):Int)) c->J2 c:=(by grind);generalize ws.getD j []=w at g bad2 next2' ⊢;have U:=g.1;refine⟨⟨by omega,by omega⟩,?_⟩;refine As w.length (fun h=>Qh m i p k ws j w h) (fun h=>∀ x,x<h->Mc m i (w.getD x default).S=true) (fun i hi=>by omega) ?_;intro h hh O J3 next3;refine ApI (Agl _ m i p k ws j w h J J2 J3) ⟨fun B=>?_,fun C=>?_⟩
   ·have a:h<w.length:=by have:=AL B;omega
    have E:(h:Int).toNat=h:=by omega
    rw[E];have P:=AhT (g.2 _ (Av (d:=default) a));refine⟨⟨by omega,by omega⟩,Mc m i (w.getD h default).S,AhZ G q hi P,fun r=>Aw ?_,fun r=>next3 _ a (fun x u=>?_) (Up.of ?_)⟩
    ·exact bad2 (BG (f:=fun x=>Mc m i (w.getD x default).S) a (by simpa using r))
    ·grind
    grind [Al]
   ·have Q:w.length<=h:=by have:=AP C;omega
    refine next2' _ (AO.2 fun x u=>O x (by omega)) (Up.of ?_);grind [Al]
  grind [AP,AO,Up.of,Al]
 ·have h0:0<=p.Provided:=by simp at r;omega
  refine Aj.frz (AcI (list:=[p.Provided]) (n:=1) G q hi (fun x u=>?_) (by simp) rfl EX) rfl ?_
  ·grind
  ·intro j x y u r
   match j with
   | 0=>grind [DJ]
   | 1=>grind [DJ]
   | 2=>simp only[Aqf,ApG,Apx]at u r;subst u r;exact OO
   | 3=>grind [DJ]
   | j+4=>simp at u
 ·have V:p.Locs.length<=k:=by have:=AP L;omega
  rw[← F,(AO (n:=p.Locs.length) (f:=fun k=>Vu m i (p.Locs.getD k default))).2 fun j Y=>X j (by omega),Ap7,Br]
theorem Un {m:D.Model}:∀ (g i:Nat) (had:List Bool),g+i=m.Exprs.length->Gc m g i had<0->∀ j,i<=j->j<m.Exprs.length->Ep m j=true
 | 0,i,had,h,_,j,h1,h2=>by omega
 | g+1,i,had,h,hn,j,h1,h2=>by
  unfold Gc at hn;cases c:Ep m i with
  | false=>grind
  | true =>
   rw[c,Apy]at hn;split at hn
   ·rename_i a _
    by_cases b:i=j
    ·subst b;exact c
    ·exact Un g (i+1) a (by omega) hn j (by omega) h2
   ·omega
theorem YG {m:D.Model}(h:JB m<0):∀ k:Nat,k<m.Exprs.length->Ep m k=true:=fun k a=>Un _ 0 _ rfl h k (ApD _) a
theorem FM {n:Nat}{f:Nat->Bool}(h:I4 n f<0):∀ i,i<n->f i=true:=by grind [Sx]
theorem Amw {n:Nat}{f:Nat->Bool}:-1<=I4 n f:=by grind [Sx]
theorem WL {m:D.Model}(F:AG m):Aj Tryz.prog 74 [] [tpM m] [] (.tup [Aa (BZ m).1,Aa (BZ m).2]):=by
 have T:=F.Globals.1;have hS:=F.Shapes.1;have hC:=F.Chans.1;have hE:=F.Exprs.1;refine Aq Tryz.func74 (ZY _ _ m) ?_;have U:(bif decide ((m.Globals.length:Int) > 128) then true else(m.Init.length:Int) != (m.Globals.length:Int))=(decide (128<m.Globals.length)||!decide (m.Init.length=m.Globals.length)):=by grind
 have t2:(bif decide ((m.Shapes.length:Int) > 32) then true else decide ((m.Chans.length:Int) > 32))=(decide (32<m.Shapes.length)||decide (32<m.Chans.length)):=by grind
 have W:(bif bif bif bif decide ((m.Procs.length:Int)<1) then true else decide ((m.Procs.length:Int) > 16) then true else decide (m.Claim<(-1:Int)) then true else decide (m.Claim>=(m.Procs.length:Int)) then true else decide ((m.Exprs.length:Int) > 4096)) =
   (decide (m.Procs.length<1)||(decide (16<m.Procs.length)||(decide (m.Claim < -1)||(decide ((m.Procs.length:Int)<=m.Claim)||decide (4096<m.Exprs.length))))):=by grind
 rw[U,t2];generalize z:BZ m=R;unfold BZ at z;refine⟨fun h=>FT (by grind),fun h=>⟨EZ m.Globals m.Init,QZ (by simp at h;omega) T,fun h2=>FT (by grind),fun h2=>⟨fun h3=>FT ?_,fun h3=>?_⟩⟩⟩
 ·grind
 rw[h,Apw,h2,Apw,h3,Apw]at z;refine As m.Shapes.length (fun k=>UW m k) (fun k=>∀ i,i<k->Di (m.Shapes.getD i default)=true) (fun i hi=>by omega) ?_;intro k S A J next
 refine ApI (WP _ _ m k J) ⟨fun c=>?_,fun n=>?_⟩
 ·have b:k<m.Shapes.length:=by have:=AL c;omega
  refine⟨⟨by omega,by omega⟩,Di (m.Shapes.getD k default),Aah (F.Shapes.2 _ (Av b)),fun u=>FT ?_,fun u=>next _ b (fun i hi=>?_) (Up.of ?_)⟩
  ·have e:GV m=k:=Ek (f:=fun i=>Di (m.Shapes.getD i default)) A b (by simpa using u);grind
  ·grind
  grind [Al]
 have w:m.Shapes.length<=k:=by have:=AP n;omega
 have es:GV m=-1:=DE (f:=fun i=>Di (m.Shapes.getD i default)) fun i hi=>A i (by omega)
 rw[es,show decide ((0:Int)<=-1)=false from rfl,Apw]at z;clear A next
 refine As m.Chans.length (fun k=>UV m k) (fun k=>∀ i,i<k->inP m.Shapes.length (m.Chans.getD i 0)=true) (fun i hi=>by omega) ?_;intro k S A J next
 refine ApI (WO _ _ m k J rfl rfl) ⟨fun c=>?_,fun n=>?_⟩
 ·have b:k<m.Chans.length:=by have:=AL c;omega
  have q:(k:Int).toNat=k:=by omega
  rw[q];have r:inP m.Shapes.length (m.Chans.getD k 0)=!(bif decide (m.Chans.getD k 0<0) then true else decide (m.Chans.getD k 0>=(m.Shapes.length:Int))):=by unfold inP;rw[Aqe];simp
  refine⟨⟨by omega,by omega⟩,fun u=>FT ?_,fun u=>next _ b (fun i hi=>?_) (Up.of ?_)⟩
  ·have e:JK m=k:=Ek (f:=fun i=>inP m.Shapes.length (m.Chans.getD i 0)) A b (by grind);grind
  ·grind
  grind [Al]
 have w:m.Chans.length<=k:=by have:=AP n;omega
 have ec:JK m=-1:=DE (f:=fun i=>inP m.Shapes.length (m.Chans.getD i 0)) fun i hi=>A i (by omega)
 rw[ec,show decide ((0:Int)<=-1)=false from rfl,Apw]at z;rw[W];refine⟨fun h4=>FT (by grind),fun h4=>⟨⟨by omega,by omega,by omega⟩,?_⟩⟩;rw[h4,Apw]at z;clear A next
 have G:((m.Exprs.length:Int).toNat)=(A9 m).length:=by simp[A9]
 have H:(A9 m).length=m.Exprs.length:=by simp[A9]
 refine Ax.le (l':=[(0,tpM m),(4,.bp 0 0),(10,.ow 1 0 (A9 m).length),(116,Aa m.Exprs.length),(117,Aa 0)]) (hs':=[.box (Af m),.arr true 0 (A9 m).length 1 (Ex (A9 m))]) ?_ ?_ ?_
 ·rw[G];exact AS _
 ·rw[G];refine⟨Ob.le_refl _,Ap6 fun i hi=>AV ?_,trivial⟩;have:(A9 m).getD i false=false:=by
   have O:i<m.Exprs.length:=by rw[← H];exact hi
   simp[A9,List.getD,O]
  show _=[Ac ((A9 m).getD i false)];rw[this]<;>rfl
 generalize Y:JB m=X at z;have fin:∀ {y:Int × Int},(bif decide (0<=X) then((3:Int),X) else(0,0))=y->y=R:=fun h=>by rw[← h];exact z
 refine Ar (fun g st=>∃ (k:Nat) (had:List Bool),k<=m.Exprs.length/\g=m.Exprs.length - k/\had.length=m.Exprs.length/\Gc m (m.Exprs.length - k) k had=X/\st=Aaa m had k) ⟨_,Up.of ⟨0,A9 m,ApD _,rfl,H,Y,rfl⟩⟩ ?_;rintro g st ⟨k,had,S,rfl,P,v,rfl⟩;refine ApI (WN _ _ m had k _) ⟨fun c=>?_,fun n=>FT (fin ?_)⟩
 ·have b:k<m.Exprs.length:=by have:=AL c;omega
  have q:(k:Int).toNat=k:=by omega
  rw[q];have s:KW (m.Exprs.getD k default):=F.Exprs.2 _ (Av b);rw[show m.Exprs.length - k=(m.Exprs.length - (k+1))+1 by omega]at v;unfold Gc at v;refine⟨Ep m k,Ahc (by omega) (by omega) (by unfold Ao;rw[q];exact s),fun u=>FT (fin ?_),fun u=>⟨⟨by omega,by omega⟩,BC (m.Exprs.getD k default),IZ s.Args.1 s.V.Dims.1,?_⟩⟩
  ·grind
  ·have I:Ep m k=true:=by simpa using u
   rw[I,Apy]at v;have r:=N0 I;have B:=NZ s.Args.1 s.V.Dims.1;unfold Ao at r;rw[q]at r;generalize BC (m.Exprs.getD k default)=l at r B v ⊢;generalize Z:S5 had l=o at v;refine Ar (fun g st=>∃ (j:Nat) (a:List Bool),j<=l.length/\g=l.length - j/\a.length=m.Exprs.length/\S5 a (l.drop j)=o/\st=Z9 m a k l j) ⟨_,Up.of ⟨0,had,ApD _,rfl,P,Z,rfl⟩⟩ ?_;rintro g st ⟨j,a,hj,rfl,K,x,rfl⟩;refine ApI (WM _ _ m a k l j _ _ rfl) ⟨fun L=>?_,fun M=>?_⟩
   ·have t:j<l.length:=by have:=AL L;omega
    have N:(j:Int).toNat=j:=by omega
    rw[N];have Q:=r _ (Av (d:=0) t);rw[Bs (d:=0) t]at x;generalize l.getD j 0=p at Q x ⊢;unfold S5 at x;refine⟨⟨by omega,by omega⟩,⟨by omega,by omega⟩,fun u=>FT (fin ?_),fun u=>⟨⟨by omega,by omega⟩,l.length - (j+1),by omega,?_⟩⟩
    ·grind
    ·rw[u,Apw]at x;have C:(a.set p.toNat true).length=a.length:=by simp
     rw[Al (by omega)];refine Up.mk (l':=[(0,tpM m),(4,.bp 0 0),(10,.ow 1 0 (a.set p.toNat true).length),(11,Aa k),(116,Aa m.Exprs.length),(117,Aa k),(130,Ad true l),(131,Aa l.length),(132,Aa ((j+1:Nat):Int))])
      (hs':=[.box (Af m),.arr true 0 (a.set p.toNat true).length 1 (Ex (a.set p.toNat true))]) ?_ ?_ ⟨j+1,a.set p.toNat true,by omega,rfl,by rw[C];exact K,x,rfl⟩
     ·rw[C];exact AS _
     ·rw[C];exact⟨Ob.le_refl _,Ap6 fun i hi=>AV (Qm hi),trivial⟩
   ·have E:l.length<=j:=by have:=AP M;omega
    rw[Aqz E]at x;unfold S5 at x;rw[← x]at v;rw[Al (by omega)];exact⟨m.Exprs.length - (k+1),by omega,Up.of (by grind)⟩
 ·have w:m.Exprs.length<=k:=by have:=AP n;omega
  rw[show m.Exprs.length - k=0 by omega]at v;unfold Gc at v;rw[← v]<;>rfl
theorem KC (m:D.Model)(k:Nat):DK m k=(bif bif bif bif !(Em (m.Procs.getD k default)) then true else !(E7 (m.Procs.getD k default)) then true else decide ((m.Procs.getD k default).Provided<(-1:Int)) then true else decide ((m.Procs.getD k default).Provided>=(m.Exprs.length:Int)) then true else bif (k:Int)==m.Claim then !(EV (m.Procs.getD k default)) else false):=by
 unfold DK;grind
theorem TX {m:D.Model}{k:Nat}(a:k<m.Procs.length):EU m (k+1)=EU m k+(m.Procs.getD k default).Active:=by
 unfold EU;grind [Fj,Arb]
theorem Jh {m:D.Model}(a:AG m)(h:¬ 0<(BZ m).1):EW m:=by
 refine⟨a,YG ?_⟩;have b:-1<=JB m:=by
  unfold JB;have:∀ (g i:Nat) (had:List Bool),-1<=Gc m g i had:=by
   intro g
   induction g with
   | zero=>intro i had;unfold Gc;omega
   | succ g ih =>
    intro i had;unfold Gc;grind
  exact this _ _ _
 refine ApZ fun c=>h ?_
 unfold BZ;grind
theorem Aci {m:D.Model}(p:AG m):Aj Tryz.prog 40 [] [.agg (Af m)] [] (.tup [Aa (JI m).1,Aa (JI m).2.1,Aa (JI m).2.2]):=by
 have y:=p.Procs.1;refine Aq Tryz.func40 (Ahs _ _ _ m) ⟨BZ m,WL p,?_⟩;generalize q:JI m=R;unfold JI at q;refine⟨fun h=>L4 (by grind),fun h=>?_⟩;have b:=Jh p (ApY h);rw[show decide (0<(BZ m).1)=false from h,Apw]at q;refine As m.Procs.length (fun k=>Nt m (EU m k) k) (fun k=>(∀ i,i<k->(!DK m i)=true)/\0<=EU m k/\EU m k<=16*k) ⟨fun i hi=>by omega,by simp[EU],by simp[EU]⟩ ?_;intro k u ⟨n,v,w⟩ J next
 refine ApI (Ack _ _ _ m (EU m k) k J rfl rfl) ⟨fun g=>?_,fun j=>?_⟩
 ·have a:k<m.Procs.length:=by have:=AL g;omega
  have r:(k:Int).toNat=k:=by omega
  rw[r];have l:=p.Procs.2 _ (Av (d:=default) a);refine⟨⟨by omega,by omega⟩,Em (m.Procs.getD k default),Ab6 l,E7 (m.Procs.getD k default),fun _=>Ab0 l,EV (m.Procs.getD k default),fun _=>VU l,?_⟩;rw[← KC];refine⟨fun o=>L4 ?_,fun o=>?_⟩
  ·have e:Gl m=k:=Ek (f:=fun i=>!DK m i) n a (by rw[o]<;>rfl);grind
  ·have s:Em (m.Procs.getD k default)=true:=by grind [KC]
   have x:0<=(m.Procs.getD k default).Active/\(m.Procs.getD k default).Active<=16:=by
    unfold Em at s;grind
   grind [TX,Up.of,AqO,Al,AK]
 ·have c:k=m.Procs.length:=by have:=AP j;omega
  subst c;have e:Gl m=-1:=DE (f:=fun i=>!DK m i) fun i hi=>n i (by omega)
  rw[e,show decide ((0:Int)<=-1)=false from rfl,Apw]at q;refine⟨fun h2=>L4 (by grind),fun h2=>?_⟩;rw[show decide (16<EU m m.Procs.length)=false from h2,Apw]at q;have t:∀ i,i<m.Procs.length->(m.Procs.getD i default).Provided<m.Exprs.length:=fun i hi=>by grind [KC,Br,Aqt,ApN,ApW]
  clear n next
  refine As m.Procs.length (fun k=>Ns m k) (fun k=>∀ i:Nat,i<k->Du m i=true) (fun i hi=>by omega) ?_;intro k u n J next
  refine ApI (Acj _ _ _ m k J) ⟨fun g=>?_,fun j=>L4 ?_⟩
  ·have a:k<m.Procs.length:=by have:=AL g;omega
   refine⟨Du m k,Agk b (by omega) (by omega) (t _ (by omega)),fun o=>L4 ?_,fun o=>next _ a (fun i hi=>?_) (Up.of ?_)⟩
   ·have e:Jt m=k:=Ek (f:=fun i:Nat=>Du m i) n a (by simpa using o);grind
   ·grind
   grind [Al]
  ·have c:m.Procs.length<=k:=by have:=AP j;omega
   have e:Jt m=-1:=DE (f:=fun i:Nat=>Du m i) fun i hi=>n i (by omega)
   grind
def L6 (fz:Bool)(x:D.State):List VV:=[Ad true x.Globals,A0 fz x.Chans,AI fz x.Procs,Aa x.Last,Aa x.Alone,Aa x.Claim]
def Bw (t:List D.Type)(l:List Int):Bool:=decide (t.length=l.length)&&Cu l.length fun i=>CO (t.getD i default) (l.getD i 0)
def BV (m:D.Model)(k:Int):D.Shape:=m.Shapes.getD k.toNat default
def A3 (m:D.Model)(k:Int):D.Proc:=m.Procs.getD k.toNat default
def Dg (m:D.Model)(c:D.Chan):Bool:=inP m.Shapes.length c.Shape&&decide ((c.Queue.length:Int)<=(BV m c.Shape).Room)&&Cu c.Queue.length fun i=>Bw (BV m c.Shape).Fields (c.Queue.getD i [])
def Bd (m:D.Model)(p:D.Process):Bool:=CR m p.Type_&&inP (A3 m p.Type_).Locs.length p.Loc&&decide (p.Prio=(A3 m p.Type_).Prio)&&Bw (A3 m p.Type_).Frame p.Frame
def I0 (m:D.Model)(s:D.State):Bool:=Bw m.Globals s.Globals&&decide (s.Chans.length<=32)&&decide (s.Procs.length<=16)&&decide (0<=s.Last)&&decide (s.Last<16)&&decide (-1<=s.Alone)&&decide (s.Alone<s.Procs.length)
def G5 (m:D.Model)(s:D.State):Bool:=bif decide (m.Claim<0) then decide (s.Claim=-1) else inP (A3 m m.Claim).Locs.length s.Claim
def C8 (m:D.Model)(s:D.State):Bool:=I0 m s&&(Cu s.Chans.length fun i=>Dg m (s.Chans.getD i default))&&(Cu s.Procs.length fun i=>Bd m (s.Procs.getD i default))&&G5 m s
def G3 (m:D.Model):Bool:=decide ((JI m).1=0)
def Cb (m:D.Model)(s:D.State):Int:=bif G3 m then(bif C8 m s then 0 else 41) else 40
structure Lim (m:D.Model):Prop where
 room:∀ k:Int,0<=k->k<m.Shapes.length->(BV m k).Room<=16
 locs:∀ k:Int,0<=k->k<m.Procs.length->(A3 m k).Locs.length<=256
 one:1<=m.Procs.length
 clp:m.Claim<m.Procs.length
theorem Dp {m:D.Model}(h:G3 m=true):BZ m=(0,0)/\Gl m=-1/\Jt m=-1:=by
 unfold G3 JI at h;have h1:∀ n (f:Nat->Bool),-1<=I4 n f:=fun n f=>Amw
 have k:=h1 m.Procs.length fun i=>!DK m i
 have hp:=h1 m.Procs.length fun i:Nat=>Du m i
 cases b1:decide (0<(BZ m).1) with
 | true=>rw[b1,Apy]at h;simp at h
 | false =>
  rw[b1,Apw]at h;cases b2:decide (0<=Gl m) with
  | true=>rw[b2,Apy]at h;simp at h
  | false =>
   rw[b2,Apw]at h;cases b3:decide (16<EU m m.Procs.length) with
   | true=>rw[b3,Apy]at h;simp at h
   | false =>
    rw[b3,Apw]at h;cases b4:decide (0<=Jt m) with
    | true=>rw[b4,Apy]at h;simp at h
    | false =>
     have:=ApY b2;have:=ApY b4;refine⟨?_,by show I4 _ _=-1;unfold Gl at *;omega,by show I4 _ _=-1;unfold Jt at *;omega⟩;have b1:=ApY b1;unfold BZ at b1 ⊢;generalize (decide (128<m.Globals.length)||!decide (m.Init.length=m.Globals.length))=a at b1 ⊢;generalize decide (0<=EZ m.Globals m.Init)=b at b1 ⊢;generalize (decide (32<m.Shapes.length)||decide (32<m.Chans.length))=c at b1 ⊢;generalize decide (0<=GV m)=d at b1 ⊢;generalize decide (0<=JK m)=e at b1 ⊢;generalize (decide (m.Procs.length<1)||(decide (16<m.Procs.length)||(decide (m.Claim < -1)||(decide ((m.Procs.length:Int)<=m.Claim)||decide (4096<m.Exprs.length)))))=g at b1 ⊢;generalize decide (0<=JB m)=j at b1 ⊢;cases a<;>cases b<;>cases c<;>cases d<;>cases e<;>cases g<;>cases j<;>simp at b1 ⊢
structure Am0 (m:D.Model):Prop where
 globals:m.Globals.length<=128
 init:m.Init.length=m.Globals.length
 types:EZ m.Globals m.Init<0
 shapes:m.Shapes.length<=32
 chans:m.Chans.length<=32
 shape:∀ i,i<m.Shapes.length->Di (m.Shapes.getD i default)=true
 chan:∀ i,i<m.Chans.length->inP m.Shapes.length (m.Chans.getD i 0)=true
 procs:1<=m.Procs.length/\m.Procs.length<=16
 claim:-1<=m.Claim/\m.Claim<m.Procs.length
 exprs:m.Exprs.length<=4096
theorem Ou {m:D.Model}(h:BZ m=(0,0)):Am0 m:=by
 unfold BZ at h;cases a:(decide (128<m.Globals.length)||!decide (m.Init.length=m.Globals.length)) with
 | true=>grind
 | false =>
 cases d:decide (0<=EZ m.Globals m.Init) with
 | true=>grind
 | false =>
 cases e:(decide (32<m.Shapes.length)||decide (32<m.Chans.length)) with
 | true=>grind
 | false =>
 cases b:decide (0<=GV m) with
 | true=>grind
 | false =>
 cases c:decide (0<=JK m) with
 | true=>grind
 | false =>
 cases g:(decide (m.Procs.length<1)||(decide (16<m.Procs.length)||(decide (m.Claim < -1)||(decide ((m.Procs.length:Int)<=m.Claim)||decide (4096<m.Exprs.length))))) with
 | true=>grind
 | false =>
 simp only[ApN,ApW,Arm,ApB]at a d e b c g;exact⟨by omega,a.2,by omega,by omega,by omega,FM (f:=fun i=>Di (m.Shapes.getD i default)) (by unfold GV at b;omega),FM (f:=fun i=>inP m.Shapes.length (m.Chans.getD i 0)) (by unfold JK at c;omega),by omega,by omega,by omega⟩
theorem Gb {m:D.Model}(h:Gl m=-1):∀ i,i<m.Procs.length->Em (m.Procs.getD i default)=true/\E7 (m.Procs.getD i default)=true:=fun i hi=>by
 have:=FM (f:=fun i=>!DK m i) (by unfold Gl at h;omega) i hi;unfold DK at this;grind
theorem Ky {m:D.Model}(h:G3 m=true):Lim m:=by
 obtain⟨h1,h2,_⟩:=Dp h;have a:=Ou h1;refine⟨fun k h0 b=>?_,fun k h0 b=>?_,a.procs.1,a.claim.2⟩
 ·have:=a.shape k.toNat (by omega);unfold Di at this;simp only[Apv,ApB]at this;exact this.1.1.1.2
 ·have:=(Gb h2 k.toNat (by omega)).2;unfold E7 at this;simp only[Apv,ApB]at this;exact this.1.1.1.2
structure Fit (s:D.State):Prop where
 g:s.Globals.length<=128
 c:s.Chans.length<=32
 q:∀ c∈s.Chans,c.Queue.length<=16/\∀ x∈c.Queue,x.length<=8
 p:s.Procs.length<=16
 f:∀ p∈s.Procs,p.Frame.length<=128
theorem Fg {t:List D.Type}{l:List Int}(h:Bw t l=true):l.length=t.length:=by
 unfold Bw at h;grind
theorem VP {m:D.Model}{s:D.State}(a:G3 m=true)(h:C8 m s=true):Fit s:=by
 have i:=Ky a;obtain⟨b,e,_⟩:=Dp a;have g:=Ou b;unfold C8 at h;simp only[Apv]at h;obtain⟨⟨⟨h1,h2⟩,h3⟩,h4⟩:=h;unfold I0 at h1;simp only[Apv,ApB]at h1;obtain⟨⟨⟨⟨⟨⟨g1,j⟩,k⟩,q⟩,r⟩,t⟩,u⟩:=h1;refine⟨?_,j,fun c l=>?_,k,fun p hp=>?_⟩
 ·rw[Fg g1];exact g.globals
 ·have h:=(CF (d:=default) (f:=fun c=>Dg m c)).1 h2 c l;unfold Dg at h;simp only[Apv,ApB]at h;have hi:=CT.1 h.1.1;have v:=i.room _ hi.1 hi.2;refine⟨by omega,fun x n=>?_⟩;have o:=(CF (d:=[]) (f:=fun x=>Bw (BV m c.Shape).Fields x)).1 h.2 x n;rw[Fg o];have:=g.shape c.Shape.toNat (by omega);unfold Di at this;simp only[Apv,ApB]at this;exact this.1.2
 ·have h:=(CF (d:=default) (f:=fun c=>Bd m c)).1 h3 p hp;unfold Bd CR at h;simp only[Apv,ApB]at h;rw[Fg h.2];have:=(Gb e p.Type_.toNat (by omega)).1;unfold Em at this;simp only[Apv,ApB]at this;exact this.1.1.1.1.1.1.1.1
def Ml (f:FuncId):Shp:=bif Nat.beq f 13 then Aae else BI f
def O4 : Ann:={ keep:=fun
  | [0,1,0,1,1]=>[0,12,13,14]
  | _=>[] }
def KR : Ann:={ keep:=fun
  | [0,1,0,1,1]=>[2,3,32,33,34]
  | _=>[] }
def H4 : Ann:={ keep:=fun
  | [0,1,0,1,1]=>[2,3,51,52,53]
  | [0,1,0,1,1,1]=>[2,3,63,64,65]
  | _=>[] }
def P6 (t:List D.Type)(l:List Int)(k:Int):St:=Ay [(0,AC true t),(12,Ad true l),(13,Aa l.length),(14,Aa k)] []
def Li (m:D.Model)(c:D.Chan)(k:Int):St:=Ay [(2,.bp 0 0),(3,.bp 1 0),(32,B3 true c.Queue),(33,Aa c.Queue.length),(34,Aa k)] [.box (Af m),.box (AM c)]
def Qj (m:D.Model)(s:D.State)(k:Int):St:=Ay [(2,.bp 0 0),(3,.bp 1 0),(51,A0 false s.Chans),(52,Aa s.Chans.length),(53,Aa k)] [.box (Af m),.box (L6 false s)]
def Qi (m:D.Model)(s:D.State)(k:Int):St:=Ay [(2,.bp 0 0),(3,.bp 1 0),(63,AI false s.Procs),(64,Aa s.Procs.length),(65,Aa k)] [.box (Af m),.box (L6 false s)]
set_option maxRecDepth 100000
theorem AeC (b:Bool)(t:List D.Type)(l:List Int):(fc Ml O4 Tryz.f41 [] (Ac b)).goal (St.init [] [AC true t,Ad true l]) =
  (BB ((↑t.length:Int) != (↑l.length:Int)) (LQ (Ac false) (Ac b)) (Ax (fc Ml O4 Tryz.f41 [] (Ac b)) [1,1,0,1,0] (P6 t l (0:Int)))):=by kernel_rfl
theorem YX (b:Bool)(m:D.Model)(c:D.Chan):(fc Ml KR Tryz.f42 [] (Ac b)).goal (St.init [] [.agg (Af m),.agg (AM c)]) =
  (((true&&(bif decide (c.Shape<0) then true else decide (c.Shape>=(↑m.Shapes.length:Int)))==false)=true->inX c.Shape m.Shapes.length)/\BB (bif bif decide (c.Shape<0) then true else decide (c.Shape>=(↑m.Shapes.length:Int)) then true else decide ((↑c.Queue.length:Int) > (m.Shapes.getD c.Shape.toNat default).Room)) (LQ (Ac false) (Ac b)) (Ax (fc Ml KR Tryz.f42 [] (Ac b)) [1,1,0,1,0] (Li m c (0:Int)))):=by kernel_rfl
theorem XZ (b:Bool)(m:D.Model)(p:D.Process){a}(c:a=m.Procs.getD p.Type_.toNat default):(fc Ml AQ Tryz.f43 [] (Ac b)).goal (St.init [] [.agg (Af m),.agg (AF p)]) =
  (BB (bif bif decide (p.Type_<0) then true else decide (p.Type_>=(↑m.Procs.length:Int)) then true else p.Type_==m.Claim) (LQ (Ac false) (Ac b)) (inX p.Type_ m.Procs.length/\∃ (y:Bool),((true&&(bif bif decide (p.Loc>=0) then decide (p.Loc<(↑a.Locs.length:Int)) else false then p.Prio==a.Prio else false)==true)=true->VC 41 [AC true a.Frame,Ad true p.Frame] (Ac y))/\LQ (Ac (bif bif bif decide (p.Loc>=0) then decide (p.Loc<(↑a.Locs.length:Int)) else false then p.Prio==a.Prio else false then y else false)) (Ac b))):=by subst c;kernel_rfl
theorem Z7 (b:Bool)(m:D.Model)(s:D.State):(fc Ml H4 Tryz.f28 [] (Ac b)).goal (St.init [] [.agg (Af m),.agg (L6 false s)]) =
  (∃ (y:Bool),VC 41 [AC true m.Globals,Ad true s.Globals] (Ac y)/\BB (bif bif bif bif bif bif !y then true else decide ((↑s.Chans.length:Int) > 32) then true else decide ((↑s.Procs.length:Int) > 16) then true else decide (s.Last<0) then true else decide (s.Last>=16) then true else decide (s.Alone<(-1:Int)) then true else decide (s.Alone>=(↑s.Procs.length:Int))) (LQ (Ac false) (Ac b)) (Ax (fc Ml H4 Tryz.f28 [] (Ac b)) [1,1,0,1,0] (Qj m s (0:Int)))):=by kernel_rfl
theorem AlQ (b:Bool)(m:D.Model):(fc Ml AQ Tryz.f27 [] (Ac b)).goal (St.init [] [.agg (Af m)]) =
  (∃ (y:Int × Int × Int),VC 40 [VV.agg (Af m)] (VV.tup [Aa y.fst,Aa y.snd.fst,Aa y.snd.snd])/\LQ (Ac (y.fst==0)) (Ac b)):=by kernel_rfl
theorem WV (r:Int)(m:D.Model)(s:D.State):(fc Ml AQ Tryz.f13 [] (Aa r)).goal (St.init [] [.agg (Af m),.agg (Ah s)]) =
  (∃ (y:Bool),VC 27 [VV.agg (Af m)] (Ac y)/\BB (!y) (LQ (Aa 40) (Aa r)) (∃ (y:Bool),VC 28 [VV.agg (Af m),VV.agg (Ah s)] (Ac y)/\BB (!y) (LQ (Aa 41) (Aa r)) (LQ (Aa 0) (Aa r)))):=by kernel_rfl
theorem ZR (b:Bool)(t:List D.Type)(l:List Int)(k:Int)(J:St->Prop):((fc Ml O4 Tryz.f41 [] (Ac b)).loop [1,1,0,1,0] J).goal (P6 t l k) =
  (BB (decide (k<(↑l.length:Int))) (inX k l.length/\inX k t.length/\∃ (y:Bool),VC 79 [VV.agg (BM (t.getD k.toNat default)),Aa (l.getD k.toNat 0)] (Ac y)/\BB (!y) (LQ (Ac false) (Ac b)) (J (P6 t l (IntKind.i64.wrap (k+(1:Int)))))) (LQ (Ac true) (Ac b))):=by kernel_rfl
theorem VY (b:Bool)(m:D.Model)(c:D.Chan)(k:Int)(J:St->Prop):((fc Ml KR Tryz.f42 [] (Ac b)).loop [1,1,0,1,0] J).goal (Li m c k) =
  (BB (decide (k<(↑c.Queue.length:Int))) (inX k c.Queue.length/\inX c.Shape m.Shapes.length/\∃ (y:Bool),VC 41 [AC true (m.Shapes.getD c.Shape.toNat default).Fields,Ad true (c.Queue.getD k.toNat [])] (Ac y)/\BB (!y) (LQ (Ac false) (Ac b)) (J (Li m c (IntKind.i64.wrap (k+(1:Int)))))) (LQ (Ac true) (Ac b))):=by kernel_rfl
theorem WU (b:Bool)(m:D.Model)(s:D.State)(k:Int)(J:St->Prop):((fc Ml H4 Tryz.f28 [] (Ac b)).loop [1,1,0,1,0] J).goal (Qj m s k) =
  (BB (decide (k<(↑s.Chans.length:Int))) (inX k s.Chans.length/\∃ (y:Bool),VC 42 [VV.agg (Af m),VV.agg (AM (s.Chans.getD k.toNat default))] (Ac y)/\BB (!y) (LQ (Ac false) (Ac b)) (J (Qj m s (IntKind.i64.wrap (k+(1:Int)))))) (Ax (fc Ml H4 Tryz.f28 [] (Ac b)) [1,1,1,0,1,0] (Qi m s (0:Int)))):=by kernel_rfl
theorem WT (b:Bool)(m:D.Model)(s:D.State)(k:Int)(J:St->Prop):((fc Ml H4 Tryz.f28 [] (Ac b)).loop [1,1,1,0,1,0] J).goal (Qi m s k) =
  (BB (decide (k<(↑s.Procs.length:Int))) (inX k s.Procs.length/\∃ (y:Bool),VC 43 [VV.agg (Af m),VV.agg (AF (s.Procs.getD k.toNat default))] (Ac y)/\BB (!y) (LQ (Ac false) (Ac b)) (J (Qi m s (IntKind.i64.wrap (k+(1:Int)))))) (BB (decide (m.Claim<0)) (LQ (Ac (s.Claim==(-1:Int))) (Ac b)) (((true&&decide (s.Claim>=0)==true)=true->inX m.Claim m.Procs.length)/\LQ (Ac (bif decide (s.Claim>=0) then decide (s.Claim<(↑(m.Procs.getD m.Claim.toNat default).Locs.length:Int)) else false)) (Ac b)))):=by kernel_rfl
end Go.Proofs.YtnhamlpcpngafaaGreatDoor
namespace Go.Proofs.YtnhamlpcpngafaaGreatDoor
open Go.RowKit
theorem Ady {xs ys:List VV}(b:ys.length=xs.length)(h:∀ (j:Nat) x y,xs[j]?=some x->ys[j]?=some y->leS x y):leS (.agg xs) (.agg ys):=by
 intro w E m v c hv;obtain⟨vs,rfl,h1,h2⟩:=hv.agg_inv;refine .agg (h1.trans b.symm) fun j y d=>?_
 have a:j<xs.length:=by grind
 exact h j _ y (ApH a) d w E m _ c (h2 j _ (ApH a))
theorem BO {k:Nat}{P:Nat->Prop}(a:∀ i,i<k->P i)(h:P k):∀ i,i<k+1->P i:=(by grind)
def Len (n:Nat):Prop:=n<=1099511627776
theorem Mi {t:List D.Type}{l:List Int}(f:Len l.length):Aj Tryz.prog 41 [] [AC true t,Ad true l] [] (Ac (Bw t l)):=by
 unfold Len at f;refine Aq Tryz.func41 (AeC _ t l) ⟨fun h=>Aw ?_,fun h=>?_⟩
 ·unfold Bw;grind
 ·have c:t.length=l.length:=by simp at h;omega
  have e:Bw t l=Cu l.length fun i=>CO (t.getD i default) (l.getD i 0):=by unfold Bw;grind
  rw[e];refine As l.length (fun k=>P6 t l k) (fun k=>∀ i,i<k->CO (t.getD i default) (l.getD i 0)=true) (fun i hi=>by omega) ?_;intro k m g J next
  refine ApI (ZR _ t l k J) ⟨fun b=>?_,fun j=>Aw ?_⟩
  ·have a:k<l.length:=by have:=AL b;omega
   refine⟨⟨by omega,by omega⟩,⟨by omega,by omega⟩,CO (t.getD k default) (l.getD k 0),OT _ _,fun d=>Aw ?_,fun d=>next _ a (BO g (by simpa using d)) (Up.of ?_)⟩
   ·grind [BG]
   grind [Al]
  grind [AP,AO]
structure AkW (c:D.Chan):Prop where
 q:Len c.Queue.length
 m:∀ x∈c.Queue,Len x.length
theorem VX {m:D.Model}{c:D.Chan}(f:AkW c):Aj Tryz.prog 42 [] [.agg (Af m),.agg (AM c)] [] (Ac (Dg m c)):=by
 have j:=f.q;unfold Len at j;refine Aq Tryz.func42 (YX _ m c) ⟨fun h=>?_,fun h=>Aw ?_,fun h=>?_⟩
 ·simp at h;omega
 ·symm;rw[Aqn];intro b;unfold Dg at b;simp only[Apv,ApB]at b;have:=CT.1 b.1.1;have l:(BV m c.Shape).Room=(m.Shapes.getD c.Shape.toNat default).Room:=rfl;grind
 ·have hs:0<=c.Shape/\c.Shape<m.Shapes.length/\(c.Queue.length:Int)<=(BV m c.Shape).Room:=by
   have l:(BV m c.Shape).Room=(m.Shapes.getD c.Shape.toNat default).Room:=rfl;grind
  have e:Dg m c=Cu c.Queue.length fun i=>Bw (BV m c.Shape).Fields (c.Queue.getD i []):=by
   unfold Dg;grind [CT]
  rw[e];refine As c.Queue.length (fun k=>Li m c k) (fun k=>∀ i,i<k->Bw (BV m c.Shape).Fields (c.Queue.getD i [])=true) (fun i hi=>by omega) ?_;intro k p n J next
  refine ApI (VY _ m c k J) ⟨fun d=>?_,fun o=>Aw ?_⟩
  ·have a:k<c.Queue.length:=by have:=AL d;omega
   refine⟨⟨by omega,by omega⟩,⟨hs.1,hs.2.1⟩,Bw (BV m c.Shape).Fields (c.Queue.getD k []),Mi (f.m _ (Av a)),fun g=>Aw ?_,fun g=>next _ a (BO n (by simpa using g)) (Up.of ?_)⟩
   ·grind [BG]
   grind [Al]
  grind [AP,AO]
theorem Vh {m:D.Model}{p:D.Process}(hp:Len p.Frame.length):Aj Tryz.prog 43 [] [.agg (Af m),.agg (AF p)] [] (Ac (Bd m p)):=by
 have a:(A3 m p.Type_)=m.Procs.getD p.Type_.toNat default:=rfl;refine Aq Tryz.func43 (XZ _ m p rfl) ⟨fun h=>Aw ?_,fun h=>⟨?_,Bw (A3 m p.Type_).Frame p.Frame,fun _=>Mi hp,Aw ?_⟩⟩
 ·unfold Bd CR;grind
 ·simp at h;omega
 ·unfold Bd CR inP;grind
structure Bq (s:D.State):Prop where
 g:Len s.Globals.length
 c:Len s.Chans.length
 p:Len s.Procs.length
 cs:∀ c∈s.Chans,AkW c
 ps:∀ p∈s.Procs,Len p.Frame.length
theorem UR {m:D.Model}{s:D.State}(hs:Bq s)(r:m.Claim<m.Procs.length):Aj Tryz.prog 28 [] [.agg (Af m),.agg (L6 false s)] [] (Ac (C8 m s)):=by
 have t:=hs.c;have hp:=hs.p;unfold Len at t hp;have u:(bif bif bif bif bif bif !(Bw m.Globals s.Globals) then true else decide ((s.Chans.length:Int) > 32) then true else decide ((s.Procs.length:Int) > 16) then true else decide (s.Last<0) then true else decide (s.Last>=16) then true else decide (s.Alone<(-1:Int)) then true else decide (s.Alone>=(s.Procs.length:Int)))=!(I0 m s):=by
  unfold I0;grind
 refine Aq Tryz.func28 (Z7 _ m s) ⟨Bw m.Globals s.Globals,Mi hs.g,?_⟩;rw[u];have d:C8 m s=(I0 m s&&(Cu s.Chans.length fun i=>Dg m (s.Chans.getD i default))&&(Cu s.Procs.length fun i=>Bd m (s.Procs.getD i default))&&G5 m s):=rfl;generalize C8 m s=b at d ⊢;refine⟨fun h=>Aw ?_,fun h=>?_⟩
 ·grind
 rw[show I0 m s=true by simpa using h,Ap7]at d;refine As s.Chans.length (fun k=>Qj m s k) (fun k=>∀ i,i<k->Dg m (s.Chans.getD i default)=true) (fun i hi=>by omega) ?_;intro k v l J next
 refine ApI (WU _ m s k J) ⟨fun e=>?_,fun j=>?_⟩
 ·have a:k<s.Chans.length:=by have:=AL e;omega
  refine⟨⟨by omega,by omega⟩,Dg m (s.Chans.getD k default),VX (hs.cs _ (Av a)),fun o=>Aw ?_,fun o=>next _ a (BO l (by simpa using o)) (Up.of ?_)⟩
  ·grind [BG]
  grind [Al]
 have q:s.Chans.length<=k:=by have:=AP j;omega
 rw[(AO (n:=s.Chans.length) (f:=fun i=>Dg m (s.Chans.getD i default))).2 fun i hi=>l i (by omega),Ap7]at d;clear l next
 refine As s.Procs.length (fun k=>Qi m s k) (fun k=>∀ i,i<k->Bd m (s.Procs.getD i default)=true) (fun i hi=>by omega) ?_;intro k v l J next
 refine ApI (WT _ m s k J) ⟨fun e=>?_,fun j=>?_⟩
 ·have a:k<s.Procs.length:=by have:=AL e;omega
  refine⟨⟨by omega,by omega⟩,Bd m (s.Procs.getD k default),Vh (hs.ps _ (Av a)),fun o=>Aw ?_,fun o=>next _ a (BO l (by simpa using o)) (Up.of ?_)⟩
  ·grind [BG]
  grind [Al]
 have q:s.Procs.length<=k:=by have:=AP j;omega
 rw[(AO (n:=s.Procs.length) (f:=fun i=>Bd m (s.Procs.getD i default))).2 fun i hi=>l i (by omega),Ap7]at d;unfold G5 at d;refine⟨fun h2=>Aw ?_,fun h2=>⟨fun _=>⟨?_,r⟩,Aw ?_⟩⟩
 ·grind
 ·grind
 ·rw[h2,Apw]at d;rw[d,Bh]<;>rfl
theorem WS {m:D.Model}{s:D.State}(hs:Bq s)(c:m.Claim<m.Procs.length):Aj Tryz.prog 28 [] [.agg (Af m),.agg (Ah s)] [] (Ac (C8 m s)):=by
 refine(UR hs c).frz rfl fun j x y a b=>?_
 match j,a,b with
 | 0,a,b=>grind [ApG,Apx,DJ]
 | 1,a,b =>
  simp only[Aqf,ApG,Apx]at a b;subst a b;refine Ady rfl fun j x y a b=>?_
  match j,a,b with
  | 0,a,b=>simp only[Ah,L6,ApG,Apx]at a b;subst a b;exact DJ _
  | 1,a,b=>simp only[Ah,L6,Aqf,ApG,Apx]at a b;subst a b;exact OO
  | 2,a,b=>simp only[Ah,L6,Aqf,ApG,Apx]at a b;subst a b;exact OO
  | 3,a,b=>simp only[Ah,L6,Aqf,ApG,Apx]at a b;subst a b;exact DJ _
  | 4,a,b=>simp only[Ah,L6,Aqf,ApG,Apx]at a b;subst a b;exact DJ _
  | 5,a,b=>simp only[Ah,L6,Aqf,ApG,Apx]at a b;subst a b;exact DJ _
  | j+6,a,b=>simp[Ah]at a
 | j+2,a,b=>simp at a
theorem Yf {m:D.Model}(a:AG m):Aj Tryz.prog 27 [] [.agg (Af m)] [] (Ac (G3 m)) :=
 Aq Tryz.func27 (AlQ _ m) ⟨JI m,Aci a,Aw (ieq _ _)⟩
theorem Fv {m:D.Model}{s:D.State}(b:AG m)(hs:Bq s)(a:G3 m=true->m.Claim<m.Procs.length):Aj Tryz.prog 13 [] [.agg (Af m),.agg (Ah s)] [] (Aa (Cb m s)):=by
 refine Aq Tryz.func13 (WV _ m s) ⟨G3 m,Yf b,fun h=>BK ?_,fun h=>⟨C8 m s,WS hs (a (by simpa using h)),fun h2=>BK ?_,fun h2=>BK ?_⟩⟩
 ·unfold Cb;grind
 ·unfold Cb;grind
 ·unfold Cb;grind
theorem Fit.small {s:D.State}(h:Fit s):Bq s:=by
 have hg:=h.g;have a:=h.c;have hp:=h.p;refine⟨by unfold Len;omega,by unfold Len;omega,by unfold Len;omega,fun c a=>⟨by have:=(h.q c a).1;unfold Len;omega,fun x b=>by have:=(h.q c a).2 x b;unfold Len;omega⟩,fun p hp=>by have:=h.f p hp;unfold Len;omega⟩
theorem Aix {s:D.State}(h:QN s):Bq s:=by
 have hg:=h.Globals.1;have a:=h.Chans.1;have hp:=h.Procs.1;refine⟨by unfold Len;omega,by unfold Len;omega,by unfold Len;omega,fun c a=>⟨by have:=(h.Chans.2 c a).Queue.1;unfold Len;omega,fun x b=>by have:=((h.Chans.2 c a).Queue.2 x b).1;unfold Len;omega⟩,fun p hp=>by have:=(h.Procs.2 p hp).Frame.1;unfold Len;omega⟩
theorem MF {m:D.Model}{s:D.State}(h:Cb m s=0):G3 m=true/\C8 m s=true:=by
 unfold Cb at h;grind
structure Cw (w w':World) (F:Nat->Prop):Prop where
 os:w'.os=w.os
 tape:w'.tape=w.tape
 output:w'.output=w.output
 size:w.heap.size<=w'.heap.size
 block:∀ k,k<w.heap.size->¬ F k->w'.heap[k]?=w.heap[k]?
theorem Cw.refl (w:World)(F:Nat->Prop):Cw w w F:=⟨rfl,rfl,rfl,ApC _,fun _ _ _=>rfl⟩
theorem Cw.alloc {w w':World}{F:Nat->Prop}(h:Cw w w' F)(o:Obj):Cw w (w'.alloc o) F :=
 ⟨h.os,h.tape,h.output,Ap0 h.size (by simp),fun k a b=>(Below.heap_alloc w' o k (ApR a h.size)).trans (h.block k a b)⟩
theorem Cw.setCell {w w':World}{F:Nat->Prop}(h:Cw w w' F){p:Addr}(hp:F p.block∨w.heap.size<=p.block)(u:Value):Cw w (w'.setCell p u) F :=
 ⟨h.os,h.tape,h.output,by simpa[World.setCell] using h.size,fun k b a =>
  (Below.heap_setCell w' p u k (by rintro rfl;rcases hp with hp | hp;exact a hp;omega)).trans (h.block k b a)⟩
theorem Cw.grown {w w' a:World}{F:Nat->Prop}{row:Option Nat}(h:Cw w w' F)(hg:w'.grownBy a row)(d:∀ k,row=some k->F k∨w.heap.size<=k):Cw w a F :=
 ⟨hg.os.trans h.os,hg.tape.trans h.tape,hg.output.trans h.output,Ap0 h.size hg.size,fun k b c =>
  (hg.block k (ApR b h.size) (fun e=>by rcases d k e.symm with h1 | h1;exact c h1;omega)).trans (h.block k b c)⟩
theorem Cw.trans {a b c:World}{F G:Nat->Prop}(h:Cw a b F)(k:Cw b c G)(e:∀ i,G i->F i∨a.heap.size<=i):Cw a c F :=
 ⟨k.os.trans h.os,k.tape.trans h.tape,k.output.trans h.output,Ap0 h.size k.size,fun i hi d =>
  (k.block i (ApR hi h.size) (fun hg=>by rcases e i hg with h1 | h1;exact d h1;omega)).trans (h.block i hi d)⟩
theorem Cw.below {w w':World}{F:Nat->Prop}{B:Nat}(h:Cw w w' F)(hB:B<=w.heap.size)(a:∀ k,F k->B<=k):Below B w w' :=
 ⟨h.os,h.tape,h.output,h.size,fun k b=>h.block k (ApR b hB) (fun c=>by have:=a k c;omega)⟩
theorem Cw.of_below {w w':World}{F:Nat->Prop}(h:Below w.heap.size w w'):Cw w w' F :=
 ⟨h.os,h.tape,h.output,h.size,fun k a _=>h.block k a⟩
theorem CS {w w':World}{base:Nat}{e:TypeId}{size:Nat}{v:Value}{n:Nat}{xs:List Value}(h:w.ownsRow base e size v n xs)
  (hs:∀ k,v.ownBlock=some k->w'.heap[k]?=w.heap[k]?):w'.ownsRow base e size v n xs:=by
 refine⟨h.1,?_⟩;rcases h.2 with a | ⟨g,cap,cur,rfl,b,hg,rest⟩
 ·exact .inl a
 ·exact .inr ⟨g,cap,cur,rfl,b,by rw[hs g rfl];exact hg,rest⟩
theorem Bf {w:World}{base:Nat}{e:TypeId}{size:Nat}{v:Value}{n:Nat}{xs:List Value}(h:w.ownsRow base e size v n xs){k:Nat}(a:v.ownBlock=some k):∃ cur,w.heap[k]?=some (.cells cur e (0,0)):=by
 rcases h.2 with⟨rfl,_⟩ | ⟨g,cap,cur,rfl,b,hg,rest⟩
 ·simp[Value.ownBlock]at a
 ·simp[Value.ownBlock]at a;subst a;exact⟨cur,hg⟩
theorem Cc {w:World}{b:Nat}{o:Obj}(h:w.heap[b]?=some o):b<w.heap.size:=lt_of_block h
theorem FL {w:World}{a b:Nat}{c d:Array Value}{s t:TypeId}{f g:Nat × Nat}(i:w.heap[a]?=some (.cells c s f))(e:w.heap[b]?=some (.cells d t g))(h:s≠t):a≠b:=by
 rintro rfl;rw[i]at e;simp at e;exact h e.2.1
theorem Am {w:World}{b i:Nat}{cs:Array Value}{t:TypeId}{v:Value}(h:w.heap[b]?=some (.cells cs t (0,0)))(hi:cs[i]?=some v):w.cell? ⟨b,i,none⟩=some v:=by
 simp[World.cell?,h,hi]
theorem AH {w:World}{b i:Nat}{cs:Array Value}{t:TypeId}(h:w.heap[b]?=some (.cells cs t (0,0))):w.frozen? ⟨b,i,none⟩=false:=by
 simp[World.frozen?,h]
theorem Bp {w:World}{b i:Nat}{cs:Array Value}{t:TypeId}(h:w.heap[b]?=some (.cells cs t (0,0)))(u:Value):(w.setCell ⟨b,i,none⟩ u).heap[b]?=some (.cells (cs.setIfInBounds i u) t (0,0)) :=
 heap_setCell_same w b i cs t u h
theorem Cs {P:Program}{t:TypeId}{z:Value}{s b:Nat}(h:(P.info? t).map (fun i=>(i.zero,i.size,i.bytes))=some (some z,s,b)):∃ i,P.info? t=some i/\i.zero=some z/\i.size=s/\i.bytes=b:=by
 cases hi:P.info? t with
 | none=>rw[hi]at h;cases h
 | some i=>rw[hi]at h;simp only[Ari,Apx,Ap8]at h;exact⟨i,rfl,h⟩
theorem Kz : (Tryz.prog.info? 2).map (fun i=>(i.zero,i.size,i.bytes))=some (some (.int .i64 0),1,8):=by kernel_rfl
theorem EK {w:World}{n0:Nat}{e:TypeId}{v:Value}{n:Nat}{xs:List Value}(h:w.ownsRow n0 e 1 v n xs) :
  ∃ ao cap,v=.slice ao n cap/\n<=cap/\cap<=maxLen/\(0<n->∃ g,ao=some ⟨g,0,none⟩/\n0<=g/\g<w.heap.size/\∀ j,j<n->w.cell? ⟨g,j,none⟩=xs[j]?):=by
 rcases h.2 with⟨rfl,rfl⟩ | ⟨g,cap,cur,rfl,a,hg,h1,h2,_⟩
 ·exact⟨none,0,rfl,ApC _,ApD _,fun h=>by omega⟩
 ·exact⟨_,cap,rfl,h1,h2,fun _=>⟨g,rfl,a,Cc hg,fun j b=>h.cellAt j (by omega)⟩⟩
theorem WE {w:World}{E:AN}{m:Option Phi}{n0:Nat}{v:Value}{xs:List Int}(h:w.ownsRow n0 2 1 v xs.length (xs.map (Value.int .i64)))(c:∀ k,E.fz k->k<n0):V w E m (Ad true xs) v:=by
 obtain⟨ao,cap,rfl,h1,h2,h3⟩:=EK h;refine Arg h1 h2 fun hp=>?_
 obtain⟨g,rfl,hg,b,d⟩:=h3 hp;refine⟨g,0,rfl,b,fun e=>by have:=c g e;omega,fun i _=>rfl,fun i _=>.int .i64 (xs.getD i 0),fun i j y hi a=>?_,fun i j y hi a=>?_⟩
 ·match j,a with
  | 0,_ =>
   have:=d i hi;simp only[Ap5,Nat.mul_one,AqJ];rw[this];simp[List.getD,hi]
  | j+1,a=>simp at a
 ·match j,a with
  | 0,a=>simp only[ApG,Apx]at a;subst a;exact .sc
  | j+1,a=>simp at a
set_option maxHeartbeats 1000000 in
theorem Gz {w:World}{ao:Option Addr}{cap:Nat}{xs:List Int}(h1:xs.length<=cap)(h2:cap<=maxLen)(v:xs.length*8<=140737488355328)(h3:0<xs.length->∃ a,ao=some a/\∀ i,i<xs.length->w.cell? (a.add i)=some (.int .i64 (xs.getD i 0))) :
  Calls Tryz.prog 87 #[.slice ao xs.length cap] w fun e w'=>∃ h,e=.returned h/\w'.ownsRow w.heap.size 2 1 h xs.length (xs.map (Value.int .i64))/\Below w.heap.size w w':=by
 have r:∀ (w:World) (a:Option Addr) (n c m o:Nat),(binOp .eql 23 (.slice a n c) (.slice none m o)).run Tryz.prog w=.ok (.bool a.isNone) w:=fun w a n c m o=>Lib.run_eql_slice_nil w _ _ a n c m o Tryz.underlying23
 obtain⟨ki,khi,khz0,khz1,khz2⟩:=Cs Kz;cases ao with
 | none =>
  have h0:xs=[]:=by
   apply ApV;apply ApZ;intro hp;obtain⟨_,e,_⟩:=h3 (by omega);cases e
  subst h0;clear h3
  go_enter Tryz.func87,Tryz.ntmps87
  go_wp2
  go_ret
  exact⟨_,rfl,World.ownsRow_nil _ _ _ _,Below.refl _ _⟩
 | some a =>
  have p:∀ (j:Nat) (u:Value),(xs.map (Value.int .i64))[j]?=some u->w.cell? (a.add j)=some u:=by
   intro j u l;have d:j<xs.length:=by have:=(Apz.1 l).1;simpa using this
   obtain⟨y,e,s⟩:=h3 (by omega);simp only[Apx]at e;subst e;rw[s j d,← l];simp[List.getD,d]
  have HN:=Lib.hid p;clear h3 p;have f:=h2;unfold maxLen at f
  go_enter Tryz.func87,Tryz.ntmps87
  go_wp2_with (at_builtin;refine wpList_append_own _ rfl _ _ 23 rfl w.heap.size 2 ki (.int .i64 0) 1 8 Tryz.underlying23 khi khz0 khz1 khz2 rfl (by decide) _ _ _ rfl (World.ownsRow_made w #[] 0 (ApC _) (ApD _) (by simp)) a xs.length cap (xs.map (Value.int .i64)) rfl ?qc1 ?qc2 ?qc3 ?qc4 ?qc5 ?qc6 ?_)
  case qc1=>simp
  case qc2=>intro j u l;have:=HN.out j u l;exact Lib.cell?_alloc_some _ this
  case qc3=>intro u q;simp at q;obtain⟨x,_,rfl⟩:=q;rfl
  case qc4=>unfold maxLen;omega
  case qc5=>omega
  case qc6=>simp
  intro h z g b _
  go_wp2
  go_ret
  exact⟨h,rfl,by simpa using g,((Below.refl _ w).alloc (ApC _) _).grown b (by simp) (by intro k t;simp[Value.ownBlock]at t;omega)⟩
theorem Sn {xs:List Int}(c:xs.length*8<=140737488355328):Aj Tryz.prog 87 [] [Ad true xs] [] (Ad true xs):=by
 refine Aj.hand ⟨_,Tryz.func87,rfl,by kernel_rfl⟩ fun w E vs d m _ _ hs=>?_
 obtain⟨n,us1,rfl,f,hs⟩:=hs.cons_inv;obtain rfl:=hs.nil_inv;obtain⟨ao,cap,rfl,h1,h2,h3⟩:=V.sl_inv f;refine(Gz h1 h2 c fun hp=>?_).mono ?_
 ·obtain⟨b,off,rfl,_,_,_,u,g,hv⟩:=h3 hp;refine⟨_,rfl,fun i hi=>?_⟩;have a:=g i 0 _ hi rfl;have h:=(hv i 0 _ hi rfl).sc_inv;rw[Addr.add_lit];rw[h]at a;simpa using a
 ·rintro e w' ⟨j,rfl,k,l⟩;exact⟨j,rfl,WE k d,l⟩
def DB (f:FuncId):Shp :=
 bif Nat.beq f 123||Nat.beq f 202||Nat.beq f 177||Nat.beq f 169 then Aae
 else bif Nat.beq f 92||Nat.beq f 170||Nat.beq f 162||Nat.beq f 187||Nat.beq f 189||Nat.beq f 160||Nat.beq f 161||Nat.beq f 164||Nat.beq f 159||Nat.beq f 188||Nat.beq f 165||Nat.beq f 124||Nat.beq f 191||Nat.beq f 192 then Ac6
 else bif Nat.beq f 158 then Ro
 else bif Nat.beq f 87||Nat.beq f 88 then AiF else Ml f
abbrev Es : TypeId:=2
abbrev Ie : TypeId:=87
abbrev EE : TypeId:=84
abbrev EP : TypeId:=51
abbrev B7 : TypeId:=33
theorem HA : (Tryz.prog.info? Ie).map (fun i=>(i.zero,i.size,i.bytes))=some (some (.slice none 0 0),1,24):=by kernel_rfl
theorem AgQ : (Tryz.prog.info? EE).map (fun i=>(i.zero,i.size,i.bytes))=some (some (.agg #[.int .i64 0,.slice none 0 0]),2,32):=by kernel_rfl
theorem AgP : (Tryz.prog.info? EP).map (fun i=>(i.zero,i.size,i.bytes))=some (some (.agg #[.int .i64 0,.int .i64 0,.int .i64 0,.slice none 0 0]),4,48):=by kernel_rfl
abbrev JQ (w:World)(n0:Nat)(v:Value)(xs:List Int):Prop:=w.ownsRow n0 Es 1 v xs.length (xs.map (Value.int .i64))
structure Ci (w:World) (n0:Nat) (v:Value) (vs:List Value) (q:List (List Int)):Prop where
 row:w.ownsRow n0 Ie 1 v q.length vs
 len:vs.length=q.length
 each:∀ (i:Nat) (u:Value) (m:List Int),vs[i]?=some u->q[i]?=some m->JQ w n0 u m
def FK : List D.Chan->List Value->List Value
 | c::cs,q::qs=>.int .i64 c.Shape::q::FK cs qs
 | _,_=>[]
def D1 : List D.Process->List Value->List Value
 | p::ps,f::fs=>.int .i64 p.Type_::.int .i64 p.Loc::.int .i64 p.Prio::f::D1 ps fs
 | _,_=>[]
structure Ig (w:World) (n0:Nat) (v:Value) (qs:List Value) (cs:List D.Chan):Prop where
 row:w.ownsRow n0 EE 2 v cs.length (FK cs qs)
 len:qs.length=cs.length
 each:∀ (i:Nat) (u:Value) (c:D.Chan),qs[i]?=some u->cs[i]?=some c->∃ vs,Ci w n0 u vs c.Queue
structure Gi (w:World) (n0:Nat) (v:Value) (fs:List Value) (ps:List D.Process):Prop where
 row:w.ownsRow n0 EP 4 v ps.length (D1 ps fs)
 len:fs.length=ps.length
 each:∀ (i:Nat) (u:Value) (p:D.Process),fs[i]?=some u->ps[i]?=some p->JQ w n0 u p.Frame
 apart:∀ (i j:Nat) (u v:Value) (k:Nat),i<j->fs[i]?=some u->fs[j]?=some v->u.ownBlock=some k->v.ownBlock≠some k
section
variable {w w':World} {n0 n1:Nat}
theorem DH {e:TypeId}{sz:Nat}{v:Value}{n:Nat}{xs:List Value}(h:w.ownsRow n0 e sz v n xs) :
  ∃ ao cap,v=.slice ao n cap/\n<=cap/\cap<=maxLen/\(0<n->∃ g,ao=some ⟨g,0,none⟩/\n0<=g/\g<w.heap.size/\∀ j,j<n*sz->w.cell? ⟨g,j,none⟩=xs[j]?):=by
 rcases h.2 with⟨rfl,rfl⟩ | ⟨g,cap,cur,rfl,a,hg,h1,h2,_⟩
 ·grind
 ·exact⟨_,cap,rfl,h1,h2,fun _=>⟨g,rfl,a,Cc hg,fun j b=>h.cellAt j b⟩⟩
theorem CZ {e:TypeId}{sz:Nat}{v:Value}{n:Nat}{xs:List Value}(h:w.ownsRow n0 e sz v n xs)(a:n1<=n0):w.ownsRow n1 e sz v n xs :=
 ⟨h.1,h.2.imp id fun⟨g,cap,cur,e,h1,h2⟩=>⟨g,cap,cur,e,Ap0 a h1,h2⟩⟩
abbrev CB (w w':World)(n0:Nat)(ts:List TypeId):Prop:=∀ (k:Nat) (cur:Array Value) (t:TypeId),n0<=k->k<w.heap.size->w.heap[k]?=some (.cells cur t (0,0))->t∈ts->w'.heap[k]?=w.heap[k]?
theorem Cn {e:TypeId}{sz:Nat}{v:Value}{n:Nat}{xs:List Value}{ts:List TypeId}(h:w.ownsRow n0 e sz v n xs)(b:CB w w' n0 ts)(c:e∈ts):w'.ownsRow n0 e sz v n xs :=
 CS h fun k a=>by
  obtain⟨cur,d⟩:=Bf h a;exact b k cur e (h.lt k a).1 (h.lt k a).2 d c
theorem Ci.kept {v:Value}{vs:List Value}{q:List (List Int)}{ts:List TypeId}(h:Ci w n0 v vs q)(a:CB w w' n0 ts)(h1:Ie∈ts)(h2:Es∈ts):Ci w' n0 v vs q :=
 ⟨Cn h.row a h1,h.len,fun i u m b c=>Cn (h.each i u m b c) a h2⟩
theorem Ig.kept {v:Value}{qs:List Value}{cs:List D.Chan}{ts:List TypeId}(h:Ig w n0 v qs cs)(a:CB w w' n0 ts)(h0:EE∈ts)(h1:Ie∈ts)(h2:Es∈ts):Ig w' n0 v qs cs :=
 ⟨Cn h.row a h0,h.len,fun i u c b d=>by obtain⟨vs,e⟩:=h.each i u c b d;exact⟨vs,e.kept a h1 h2⟩⟩
theorem Gi.kept {v:Value}{fs:List Value}{ps:List D.Process}{ts:List TypeId}(h:Gi w n0 v fs ps)(a:CB w w' n0 ts)(h0:EP∈ts)(h2:Es∈ts):Gi w' n0 v fs ps :=
 ⟨Cn h.row a h0,h.len,fun i u p b hp=>Cn (h.each i u p b hp) a h2,h.apart⟩
theorem Ci.base {v:Value}{vs:List Value}{q:List (List Int)}(h:Ci w n0 v vs q)(a:n1<=n0):Ci w n1 v vs q :=
 ⟨CZ h.row a,h.len,fun i u m b c=>CZ (h.each i u m b c) a⟩
theorem CB.of {ts:List TypeId}(h:∀ k,n0<=k->k<w.heap.size->w'.heap[k]?=w.heap[k]?):CB w w' n0 ts:=fun k _ _ h0 h1 _ _=>h k h0 h1
theorem CB.below {ts:List TypeId}(h:Below w.heap.size w w'):CB w w' n0 ts:=CB.of fun k _ a=>h.block k a
theorem CB.alloc {ts:List TypeId}(o:Obj):CB w (w.alloc o) n0 ts:=CB.of fun _ _ a=>Below.heap_alloc _ _ _ a
theorem CB.drewN {ts:List TypeId}(n:Nat):CB w (w.drewN n) n0 ts:=CB.of fun _ _ _=>rfl
theorem CB.grown {e:TypeId}{sz:Nat}{v:Value}{n:Nat}{xs:List Value}{ts:List TypeId}(hg:w.grownBy w' v.ownBlock)(a:w.ownsRow n1 e sz v n xs)(b:e ∉ ts):CB w w' n0 ts:=fun k cur t _ h1 c d =>
 hg.block k h1 fun f=>by grind [Bf,FL]
theorem CB.set {ts:List TypeId}{b i:Nat}{c:Array Value}{t:TypeId}{f:Nat × Nat}{u:Value}(d:w.heap[b]?=some (.cells c t f))(e:t ∉ ts):CB w (w.setCell ⟨b,i,none⟩ u) n0 ts:=fun k cur g _ _ h a =>
 Below.heap_setCell _ _ _ _ (by grind)
theorem CB.low {ts:List TypeId}{b i:Nat}{u:Value}(a:b<n0):CB w (w.setCell ⟨b,i,none⟩ u) n0 ts:=CB.of fun k h0 _=>Below.heap_setCell _ _ _ _ (by rintro rfl;omega)
theorem Ci.nil (w:World)(n0:Nat):Ci w n0 (.slice none 0 0) [] []:=⟨World.ownsRow_nil _ _ _ _,rfl,fun i x m h=>by simp at h⟩
theorem Ig.nil (w:World)(n0:Nat):Ig w n0 (.slice none 0 0) [] []:=⟨World.ownsRow_nil _ _ _ _,rfl,fun i x m h=>by simp at h⟩
theorem Gi.nil (w:World)(n0:Nat):Gi w n0 (.slice none 0 0) [] []:=⟨World.ownsRow_nil _ _ _ _,rfl,fun i x m h=>by simp at h,fun i j u v k _ h=>by simp at h⟩
theorem OW {α:Type}{R:Value->α->Prop}{vs:List Value}{l:List α}{u:Value}{a:α}(b:vs.length=l.length)(h:∀ (i:Nat) x y,vs[i]?=some x->l[i]?=some y->R x y)(h2:R u a):∀ (i:Nat) x y,(vs++[u])[i]?=some x->(l++[a])[i]?=some y->R x y:=by grind
theorem Ci.more {v a u:Value}{vs:List Value}{q:List (List Int)}{m:List Int}(h:Ci w n0 v vs q)(c:JQ w n0 u m)
  (d:w'.ownsRow n0 Ie 1 a (q.length+1) (vs++[u])) (hg:w.grownBy w' v.ownBlock):Ci w' n0 a (vs++[u]) (q++[m]):=by
 have b:CB w w' n0 [Es]:=CB.grown hg h.row (by decide);exact⟨by simpa using d,by simp[h.len],OW (R:=JQ w' n0) h.len (fun i x l e f=>Cn (h.each i x l e f) b (by simp)) (Cn c b (by simp))⟩
theorem PP : ∀ {cs:List D.Chan} {qs:List Value} {c:D.Chan} {q:Value},qs.length=cs.length->FK (cs++[c]) (qs++[q])=FK cs qs++[.int .i64 c.Shape,q]
 | [],[],c,q,_=>rfl
 | d::cs,r::qs,c,q,h=>by
  have:=PP (cs:=cs) (qs:=qs) (c:=c) (q:=q) (by simpa using h);simp only[AqG,FK,this]
 | [],_::_,_,_,h=>by simp at h
 | _::_,[],_,_,h=>by simp at h
theorem PO : ∀ {ps:List D.Process} {fs:List Value} {p:D.Process} {f:Value},fs.length=ps.length->D1 (ps++[p]) (fs++[f])=D1 ps fs++[.int .i64 p.Type_,.int .i64 p.Loc,.int .i64 p.Prio,f]
 | [],[],_,_,_=>rfl
 | d::ps,r::fs,p,f,h=>by
  have:=PO (ps:=ps) (fs:=fs) (p:=p) (f:=f) (by simpa using h);simp only[AqG,D1,this]
 | [],_::_,_,_,h=>by simp at h
 | _::_,[],_,_,h=>by simp at h
theorem Ig.more {v a u:Value}{qs vs:List Value}{cs:List D.Chan}{c:D.Chan}(h:Ig w n0 v qs cs)(d:Ci w n0 u vs c.Queue)
  (e:w'.ownsRow n0 EE 2 a (cs.length+1) (FK cs qs++[.int .i64 c.Shape,u])) (hg:w.grownBy w' v.ownBlock):Ig w' n0 a (qs++[u]) (cs++[c]):=by
 have b:CB w w' n0 [Ie,Es]:=CB.grown hg h.row (by decide);refine⟨by rw[PP h.len];simpa using e,by simp[h.len],OW (R:=fun u c=>∃ vs,Ci w' n0 u vs c.Queue) h.len (fun i x l f g=>?_) ⟨vs,d.kept b (by simp) (by simp)⟩⟩;obtain⟨vs,hv⟩:=h.each i x l f g;exact⟨vs,hv.kept b (by simp) (by simp)⟩
theorem Gi.more {v d u:Value}{fs:List Value}{ps:List D.Process}{p:D.Process}(h:Gi w n0 v fs ps)(n:JQ w n0 u p.Frame)(e:∀ (i:Nat) (x:Value) (k:Nat),fs[i]?=some x->x.ownBlock=some k->u.ownBlock≠some k)
  (o:w'.ownsRow n0 EP 4 d (ps.length+1) (D1 ps fs++[.int .i64 p.Type_,.int .i64 p.Loc,.int .i64 p.Prio,u])) (hg:w.grownBy w' v.ownBlock):Gi w' n0 d (fs++[u]) (ps++[p]):=by
 have f:CB w w' n0 [Es]:=CB.grown hg h.row (by decide);refine⟨by rw[PO h.len];simpa using o,by simp[h.len],OW (R:=fun u p=>JQ w' n0 u p.Frame) h.len (fun i x l a q=>Cn (h.each i x l a q) f (by simp)) (Cn n f (by simp)),?_⟩;intro i j x y k b a g ex;have r:j<fs.length+1:=by grind
 rw[ApL (by omega)]at a
 by_cases c:j<fs.length
 ·rw[ApL c]at g;exact h.apart i j x y k b a g ex
 grind
theorem Sr : ∀ {cs:List D.Chan} {qs:List Value} {i:Nat},qs.length=cs.length->i<cs.length->(FK cs qs)[i*2]?=some (.int .i64 (cs.getD i default).Shape)/\(FK cs qs)[i*2+1]?=qs[i]?
 | d::cs,r::qs,0,_,_=>⟨rfl,rfl⟩
 | d::cs,r::qs,i+1,h,hi=>by
  have:=Sr (cs:=cs) (qs:=qs) (i:=i) (by simpa using h) (by simpa using hi);rw[show(i+1)*2=i*2+2 by omega];simpa[FK] using this
 | [],_,_,_,h=>by simp at h
 | _::_,[],_,h,_=>by simp at h
theorem MG : ∀ {ps:List D.Process} {fs:List Value} {i:Nat},fs.length=ps.length->i<ps.length->(D1 ps fs)[i*4]?=some (.int .i64 (ps.getD i default).Type_)/\(D1 ps fs)[i*4+1]?=some (.int .i64 (ps.getD i default).Loc)/\(D1 ps fs)[i*4+2]?=some (.int .i64 (ps.getD i default).Prio)/\(D1 ps fs)[i*4+3]?=fs[i]?
 | d::ps,r::fs,0,_,_=>⟨rfl,rfl,rfl,rfl⟩
 | d::ps,r::fs,i+1,h,hi=>by
  have:=MG (ps:=ps) (fs:=fs) (i:=i) (by simpa using h) (by simpa using hi);rw[show(i+1)*4=i*4+4 by omega];simpa[D1] using this
 | [],_,_,_,h=>by simp at h
 | _::_,[],_,h,_=>by simp at h
variable {E : AN} {m:Option Phi}
end
theorem Ada {w:World}{n0 g cap k:Nat}{xs:List Int}(h:JQ w n0 (.slice (some ⟨g,0,none⟩) xs.length cap) xs)(x:Int):JQ (w.setCell ⟨g,k,none⟩ (.int .i64 x)) n0 (.slice (some ⟨g,0,none⟩) (xs.set k x).length cap) (xs.set k x):=by
 refine⟨by simp,?_⟩;rcases h.2 with⟨e,_⟩ | ⟨b,cap',cur,e,a,hg,h1,h2,h3,h4⟩
 ·simp at e
 ·simp at e;obtain⟨rfl,rfl⟩:=e;refine .inr ⟨g,cap,cur.setIfInBounds k (.int .i64 x),by simp,a,Bp hg _,by simpa using h1,h2,by simpa using h3,?_⟩;rw[Array.toList_setIfInBounds,List.take_set,List.map_set,Aqs,h4]
theorem So : ∀ {ps:List D.Process} {fs:List Value} {i:Nat} {p':D.Process},p'.Type_=(ps.getD i default).Type_->p'.Loc=(ps.getD i default).Loc->p'.Prio=(ps.getD i default).Prio->D1 (ps.set i p') fs=D1 ps fs
 | [],_,_,_,_,_,_=>rfl
 | p::ps,[],0,_,_,_,_=>rfl
 | p::ps,[],i+1,_,_,_,_=>rfl
 | p::ps,f::fs,0,p',h1,h2,h3=>by
  have a:p'.Type_=p.Type_:=h1;have b:p'.Loc=p.Loc:=h2;have c:p'.Prio=p.Prio:=h3;simp only[List.set_cons_zero,D1,a,b,c]
 | p::ps,f::fs,i+1,p',h1,h2,h3=>by
  have:=So (ps:=ps) (fs:=fs) (i:=i) (p':=p') h1 h2 h3;simp only[List.set_cons_succ,D1,this]
theorem Gi.write {w:World}{n0 g cap k i:Nat}{v:Value}{fs:List Value}{ps:List D.Process}(h:Gi w n0 v fs ps)(hi:i<ps.length)(d:fs[i]?=some (.slice (some ⟨g,0,none⟩) (ps.getD i default).Frame.length cap))(x:Int) :
  Gi (w.setCell ⟨g,k,none⟩ (.int .i64 x)) n0 v fs (ps.set i { ps.getD i default with Frame:=(ps.getD i default).Frame.set k x }):=by
 have e:ps[i]?=some (ps.getD i default):=by simp[List.getD,hi]
 have o:=h.each i _ _ d e;obtain⟨cur,a⟩:=Bf o (k:=g) rfl;have q:CB w (w.setCell ⟨g,k,none⟩ (.int .i64 x)) n0 [EP]:=CB.set a (by decide);refine⟨by rw[So (p':={ ps.getD i default with Frame:=(ps.getD i default).Frame.set k x }) rfl rfl rfl,Aqs];exact Cn h.row q (by simp),by simp[h.len],fun j u p f hp=>?_,h.apart⟩
 by_cases c:i=j
 ·grind [Apx,List.getElem?_set_self,Ada]
 ·rw[List.getElem?_set_ne c]at hp;refine CS (h.each j u p f hp) fun b n=>Below.heap_setCell _ _ _ _ ?_
  rintro rfl;rcases Nat.lt_or_gt_of_ne c with l | l
  ·exact h.apart i j _ _ _ l d f rfl n
  ·exact h.apart j i _ _ _ l f d n rfl
def AtL (w:World)(n:Nat)(R:Nat->Nat->Nat->Prop)(v:Value):Prop :=
 ∃ ao cap,v=.slice ao n cap/\n<=cap/\cap<=maxLen/\(0<n->∃ b off,ao=some ⟨b,off,none⟩/\b<w.heap.size/\∀ i,i<n->R b off i)
def AtI (w:World)(xs:List Int)(v:Value):Prop:=AtL w xs.length (fun b off i=>w.cell? ⟨b,off+i,none⟩=some (.int .i64 (xs.getD i 0))) v
def AtQ (w:World)(q:List (List Int))(v:Value):Prop:=AtL w q.length (fun b off i=>∃ u,w.cell? ⟨b,off+i,none⟩=some u/\AtI w (q.getD i []) u) v
def AtC (w:World)(cs:List D.Chan)(v:Value):Prop :=
 AtL w cs.length (fun b off i=>∃ u,w.cell? ⟨b,off+i*2,none⟩=some (.int .i64 (cs.getD i default).Shape)/\w.cell? ⟨b,off+i*2+1,none⟩=some u/\AtQ w (cs.getD i default).Queue u) v
def AtP (w:World)(ps:List D.Process)(v:Value):Prop :=
 AtL w ps.length (fun b off i=>∃ u,w.cell? ⟨b,off+i*4,none⟩=some (.int .i64 (ps.getD i default).Type_)/\w.cell? ⟨b,off+i*4+1,none⟩=some (.int .i64 (ps.getD i default).Loc)/\w.cell? ⟨b,off+i*4+2,none⟩=some (.int .i64 (ps.getD i default).Prio)/\w.cell? ⟨b,off+i*4+3,none⟩=some u/\AtI w (ps.getD i default).Frame u) v
section
variable {w : World} {E:AN} {m:Option Phi} {v:Value} {fz:Bool}
theorem Amz {xs:List Int}(h:V w E m (Ad fz xs) v):AtI w xs v:=by
 obtain⟨ao,cap,rfl,h1,h2,h3⟩:=V.sl_inv h;refine⟨ao,cap,rfl,h1,h2,fun hp=>?_⟩;obtain⟨b,off,rfl,c,_,_,u,d,hv⟩:=h3 hp;refine⟨b,off,rfl,c,fun i hi=>?_⟩;have a:=d i 0 _ hi rfl;have e:=(hv i 0 _ hi rfl).sc_inv;rw[e]at a;simpa using a
theorem Apr {q:List (List Int)}(h:V w E m (B3 fz q) v):AtQ w q v:=by
 obtain⟨ao,cap,rfl,h1,h2,h3⟩:=V.sl_inv h;refine⟨ao,cap,rfl,h1,h2,fun hp=>?_⟩;obtain⟨b,off,rfl,a,_,_,u,c,hv⟩:=h3 hp;refine⟨b,off,rfl,a,fun i hi=>⟨u i 0,?_,Amz (hv i 0 _ hi rfl)⟩⟩;have d:=c i 0 _ hi rfl;simpa using d
theorem Apu {cs:List D.Chan}(h:V w E m (A0 fz cs) v):AtC w cs v:=by
 obtain⟨ao,cap,rfl,h1,h2,h3⟩:=V.sl_inv h;refine⟨ao,cap,rfl,h1,h2,fun hp=>?_⟩;obtain⟨b,off,rfl,d,_,_,u,a,hv⟩:=h3 hp;refine⟨b,off,rfl,d,fun i hi=>⟨u i 1,?_,?_,Apr (hv i 1 _ hi rfl)⟩⟩
 ·have c:=a i 0 _ hi rfl;have e:=(hv i 0 _ hi rfl).sc_inv;rw[e]at c;simpa using c
 ·exact a i 1 _ hi rfl
theorem Aps {ps:List D.Process}(h:V w E m (AI fz ps) v):AtP w ps v:=by
 obtain⟨ao,cap,rfl,h1,h2,h3⟩:=V.sl_inv h;refine⟨ao,cap,rfl,h1,h2,fun hp=>?_⟩;obtain⟨b,off,rfl,e,_,_,u,d,hv⟩:=h3 hp;refine⟨b,off,rfl,e,fun i hi=>⟨u i 3,?_,?_,?_,?_,Amz (hv i 3 _ hi rfl)⟩⟩
 ·have a:=d i 0 _ hi rfl;have c:=(hv i 0 _ hi rfl).sc_inv;rw[c]at a;simpa using a
 ·have a:=d i 1 _ hi rfl;have c:=(hv i 1 _ hi rfl).sc_inv;rw[c]at a;simpa using a
 ·have a:=d i 2 _ hi rfl;have c:=(hv i 2 _ hi rfl).sc_inv;rw[c]at a;simpa using a
 ·exact d i 3 _ hi rfl
end
theorem AtL.map {w w':World}{n:Nat}{R S:Nat->Nat->Nat->Prop}{v:Value}(h:AtL w n R v)(hs:w.heap.size<=w'.heap.size)(a:∀ b off i,b<w.heap.size->i<n->R b off i->S b off i):AtL w' n S v:=by
 obtain⟨ao,cap,rfl,h1,h2,h3⟩:=h;refine⟨ao,cap,rfl,h1,h2,fun hp=>?_⟩;obtain⟨b,off,rfl,c,d⟩:=h3 hp;exact⟨b,off,rfl,by omega,fun i hi=>a b off i c hi (d i hi)⟩
theorem AtI.below {w w':World}{xs:List Int}{v:Value}(h:AtI w xs v)(a:Below w.heap.size w w'):AtI w' xs v :=
 AtL.map h a.size fun b off i c _ d=>by rw[a.cell (p:=⟨b,off+i,none⟩) c];exact d
section
variable {P : Program} {fn:Func} {R:Ending->World->Prop} {a:Act} {w:World} {p u x:Tmp} {ty t:TypeId} {g:Nat} {cs:Array Value} {fr:Nat × Nat} {d:TypeDesc}
theorem TC (h:fn.results=#[.cell p ty])(hp:a.tmps.getD p undef=.pointer (some ⟨g,0,none⟩))(hg:w.heap[g]?=some (.cells cs t fr))
  (b:P.underlying ty=some d) (hd:(match d with | .struct _ | .array _ _=>true | _=>false)=true) (hi:(P.info? ty).map (·.size)=some cs.size) (c:a.defers=[]) (e:R (.returned (.agg cs)) w):bodyPost P fn R .ret a w :=
 bodyPost_ret (results_cell_row h _ w g t cs fr d hp hg b hd hi) c e
theorem ND (h:fn.results=#[.cell p ty,.tmp u])(tmps:Array Value)(hp:tmps.getD p undef=.pointer (some ⟨g,0,none⟩))(hg:w.heap[g]?=some (.cells cs t fr))
  (c:P.underlying ty=some d) (hd:(match d with | .struct _ | .array _ _=>true | _=>false)=true) (hi:(P.info? ty).map (·.size)=some cs.size) :
  (results fn tmps).run P w=.ok (.tuple #[.agg cs,tmps.getD u undef]) w:=by
 have b:tmps[p]?.getD undef=.pointer (some ⟨g,0,none⟩):=by simpa using hp
 simp[results,h,b,asAddr,run_loadVar_row w g t ty cs fr d hg c hd hi]
theorem NC (h:fn.results=#[.cell p ty,.tmp u,.tmp x])(tmps:Array Value)(hp:tmps.getD p undef=.pointer (some ⟨g,0,none⟩))(hg:w.heap[g]?=some (.cells cs t fr))
  (c:P.underlying ty=some d) (hd:(match d with | .struct _ | .array _ _=>true | _=>false)=true) (hi:(P.info? ty).map (·.size)=some cs.size) :
  (results fn tmps).run P w=.ok (.tuple #[.agg cs,tmps.getD u undef,tmps.getD x undef]) w:=by
 have b:tmps[p]?.getD undef=.pointer (some ⟨g,0,none⟩):=by simpa using hp
 simp[results,h,b,asAddr,run_loadVar_row w g t ty cs fr d hg c hd hi]
theorem Ej (h:fn.results=#[.cell p ty,.tmp u])(hp:a.tmps.getD p undef=.pointer (some ⟨g,0,none⟩))(hg:w.heap[g]?=some (.cells cs t fr))
  (b:P.underlying ty=some d) (hd:(match d with | .struct _ | .array _ _=>true | _=>false)=true) (hi:(P.info? ty).map (·.size)=some cs.size) (c:a.defers=[]) (e:R (.returned (.tuple #[.agg cs,a.tmps.getD u undef])) w):bodyPost P fn R .ret a w :=
 bodyPost_ret (ND h _ hp hg b hd hi) c e
theorem OB (h:fn.results=#[.cell p ty,.tmp u,.tmp x])(hp:a.tmps.getD p undef=.pointer (some ⟨g,0,none⟩))(hg:w.heap[g]?=some (.cells cs t fr))
  (b:P.underlying ty=some d) (hd:(match d with | .struct _ | .array _ _=>true | _=>false)=true) (hi:(P.info? ty).map (·.size)=some cs.size) (c:a.defers=[]) (e:R (.returned (.tuple #[.agg cs,a.tmps.getD u undef,a.tmps.getD x undef])) w):bodyPost P fn R .ret a w :=
 bodyPost_ret (NC h _ hp hg b hd hi) c e
end
section
variable {P : Program} {a:Act} {w:World} {Q:Exit->Act->World->Prop}
theorem GS {c rest:Code}(l:Nat)(g:findLabel c l=some rest)
  (h:∀ J:Act->World->Prop,(∀ a w,rest.wp P (Exit.noGoto Q) a w->J a w)->c.wp P (Exit.jump l J Q) a w):(Code.scope c).wp P Q a w:=by
 refine wp_scope_jumps l (fun a w=>rest.wp P (Exit.noGoto Q) a w) (fun _ _=>0) g (h _ fun _ _ h=>h) ?_;intro a w i b k cs;obtain⟨e,j,m,d,f⟩:=i b k cs;refine⟨e,j,m,?_,f⟩;cases e with
 | goto l=>exact d.elim
 | normal=>exact d
 | exit _=>exact d
 | ret=>exact d
 | panic _=>exact d
 | outgrown=>exact d
@[go_sem] theorem AmS (l:Nat) (J:Act->World->Prop):Exit.jump l J Q .normal a w=Q .normal a w:=rfl
@[go_sem] theorem Aon (l:Nat) (J:Act->World->Prop) (id:Nat):Exit.jump l J Q (.exit id) a w=Q (.exit id) a w:=rfl
@[go_sem] theorem Ao1 (l:Nat) (J:Act->World->Prop):Exit.jump l J Q .ret a w=Q .ret a w:=rfl
@[go_sem] theorem An3 (l:Nat) (J:Act->World->Prop) (ch:List PanicEntry):Exit.jump l J Q (.panic ch) a w=Q (.panic ch) a w:=rfl
end
theorem AkN {W a:World}(c:Below W.heap.size W a):(∀ b o,b<W.heap.size->a.cell? ⟨b,o,none⟩=W.cell? ⟨b,o,none⟩)/\(∀ b o,b<W.heap.size->a.frozen? ⟨b,o,none⟩=W.frozen? ⟨b,o,none⟩) :=
 ⟨fun b o h=>c.cell (p:=⟨b,o,none⟩) h,fun b o h=>c.frozen (p:=⟨b,o,none⟩) h⟩
set_option maxHeartbeats 1000000 in
theorem Oa {w:World}{ao:Option Addr}{cap:Nat}{xs:List Int}(h1:xs.length<=cap)(h2:cap<=maxLen)(s:xs.length*8<=140737488355328)(h3:0<xs.length->∃ a,ao=some a/\∀ i,i<xs.length->w.cell? (a.add i)=some (.int .i64 (xs.getD i 0))) :
  Calls Tryz.prog 88 #[.slice ao xs.length cap] w fun e w'=>∃ g,e=.returned g/\w'.ownsRow w.heap.size 2 1 g xs.length (xs.map (Value.int .i64))/\Below w.heap.size w w':=by
 have p:∀ (w:World) (a:Option Addr) (n c h l:Nat),(binOp .eql 87 (.slice a n c) (.slice none h l)).run Tryz.prog w=.ok (.bool a.isNone) w:=fun w a n c h l=>Lib.run_eql_slice_nil w _ _ a n c h l Tryz.underlying87
 obtain⟨ki,khi,khz0,khz1,khz2⟩:=Cs Kz;cases ao with
 | none =>
  have h0:xs=[]:=by grind
  subst h0;clear h3
  go_enter Tryz.func88,Tryz.ntmps88
  go_wp2
  go_ret
  simp_all [World.ownsRow_nil,Below.refl]
 | some a =>
  have m:∀ (j:Nat) (u:Value),(xs.map (Value.int .i64))[j]?=some u->w.cell? (a.add j)=some u:=by grind
  have HN:=Lib.hid m;clear h3 m;have d:=h2;unfold maxLen at d
  go_enter Tryz.func88,Tryz.ntmps88
  go_wp2_with (at_builtin;refine wpList_append_own _ rfl _ _ 87 rfl w.heap.size 2 ki (.int .i64 0) 1 8 Tryz.underlying87 khi khz0 khz1 khz2 rfl (by decide) _ _ _ rfl (World.ownsRow_made w #[] 0 (ApC _) (ApD _) (by simp)) a xs.length cap (xs.map (Value.int .i64)) rfl ?qc1 ?qc2 ?qc3 ?qc4 ?qc5 ?qc6 ?_)
  case qc1=>simp
  case qc2=>intro j u q;have:=HN.out j u q;exact Lib.cell?_alloc_some _ this
  case qc3=>intro u o;simp at o;obtain⟨x,_,rfl⟩:=o;rfl
  case qc4=>unfold maxLen;omega
  case qc5=>omega
  case qc6=>simp
  intro g t f b _
  go_wp2
  go_ret
  exact⟨g,rfl,by simpa using f,((Below.refl _ w).alloc (ApC _) _).grown b (by simp) (by intro k r;simp[Value.ownBlock]at r;omega)⟩
theorem AdR {w:World}{v:Value}{xs:List Int}(h:AtI w xs v)(b:xs.length<=128) :
  Calls Tryz.prog 87 #[v] w fun e w'=>∃ a,e=.returned a/\JQ w' w.heap.size a xs/\Below w.heap.size w w':=by
 obtain⟨ao,cap,rfl,h1,h2,h3⟩:=h;grind [Gz,Addr.add_lit]
theorem Amr {w:World}{v:Value}{xs:List Int}(h:AtI w xs v)(b:xs.length<=8) :
  Calls Tryz.prog 88 #[v] w fun e w'=>∃ a,e=.returned a/\JQ w' w.heap.size a xs/\Below w.heap.size w w':=by
 obtain⟨ao,cap,rfl,h1,h2,h3⟩:=h;grind [Oa,Addr.add_lit]
theorem AtI.alloc {w:World}{xs:List Int}{v:Value}(h:AtI w xs v)(o:Obj):AtI (w.alloc o) xs v :=
 AtL.map h (by simp) fun b off i c _ a=>Lib.cell?_alloc_some _ a
theorem G9 {α:Type}{q:List α}{k:Nat}{m:α}(h:q[k]?=some m):q.take (k+1)=q.take k++[m]:=by grind [Apz,List.take_succ_eq_append_getElem]
structure Zg (w w2 w':World) (s:D.State) (vg vc vp:Value) (n1:Nat) (qs fs:List Value):Prop where
 g:JQ w' w.heap.size vg s.Globals
 g1:∀ k,vg.ownBlock=some k->k<n1
 n0:w.heap.size<=n1
 n2:n1<=w2.heap.size
 c:Ig w2 n1 vc qs s.Chans
 kept:∀ k,n1<=k->k<w2.heap.size->w'.heap[k]?=w2.heap[k]?
 p:Gi w' w2.heap.size vp fs s.Procs
 below:Below w.heap.size w w'
theorem Mj {w w':World}{b i:Nat}{u:Value}(h:Cw w w' (fun k=>k=b)):Cw w (w'.setCell ⟨b,i,none⟩ u) (fun k=>k=b) :=
 Cw.setCell (p:=⟨b,i,none⟩) h (Or.inl rfl) u
theorem IK {w:World}{b:Nat}(a c d e f g:Value) :
  Cw w ((((((w.setCell ⟨b,0,none⟩ a).setCell ⟨b,1,none⟩ c).setCell ⟨b,2,none⟩ d).setCell ⟨b,3,none⟩ e).setCell ⟨b,4,none⟩ f).setCell ⟨b,5,none⟩ g) (fun k=>k=b):=by
 refine Mj ?_;refine Mj ?_;grind [Mj,Cw.refl]
theorem AiA {w:World}{b:Nat}(a c d e f g:Value) :
  ((((((w.setCell ⟨b,0,none⟩ a).setCell ⟨b,1,none⟩ c).setCell ⟨b,2,none⟩ d).setCell ⟨b,3,none⟩ e).setCell ⟨b,4,none⟩ f).setCell ⟨b,5,none⟩ g).heap.size=w.heap.size:=by
 simp[World.setCell]
theorem Oe {w:World}{b:Nat}{i j k l m n:Value}{t:TypeId}(h:w.heap[b]?=some (.cells #[i,j,k,l,m,n] t (0,0)))(a c d e f g:Value) :
  ((((((w.setCell ⟨b,0,none⟩ a).setCell ⟨b,1,none⟩ c).setCell ⟨b,2,none⟩ d).setCell ⟨b,3,none⟩ e).setCell ⟨b,4,none⟩ f).setCell ⟨b,5,none⟩ g).heap[b]?=some (.cells #[a,c,d,e,f,g] t (0,0)):=by
 rw[Bp (Bp (Bp (Bp (Bp (Bp h _) _) _) _) _) _];rfl
set_option maxRecDepth 100000 in
set_option maxHeartbeats 4000000 in
theorem Sl {w:World}{s:D.State}{g c p:Value}(hs:Fit s)(hg:AtI w s.Globals g)(hc:AtC w s.Chans c)(hp:AtP w s.Procs p) :
  Calls Tryz.prog 49 #[.agg #[g,c,p,.int .i64 s.Last,.int .i64 s.Alone,.int .i64 s.Claim]] w fun e w' =>
   ∃ vg vc vp n1 qs fs w2,e=.returned (.agg #[vg,vc,vp,.int .i64 s.Last,.int .i64 s.Alone,.int .i64 s.Claim])/\Zg w w2 w' s vg vc vp n1 qs fs:=by
 obtain⟨ki,khi,khz0,khz1,khz2⟩:=Cs HA;obtain⟨kc,khc,kcz0,kcz1,kcz2⟩:=Cs AgQ;obtain⟨kp,khp,kpz0,kpz1,kpz2⟩:=Cs AgP;have hg128:=hs.g;have hsc:=hs.c;have hsp:=hs.p;obtain⟨ag,capg,rfl,hg1,hg2,hg3⟩:=id hg;obtain⟨ac,capc,rfl,hc1,hc2,hc3⟩:=hc;obtain⟨ap,capp,rfl,hp1,hp2,hp3⟩:=hp
 go_enter Tryz.func49,Tryz.ntmps49
 go_wp2_with (go_at_call 87;refine(AdR (((hg.alloc _).alloc _).alloc _) hg128).mono ?_;rintro e P ⟨vg,rfl,U,I⟩;obtain⟨aog,cg,rfl,_⟩:=DH U;obtain⟨cc1,cf1⟩:=AkN I)
 have hz1:w.heap.size+1+1+1<=P.heap.size:=by simpa using I.size
 have a2:P.heap[w.heap.size+1+1]?=some (.cells #[.slice ag s.Globals.length capg,.slice ac s.Chans.length capc,.slice ap s.Procs.length capp,.int .i64 s.Last,.int .i64 s.Alone,.int .i64 s.Claim] B7 (0,0)):=by
  rw[I.block _ (by simp)];have:=heap_alloc_new ((w.alloc (.cells #[.slice ag s.Globals.length capg,.slice ac s.Chans.length capc,.slice ap s.Procs.length capp,.int .i64 s.Last,.int .i64 s.Alone,.int .i64 s.Claim] B7)).alloc (.cells #[.slice none 0 0,.slice none 0 0,.slice none 0 0,.int .i64 0,.int .i64 0,.int .i64 0] B7)) (.cells #[.slice ag s.Globals.length capg,.slice ac s.Chans.length capc,.slice ap s.Procs.length capp,.int .i64 s.Last,.int .i64 s.Alone,.int .i64 s.Claim] B7);simpa using this
 have a1:P.heap[w.heap.size+1]?=some (.cells #[.slice none 0 0,.slice none 0 0,.slice none 0 0,.int .i64 0,.int .i64 0,.int .i64 0] B7 (0,0)):=by
  rw[I.block _ (by simp<;>omega),Below.heap_alloc _ _ _ (by simp)];have:=heap_alloc_new (w.alloc (.cells #[.slice ag s.Globals.length capg,.slice ac s.Chans.length capc,.slice ap s.Procs.length capp,.int .i64 s.Last,.int .i64 s.Alone,.int .i64 s.Claim] B7)) (.cells #[.slice none 0 0,.slice none 0 0,.slice none 0 0,.int .i64 0,.int .i64 0,.int .i64 0] B7);simpa using this
 have a0:P.heap[w.heap.size]?=some (.cells #[.slice ag s.Globals.length capg,.slice ac s.Chans.length capc,.slice ap s.Procs.length capp,.int .i64 s.Last,.int .i64 s.Alone,.int .i64 s.Claim] B7 (0,0)):=by
  rw[I.block _ (by simp<;>omega),Below.heap_alloc _ _ _ (by simp<;>omega),Below.heap_alloc _ _ _ (by simp)];grind [heap_alloc_new]
 have hB1:Below w.heap.size w P:=(((Below.refl _ w).alloc (ApC _) _).alloc (by simp) _ |>.alloc (by simp<;>omega) _).trans (I.mono (by simp<;>omega));clear cc1 cf1;have F0:(((P.setCell ⟨w.heap.size+1+1,0,none⟩ (.slice aog s.Globals.length cg)).setCell ⟨w.heap.size+1+1,1,none⟩ (.slice none 0 0)).setCell ⟨w.heap.size+1+1,2,none⟩ (.slice none 0 0)).heap[w.heap.size]?=some (.cells #[.slice ag s.Globals.length capg,.slice ac s.Chans.length capc,.slice ap s.Procs.length capp,.int .i64 s.Last,.int .i64 s.Alone,.int .i64 s.Claim] B7 (0,0)):=by grind [Below.heap_setCell]
 have F1:(((P.setCell ⟨w.heap.size+1+1,0,none⟩ (.slice aog s.Globals.length cg)).setCell ⟨w.heap.size+1+1,1,none⟩ (.slice none 0 0)).setCell ⟨w.heap.size+1+1,2,none⟩ (.slice none 0 0)).heap[w.heap.size+1]?=some (.cells #[.slice none 0 0,.slice none 0 0,.slice none 0 0,.int .i64 0,.int .i64 0,.int .i64 0] B7 (0,0)):=by grind [Below.heap_setCell]
 have F2:(((P.setCell ⟨w.heap.size+1+1,0,none⟩ (.slice aog s.Globals.length cg)).setCell ⟨w.heap.size+1+1,1,none⟩ (.slice none 0 0)).setCell ⟨w.heap.size+1+1,2,none⟩ (.slice none 0 0)).heap[w.heap.size+1+1]?=some (.cells #[.slice aog s.Globals.length cg,.slice none 0 0,.slice none 0 0,.int .i64 s.Last,.int .i64 s.Alone,.int .i64 s.Claim] B7 (0,0)):=by
  rw[Bp (Bp (Bp a2 _) _) _];rfl
 have FB:Below w.heap.size w (((P.setCell ⟨w.heap.size+1+1,0,none⟩ (.slice aog s.Globals.length cg)).setCell ⟨w.heap.size+1+1,1,none⟩ (.slice none 0 0)).setCell ⟨w.heap.size+1+1,2,none⟩ (.slice none 0 0)) :=
  ((hB1.setCell (by simp<;>omega) _).setCell (by simp<;>omega) _).setCell (by simp<;>omega) _
 have FG:JQ (((P.setCell ⟨w.heap.size+1+1,0,none⟩ (.slice aog s.Globals.length cg)).setCell ⟨w.heap.size+1+1,1,none⟩ (.slice none 0 0)).setCell ⟨w.heap.size+1+1,2,none⟩ (.slice none 0 0)) (w.heap.size+1+1+1) (.slice aog s.Globals.length cg) s.Globals:=by
  refine CS (CZ U (by simp)) fun k V=>?_
  have hkb:=(U.lt k V).1;simp at hkb;grind [Below.heap_setCell]
 have FZ:w.heap.size+1+1+1<=(((P.setCell ⟨w.heap.size+1+1,0,none⟩ (.slice aog s.Globals.length cg)).setCell ⟨w.heap.size+1+1,1,none⟩ (.slice none 0 0)).setCell ⟨w.heap.size+1+1,2,none⟩ (.slice none 0 0)).heap.size:=by simpa using hz1
 clear U I a0 a1 a2 hB1 hz1;generalize (((P.setCell ⟨w.heap.size+1+1,0,none⟩ (.slice aog s.Globals.length cg)).setCell ⟨w.heap.size+1+1,1,none⟩ (.slice none 0 0)).setCell ⟨w.heap.size+1+1,2,none⟩ (.slice none 0 0))=wl at *
 go_loopw [21] (fun i wr=>∃ k:Nat,k<=s.Chans.length/\i=.int .i64 k/\∃ ov qs,wr.heap[w.heap.size+1+1]?=some (.cells #[.slice aog s.Globals.length cg,ov,.slice none 0 0,.int .i64 s.Last,.int .i64 s.Alone,.int .i64 s.Claim] B7 (0,0))/\Ig wr wl.heap.size ov qs (s.Chans.take k)/\Cw wl wr (fun b=>b=w.heap.size+1+1)) (fun i _=>s.Chans.length - (intOf i).toNat)
 case atStart=>exact⟨0,ApD _,rfl,.slice none 0 0,[],F2,Ig.nil _ _,Cw.refl _ _⟩
 case round =>
  obtain⟨k,V,rfl,ov,qs,hB,hC,hT⟩:=hrel;generalize wr=wo at *
  by_cases v:k<s.Chans.length
  ·obtain⟨b,off,rfl,J,C⟩:=hc3 (by omega);obtain⟨u,hu0,hu1,hq⟩:=C k v;have o:Below w.heap.size w wo:=FB.trans (hT.below FB.size (fun j hj=>by subst hj;omega));rw[← o.cell (p:=⟨b,off+k*2,none⟩) J]at hu0;rw[← o.cell (p:=⟨b,off+k*2+1,none⟩) J]at hu1;obtain⟨aq,capq,rfl,hq1,hq2,W⟩:=hq;have HQ:Hid (s.Chans[k]?=some (s.Chans.getD k default)):=by unfold Hid;simp[List.getD,v]
   have Q:=hs.q (s.Chans.getD k default) (Av v);clear C;generalize s.Chans.getD k default=ch at *;have hfq:=Q.1;have hfm:=Lib.hid Q.2;clear Q;unfold maxLen at hq2
   go_wp2
   have hfb:wl.heap.size<=wo.heap.size:=hT.size;have G0:(wo.alloc (.cells #[.int .i64 ch.Shape,.slice aq ch.Queue.length capq] EE)).heap[wo.heap.size]?=some (.cells #[.int .i64 ch.Shape,.slice aq ch.Queue.length capq] EE (0,0)):=heap_alloc_new wo _;have G1:Below wo.heap.size wo (wo.alloc (.cells #[.int .i64 ch.Shape,.slice aq ch.Queue.length capq] EE)):=(Below.refl _ wo).alloc (ApC _) _;have G2:(wo.alloc (.cells #[.int .i64 ch.Shape,.slice aq ch.Queue.length capq] EE)).heap.size=wo.heap.size+1:=by simp
   generalize wo.alloc (.cells #[.int .i64 ch.Shape,.slice aq ch.Queue.length capq] EE)=wb at *;have HL:=Lib.hid v
   go_loopw [6,28] (fun qv i wr=>∃ (q0:Value) (j:Nat) (vs:List Value),q0=qv/\j<=ch.Queue.length/\i=.int .i64 j/\Ci wr (wo.heap.size+1) q0 vs (ch.Queue.take j)/\Below (wo.heap.size+1) wb wr) (fun _ i _=>ch.Queue.length - (intOf i).toNat)
   case atStart=>exact⟨_,0,[],rfl,ApD _,rfl,Ci.nil _ _,Below.refl _ _⟩
   case round =>
    obtain⟨qv,j,vs,rfl,hj,rfl,hQ,y⟩:=hrel;have hsz:=y.size
    by_cases hjl:j<ch.Queue.length
    ·obtain⟨bq,offq,rfl,hbq,R⟩:=W (by omega);obtain⟨x,hx0,hx⟩:=R j hjl;have hWq:Below w.heap.size w wr:=(o.trans (G1.mono (by have:=o.size;omega))).trans (y.mono (by have:=o.size;omega));rw[← hWq.cell (p:=⟨bq,offq+j,none⟩) hbq]at hx0;have O:=hx.below hWq;have HJ:Hid (ch.Queue[j]?=some (ch.Queue.getD j [])):=by grind
     have hm8:=hfm.out (ch.Queue.getD j []) (Av hjl);clear R hx;generalize ch.Queue.getD j []=m at *;obtain⟨ax,capx,rfl,hx1,hx2,hx3⟩:=id O;have X:=hQ.row;have E:(ch.Queue.take j).length=j:=by simp;omega
     rw[E]at X
     go_wp2_with (first | (go_at_call 88;refine(Amr O hm8).mono ?_;rintro e w2 ⟨v',rfl,L,n⟩;obtain⟨ao',cap',rfl,_⟩:=DH L) | (at_builtin;refine wpList_append_own _ rfl _ _ 82 rfl (wo.heap.size+1) Ie ki (.slice none 0 0) 1 24 Tryz.underlying82 khi khz0 khz1 khz2 rfl (by decide) qv j vs rfl ?qrow ⟨w2.heap.size,0,none⟩ 1 1 [.slice ao' m.length cap'] rfl ?qc1 ?qc2 ?qc3 ?qc4 ?qc5 ?qc6 ?_))
     case qrow=>exact Cn (Cn (ts:=[Ie]) X (CB.below n) (by simp)) (CB.alloc (ts:=[Ie]) _) (by simp)
     case qc1=>rfl
     case qc2=>grind [World.news_of_block,heap_alloc_new]
     case qc3=>intro u hu;simp at hu;subst hu;rfl
     case qc4=>unfold maxLen;omega
     case qc5=>omega
     case qc6=>have:=n.size;simp;omega
     intro N H l a _;have hz2:=n.size;have HO:Hid (Ci H (wo.heap.size+1) N (vs++[.slice ao' m.length cap']) (ch.Queue.take (j+1))):=by
      unfold Hid;rw[G9 HJ.out];refine Ci.more ((hQ.kept (ts:=[Ie,Es]) (CB.below n) (by simp) (by simp)).kept (ts:=[Ie,Es]) (CB.alloc _) (by simp) (by simp)) (Cn (ts:=[Es]) (CZ L (by omega)) (CB.alloc _) (by simp)) (by rw[E];exact l) a
     have HB:Hid (Below (wo.heap.size+1) wb H):=((y.trans (n.mono (by omega))).alloc (by omega) _).grown a (by simp;omega) (fun k V=>(X.lt k V).1);clear l a L n X hQ y
     go_wp2
     go_roundw
     case rel=>exact⟨N,j+1,_,rfl,by omega,by go_num,HO.out,HB.out⟩
     case measure=>simp[intOf];omega
    ·obtain rfl:j=ch.Queue.length:=by omega
     rw[AqS]at hQ;have S:wr.heap[wo.heap.size]?=some (.cells #[.int .i64 ch.Shape,.slice aq ch.Queue.length capq] EE (0,0)):=(y.block _ (by omega)).trans G0;have hBo:w.heap.size+1+1<wo.heap.size:=by omega
     have z:wr.heap[w.heap.size+1+1]?=some (.cells #[.slice aog s.Globals.length cg,ov,.slice none 0 0,.int .i64 s.Last,.int .i64 s.Alone,.int .i64 s.Claim] B7 (0,0)):=((y.block _ (by omega)).trans (G1.block _ hBo)).trans hB;have x0:wr.cell? ⟨wo.heap.size,0,none⟩=some (.int .i64 ch.Shape):=Am S rfl;have x1:wr.cell? ⟨w.heap.size+1+1,1,none⟩=some ov:=Am z rfl;have hCr:Ig wr wl.heap.size ov qs (s.Chans.take k):=hC.kept (ts:=[EE,Ie,Es]) (CB.of fun b _ B=>(y.block b (by omega)).trans (G1.block b B)) (by simp) (by simp) (by simp);have E:(s.Chans.take k).length=k:=by simp;omega
     have r:=hCr.row;rw[E]at r;obtain⟨aqq,cqq,rfl,_⟩:=DH hQ.row;clear hC
     go_wp2_with (at_builtin;refine wpList_append_own _ rfl _ _ 30 rfl wl.heap.size EE kc (.agg #[.int .i64 0,.slice none 0 0]) 2 32 Tryz.underlying30 khc kcz0 kcz1 kcz2 rfl (by decide) ov k (FK (s.Chans.take k) qs) rfl ?qrow ⟨wr.heap.size,0,none⟩ 1 1 [.int .i64 ch.Shape,.slice aqq ch.Queue.length cqq] rfl ?qc1 ?qc2 ?qc3 ?qc4 ?qc5 ?qc6 ?_)
     case qrow=>exact Cn r (CB.alloc (ts:=[EE]) _) (by simp)
     case qc1=>rfl
     case qc2=>grind [World.news_of_block,heap_alloc_new]
     case qc3=>intro u hu;simp at hu;rcases hu with rfl | rfl<;>rfl
     case qc4=>omega
     case qc5=>have:=hs.c;omega
     case qc6=>simp;omega
     intro N H l a _;have d:H.heap[w.heap.size+1+1]?=some (.cells #[.slice aog s.Globals.length cg,ov,.slice none 0 0,.int .i64 s.Last,.int .i64 s.Alone,.int .i64 s.Claim] B7 (0,0)):=by
      rw[a.block _ (by simp<;>omega) (fun e=>by obtain⟨cur,hcur⟩:=Bf r e.symm;grind),Below.heap_alloc _ _ _ (Cc z)];exact z
     have e0:H.cell? ⟨w.heap.size+1+1,1,none⟩=some ov:=Am d rfl;have e1:H.frozen? ⟨w.heap.size+1+1,1,none⟩=false:=AH d;have HC:Hid (Ig (H.setCell ⟨w.heap.size+1+1,1,none⟩ N) wl.heap.size N (qs++[.slice aqq ch.Queue.length cqq]) (s.Chans.take (k+1))):=by
      unfold Hid;rw[G9 HQ.out];exact Ig.kept (ts:=[EE,Ie,Es]) (Ig.more (hCr.kept (ts:=[EE,Ie,Es]) (CB.alloc _) (by simp) (by simp) (by simp)) ((hQ.base (by omega)).kept (ts:=[Ie,Es]) (CB.alloc _) (by simp) (by simp)) (by rw[E];exact l) a) (CB.set d (by decide)) (by simp) (by simp) (by simp)
     have HK:Hid ((H.setCell ⟨w.heap.size+1+1,1,none⟩ N).heap[w.heap.size+1+1]?=some (.cells #[.slice aog s.Globals.length cg,N,.slice none 0 0,.int .i64 s.Last,.int .i64 s.Alone,.int .i64 s.Claim] B7 (0,0))):=by
      unfold Hid;rw[Bp d];rfl
     have HT:Hid (Cw wl (H.setCell ⟨w.heap.size+1+1,1,none⟩ N) (fun b=>b=w.heap.size+1+1)) :=
      ((((hT.trans (Cw.of_below (F:=fun _=>False) G1) (fun _ h=>h.elim)).trans (Cw.of_below (F:=fun _=>False) (G2 ▸ y)) (fun _ h=>h.elim)).alloc _).grown a (fun k V=>.inr (r.lt k V).1)).setCell (.inl rfl) _
     obtain⟨ao3,cap3,rfl,_⟩:=DH l;clear l a r hCr z S hQ y G0 G1 d x0 x1 W
     go_wp2
     go_roundw
     case rel=>exact⟨k+1,HL.out,by go_num,_,_,HK.out,HC.out,HT.out⟩
     case measure=>have:=HL.out;simp[intOf];omega
  ·obtain rfl:k=s.Chans.length:=by omega
   rw[AqS]at hC;have hfb:wl.heap.size<=wo.heap.size:=hT.size;have Y:Below w.heap.size w wo:=FB.trans (hT.below FB.size (fun j hj=>by subst hj;omega));have f0:wo.heap[w.heap.size]?=_:=(hT.block _ (by omega) (by omega)).trans F0;have f1:wo.heap[w.heap.size+1]?=_:=(hT.block _ (by omega) (by omega)).trans F1;have s0:wo.cell? ⟨w.heap.size,2,none⟩=some (.slice ap s.Procs.length capp):=Am f0 rfl;have HG:Hid (JQ wo (w.heap.size+1+1+1) (.slice aog s.Globals.length cg) s.Globals):=CS FG fun b B=>hT.block b (FG.lt b B).2 (fun e=>by have:=(FG.lt b B).1;omega)
   have HG1:Hid (∀ b,(Value.slice aog s.Globals.length cg).ownBlock=some b->b<wl.heap.size):=fun b B=>(FG.lt b B).2
   clear FG F0 F1 F2 hg3 hc3
   go_wp2
   go_loopw [51] (fun i wr=>∃ k:Nat,k<=s.Procs.length/\i=.int .i64 k/\∃ pv fs,wr.heap[w.heap.size+1+1]?=some (.cells #[.slice aog s.Globals.length cg,ov,pv,.int .i64 s.Last,.int .i64 s.Alone,.int .i64 s.Claim] B7 (0,0))/\Gi wr wo.heap.size pv fs (s.Procs.take k)/\Cw wo wr (fun b=>b=w.heap.size+1+1)) (fun i _=>s.Procs.length - (intOf i).toNat)
   case atStart=>exact⟨0,ApD _,rfl,.slice none 0 0,[],hB,Gi.nil _ _,Cw.refl _ _⟩
   case round =>
    obtain⟨k,V,rfl,pv,fs,t,hP,G⟩:=hrel;have hsz2:=G.size
    by_cases v:k<s.Procs.length
    ·obtain⟨b,off,rfl,J,C⟩:=hp3 (by omega);obtain⟨u,hu0,hu1,hu2,hu3,hq⟩:=C k v;have o:Below w.heap.size w wr:=Y.trans (G.below Y.size (fun j hj=>by subst hj;omega));rw[← o.cell (p:=⟨b,off+k*4,none⟩) J]at hu0;rw[← o.cell (p:=⟨b,off+k*4+1,none⟩) J]at hu1;rw[← o.cell (p:=⟨b,off+k*4+2,none⟩) J]at hu2;rw[← o.cell (p:=⟨b,off+k*4+3,none⟩) J]at hu3;have O:=hq.below o;have HQ:Hid (s.Procs[k]?=some (s.Procs.getD k default)):=by unfold Hid;simp[List.getD,v]
     have hm8:=hs.f (s.Procs.getD k default) (Av v);clear C hq;generalize s.Procs.getD k default=ch at *;obtain⟨aq,capq,rfl,hq1,hq2,W⟩:=id O;clear W;unfold maxLen at hq2;have T:=hP.row;have E:(s.Procs.take k).length=k:=by simp;omega
     rw[E]at T;have HL:=Lib.hid v
     go_wp2_with (first | (go_at_call 87;refine(AdR (O.alloc _) hm8).mono ?_;rintro e w2 ⟨v',rfl,L,n⟩;obtain⟨ao',cap',rfl,_⟩:=DH L;obtain⟨cc2,cf2⟩:=AkN n;have A:=(n.block _ (ApR (Cc t) (by simp))).trans ((Below.heap_alloc _ _ _ (Cc t)).trans t);have y2:w2.cell? ⟨w.heap.size+1+1,2,none⟩=some pv:=Am A rfl) | (at_builtin;refine wpList_append_own _ rfl _ _ 31 rfl wo.heap.size EP kp (.agg #[.int .i64 0,.int .i64 0,.int .i64 0,.slice none 0 0]) 4 48 Tryz.underlying31 khp kpz0 kpz1 kpz2 rfl (by decide) pv k (D1 (s.Procs.take k) fs) rfl ?qrow ⟨w2.heap.size,0,none⟩ 1 1 [.int .i64 ch.Type_,.int .i64 ch.Loc,.int .i64 ch.Prio,.slice ao' ch.Frame.length cap'] rfl ?qc1 ?qc2 ?qc3 ?qc4 ?qc5 ?qc6 ?_))
     case qrow =>
      have K:CB wr (w2.setCell ⟨wr.heap.size,3,none⟩ (.slice ao' ch.Frame.length cap')) wo.heap.size [EP]:=CB.of fun b _ B=>(Below.heap_setCell _ _ _ _ (by simp;omega)).trans ((n.block b (by simp;omega)).trans (Below.heap_alloc _ _ _ B))
      exact Cn (Cn T K (by simp)) (CB.alloc (ts:=[EP]) _) (by simp)
     case qc1=>rfl
     case qc2 =>
      have:=World.news_of_block (heap_alloc_new (w2.setCell ⟨wr.heap.size,3,none⟩ (.slice ao' ch.Frame.length cap')) (.cells #[.int .i64 ch.Type_,.int .i64 ch.Loc,.int .i64 ch.Prio,.slice ao' ch.Frame.length cap'] EP));simpa using this
     case qc3=>intro u hu;simp at hu;rcases hu with rfl | rfl | rfl | rfl<;>rfl
     case qc4=>omega
     case qc5=>have:=hs.p;omega
     case qc6=>have:=n.size;simp at this;simp;omega
     intro N H l a _;have hz2:=n.size;simp at hz2;have M:(w2.setCell ⟨wr.heap.size,3,none⟩ (.slice ao' ch.Frame.length cap')).heap[w.heap.size+1+1]?=some (.cells #[.slice aog s.Globals.length cg,ov,pv,.int .i64 s.Last,.int .i64 s.Alone,.int .i64 s.Claim] B7 (0,0)) :=
      (Below.heap_setCell _ _ _ _ (by simp;omega)).trans A
     have d:H.heap[w.heap.size+1+1]?=some (.cells #[.slice aog s.Globals.length cg,ov,pv,.int .i64 s.Last,.int .i64 s.Alone,.int .i64 s.Claim] B7 (0,0)):=by
      rw[a.block _ (by simp;omega) (fun e=>by obtain⟨cur,hcur⟩:=Bf T e.symm;grind),Below.heap_alloc _ _ _ (Cc M)];exact M
     have e0:H.cell? ⟨w.heap.size+1+1,2,none⟩=some pv:=Am d rfl;have e1:H.frozen? ⟨w.heap.size+1+1,2,none⟩=false:=AH d;have hPz:Gi ((w2.setCell ⟨wr.heap.size,3,none⟩ (.slice ao' ch.Frame.length cap')).alloc (.cells #[.int .i64 ch.Type_,.int .i64 ch.Loc,.int .i64 ch.Prio,.slice ao' ch.Frame.length cap'] EP)) wo.heap.size pv fs (s.Procs.take k):=by
      have K:CB wr (w2.setCell ⟨wr.heap.size,3,none⟩ (.slice ao' ch.Frame.length cap')) wo.heap.size [EP,Es]:=CB.of fun b _ B=>(Below.heap_setCell _ _ _ _ (by simp;omega)).trans ((n.block b (by simp;omega)).trans (Below.heap_alloc _ _ _ B))
      exact(hP.kept K (by simp) (by simp)).kept (ts:=[EP,Es]) (CB.alloc _) (by simp) (by simp)
     have hFz:JQ ((w2.setCell ⟨wr.heap.size,3,none⟩ (.slice ao' ch.Frame.length cap')).alloc (.cells #[.int .i64 ch.Type_,.int .i64 ch.Loc,.int .i64 ch.Prio,.slice ao' ch.Frame.length cap'] EP)) (wr.heap.size+1) (.slice ao' ch.Frame.length cap') ch.Frame :=
      Cn (ts:=[Es]) (Cn (ts:=[Es]) (CZ L (by simp)) (CB.low (by simp)) (by simp)) (CB.alloc _) (by simp)
     have HP:Hid (Gi (H.setCell ⟨w.heap.size+1+1,2,none⟩ N) wo.heap.size N (fs++[.slice ao' ch.Frame.length cap']) (s.Procs.take (k+1))):=by
      unfold Hid;rw[G9 HQ.out];refine Gi.kept (ts:=[EP,Es]) (Gi.more hPz (CZ hFz (by omega)) (fun i x b hx B e=>?_) (by rw[E];exact l) a) (CB.set d (by decide)) (by simp) (by simp);have hi:i<fs.length:=(Apz.1 hx).1;rw[hP.len]at hi;have h1:=((hP.each i x _ hx (ApH hi)).lt b B).2;have h2:=(hFz.lt b e).1;omega
     have HK:Hid ((H.setCell ⟨w.heap.size+1+1,2,none⟩ N).heap[w.heap.size+1+1]?=some (.cells #[.slice aog s.Globals.length cg,ov,N,.int .i64 s.Last,.int .i64 s.Alone,.int .i64 s.Claim] B7 (0,0))):=by
      unfold Hid;rw[Bp d];rfl
     have HT:Hid (Cw wo (H.setCell ⟨w.heap.size+1+1,2,none⟩ N) (fun b=>b=w.heap.size+1+1)) :=
      ((((((G.alloc _).trans (Cw.of_below (F:=fun _=>False) n) (fun _ h=>h.elim)).setCell (.inr hsz2) _).alloc _).grown a (fun k V=>.inr (T.lt k V).1)).setCell (.inl rfl) _)
     obtain⟨ao3,cap3,rfl,_⟩:=DH l;clear l a T hP hPz hFz M A t L n cc2 cf2 d G O y2
     go_wp2
     go_roundw
     case rel=>exact⟨k+1,HL.out,by go_num,_,_,HK.out,HP.out,HT.out⟩
     case measure=>have:=HL.out;simp[intOf];omega
    ·obtain rfl:k=s.Procs.length:=by omega
     rw[AqS]at hP;have b1:wr.heap[w.heap.size+1]?=_:=(G.block _ (by omega) (by omega)).trans f1;have c0:wr.cell? ⟨w.heap.size+1+1,0,none⟩=_:=Am t rfl;have c1:wr.cell? ⟨w.heap.size+1+1,1,none⟩=_:=Am t rfl;have c2:wr.cell? ⟨w.heap.size+1+1,2,none⟩=_:=Am t rfl;have c3:wr.cell? ⟨w.heap.size+1+1,3,none⟩=_:=Am t rfl;have c4:wr.cell? ⟨w.heap.size+1+1,4,none⟩=_:=Am t rfl;have c5:wr.cell? ⟨w.heap.size+1+1,5,none⟩=_:=Am t rfl;have d0:wr.cell? ⟨w.heap.size+1,0,none⟩=_:=Am b1 rfl;have d1:wr.cell? ⟨w.heap.size+1,1,none⟩=_:=Am b1 rfl;have d2:wr.cell? ⟨w.heap.size+1,2,none⟩=_:=Am b1 rfl;have d3:wr.cell? ⟨w.heap.size+1,3,none⟩=_:=Am b1 rfl;have d4:wr.cell? ⟨w.heap.size+1,4,none⟩=_:=Am b1 rfl;have d5:wr.cell? ⟨w.heap.size+1,5,none⟩=_:=Am b1 rfl;have g0:wr.frozen? ⟨w.heap.size+1,0,none⟩=_:=AH b1;have g1:wr.frozen? ⟨w.heap.size+1,1,none⟩=_:=AH b1;have g2:wr.frozen? ⟨w.heap.size+1,2,none⟩=_:=AH b1;have g3:wr.frozen? ⟨w.heap.size+1,3,none⟩=_:=AH b1;have g4:wr.frozen? ⟨w.heap.size+1,4,none⟩=_:=AH b1;have g5:wr.frozen? ⟨w.heap.size+1,5,none⟩=_:=AH b1;obtain⟨aov,cov,rfl,_⟩:=DH hC.row;obtain⟨apv,cpv,rfl,_⟩:=DH hP.row
     go_wp2
     have hres:=Oe b1 (.slice aog s.Globals.length cg) (.slice aov s.Chans.length cov) (.slice apv s.Procs.length cpv) (.int .i64 s.Last) (.int .i64 s.Alone) (.int .i64 s.Claim);have Z:=IK (w:=wr) (b:=w.heap.size+1) (.slice aog s.Globals.length cg) (.slice aov s.Chans.length cov) (.slice apv s.Procs.length cpv) (.int .i64 s.Last) (.int .i64 s.Alone) (.int .i64 s.Claim);have hz3:=AiA (w:=wr) (b:=w.heap.size+1) (.slice aog s.Globals.length cg) (.slice aov s.Chans.length cov) (.slice apv s.Procs.length cpv) (.int .i64 s.Last) (.int .i64 s.Alone) (.int .i64 s.Claim);refine TC rfl rfl hres Tryz.underlying33 rfl (by kernel_rfl) rfl ?_;generalize ((((((wr.setCell ⟨w.heap.size+1,0,none⟩ (.slice aog s.Globals.length cg)).setCell ⟨w.heap.size+1,1,none⟩ (.slice aov s.Chans.length cov)).setCell ⟨w.heap.size+1,2,none⟩ (.slice apv s.Procs.length cpv)).setCell ⟨w.heap.size+1,3,none⟩ (.int .i64 s.Last)).setCell ⟨w.heap.size+1,4,none⟩ (.int .i64 s.Alone)).setCell ⟨w.heap.size+1,5,none⟩ (.int .i64 s.Claim))=wz at *;have o:Below w.heap.size w wr:=Y.trans (G.below Y.size (fun j hj=>by subst hj;omega));have hGr:JQ wr (w.heap.size+1+1+1) (.slice aog s.Globals.length cg) s.Globals:=CS HG.out fun b B=>G.block b (HG.out.lt b B).2 (fun e=>by have:=(HG.out.lt b B).1;omega)
     refine⟨_,_,_,wl.heap.size,qs,fs,wo,rfl,⟨?_,HG1.out,FB.size,hfb,hC,fun b h1 h2=>?_,?_,?_⟩⟩
     ·exact CZ (CS hGr fun b B=>Z.block b (hGr.lt b B).2 (fun e=>by have:=(hGr.lt b B).1;omega)) (by omega)
     ·exact(Z.block b (by omega) (by omega)).trans (G.block b h2 (by omega))
     ·exact hP.kept (ts:=[EP,Es]) (CB.of fun b h1 h2=>Z.block b h2 (by omega)) (by simp) (by simp)
     ·exact o.trans (Z.below o.size (by omega))
def SC : Ann:={ keep:=fun
  | [0,1,0,1,1,1,1,1,1]=>[0,8,10,46,47,48]
  | _=>[] }
def Oi : Ann:={ keep:=fun
  | [0,1,0,1,1,1,1,1,1]=>[0,3,8,9,51,52,53]
  | _=>[] }
def JO : Ann:={ keep:=fun
  | [0,1,0,1]=>[0,9,10,11]
  | _=>[] }
def Pe : Ann:={ keep:=fun
  | [0,1,0,1]=>[0,1,7,8]
  | _=>[] }
def SI : Ann:={ keep:=fun
  | [0,1,0,1]=>[1,2,3,12,13,14]
  | _=>[] }
def SH : Ann:={ keep:=fun
  | [0,1,0,1,1]=>[0,1,21,22,23]
  | _=>[] }
def D2 : Ann:={ cut:=(fun | 1::0::1::1::0::0::0::0::q=>Nat.beq q.length 29 | 1::0::1::1::1::0::0::0::0::q=>Nat.beq q.length 29 | _=>false),keep:=fun
  | 1::0::1::1::0::0::0::0::q=>bif Nat.beq q.length 29 then[0,6,21,26] else[]
  | 1::0::1::1::1::0::0::0::0::q=>bif Nat.beq q.length 29 then[0,6,21,30] else[]
  | _=>[] }
def AlK : List Nat:=[1,1,0,1,0,0,0,0,0,0,0,0,0,0,0,0,0,0,0,0,0,0,0,0,0,0,0,0,0,0,0,0,0,1,1,0,1]
def Ags : List Nat:=[1,1,0,1,0,0,0,0,0,0,0,0,0,0,0,0,0,0,0,0,0,0,0,0,0,0,0,0,0,0,0,0,0,1,1,1,0,1]
def IB (e:D.Env)(x:D.Expr)(i:Nat)(b:Bool):St:=Ay [(0,.tp (Ae e)),(6,.bp 0 0),(21,Aa x.Op),(i,Ac b)] [.box (Az x)]
def Rh (e:D.Env)(ds:List D.Dim)(who at' k:Int):St:=Ay [(0,.tp (Ae e)),(8,Aa who),(10,Aa at'),(46,Df true ds),(47,Aa ds.length),(48,Aa k)] []
def Aab (e:D.Env)(x:D.Expr)(c:D.Chan)(l:List Int)(k:Int):St:=Ay [(0,.tp (Ae e)),(3,.bp 0 0),(8,.bp 1 0),(9,.ow 2 0 l.length),(51,Ad true x.Args),(52,Aa x.Args.length),(53,Aa k)] [.box (Az x),.box (AM c),.arr true 0 l.length 1 (AJ l)]
def U0 (e:D.Env)(k:Int):St:=Ay [(0,.tp (Ae e)),(9,AI true e.S.Procs),(10,Aa e.S.Procs.length),(11,Aa k)] []
def AcY (l:List Int)(v k:Int):St:=Ay [(0,Ad true l),(1,Aa v),(7,Aa l.length),(8,Aa k)] []
def U2 (c:D.Chan)(l mt:List Int)(any:Bool)(k:Int):St:=Ay [(1,Ad false l),(2,Ad true mt),(3,Ac any),(12,B3 true c.Queue),(13,Aa c.Queue.length),(14,Aa k)] []
def U1 (x l mt:List Int)(k:Int):St:=Ay [(0,Ad true x),(1,Ad false l),(21,Ad true mt),(22,Aa mt.length),(23,Aa k)] []
set_option maxRecDepth 100000
theorem YL (r:Int)(e:D.Env)(x:Int):(fc DB AQ Tryz.f123 [] (Aa r)).goal (St.init [] [.agg (Ae e),Aa x]) =
  (∃ (y:Int),VC 13 [VV.agg (Af e.M),VV.agg (Ah e.S)] (Aa y)/\BB (y != 0) (LQ (Aa y) (Aa r)) (BB (bif bif bif decide (e.Pid<(-1:Int)) then true else decide (e.Pid>=(↑e.S.Procs.length:Int)) then true else decide (x<0) then true else decide (x>=(↑e.M.Exprs.length:Int))) (LQ (Aa 42) (Aa r)) (LQ (Aa 0) (Aa r)))):=by kernel_rfl
theorem Ahm (v r:Int)(e:D.Env)(x:Int):(fc DB AQ Tryz.f92 [] (.tup [Aa v,Aa r])).goal (St.init [] [.agg (Ae e),Aa x]) =
  (∃ (y:Int),VC 123 [VV.agg (Ae e),Aa x] (Aa y)/\BB (y != 0) (LQ (VV.tup [Aa 0,Aa y]) (VV.tup [Aa v,Aa r])) (∃ (y:Int × Int),VC 124 [VV.tp (Ae e),Aa x] (VV.tup [Aa y.fst,Aa y.snd])/\LQ (VV.tup [Aa y.fst,Aa y.snd]) (VV.tup [Aa v,Aa r]))):=by kernel_rfl
theorem Ahn (v r:Int)(e:D.Env)(x:Int):(fc DB AQ Tryz.f170 [] (.tup [Aa v,Aa r])).goal (St.init [] [.agg (Ae e),Aa x]) =
  (∃ (y:Int),VC 123 [VV.agg (Ae e),Aa x] (Aa y)/\BB (y != 0) (LQ (VV.tup [Aa 0,Aa y]) (VV.tup [Aa v,Aa r])) (∃ (y:Int × Int),VC 189 [VV.tp (Ae e),Aa x] (VV.tup [Aa y.fst,Aa y.snd])/\LQ (VV.tup [Aa y.fst,Aa y.snd]) (VV.tup [Aa v,Aa r]))):=by kernel_rfl
theorem AeH (v r:Int)(c:Bool):(fc DB AQ Tryz.f162 [] (.tup [Aa v,Aa r])).goal (St.init [] [Ac c]) =
  (BB c (LQ (VV.tup [Aa 1,Aa 0]) (VV.tup [Aa v,Aa r])) (LQ (VV.tup [Aa 0,Aa 0]) (VV.tup [Aa v,Aa r]))):=by kernel_rfl
theorem AbY (v r:Int)(e:D.Env)(x:D.Var){c}(d:c=LQ (VV.tup [Aa 0,Aa 42]) (VV.tup [Aa v,Aa r])){a}(f:a=[Aa v,Aa r]):(fc DB AQ Tryz.f187 [] (.tup [Aa v,Aa r])).goal (St.init [] [.tp (Ae e),.agg (Bz x)]) =
  (BB (x.Scope==0) (∃ (y:Int),VC 153 [.agg (Bz x)] (Aa y)/\BB (decide (y > (↑e.S.Globals.length:Int))) c (LQ (.tup [Aa (-1),Aa 0]) (.tup a))) (BB (x.Scope==1) (∃ (y:Int),((true&&decide (e.Pid<0)==false)=true->VC 153 [.agg (Bz x)] (Aa y))/\((true&&decide (e.Pid<0)==false)=true->inX e.Pid e.S.Procs.length)/\BB (bif decide (e.Pid<0) then true else decide (y > (↑(e.S.Procs.getD e.Pid.toNat default).Frame.length:Int))) c (LQ (.tup [Aa e.Pid,Aa 0]) (.tup a))) (∃ (y:Int × Int),VC 124 [.tp (Ae e),Aa x.Who] (.tup [Aa y.fst,Aa y.snd])/\BB (y.snd != 0) (LQ (.tup [Aa 0,Aa y.snd]) (.tup a)) (((true&&(bif decide (y.fst<0) then true else decide (y.fst>=(↑e.S.Procs.length:Int)))==false)=true->inX y.fst e.S.Procs.length)/\BB (bif bif decide (y.fst<0) then true else decide (y.fst>=(↑e.S.Procs.length:Int)) then true else(e.S.Procs.getD y.fst.toNat default).Type_ != x.Type_) (LQ (.tup [Aa 0,Aa 52]) (.tup a)) (∃ (b:Int),VC 153 [.agg (Bz x)] (Aa b)/\inX y.fst e.S.Procs.length/\BB (decide (b > (↑(e.S.Procs.getD y.fst.toNat default).Frame.length:Int))) c (LQ (.tup [Aa y.fst,Aa 0]) (.tup a))))))):=by subst d f;kernel_rfl
theorem Aiz (p k r:Int)(e:D.Env)(x:Int){a}(c:a=e.M.Exprs.getD x.toNat default){b}(d:b=[Aa p,Aa k,Aa r]):(fc DB SC Tryz.f158 [] (.tup [Aa p,Aa k,Aa r])).goal (St.init [] [.tp (Ae e),Aa x]) =
  (inX x e.M.Exprs.length/\inX x e.M.Exprs.length/\BB (a.Op != 2) (LQ (.tup [Aa 0,Aa 0,Aa 42]) (.tup b)) (∃ (y:Int × Int),VC 187 [.tp (Ae e),.agg (Bz a.V)] (.tup [Aa y.fst,Aa y.snd])/\BB (y.snd != 0) (LQ (.tup [Aa 0,Aa 0,Aa y.snd]) (.tup b)) (Ax (fc DB SC Tryz.f158 [] (.tup b)) [1,1,1,1,1,1,0,1,0] (Rh e a.V.Dims y.fst a.V.Slot (0:Int))))):=by subst c d;kernel_rfl
theorem Ael (v r:Int)(e:D.Env)(x:Int):(fc DB AQ Tryz.f189 [] (.tup [Aa v,Aa r])).goal (St.init [] [.tp (Ae e),Aa x]) =
  (∃ (y:Int × Int),VC 124 [VV.tp (Ae e),Aa x] (VV.tup [Aa y.fst,Aa y.snd])/\BB (y.snd != 0) (LQ (VV.tup [Aa 0,Aa y.snd]) (VV.tup [Aa v,Aa r])) (BB (bif decide (y.fst<1) then true else decide (y.fst > (↑e.S.Chans.length:Int))) (LQ (VV.tup [Aa 0,Aa 49]) (VV.tup [Aa v,Aa r])) (LQ (VV.tup [Aa y.fst,Aa 0]) (VV.tup [Aa v,Aa r])))):=by kernel_rfl
theorem AkP (v r:Int)(e:D.Env)(x:D.Expr){f}(g:f=fun(y:Int × Int)=>e.S.Chans.getD (IntKind.i64.wrap (y.fst - (1:Int))).toNat default){b}(h:b=fun(a:Int × Int)=>[Aa a.fst,Aa a.snd]){l}(i:l=[Aa v,Aa r]){d}(j:d=fun(y:Int × Int)=>(↑(f y).Queue.length:Int)){c}(k:c=VV.tup l):(fc DB AQ Tryz.f160 [] (.tup [Aa v,Aa r])).goal (St.init [] [.tp (Ae e),.agg (Az x)]) =
  (∃ (y:Int × Int),VC 189 [.tp (Ae e),Aa x.A] (.tup [Aa y.fst,Aa y.snd])/\BB (y.snd != 0) (LQ (.tup [Aa 0,Aa y.snd]) c) (inX (IntKind.i64.wrap (y.fst - (1:Int))) e.S.Chans.length/\inX (f y).Shape e.M.Shapes.length/\BB (x.Op==25) (LQ (.tup [Aa (d y),Aa 0]) c) (BB (x.Op==26) (∃ (a:Int × Int),VC 162 [Ac (decide ((d y)>=(e.M.Shapes.getD (f y).Shape.toNat default).Room))] (.tup (b a))/\LQ (.tup (b a)) c) (BB (x.Op==28) (∃ (a:Int × Int),VC 162 [Ac (decide ((d y)<(e.M.Shapes.getD (f y).Shape.toNat default).Room))] (.tup (b a))/\LQ (.tup (b a)) c) (BB (x.Op==27) (∃ (a:Int × Int),VC 162 [Ac ((d y)==0)] (.tup (b a))/\LQ (.tup (b a)) c) (∃ (a:Int × Int),VC 162 [Ac (decide ((d y) > 0))] (.tup (b a))/\LQ (.tup (b a)) c)))))):=by subst g h i j k;kernel_rfl
theorem AjB (v r:Int)(e:D.Env)(x:D.Expr):(fc DB Oi Tryz.f161 [] (.tup [Aa v,Aa r])).goal (St.init [] [.tp (Ae e),.agg (Az x)]) =
  (∃ (y:Int × Int),VC 189 [VV.tp (Ae e),Aa x.A] (VV.tup [Aa y.fst,Aa y.snd])/\BB (y.snd != 0) (LQ (VV.tup [Aa 0,Aa y.snd]) (VV.tup [Aa v,Aa r])) (inX (IntKind.i64.wrap (y.fst - (1:Int))) e.S.Chans.length/\inX (e.S.Chans.getD (IntKind.i64.wrap (y.fst - (1:Int))).toNat default).Shape e.M.Shapes.length/\BB ((↑(e.M.Shapes.getD (e.S.Chans.getD (IntKind.i64.wrap (y.fst - (1:Int))).toNat default).Shape.toNat default).Fields.length:Int) != (↑x.Args.length:Int)) (LQ (VV.tup [Aa 0,Aa 49]) (VV.tup [Aa v,Aa r])) (((0:Int)<=(↑x.Args.length:Int)/\(↑x.Args.length:Int)<=(↑x.Args.length:Int)/\(↑x.Args.length:Int)*(↑8:Int)<=140737488355328)/\Ax (fc DB Oi Tryz.f161 [] (VV.tup [Aa v,Aa r])) [1,1,1,1,1,1,0,1,0] (Ay [(0,VV.tp (Ae e)),(3,VV.bp 0 0),(8,VV.bp 1 0),(9,VV.ow 2 0 (↑x.Args.length:Int).toNat),(51,Ad true x.Args),(52,Aa (↑x.Args.length:Int)),(53,Aa 0)] [Ob.box (Az x),Ob.box (AM (e.S.Chans.getD (IntKind.i64.wrap (y.fst - (1:Int))).toNat default)),Ob.arr true 0 (↑x.Args.length:Int).toNat 1 fun(_:Nat)=>((fc DB Oi Tryz.f161 [] (VV.tup [Aa v,Aa r])).T 2).zero])))):=by kernel_rfl
theorem AaM (v r:Int)(e:D.Env)(x:D.Expr):(fc DB AQ Tryz.f164 [] (.tup [Aa v,Aa r])).goal (St.init [] [.tp (Ae e),.agg (Az x)]) =
  (∃ (y:Int × Int),VC 124 [VV.tp (Ae e),Aa x.A] (VV.tup [Aa y.fst,Aa y.snd])/\BB (y.snd != 0) (LQ (VV.tup [Aa 0,Aa y.snd]) (VV.tup [Aa v,Aa r])) (((true&&(bif decide (y.fst<0) then true else decide (y.fst>=(↑e.S.Procs.length:Int)))==false&&(x.Op==38)==true)=true->inX y.fst e.S.Procs.length)/\BB (bif bif decide (y.fst<0) then true else decide (y.fst>=(↑e.S.Procs.length:Int)) then true else bif x.Op==38 then(e.S.Procs.getD y.fst.toNat default).Type_ != x.N else false) (LQ (VV.tup [Aa 0,Aa 52]) (VV.tup [Aa v,Aa r])) (BB (x.Op==37) (inX y.fst e.S.Procs.length/\LQ (VV.tup [Aa (e.S.Procs.getD y.fst.toNat default).Loc,Aa 0]) (VV.tup [Aa v,Aa r])) (inX y.fst e.S.Procs.length/\∃ (a:Bool),VC 190 [Ad true x.Args,Aa (e.S.Procs.getD y.fst.toNat default).Loc] (Ac a)/\∃ (y:Int × Int),VC 162 [Ac a] (VV.tup [Aa y.fst,Aa y.snd])/\LQ (VV.tup [Aa y.fst,Aa y.snd]) (VV.tup [Aa v,Aa r]))))):=by kernel_rfl
theorem AgJ (v r:Int)(e:D.Env)(x:D.Expr){c}(d:c=fun(y:Int × Int)=>∃ (a:Int × Int),VC 162 [Ac (y.fst != 0)] (VV.tup [Aa a.fst,Aa a.snd])/\LQ (VV.tup [Aa a.fst,Aa a.snd]) (VV.tup [Aa v,Aa r])){b}(f:b=fun(y:Int × Int)=>[Aa y.fst,Aa y.snd]):(fc DB AQ Tryz.f159 [] (.tup [Aa v,Aa r])).goal (St.init [] [.tp (Ae e),.agg (Az x)]) =
  (∃ (y:Int × Int),VC 124 [.tp (Ae e),Aa x.A] (.tup (b y))/\BB (y.snd != 0) (LQ (.tup [Aa 0,Aa y.snd]) (.tup [Aa v,Aa r])) (BB (bif x.Op==24 then y.fst != 0 else false) (∃ (y:Int × Int),VC 188 [Aa x.B,.tp [.tp (Ae e)]] (.tup (b y))/\LQ (.tup (b y)) (.tup [Aa v,Aa r])) (BB (x.Op==24) (∃ (y:Int × Int),VC 188 [Aa x.C,.tp [.tp (Ae e)]] (.tup (b y))/\LQ (.tup (b y)) (.tup [Aa v,Aa r])) (BB (bif bif x.Op==22 then y.fst==0 else false then true else bif x.Op==23 then y.fst != 0 else false) (c y) (∃ (y:Int × Int),VC 188 [Aa x.B,.tp [.tp (Ae e)]] (.tup (b y))/\BB (y.snd != 0) (LQ (.tup [Aa 0,Aa y.snd]) (.tup [Aa v,Aa r])) (c y)))))):=by subst d f;kernel_rfl
theorem Aie (v r:Int)(e:D.Env)(x:D.Expr):(fc DB AQ Tryz.f165 [] (.tup [Aa v,Aa r])).goal (St.init [] [.tp (Ae e),.agg (Az x)]) =
  (∃ (y:Int × Int),VC 124 [VV.tp (Ae e),Aa x.A] (VV.tup [Aa y.fst,Aa y.snd])/\BB (y.snd != 0) (LQ (VV.tup [Aa 0,Aa y.snd]) (VV.tup [Aa v,Aa r])) (BB (bif bif x.Op==3 then true else x.Op==4 then true else x.Op==5) (∃ (a:Int × Int),VC 191 [Aa x.Op,Aa y.fst] (VV.tup [Aa a.fst,Aa a.snd])/\LQ (VV.tup [Aa a.fst,Aa a.snd]) (VV.tup [Aa v,Aa r])) (∃ (a:Int × Int),VC 124 [VV.tp (Ae e),Aa x.B] (VV.tup [Aa a.fst,Aa a.snd])/\BB (a.snd != 0) (LQ (VV.tup [Aa 0,Aa a.snd]) (VV.tup [Aa v,Aa r])) (∃ (b:Int × Int),VC 192 [Aa x.Op,Aa y.fst,Aa a.fst] (VV.tup [Aa b.fst,Aa b.snd])/\LQ (VV.tup [Aa b.fst,Aa b.snd]) (VV.tup [Aa v,Aa r]))))):=by kernel_rfl
theorem Vg (b:Bool)(e:D.Env):(fc DB JO Tryz.f163 [] (Ac b)).goal (St.init [] [.tp (Ae e)]) =
  (Ax (fc DB JO Tryz.f163 [] (Ac b)) [1,0,1,0] (U0 e (0:Int))):=by kernel_rfl
theorem Ako (v r:Int)(e:D.Env)(x:Int){a}(c:a=e.M.Exprs.getD x.toNat default){b}(d:b=fc DB D2 Tryz.f124 [] (VV.tup [Aa v,Aa r])):(fc DB D2 Tryz.f124 [] (.tup [Aa v,Aa r])).goal (St.init [] [.tp (Ae e),Aa x]) =
  (inX x e.M.Exprs.length/\BB (a.Op==1) (LQ (.tup [Aa a.N,Aa 0]) (.tup [Aa v,Aa r])) (BB (a.Op==2) (∃ (y:Int × Int × Int),VC 158 [.tp (Ae e),Aa x] (.tup [Aa y.fst,Aa y.snd.fst,Aa y.snd.snd])/\BB (y.snd.snd != 0) (LQ (.tup [Aa 0,Aa y.snd.snd]) (.tup [Aa v,Aa r])) (BB (decide (y.fst<0)) (inX y.snd.fst e.S.Globals.length/\LQ (.tup [Aa (e.S.Globals.getD y.snd.fst.toNat 0),Aa 0]) (.tup [Aa v,Aa r])) (inX y.fst e.S.Procs.length/\inX y.snd.fst (e.S.Procs.getD y.fst.toNat default).Frame.length/\LQ (.tup [Aa ((e.S.Procs.getD y.fst.toNat default).Frame.getD y.snd.fst.toNat 0),Aa 0]) (.tup [Aa v,Aa r])))) (BB (a.Op==22) (Ax b AlK (IB e a 26 (a.Op==22))) (BB (a.Op==23) (Ax b AlK (IB e a 26 (a.Op==23))) (Ax b AlK (IB e a 26 (a.Op==24))))))):=by subst c d;kernel_rfl
theorem VT (b:Bool)(l:List Int)(v:Int):(fc DB AQ Tryz.f190 [] (Ac b)).goal (St.init [] [Ad true l,Aa v]) =
  (∃ (y:Int),VC 202 [Ad true l,Aa v] (Aa y)/\LQ (Ac (decide (y>=0))) (Ac b)):=by kernel_rfl
theorem AgR (r:Int)(l:List Int)(v:Int):(fc DB Pe Tryz.f202 [] (Aa r)).goal (St.init [] [Ad true l,Aa v]) =
  (Ax (fc DB Pe Tryz.f202 [] (Aa r)) [1,0,1,0] (AcY l v (0:Int))):=by kernel_rfl
theorem Akk (r:Int)(c:D.Chan)(l mt:List Int)(some':Bool):(fc DB SI Tryz.f177 [] (Aa r)).goal (St.init [] [.agg (AM c),Ad false l,Ad true mt,Ac some']) =
  (Ax (fc DB SI Tryz.f177 [] (Aa r)) [1,0,1,0] (U2 c l mt some' (0:Int))):=by kernel_rfl
theorem AjM (b:Bool)(x l mt:List Int):(fc DB SH Tryz.f200 [] (Ac b)).goal (St.init [] [Ad true x,Ad false l,Ad true mt]) =
  (BB (bif decide ((↑x.length:Int)<(↑mt.length:Int)) then true else decide ((↑l.length:Int)<(↑mt.length:Int))) (LQ (Ac false) (Ac b)) (Ax (fc DB SH Tryz.f200 [] (Ac b)) [1,1,0,1,0] (U1 x l mt (0:Int)))):=by kernel_rfl
theorem Ahh (v r:Int)(e:D.Env)(x:D.Expr)(b:Bool){a}(c:a=fc DB D2 Tryz.f124 [] (VV.tup [Aa v,Aa r])):((fc DB D2 Tryz.f124 [] (.tup [Aa v,Aa r])).cut AlK).goal (IB e x 26 b) =
  (BB b (∃ (y:Int × Int),VC 159 [.tp (Ae e),.agg (Az x)] (.tup [Aa y.fst,Aa y.snd])/\LQ (.tup [Aa y.fst,Aa y.snd]) (.tup [Aa v,Aa r])) (BB (x.Op==25) (Ax a Ags (IB e x 30 (x.Op==25))) (BB (x.Op==26) (Ax a Ags (IB e x 30 (x.Op==26))) (BB (x.Op==27) (Ax a Ags (IB e x 30 (x.Op==27))) (BB (x.Op==28) (Ax a Ags (IB e x 30 (x.Op==28))) (Ax a Ags (IB e x 30 (x.Op==29)))))))):=by subst c;kernel_rfl
theorem Ahg (v r:Int)(e:D.Env)(x:D.Expr)(b:Bool){f}(g:f=[Aa v,Aa r]){d}(h:d=[VV.tp (Ae e),VV.agg (Az x)]){i}(j:i=(∃ (y:Int × Int),VC 164 d (VV.tup [Aa y.fst,Aa y.snd])/\LQ (VV.tup [Aa y.fst,Aa y.snd]) (VV.tup f))){c}(k:c=VV.tup f):((fc DB D2 Tryz.f124 [] (.tup [Aa v,Aa r])).cut Ags).goal (IB e x 30 b) =
  (BB b (∃ (y:Int × Int),VC 160 d (.tup [Aa y.fst,Aa y.snd])/\LQ (.tup [Aa y.fst,Aa y.snd]) c) (BB (x.Op==30) (∃ (y:Int × Int),VC 161 d (.tup [Aa y.fst,Aa y.snd])/\LQ (.tup [Aa y.fst,Aa y.snd]) c) (BB (x.Op==31) (LQ (.tup [Aa e.Pid,Aa 0]) c) (BB (x.Op==32) (LQ (.tup [Aa e.S.Last,Aa 0]) c) (BB (x.Op==33) (LQ (.tup [Aa (↑e.S.Procs.length:Int),Aa 0]) c) (BB (x.Op==34) (∃ (y:Bool),VC 163 [.tp (Ae e)] (Ac y)/\∃ (a:Int × Int),VC 162 [Ac !y] (.tup [Aa a.fst,Aa a.snd])/\LQ (.tup [Aa a.fst,Aa a.snd]) c) (BB (x.Op==35) (∃ (y:Int × Int),VC 162 [Ac e.Timeout] (.tup [Aa y.fst,Aa y.snd])/\LQ (.tup [Aa y.fst,Aa y.snd]) c) (BB (x.Op==36) (∃ (y:Int × Int),VC 124 [.tp (Ae e),Aa x.A] (.tup [Aa y.fst,Aa y.snd])/\BB (y.snd != 0) (LQ (.tup [Aa 0,Aa y.snd]) c) (((true&&(bif decide (y.fst>=0) then decide (y.fst<(↑e.Able.length:Int)) else false)==true)=true->inX y.fst e.Able.length)/\∃ (a:Int × Int),VC 162 [Ac (bif bif decide (y.fst>=0) then decide (y.fst<(↑e.Able.length:Int)) else false then e.Able.getD y.fst.toNat false else false)] (.tup [Aa a.fst,Aa a.snd])/\LQ (.tup [Aa a.fst,Aa a.snd]) c)) (BB (x.Op==37) i (BB (x.Op==38) i (BB (x.Op==39) (LQ (.tup [Aa 0,Aa 42]) c) (∃ (y:Int × Int),VC 165 d (.tup [Aa y.fst,Aa y.snd])/\LQ (.tup [Aa y.fst,Aa y.snd]) c)))))))))))):=by subst g h j k;kernel_rfl
theorem Ae5 (p k r:Int)(e:D.Env)(_:Int)(ds:List D.Dim)(who at' i:Int)(J:St->Prop){a}(c:a=ds.getD i.toNat default){b}(d:b=[Aa p,Aa k,Aa r]):((fc DB SC Tryz.f158 [] (.tup [Aa p,Aa k,Aa r])).loop [1,1,1,1,1,1,0,1,0] J).goal (Rh e ds who at' i) =
  (BB (decide (i<(↑ds.length:Int))) (inX i ds.length/\∃ (y:Int × Int),VC 124 [.tp (Ae e),Aa a.I] (.tup [Aa y.fst,Aa y.snd])/\BB (y.snd != 0) (LQ (.tup [Aa 0,Aa 0,Aa y.snd]) (.tup b)) (BB (bif decide (y.fst<0) then true else decide (y.fst>=a.Len)) (LQ (.tup [Aa 0,Aa 0,Aa 47]) (.tup b)) (J (Rh e ds who (IntKind.i64.wrap (at'+IntKind.i64.wrap (y.fst*a.Stride))) (IntKind.i64.wrap (i+(1:Int))))))) (LQ (.tup [Aa who,Aa at',Aa 0]) (.tup b))):=by subst c d;kernel_rfl
theorem Agp (v r:Int)(e:D.Env)(x:D.Expr)(c:D.Chan)(l:List Int)(k:Int)(J:St->Prop):((fc DB Oi Tryz.f161 [] (.tup [Aa v,Aa r])).loop [1,1,1,1,1,1,0,1,0] J).goal (Aab e x c l k) =
  (BB (decide (k<(↑x.Args.length:Int))) (inX k x.Args.length/\inX k x.Match.length/\BB (x.Match.getD k.toNat 0 != 1) (J (Aab e x c l (IntKind.i64.wrap (k+(1:Int))))) (∃ (y:Int × Int),VC 124 [VV.tp (Ae e),Aa (x.Args.getD k.toNat 0)] (VV.tup [Aa y.fst,Aa y.snd])/\inX k l.length/\BB (y.snd != 0) (LQ (VV.tup [Aa 0,Aa y.snd]) (VV.tup [Aa v,Aa r])) (J (Ay [(0,VV.tp (Ae e)),(3,VV.bp 0 0),(8,VV.bp 1 0),(9,VV.ow 2 0 l.length),(51,Ad true x.Args),(52,Aa (↑x.Args.length:Int)),(53,Aa (IntKind.i64.wrap (k+(1:Int))))] [Ob.box (Az x),Ob.box (AM c),Ob.arr true 0 l.length 1 fun(j:Nat)=>bif j.beq k.toNat then[Aa y.fst] else[Aa (l.getD j 0)]])))) (∃ (y:Int),VC 177 [VV.agg (AM c),Ad false l,Ad true x.Match,Ac (x.N==1)] (Aa y)/\∃ (a:Int × Int),VC 162 [Ac (decide (y>=0))] (VV.tup [Aa a.fst,Aa a.snd])/\LQ (VV.tup [Aa a.fst,Aa a.snd]) (VV.tup [Aa v,Aa r]))):=by kernel_rfl
theorem SZ (b:Bool)(e:D.Env)(k:Int)(J:St->Prop){z1}(a:z1=e.S.Procs.getD k.toNat default):((fc DB JO Tryz.f163 [] (Ac b)).loop [1,0,1,0] J).goal (U0 e k) =
  (BB (decide (k<(↑e.S.Procs.length:Int))) (inX k e.S.Procs.length/\inX z1.Type_ e.M.Procs.length/\inX z1.Loc (e.M.Procs.getD z1.Type_.toNat default).Locs.length/\BB ((e.M.Procs.getD z1.Type_.toNat default).Locs.getD z1.Loc.toNat default).Progress (LQ (Ac true) (Ac b)) (J (U0 e (IntKind.i64.wrap (k+(1:Int)))))) (LQ (Ac false) (Ac b))):=by subst a;kernel_rfl
theorem AbX (r:Int)(l:List Int)(v k:Int)(J:St->Prop):((fc DB Pe Tryz.f202 [] (Aa r)).loop [1,0,1,0] J).goal (AcY l v k) =
  (BB (decide (k<(↑l.length:Int))) (inX k l.length/\BB (v==l.getD k.toNat 0) (LQ (Aa k) (Aa r)) (J (AcY l v (IntKind.i64.wrap (k+(1:Int)))))) (LQ (Aa (-1)) (Aa r))):=by kernel_rfl
theorem Ahb (r:Int)(c:D.Chan)(l mt:List Int)(any:Bool)(k:Int)(J:St->Prop):((fc DB SI Tryz.f177 [] (Aa r)).loop [1,0,1,0] J).goal (U2 c l mt any k) =
  (BB (decide (k<(↑c.Queue.length:Int))) (inX k c.Queue.length/\∃ (y:Bool),VC 200 [Ad true (c.Queue.getD k.toNat []),Ad false l,Ad true mt] (Ac y)/\BB y (LQ (Aa k) (Aa r)) (BB (!any) (LQ (Aa (-1)) (Aa r)) (J (U2 c l mt any (IntKind.i64.wrap (k+(1:Int))))))) (LQ (Aa (-1)) (Aa r))):=by kernel_rfl
theorem AgC (b:Bool)(x l mt:List Int)(k:Int)(J:St->Prop):((fc DB SH Tryz.f200 [] (Ac b)).loop [1,1,0,1,0] J).goal (U1 x l mt k) =
  (BB (decide (k<(↑mt.length:Int))) (inX k mt.length/\((true&&(mt.getD k.toNat 0==1)==true)=true->inX k x.length)/\((true&&(mt.getD k.toNat 0==1)==true)=true->inX k l.length)/\BB (bif mt.getD k.toNat 0==1 then x.getD k.toNat 0 != l.getD k.toNat 0 else false) (LQ (Ac false) (Ac b)) (J (U1 x l mt (IntKind.i64.wrap (k+(1:Int)))))) (LQ (Ac true) (Ac b))):=by kernel_rfl
theorem AgH (v r:Int)(e:D.Env)(x:Int):(fc DB AQ Tryz.f188 [] (.tup [Aa v,Aa r])).goal (St.init [] [Aa x,.tp [.tp (Ae e)]]) =
  (∃ (y:Int × Int),VC 124 [VV.tp (Ae e),Aa x] (VV.tup [Aa y.fst,Aa y.snd])/\LQ (VV.tup [Aa y.fst,Aa y.snd]) (VV.tup [Aa v,Aa r])):=by kernel_rfl
end Go.Proofs.YtnhamlpcpngafaaGreatDoor
namespace Go.Proofs.YtnhamlpcpngafaaGreatDoor
open Go.RowKit
def DL (b:Int)(s:Bool)(v:Int):Int :=
 if 1<=b/\b<=32 then(if s then(v+2 ^ b.toNat / 2) % 2 ^ b.toNat - 2 ^ b.toNat / 2 else v % 2 ^ b.toNat) else 0
theorem AdI (b v:Int)(s:Bool)(h:b<1∨32<b):DL b s v=0:=by
 unfold DL;rw[ApT (by omega)]
theorem YD (b v:Int)(h1:1<=b)(h2:b<=32):wrap64 (v*2 ^ (64 - b).toNat) / 2 ^ (64 - b).toNat=DL b true v:=by
 have a:b=1∨b=2∨b=3∨b=4∨b=5∨b=6∨b=7∨b=8∨b=9∨b=10∨b=11∨b=12∨b=13∨b=14∨b=15∨b=16∨b=17∨b=18∨b=19∨b=20∨b=21∨b=22∨b=23∨b=24∨b=25∨b=26∨b=27∨b=28∨b=29∨b=30∨b=31∨b=32:=by omega
 unfold wrap64 DL;rcases a with h | h | h | h | h | h | h | h | h | h | h | h | h | h | h | h | h | h | h | h | h | h | h | h | h | h | h | h | h | h | h | h <;>
  subst h<;>simp<;>omega
theorem Hl (r:BitVec 64):IntKind.i64.wrap (r.toNat:Int)=r.toInt:=by
 rw[IntKind.wrap_i64,BitVec.toInt_eq_toNat_cond];have:=r.isLt;split<;>omega
theorem Hm (r:BitVec 32):IntKind.i32.wrap (r.toNat:Int)=r.toInt:=by
 rw[IntKind.wrap_i32,BitVec.toInt_eq_toNat_cond];have:=r.isLt;split<;>omega
theorem Za (v:Int)(m:Nat)(f:m<32):bits .and .i64 v (((2 ^ (m+1):Nat):Int) - 1)=v % ((2 ^ (m+1):Nat):Int):=by
 show IntKind.i64.wrap ((BitVec.ofInt 64 v &&& BitVec.ofInt 64 (((2 ^ (m+1):Nat):Int) - 1)).toNat:Int)=_;have hp:2 ^ (m+1)<=2 ^ 32:=AqT (by decide) (by omega);have a:0<2 ^ (m+1):=Nat.two_pow_pos _;have c:(((2 ^ (m+1):Nat):Int) - 1)=((2 ^ (m+1) - 1:Nat):Int):=by omega
 rw[BitVec.toNat_and,c,BitVec.ofInt_natCast,BitVec.toNat_ofNat,BitVec.toNat_ofInt];have d:(2 ^ (m+1) - 1) % 2 ^ 64=2 ^ (m+1) - 1:=Nat.mod_eq_of_lt (by omega);rw[d,Arp];have e:(v % ((2 ^ 64:Nat):Int)).toNat % 2 ^ (m+1)<2 ^ (m+1):=Nat.mod_lt _ a;rw[IntWalk.i64_in _ (by omega)];have b:0<=v % ((2 ^ 64:Nat):Int):=Aq5 _ (by decide);have hd:((2 ^ (m+1):Nat):Int) ∣ ((2 ^ 64:Nat):Int):=by
  have:2 ^ (m+1) ∣ 2 ^ 64:=Nat.pow_dvd_pow 2 (by omega);exact Int.natCast_dvd_natCast.2 this
 rw[Int.natCast_emod,Int.toNat_of_nonneg b];exact Int.emod_emod_of_dvd _ hd
theorem Akh (b v:Int)(h1:1<=b)(h2:b<=32):bits .and .i64 v (wrap64 (wrap64 (2 ^ b.toNat) - 1))=DL b false v:=by
 obtain⟨m,rfl⟩:∃ m:Nat,b=(m:Int)+1:=⟨(b - 1).toNat,by omega⟩;have c:m<32:=by omega
 have e:((m:Int)+1).toNat=m+1:=by omega
 have hp:2 ^ (m+1)<=2 ^ 32:=AqT (by decide) (by omega);have a:0<2 ^ (m+1):=Nat.two_pow_pos _;have ec:(2:Int) ^ (m+1)=((2 ^ (m+1):Nat):Int):=by simp
 unfold DL;rw[Aqc ⟨h1,h2⟩,e,ec,IntWalk.wrap64_in ((2 ^ (m+1):Nat):Int) (by omega),IntWalk.wrap64_in _ (by omega),Za v m c];simp
theorem VO (b v:Int)(h1:1<=b)(h2:b<=32)(s:Bool) :
  (if s then(if 2 ^ b.toNat / 2<=v % 2 ^ b.toNat then v % 2 ^ b.toNat - 2 ^ b.toNat else v % 2 ^ b.toNat) else v % 2 ^ b.toNat)=DL b s v:=by
 have a:b=1∨b=2∨b=3∨b=4∨b=5∨b=6∨b=7∨b=8∨b=9∨b=10∨b=11∨b=12∨b=13∨b=14∨b=15∨b=16∨b=17∨b=18∨b=19∨b=20∨b=21∨b=22∨b=23∨b=24∨b=25∨b=26∨b=27∨b=28∨b=29∨b=30∨b=31∨b=32:=by omega
 unfold DL;cases s
 ·simp[h1,h2]
 ·rcases a with h | h | h | h | h | h | h | h | h | h | h | h | h | h | h | h | h | h | h | h | h | h | h | h | h | h | h | h | h | h | h | h <;>
   subst h<;>simp<;>split<;>omega
theorem AbA (b:Int)(h1:1<=b)(h2:b<=32):(2:Int)<=2 ^ b.toNat/\(2:Int) ^ b.toNat<=4294967296:=by
 obtain⟨m,a⟩:∃ m:Nat,b.toNat=m+1:=⟨b.toNat - 1,by omega⟩;rw[a];have hp:2 ^ (m+1)<=2 ^ 32:=AqT (by decide) (by omega);have c:2 ^ 1<=2 ^ (m+1):=AqT (by decide) (by omega);have ec:(2:Int) ^ (m+1)=((2 ^ (m+1):Nat):Int):=by simp
 rw[ec];omega
theorem Aot (v m:Int)(c:0<m)(h:v.tmod m<0):v.tmod m+m=v % m:=by
 have h0:=Int.tmod_eq_emod (a:=v) (b:=m);have h1:=Aq5 v (b:=m) (by omega);have h2:=Int.emod_lt_of_pos v c;rw[h0]at h ⊢;split at h<;>rename_i d
 ·omega
 ·rw[ApT d];omega
theorem Aou (v m:Int)(c:0<m)(h:0<=v.tmod m):v.tmod m=v % m:=by
 have h0:=Int.tmod_eq_emod (a:=v) (b:=m);have h1:=Aq5 v (b:=m) (by omega);have h2:=Int.emod_lt_of_pos v c;rw[h0]at h ⊢;split at h<;>rename_i d
 ·rw[Aqc d];omega
 ·omega
theorem Ag2 (b v x:Int)(h1:1<=b)(h2:b<=32)(a:x=v % 2 ^ b.toNat)(h:2 ^ b.toNat / 2<=x):x - 2 ^ b.toNat=DL b true v:=by
 have:=VO b v h1 h2 true;rw[Aqc rfl,← a,Aqc h]at this;exact this
theorem Ag3 (b v x:Int)(h1:1<=b)(h2:b<=32)(a:x=v % 2 ^ b.toNat)(h:x<2 ^ b.toNat / 2):x=DL b true v:=by
 have:=VO b v h1 h2 true;rw[Aqc rfl,← a,ApT (by omega)]at this;exact this
theorem Ag1 (b v x:Int)(h1:1<=b)(h2:b<=32)(a:x=v % 2 ^ b.toNat):x=DL b false v:=by
 have:=VO b v h1 h2 false;rw[ApT (by decide),← a]at this;exact this
theorem Aki (v:Int):DL 32 true v=wrap32 v:=by
 unfold DL wrap32;simp
theorem Bu (n:Int):-2147483648<=wrap32 n/\wrap32 n<=2147483647:=by unfold wrap32;omega
theorem KV {n:Int}(h:-2147483648<=n)(a:n<=2147483647):wrap32 n=n:=by unfold wrap32;omega
theorem Ih (n:Int):wrap64 (wrap32 n)=wrap32 n:=by have:=Bu n;exact IntWalk.wrap64_in _ (by omega)
theorem QL (n:Int):wrap32 n % 4294967296=n % 4294967296:=by unfold wrap32;omega
theorem Tf {m n:Int}(h:m % 4294967296=n % 4294967296):wrap32 m=wrap32 n:=by unfold wrap32;omega
theorem AcA (a b:Int):wrap32 (wrap32 a*b)=wrap32 (a*b):=Tf (by rw[Int.mul_emod,QL,← Int.mul_emod])
theorem UG (a b:Int):wrap32 (a - wrap32 b)=wrap32 (a - b):=Tf (by rw[Int.sub_emod,QL,← Int.sub_emod])
theorem AcJ (x y:Int)(h1:-2147483648<=x)(h2:x<=2147483647):-2147483648<=x.tmod y/\x.tmod y<=2147483647:=by
 by_cases h:0<=x
 ·have a:=Int.tmod_nonneg y h;have b:x.tmod y<=x:=by
   have:=Aq5;rw[Int.tmod_eq_emod_of_nonneg h]
   by_cases c:y=0
   ·subst c;simp
   ·have f:x % y=x - y*(x / y):=by have:=Int.emod_def x y;omega
    have:0<=y*(x / y):=by
     rcases Int.lt_or_gt_of_ne c with g | hp
     ·exact Int.mul_nonneg_of_nonpos_of_nonpos (by omega) (Int.ediv_nonpos_of_nonneg_of_nonpos h (by omega))
     ·exact Int.mul_nonneg (by omega) (Int.ediv_nonneg h (by omega))
    omega
  omega
 ·have e:x.tmod y=-((-x).tmod y):=by rw[Int.neg_tmod];omega
  have d:0<=-x:=by omega
  have a:=Int.tmod_nonneg y d;have b:(-x).tmod y<=-x:=by
   rw[Int.tmod_eq_emod_of_nonneg d]
   by_cases c:y=0
   ·subst c;simp
   ·have f:-x % y=-x - y*(-x / y):=by have:=Int.emod_def (-x) y;omega
    have:0<=y*(-x / y):=by
     rcases Int.lt_or_gt_of_ne c with g | hp
     ·exact Int.mul_nonneg_of_nonpos_of_nonpos (by omega) (Int.ediv_nonpos_of_nonneg_of_nonpos d (by omega))
     ·exact Int.mul_nonneg (by omega) (Int.ediv_nonneg d (by omega))
    omega
  omega
theorem AlC (x y:Int)(h1:-2147483648<=x)(h2:x<=2147483647):wrap32 (x - wrap32 (wrap32 (x.tdiv y)*y))=x.tmod y:=by
 have a:=AcJ x y h1 h2;rw[UG,← UG,AcA,UG];have e:x - x.tdiv y*y=x.tmod y:=by have:=Int.tmod_add_mul_tdiv x y;rw[Int.mul_comm]at this;omega
 rw[e];exact KV a.1 a.2
def Io (b:Bool):Int:=if b then 1 else 0
def C9 (a n:Int):Int:=if 0<=n then wrap32 (a*2 ^ min n.toNat 32) else a / 2 ^ min (-n).toNat 32
def D6 (op a b:Int):Int :=
 if op=6 then wrap32 (wrap32 a*wrap32 b)
 else if op=7 then(if wrap32 b=0 then 0 else wrap32 ((wrap32 a).tdiv (wrap32 b)))
 else if op=8 then(if wrap32 b=0 then 0 else(wrap32 a).tmod (wrap32 b))
 else if op=9 then wrap32 (wrap32 a+wrap32 b)
 else if op=10 then wrap32 (wrap32 a - wrap32 b)
 else if op=11 then C9 (wrap32 a) (wrap32 b)
 else if op=12 then C9 (wrap32 a) (-wrap32 b)
 else if op=13 then Io (decide (wrap32 a<wrap32 b))
 else if op=14 then Io (decide (wrap32 a<=wrap32 b))
 else if op=15 then Io (decide (wrap32 b<wrap32 a))
 else if op=16 then Io (decide (wrap32 b<=wrap32 a))
 else if op=17 then Io (wrap32 a==wrap32 b)
 else if op=18 then Io (wrap32 a != wrap32 b)
 else if op=19 then bits .and .i32 (wrap32 a) (wrap32 b)
 else if op=20 then bits .xor .i32 (wrap32 a) (wrap32 b)
 else if op=21 then bits .or .i32 (wrap32 a) (wrap32 b)
 else 0
def FX (op b:Int):Int :=
 if (op=7∨op=8)/\wrap32 b=0 then 48 else if 6<=op/\op<=21 then 0 else 42
def Mr (op a:Int):Int :=
 if op=3 then wrap32 (-wrap32 a) else if op=4 then Io (wrap32 a==0) else if op=5 then -wrap32 a - 1 else 0
def Vo (op:Int):Int:=if op=3∨op=4∨op=5 then 0 else 42
theorem Fm (op:BinOp)(c:op=.and∨op=.or∨op=.xor)(a b:Int):-2147483648<=bits op .i32 a b/\bits op .i32 a b<=2147483647:=by
 rcases c with rfl | rfl | rfl
 all_goals
  unfold bits;simp only[];rw[IntKind.wrap_i32];omega
theorem Dq (n:Int)(h1:-2147483648<=n)(h2:n<=2147483647):(BitVec.ofInt 32 n).signExtend 64=BitVec.ofInt 64 n:=by
 apply BitVec.eq_of_toInt_eq;rw[BitVec.toInt_signExtend_of_le (by decide),BitVec.toInt_ofInt,BitVec.toInt_ofInt];have:(n.bmod (2 ^ 32))=n:=Int.bmod_eq_of_le (by omega) (by omega);have h3:(n.bmod (2 ^ 64))=n:=Int.bmod_eq_of_le (by omega) (by omega);rw[this,h3]
theorem OZ (op:BinOp)(e:op=.and∨op=.or∨op=.xor)(a b:Int)(c:-2147483648<=a/\a<=2147483647)(d:-2147483648<=b/\b<=2147483647) :
  bits op .i64 a b=bits op .i32 a b:=by
 rcases e with rfl | rfl | rfl
 ·show IntKind.i64.wrap ((BitVec.ofInt 64 a &&& BitVec.ofInt 64 b).toNat:Int)=IntKind.i32.wrap ((BitVec.ofInt 32 a &&& BitVec.ofInt 32 b).toNat:Int);rw[Hl,Hm,← Dq a c.1 c.2,← Dq b d.1 d.2,← BitVec.signExtend_and,BitVec.toInt_signExtend_of_le (by decide)]
 ·show IntKind.i64.wrap ((BitVec.ofInt 64 a ||| BitVec.ofInt 64 b).toNat:Int)=IntKind.i32.wrap ((BitVec.ofInt 32 a ||| BitVec.ofInt 32 b).toNat:Int);rw[Hl,Hm,← Dq a c.1 c.2,← Dq b d.1 d.2,← BitVec.signExtend_or,BitVec.toInt_signExtend_of_le (by decide)]
 ·show IntKind.i64.wrap ((BitVec.ofInt 64 a ^^^ BitVec.ofInt 64 b).toNat:Int)=IntKind.i32.wrap ((BitVec.ofInt 32 a ^^^ BitVec.ofInt 32 b).toNat:Int);rw[Hl,Hm,← Dq a c.1 c.2,← Dq b d.1 d.2,← BitVec.signExtend_xor,BitVec.toInt_signExtend_of_le (by decide)]
theorem Xd (a:Int)(k:Nat)(h:32<=k):wrap32 (a*2 ^ k)=0:=by
 have e:(2:Int) ^ k=4294967296*2 ^ (k - 32):=by
  rw[show k=32+(k - 32) by omega,Int.pow_add];simp
 unfold wrap32;rw[e,← Int.mul_assoc,Int.mul_comm a,Int.mul_assoc];omega
theorem Ac7 (a:Int)(k:Nat):wrap32 (a*2 ^ k)=wrap32 (a*2 ^ min k 32):=by
 by_cases h:k<=32
 ·rw[Nat.min_eq_left h]
 ·rw[Nat.min_eq_right (by omega),Xd a k (by omega),Xd a 32 (by omega)]
theorem Xb (a:Int)(k:Nat):(a / 2 ^ k) / 2=a / 2 ^ (k+1):=by
 rw[Int.ediv_ediv_of_nonneg (Int.le_of_lt (Int.pow_pos (by decide))),Int.pow_succ]
theorem Ae7 (a:Int)(k m:Nat)(c:Int)(b:c=0∨c=-1)(h:a / 2 ^ k=c)(d:k<=m):a / 2 ^ m=c:=by
 have e:(2:Int) ^ m=2 ^ k*2 ^ (m - k):=by rw[← Int.pow_add];congr 1;omega
 rw[e,← Int.ediv_ediv_of_nonneg (Int.le_of_lt (Int.pow_pos (by decide))),h];have hp:(0:Int)<2 ^ (m - k):=Int.pow_pos (by decide);rcases b with rfl | rfl
 ·simp
 ·rw[Int.neg_one_ediv];have:=Int.sign_eq_one_of_pos hp;omega
theorem Ani (a:Int)(h1:-2147483648<=a)(h2:a<=2147483647):a / 2 ^ 32=0∨a / 2 ^ 32=-1:=by
 have:(2:Int) ^ 32=4294967296:=by decide
 rw[this];omega
theorem Ac5 (a:Int)(k:Nat)(h1:-2147483648<=a)(h2:a<=2147483647):a / 2 ^ k=a / 2 ^ min k 32:=by
 by_cases h:k<=32
 ·rw[Nat.min_eq_left h]
 ·rw[Nat.min_eq_right (by omega)];exact Ae7 a 32 k _ (Ani a h1 h2) rfl (by omega)
theorem Anh (a:Int)(k:Nat)(h1:-2147483648<=a)(h2:a<=2147483647):-2147483648<=a / 2 ^ k/\a / 2 ^ k<=2147483647:=by
 induction k with
 | zero=>simp;omega
 | succ k ih=>rw[← Xb];omega
theorem Ln (a n:Int)(h:-2147483648<=a/\a<=2147483647):-2147483648<=C9 a n/\C9 a n<=2147483647:=by
 unfold C9;split
 ·exact Bu _
 ·exact Anh a _ h.1 h.2
theorem Ag0 (x:Int)(h:-2147483648<=x/\x<=2147483647):bits .xor .i32 (-1) x=-x - 1:=by
 show IntKind.i32.wrap ((BitVec.ofInt 32 (-1) ^^^ BitVec.ofInt 32 x).toNat:Int)=_;have e:BitVec.ofInt 32 (-1)=BitVec.allOnes 32:=by decide
 rw[e,BitVec.allOnes_xor,BitVec.toNat_not,BitVec.toNat_ofInt,IntKind.wrap_i32];have:(((2:Nat) ^ 32:Nat):Int)=4294967296:=by decide
 rw[this];omega
theorem Akd (a:Int):wrap64 (bits .xor .i32 (-1) (wrap32 a))=-wrap32 a - 1:=by
 have h:=Bu a;rw[Ag0 _ h];exact IntWalk.wrap64_in _ (by omega)
theorem Aj5 (a:Int)(h:a<0):(a - 1).tdiv 2=a / 2:=by
 have e:(a - 1).tdiv 2=-((1 - a).tdiv 2):=by rw[← Int.neg_tdiv];congr 1;omega
 rw[e,Int.tdiv_eq_ediv_of_nonneg (by omega)];omega
def CW (b:Bool):Int × Int:=(bif b then 1 else 0,0)
abbrev Evl:=Int->Int × Int
section
variable (e : D.Env) (ev:Evl)
def CL (a:Int):Int × Int :=
 bif decide ((ev a).2≠0) then(0,(ev a).2) else bif decide ((ev a).1<1)||decide ((e.S.Chans.length:Int)<(ev a).1) then(0,49) else((ev a).1,0)
def B6 (n:Int):D.Chan:=e.S.Chans.getD (n - 1).toNat default
def AmA (op room many:Int):Int × Int :=
 if op=25 then(many,0) else if op=26 then CW (decide (room<=many)) else if op=28 then CW (decide (many<room)) else if op=27 then CW (decide (many=0)) else CW (decide (0<many))
def L9 (x:D.Expr):Int × Int :=
 bif decide ((CL e ev x.A).2≠0) then(0,(CL e ev x.A).2) else AmA x.Op (BV e.M (B6 e (CL e ev x.A).1).Shape).Room (B6 e (CL e ev x.A).1).Queue.length
def Ace : Nat->(Nat->Int)->Int
 | 0,_=>0
 | n+1,f=>bif decide (Ace n f≠0) then Ace n f else f n
def C2 (a m:Int):Int × Int:=bif decide (m=1) then ev a else(0,0)
def CV (args mt:List Int):List Int:=(List.range args.length).map fun i=>(C2 ev (args.getD i 0) (mt.getD i 0)).1
def C7 (args mt:List Int)(n:Nat):Int:=Ace n fun i=>(C2 ev (args.getD i 0) (mt.getD i 0)).2
def Dv (x l mt:List Int):Bool:=decide (mt.length<=x.length)&&decide (mt.length<=l.length)&&Cu mt.length fun i=>!(decide (mt.getD i 0=1)&&decide (x.getD i 0≠l.getD i 0))
def N4 (l mt:List Int)(any:Bool):Nat->List (List Int)->Int
 | _,[]=>-1
 | k,x::q=>bif Dv x l mt then(k:Int) else bif any then N4 l mt any (k+1) q else -1
def Gy (c:D.Chan)(l mt:List Int)(any:Bool):Int:=N4 l mt any 0 c.Queue
def L3 (x:D.Expr):Int × Int :=
 bif decide ((CL e ev x.A).2≠0) then(0,(CL e ev x.A).2)
 else bif decide ((BV e.M (B6 e (CL e ev x.A).1).Shape).Fields.length≠x.Args.length) then(0,49)
 else bif decide (C7 ev x.Args x.Match x.Args.length≠0) then(0,C7 ev x.Args x.Match x.Args.length)
 else CW (decide (0<=Gy (B6 e (CL e ev x.A).1) (CV ev x.Args x.Match) x.Match (decide (x.N=1))))
def De (n:Int):D.Process:=e.S.Procs.getD n.toNat default
def Gj (x:D.Expr):Int × Int :=
 bif decide ((ev x.A).2≠0) then(0,(ev x.A).2)
 else bif decide ((ev x.A).1<0)||(decide ((e.S.Procs.length:Int)<=(ev x.A).1)||(decide (x.Op=38)&&decide ((De e (ev x.A).1).Type_≠x.N))) then(0,52)
 else bif decide (x.Op=37) then((De e (ev x.A).1).Loc,0) else CW (decide ((De e (ev x.A).1).Loc∈x.Args))
def Jw (x:D.Expr):Int × Int :=
 bif decide ((ev x.A).2≠0) then(0,(ev x.A).2)
 else bif decide (x.Op=24) then(bif decide ((ev x.A).1≠0) then ev x.B else ev x.C)
 else bif (decide (x.Op=22)&&decide ((ev x.A).1=0))||(decide (x.Op=23)&&decide ((ev x.A).1≠0)) then CW (decide ((ev x.A).1≠0))
 else bif decide ((ev x.B).2≠0) then(0,(ev x.B).2) else CW (decide ((ev x.B).1≠0))
def Q8 (x:D.Expr):Int × Int :=
 bif decide ((ev x.A).2≠0) then(0,(ev x.A).2)
 else bif decide (x.Op=3)||(decide (x.Op=4)||decide (x.Op=5)) then(Mr x.Op (ev x.A).1,Vo x.Op)
 else bif decide ((ev x.B).2≠0) then(0,(ev x.B).2) else(D6 x.Op (ev x.A).1 (ev x.B).1,FX x.Op (ev x.B).1)
def C5 (v:D.Var):Int × Int :=
 bif decide (v.Scope=0) then(bif decide ((e.S.Globals.length:Int)<DC v) then(0,42) else(-1,0))
 else bif decide (v.Scope=1) then(bif decide (e.Pid<0)||decide (((De e e.Pid).Frame.length:Int)<DC v) then(0,42) else(e.Pid,0))
 else bif decide ((ev v.Who).2≠0) then(0,(ev v.Who).2)
 else bif decide ((ev v.Who).1<0)||(decide ((e.S.Procs.length:Int)<=(ev v.Who).1)||decide ((De e (ev v.Who).1).Type_≠v.Type_)) then(0,52)
 else bif decide (((De e (ev v.Who).1).Frame.length:Int)<DC v) then(0,42) else((ev v.Who).1,0)
def DM : Int->List D.Dim->Int × Int
 | n,[]=>(n,0)
 | n,d::l=>bif decide ((ev d.I).2≠0) then(0,(ev d.I).2) else bif decide ((ev d.I).1<0)||decide (d.Len<=(ev d.I).1) then(0,47) else DM (n+(ev d.I).1*d.Stride) l
def BP (x:D.Expr):Int × Int × Int :=
 bif decide (x.Op≠2) then(0,0,42)
 else bif decide ((C5 e ev x.V).2≠0) then(0,0,(C5 e ev x.V).2)
 else bif decide ((DM ev x.V.Slot x.V.Dims).2≠0) then(0,0,(DM ev x.V.Slot x.V.Dims).2) else((C5 e ev x.V).1,(DM ev x.V.Slot x.V.Dims).1,0)
def XC (x:D.Expr):Int × Int :=
 bif decide ((BP e ev x).2.2≠0) then(0,(BP e ev x).2.2)
 else bif decide ((BP e ev x).1<0) then(e.S.Globals.getD (BP e ev x).2.1.toNat 0,0) else((De e (BP e ev x).1).Frame.getD (BP e ev x).2.1.toNat 0,0)
def F4 : Bool:=!(Cu e.S.Procs.length fun i=>!((FD e.M (e.S.Procs.getD i default).Type_).getD (e.S.Procs.getD i default).Loc.toNat default).Progress)
def PS (x:D.Expr):Int × Int :=
 bif decide ((ev x.A).2≠0) then(0,(ev x.A).2)
 else CW (decide (0<=(ev x.A).1)&&(decide ((ev x.A).1<e.Able.length)&&e.Able.getD (ev x.A).1.toNat false))
def Ck (x:D.Expr):Int × Int :=
 if x.Op=1 then(x.N,0) else if x.Op=2 then XC e ev x else if x.Op=22∨x.Op=23∨x.Op=24 then Jw ev x
 else if x.Op=25∨x.Op=26∨x.Op=27∨x.Op=28∨x.Op=29 then L9 e ev x else if x.Op=30 then L3 e ev x
 else if x.Op=31 then(e.Pid,0) else if x.Op=32 then(e.S.Last,0) else if x.Op=33 then(e.S.Procs.length,0) else if x.Op=34 then CW (!F4 e)
 else if x.Op=35 then CW e.Timeout else if x.Op=36 then PS e ev x else if x.Op=37∨x.Op=38 then Gj e ev x else if x.Op=39 then(0,42) else Q8 ev x
end
def PN (e:D.Env):Nat->Evl
 | 0,_=>(0,0)
 | n+1,a=>Ck e (PN e n) (Ao e.M a)
def FP (e:D.Env):Evl:=PN e (e.M.Exprs.length - 1)
def CE (e:D.Env)(x:Int):Int :=
 bif decide (Cb e.M e.S≠0) then Cb e.M e.S
 else bif decide (e.Pid < -1)||(decide ((e.S.Procs.length:Int)<=e.Pid)||(decide (x<0)||decide ((e.M.Exprs.length:Int)<=x))) then 42 else 0
def Be (e:D.Env)(x:Int):Int × Int:=bif decide (CE e x≠0) then(0,CE e x) else Ck e (FP e) (Ao e.M x)
def AB (e:D.Env)(x:Int):Int × Int:=bif decide (CE e x≠0) then(0,CE e x) else CL e (PN e e.M.Exprs.length) x
def Jz (v:Int):Nat->List Int->Int
 | _,[]=>-1
 | k,y::l=>bif decide (v=y) then(k:Int) else Jz v (k+1) l
theorem AgS {v y:Int}{k:Nat}{l:List Int}:Jz v k (y::l)=bif decide (v=y) then(k:Int) else Jz v (k+1) l:=rfl
theorem AdD {v:Int}:∀ {l:List Int} {k:Nat},decide (v∈l)=decide (Jz v k l>=0)
 | [],k=>by simp[Jz]
 | y::l,k=>by
  unfold Jz
  by_cases h:v=y
  ·simp[h]
  ·have:=AdD (v:=v) (l:=l) (k:=k+1);simp only[h,decide_false,Apw,← this];simp[h]
theorem Ij {k:IntKind}{a b:Int}(h:a=b):Ending.returned (.int k a)=.returned (.int k b):=by rw[h]
theorem AkM {W a:World}(c:Below W.heap.size W a):(∀ b o,b<W.heap.size->a.cell? ⟨b,o,none⟩=W.cell? ⟨b,o,none⟩)/\(∀ b o,b<W.heap.size->a.frozen? ⟨b,o,none⟩=W.frozen? ⟨b,o,none⟩) :=
 ⟨fun b o h=>c.cell (p:=⟨b,o,none⟩) h,fun b o h=>c.frozen (p:=⟨b,o,none⟩) h⟩
theorem Fb (w:World)(o:Obj):Below w.heap.size w (w.alloc o):=(Below.refl _ _).alloc (ApC _) _
set_option maxHeartbeats 400000 in
theorem Ana (b v:Int)(w:World)(h1:1<=b)(h2:b<=32) :
  Calls Tryz.prog 169 #[.agg #[.int .i64 b,.bool true],.int .i64 v] w fun e w'=>e=.returned (.int .i64 (DL b true v))/\Below w.heap.size w w':=by
 have a:decide (b<1)=false:=by simp;omega
 have c:decide (32<b)=false:=by simp;omega
 go_enter Tryz.func169,Tryz.ntmps169
 go_wp2
 go_quiet (fail)
 go_wp2
 go_ret
 exact⟨Ij (YD b v h1 h2),below_drewN (Fb _ _) _⟩
set_option maxHeartbeats 400000 in
theorem Am9 (b v:Int)(w:World)(h1:1<=b)(h2:b<=32) :
  Calls Tryz.prog 169 #[.agg #[.int .i64 b,.bool false],.int .i64 v] w fun e w'=>e=.returned (.int .i64 (DL b false v))/\Below w.heap.size w w':=by
 have a:decide (b<1)=false:=by simp;omega
 have c:decide (32<b)=false:=by simp;omega
 go_enter Tryz.func169,Tryz.ntmps169
 go_wp2
 go_ret
 exact⟨Ij (Akh b v h1 h2),Fb _ _⟩
set_option maxHeartbeats 400000 in
theorem Am8 (b v:Int)(s:Bool)(w:World)(h1:b<1∨32<b) :
  Calls Tryz.prog 169 #[.agg #[.int .i64 b,.bool s],.int .i64 v] w fun e w'=>e=.returned (.int .i64 (DL b s v))/\Below w.heap.size w w':=by
 have HF:=Lib.hid (AdI b v s h1);rcases h1 with h1 | h1
 ·go_enter Tryz.func169,Tryz.ntmps169
  go_wp2
  go_ret
  exact⟨Ij HF.out.symm,Fb _ _⟩
 ·have a:decide (b<1)=false:=by simp;omega
  go_enter Tryz.func169,Tryz.ntmps169
  go_wp2
  go_ret
  exact⟨Ij HF.out.symm,Fb _ _⟩
theorem Ala (b v:Int)(s:Bool)(w:World) :
  Calls Tryz.prog 169 #[.agg #[.int .i64 b,.bool s],.int .i64 v] w fun e w'=>e=.returned (.int .i64 (DL b s v))/\Below w.heap.size w w':=by
 by_cases h:1<=b/\b<=32
 ·cases s
  ·exact Am9 b v w h.1 h.2
  ·exact Ana b v w h.1 h.2
 ·exact Am8 b v s w (by omega)
theorem GX {k l:IntKind}{a b c d:Int}(h:a=b)(e:c=d):Ending.returned (.tuple #[.int k a,.int l c])=.returned (.tuple #[.int k b,.int l d]):=by rw[h,e]
set_option maxHeartbeats 400000 in
theorem ZL (b:Bool)(w:World) :
  Calls Tryz.prog 203 #[.bool b] w fun e w'=>e=.returned (.int .i64 (Io b))/\w=w':=by
 cases b
 all_goals
  go_enter Tryz.func203,Tryz.ntmps203
  go_wp2
  go_ret
  exact⟨rfl,rfl⟩
set_option maxHeartbeats 400000 in
theorem AhR (a n:Int)(w:World)(h0:-2147483648<=n)(h1:n<=2147483648) :
  Calls Tryz.prog 204 #[.int .i32 a,.int .i64 n] w fun e w'=>e=.returned (.int .i32 (C9 a n))/\w=w':=by
 by_cases c:0<=n
 ·have HP:Hid (C9 a n=wrap32 (a*2 ^ min n.toNat 32)):=by unfold Hid C9;rw[Aqc c]
  by_cases b:63<n
  ·go_enter Tryz.func204,Tryz.ntmps204
   go_wp2
   go_ret
   exact⟨Ij (by rw[HP.out,show min n.toNat 32=32 by omega];first | rfl | (rw[IntKind.wrap_i32]<;>rfl)),rfl⟩
  ·go_enter Tryz.func204,Tryz.ntmps204
   go_wp2
   go_ret
   exact⟨Ij (by rw[HP.out]),rfl⟩
 ·have HP:Hid (C9 a n=a / 2 ^ min (-n).toNat 32):=by unfold Hid C9;rw[ApT c]
  have d:n<=0:=by omega
  by_cases b:63 < -n
  ·go_enter Tryz.func204,Tryz.ntmps204
   go_wp2
   go_ret
   exact⟨Ij (by rw[HP.out,show min (-n).toNat 32=32 by omega]<;>rfl),rfl⟩
  ·go_enter Tryz.func204,Tryz.ntmps204
   go_wp2
   go_ret
   exact⟨Ij HP.out.symm,rfl⟩
set_option maxHeartbeats 400000 in
theorem Am6 (a b:Int)(w:World) :
  Calls Tryz.prog 192 #[.int .i64 7,.int .i64 a,.int .i64 b] w fun e w'=>e=.returned (.tuple #[.int .i64 (D6 7 a b),.int .i64 (FX 7 b)])/\w=w':=by
 have f:=Bu b;have g:=Bu a
 by_cases h0:wrap32 b=0
 ·have HV:Hid (D6 7 a b=0):=by unfold Hid;simp[D6,h0]
  have HE:Hid (FX 7 b=48):=by unfold Hid;simp[FX,h0]
  have c:(wrap32 b==0)=true:=by simpa using h0
  clear h0
  go_enter Tryz.func192,Tryz.ntmps192
  go_wp2
  refine GS 0 rfl (fun J d=>?_)
  go_wp2
  go_step3
  refine⟨rfl,d _ _ ?_⟩
  go_wp2
  rw[Exit.noGoto_ret]
  go_ret2
  exact⟨GX HV.out.symm HE.out.symm,rfl⟩
 ·have HV:Hid (D6 7 a b=wrap32 ((wrap32 a).tdiv (wrap32 b))):=by unfold Hid;simp[D6,h0]
  have HE:Hid (FX 7 b=0):=by unfold Hid;simp[FX,h0]
  have c:(wrap32 b==0)=false:=by simpa using h0
  go_enter Tryz.func192,Tryz.ntmps192
  go_wp2
  go_step3
  go_wp2
  rw[Exit.noGoto_ret]
  go_ret2
  exact⟨GX (by rw[HV.out];exact Ih _) HE.out.symm,rfl⟩
set_option maxHeartbeats 400000 in
theorem Am5 (a b:Int)(w:World) :
  Calls Tryz.prog 192 #[.int .i64 8,.int .i64 a,.int .i64 b] w fun e w'=>e=.returned (.tuple #[.int .i64 (D6 8 a b),.int .i64 (FX 8 b)])/\w=w':=by
 have g:=Bu b;have d:=Bu a
 by_cases h0:wrap32 b=0
 ·have HV:Hid (D6 8 a b=0):=by unfold Hid;simp[D6,h0]
  have HE:Hid (FX 8 b=48):=by unfold Hid;simp[FX,h0]
  have c:(wrap32 b==0)=true:=by simpa using h0
  clear h0
  go_enter Tryz.func192,Tryz.ntmps192
  go_wp2
  refine GS 0 rfl (fun J f=>?_)
  go_wp2
  go_step3
  refine⟨rfl,f _ _ ?_⟩
  go_wp2
  rw[Exit.noGoto_ret]
  go_ret2
  exact⟨GX HV.out.symm HE.out.symm,rfl⟩
 ·have HV:Hid (D6 8 a b=(wrap32 a).tmod (wrap32 b)):=by unfold Hid;simp[D6,h0]
  have HE:Hid (FX 8 b=0):=by unfold Hid;simp[FX,h0]
  have c:(wrap32 b==0)=false:=by simpa using h0
  go_enter Tryz.func192,Tryz.ntmps192
  go_wp2
  go_step3
  go_wp2
  rw[Exit.noGoto_ret]
  go_ret2
  exact⟨GX (by rw[HV.out];rw[Ih];exact AlC _ _ d.1 d.2) HE.out.symm,rfl⟩
set_option maxHeartbeats 4000000 in
theorem Am4 (op a b:Int)(w:World)(c:op=6∨op=9∨op=10∨op=11∨op=12∨op=19∨op=20∨op=21) :
  Calls Tryz.prog 192 #[.int .i64 op,.int .i64 a,.int .i64 b] w fun e w'=>e=.returned (.tuple #[.int .i64 (D6 op a b),.int .i64 (FX op b)])/\w=w':=by
 have f:=Bu b;rcases c with rfl | rfl | rfl | rfl | rfl | rfl | rfl | rfl
 all_goals
  go_enter Tryz.func192,Tryz.ntmps192
  go_wp2
  go_step3
  go_wp2_with (first | (go_at_call 204;(with_reducible refine(AhR _ _ _ (by omega) (by omega)).mono ?_);rintro e d ⟨rfl,rfl⟩) | (go_at_call 203;(with_reducible refine(ZL _ _).mono ?_);rintro e d ⟨rfl,rfl⟩))
  rw[Exit.noGoto_ret]
  go_ret2
  refine⟨GX ?_ (by simp[FX]),rfl⟩
  first
   | (simp[D6,Ih];done)
   | (have h:=Ln (wrap32 a) (wrap32 b) (Bu a);simp only[D6];exact IntWalk.wrap64_in _ (by omega))
   | (have h:=Ln (wrap32 a) (-wrap32 b) (Bu a);simp only[D6];exact IntWalk.wrap64_in _ (by omega))
   | (have h:=Fm .and (by simp) (wrap32 a) (wrap32 b);simp only[D6];exact IntWalk.wrap64_in _ (by omega))
   | (have h:=Fm .xor (by simp) (wrap32 a) (wrap32 b);simp only[D6];exact IntWalk.wrap64_in _ (by omega))
   | (have h:=Fm .or (by simp) (wrap32 a) (wrap32 b);simp only[D6];exact IntWalk.wrap64_in _ (by omega))
set_option maxHeartbeats 4000000 in
theorem Am3 (op a b:Int)(w:World)(c:op=13∨op=14∨op=15∨op=16∨op=17∨op=18) :
  Calls Tryz.prog 192 #[.int .i64 op,.int .i64 a,.int .i64 b] w fun e w'=>e=.returned (.tuple #[.int .i64 (D6 op a b),.int .i64 (FX op b)])/\w=w':=by
 have g:=Bu b;rcases c with rfl | rfl | rfl | rfl | rfl | rfl
 all_goals
  go_enter Tryz.func192,Tryz.ntmps192
  go_wp2
  refine GS 1 rfl (fun J d=>?_)
  go_wp2
  go_step3
  refine⟨rfl,d _ _ ?_⟩
  go_wp2_with (first | (go_at_call 204;(with_reducible refine(AhR _ _ _ (by omega) (by omega)).mono ?_);rintro e f ⟨rfl,rfl⟩) | (go_at_call 203;(with_reducible refine(ZL _ _).mono ?_);rintro e f ⟨rfl,rfl⟩))
  rw[Exit.noGoto_ret]
  go_ret2
  exact⟨GX (by simp only[D6];rfl) (by simp[FX]),rfl⟩
set_option maxHeartbeats 400000 in
theorem Ak7 (op:Int)(a b:Int)(w:World)(c:op<6∨21<op) :
  Calls Tryz.prog 192 #[.int .i64 op,.int .i64 a,.int .i64 b] w fun e w'=>e=.returned (.tuple #[.int .i64 (D6 op a b),.int .i64 (FX op b)])/\w=w':=by
 have r:=Bu b;have HV:Hid (D6 op a b=0):=by unfold Hid D6;repeat (rw[ApT (by omega)])
 have HE:Hid (FX op b=42):=by unfold Hid FX;rw[ApT (by omega),ApT (by omega)]
 have s:(op==6)=false:=by simp;omega
 have t:(op==7)=false:=by simp;omega
 have u:(op==8)=false:=by simp;omega
 have v:(op==9)=false:=by simp;omega
 have d:(op==10)=false:=by simp;omega
 have f:(op==11)=false:=by simp;omega
 have g:(op==12)=false:=by simp;omega
 have h:(op==13)=false:=by simp;omega
 have i:(op==14)=false:=by simp;omega
 have j:(op==15)=false:=by simp;omega
 have k:(op==16)=false:=by simp;omega
 have l:(op==17)=false:=by simp;omega
 have m:(op==18)=false:=by simp;omega
 have n:(op==19)=false:=by simp;omega
 have o:(op==20)=false:=by simp;omega
 have p:(op==21)=false:=by simp;omega
 clear c
 go_enter Tryz.func192,Tryz.ntmps192
 go_wp2
 refine GS 1 rfl (fun J q=>?_)
 go_wp2
 go_step3
 refine⟨rfl,q _ _ ?_⟩
 go_wp2
 rw[Exit.noGoto_ret]
 go_ret2
 exact⟨GX HV.out.symm HE.out.symm,rfl⟩
theorem Aph (op a b:Int)(w:World) :
  Calls Tryz.prog 192 #[.int .i64 op,.int .i64 a,.int .i64 b] w fun e w'=>e=.returned (.tuple #[.int .i64 (D6 op a b),.int .i64 (FX op b)])/\w=w':=by
 by_cases c:op<6∨21<op
 ·exact Ak7 op a b w c
 by_cases h7:op=7
 ·subst h7;exact Am6 a b w
 by_cases d:op=8
 ·subst d;exact Am5 a b w
 by_cases f:13<=op/\op<=18
 ·exact Am3 op a b w (by omega)
 ·exact Am4 op a b w (by omega)
set_option maxHeartbeats 1000000 in
theorem Api (op a:Int)(w:World) :
  Calls Tryz.prog 191 #[.int .i64 op,.int .i64 a] w fun e w'=>e=.returned (.tuple #[.int .i64 (Mr op a),.int .i64 (Vo op)])/\w=w':=by
 by_cases b:op=3∨op=4∨op=5
 ·rcases b with rfl | rfl | rfl
  all_goals
   have c:=Bu a
   go_enter Tryz.func191,Tryz.ntmps191
   go_wp2_with (go_at_call 203;(with_reducible refine(ZL _ _).mono ?_);rintro e d ⟨rfl,rfl⟩)
   go_ret2
   exact⟨GX (by simp only[Mr];first | rfl | exact Ih _ | exact(Akd a) | (simp;omega)) (by simp[Vo]),rfl⟩
 have HV:Hid (Mr op a=0):=by unfold Hid Mr;repeat (rw[ApT (by omega)])
 have HE:Hid (Vo op=42):=by unfold Hid Vo;rw[ApT (by omega)]
 have f:(op==3)=false:=by simp;omega
 have g:(op==4)=false:=by simp;omega
 have h:(op==5)=false:=by simp;omega
 clear b
 go_enter Tryz.func191,Tryz.ntmps191
 go_wp2
 go_ret2
 exact⟨GX HV.out.symm HE.out.symm,rfl⟩
theorem AeM {m:D.Model}(h:BZ m=(0,0)):JB m<0:=by
 unfold BZ at h;grind
structure BF (e:D.Env):Prop where
 fits:C8 e.M e.S=true
 may:G3 e.M=true
 wf:AG e.M
 pid:-1<=e.Pid/\e.Pid<e.S.Procs.length
section
variable {e : D.Env}
theorem BF.fit (h:BF e):Fit e.S:=VP h.may h.fits
theorem BF.tab (h:BF e):Am0 e.M:=Ou (Dp h.may).1
theorem BF.expr (h:BF e):∀ i:Nat,i<e.M.Exprs.length->Ep e.M i=true:=YG (AeM (Dp h.may).1)
theorem BF.chan (h:BF e){c:D.Chan}(a:c∈e.S.Chans):Dg e.M c=true:=by
 have h:=h.fits;unfold C8 at h;simp only[Apv]at h;exact(CF (d:=default) (f:=fun c=>Dg e.M c)).1 h.1.1.2 c a
theorem BF.proc (h:BF e){p:D.Process}(hp:p∈e.S.Procs):Bd e.M p=true:=by
 have h:=h.fits;unfold C8 at h;simp only[Apv]at h;exact(CF (d:=default) (f:=fun c=>Bd e.M c)).1 h.1.2 p hp
theorem BF.globals (h:BF e):e.S.Globals.length=e.M.Globals.length/\Bw e.M.Globals e.S.Globals=true:=by
 have h:=h.fits;unfold C8 I0 at h;simp only[Apv]at h;grind [Fg]
theorem Eb {m:D.Model}{p:D.Process}(h:Bd m p=true):(0<=p.Type_/\p.Type_<m.Procs.length)/\(0<=p.Loc/\p.Loc<(A3 m p.Type_).Locs.length)/\p.Frame.length=(A3 m p.Type_).Frame.length/\Bw (A3 m p.Type_).Frame p.Frame=true/\p.Prio=(A3 m p.Type_).Prio/\p.Type_≠m.Claim:=by
 unfold Bd CR at h;simp only[Apv,ApB]at h;grind [CT,Fg]
theorem Fa {m:D.Model}{c:D.Chan}(h:Dg m c=true):(0<=c.Shape/\c.Shape<m.Shapes.length)/\(c.Queue.length:Int)<=(BV m c.Shape).Room/\∀ x∈c.Queue,Bw (BV m c.Shape).Fields x=true:=by
 unfold Dg at h;simp only[Apv,ApB]at h;exact⟨CT.1 h.1.1,h.1.2,fun x a=>(CF (d:=[]) (f:=fun x=>Bw (BV m c.Shape).Fields x)).1 h.2 x a⟩
end
abbrev vII (p:Int × Int):VV:=.tup [Aa p.1,Aa p.2]
abbrev Kd (p:Int × Int × Int):VV:=.tup [Aa p.1,Aa p.2.1,Aa p.2.2]
theorem AU {a b:Int}{q:Int × Int}(h:(a,b)=q):leO [] []/\VV.le (.tup [.sc (.int .i64 a),.sc (.int .i64 b)]) (.tup [.sc (.int .i64 q.1),.sc (.int .i64 q.2)]):=by
 subst h;exact⟨trivial,VV.le_refl _⟩
theorem FS {a b c:Int}{q:Int × Int × Int}(h:(a,b,c)=q):leO [] []/\VV.le (.tup [.sc (.int .i64 a),.sc (.int .i64 b),.sc (.int .i64 c)]) (.tup [.sc (.int .i64 q.1),.sc (.int .i64 q.2.1),.sc (.int .i64 q.2.2)]):=by
 subst h;exact⟨trivial,VV.le_refl _⟩
theorem ct {α:Type}{c:Bool}{a b x:α}(h:c=true)(k:x=a):x=bif c then a else b:=by rw[h];exact k
theorem cf {α:Type}{c:Bool}{a b x:α}(h:c=false)(k:x=b):x=bif c then a else b:=by rw[h];exact k
theorem it {α:Type}{c:Prop}[Decidable c]{a b x:α}(h:c)(k:x=a):x=if c then a else b:=by rw[Aqc h];exact k
theorem ie {α:Type}{c:Prop}[Decidable c]{a b x:α}(h:¬ c)(k:x=b):x=if c then a else b:=by rw[ApT h];exact k
abbrev EvS (e:D.Env)(a:Int)(p:Int × Int):Prop:=Aj Tryz.prog 124 [] [.tp (Ae e),Aa a] [] (vII p)
theorem Dt {b:Bool}:Aj Tryz.prog 162 [] [Ac b] [] (vII (CW b)) :=
 Aq Tryz.func162 (AeH _ _ b) ⟨fun h=>AU (by rw[h]<;>rfl),fun h=>AU (by rw[h];rfl)⟩
theorem AT (a b:Int):(a != b)=decide (a≠b):=by rw[Aqe];simp
theorem Mb {e:D.Env}{ev:Evl}{a:Int}(h:EvS e a (ev a)):Aj Tryz.prog 189 [] [.tp (Ae e),Aa a] [] (vII (CL e ev a)):=by
 refine Aq Tryz.func189 (Ael _ _ e a) ⟨ev a,h,fun h=>AU (ct (by simpa using h) rfl),fun h=>⟨fun h2=>AU (cf (by simpa using h) (ct ?_ rfl)),fun h2=>AU (cf (by simpa using h) (cf ?_ rfl))⟩⟩
 ·rw[Br]at h2;exact h2
 grind
theorem QB {e:D.Env}{ev:Evl}{a:Int}(b:BF e)(h:¬ (CL e ev a).2≠0):1<=(CL e ev a).1/\(CL e ev a).1<=e.S.Chans.length/\e.S.Chans.length<=32:=by
 have d:=b.fit.c;unfold CL at h ⊢;grind
theorem AbW {l:List Int}{v:Int}(i:Len l.length):Aj Tryz.prog 202 [] [Ad true l,Aa v] [] (Aa (Jz v 0 l)):=by
 unfold Len at i;refine Aq Tryz.func202 (AgR _ l v) ?_;refine As l.length (fun k=>AcY l v k) (fun k=>Jz v 0 l=Jz v k (l.drop k)) rfl ?_;intro k m c J next
 refine ApI (AbX _ l v k J) ⟨fun f=>?_,fun g=>BK ?_⟩
 ·have a:k<l.length:=by have:=AL f;omega
  have h:(k:Int).toNat=k:=by omega
  rw[h];rw[Bs (d:=0) a]at c;rw[AgS]at c;refine⟨by omega,fun j=>BK ?_,fun j=>next _ a ?_ (Up.of ?_)⟩
  ·grind
  ·grind
  grind [Al]
 ·have b:l.length<=k:=by have:=AP g;omega
  rw[c,Ap2 b]<;>rfl
theorem S6 {l:List Int}{v:Int}(a:Len l.length):Aj Tryz.prog 190 [] [Ad true l,Aa v] [] (Ac (decide (v∈l))) :=
 Aq Tryz.func190 (VT _ l v) ⟨_,AbW a,Aw (by rw[AdD (k:=0)])⟩
theorem AhB {e:D.Env}{ev:Evl}{x:D.Expr}(a:BF e)(h:EvS e x.A (ev x.A)):Aj Tryz.prog 160 [] [.tp (Ae e),.agg (Az x)] [] (vII (L9 e ev x)):=by
 refine Aq Tryz.func160 (AkP _ _ e x rfl rfl rfl rfl rfl) ⟨CL e ev x.A,Mb h,fun h=>AU (ct (by simpa using h) rfl),fun h=>?_⟩;have h0:decide ((CL e ev x.A).2≠0)=false:=by simpa using h
 have b:L9 e ev x=AmA x.Op (BV e.M (B6 e (CL e ev x.A).1).Shape).Room (B6 e (CL e ev x.A).1).Queue.length:=by unfold L9;rw[h0]<;>rfl
 rw[b];have c:=QB a (ApY h0);generalize (CL e ev x.A).1=n at c;rw[AK (by omega) (by omega)];have f:=a.chan (Av (d:=default) (show(n - 1).toNat<e.S.Chans.length by omega));have hs:=(Fa f).1;refine⟨by omega,hs,fun h1=>AU (it (by simpa using h1) rfl),fun h1=>⟨fun h2=>⟨_,Dt,AU (ie (by simpa using h1) (it (by simpa using h2) rfl))⟩,fun h2=>⟨fun h3=>⟨_,Dt,AU (ie (by simpa using h1) (ie (by simpa using h2) (it (by simpa using h3) rfl)))⟩,fun h3=>⟨fun h4=>⟨_,Dt,AU (ie (by simpa using h1) (ie (by simpa using h2) (ie (by simpa using h3) (it (by simpa using h4) ?_))))⟩,fun h4=>⟨_,Dt,AU (ie (by simpa using h1) (ie (by simpa using h2) (ie (by simpa using h3) (ie (by simpa using h4) ?_))))⟩⟩⟩⟩⟩
 ·rw[ieq]<;>rfl
 ·rfl
theorem XA {e:D.Env}{ev:Evl}{x:D.Expr}(h:EvS e x.A (ev x.A))(a:Len x.Args.length):Aj Tryz.prog 164 [] [.tp (Ae e),.agg (Az x)] [] (vII (Gj e ev x)):=by
 refine Aq Tryz.func164 (AaM _ _ e x) ⟨ev x.A,h,fun h=>AU (ct (by simpa using h) rfl),fun h=>?_⟩;have h0:decide ((ev x.A).2≠0)=false:=by simpa using h
 have b:Gj e ev x=bif decide ((ev x.A).1<0)||(decide ((e.S.Procs.length:Int)<=(ev x.A).1)||(decide (x.Op=38)&&decide ((De e (ev x.A).1).Type_≠x.N))) then(0,52)
   else bif decide (x.Op=37) then((De e (ev x.A).1).Loc,0) else CW (decide ((De e (ev x.A).1).Loc∈x.Args)):=by unfold Gj;rw[h0]<;>rfl
 rw[b];generalize (ev x.A).1=n;refine⟨fun h1=>?_,fun h1=>?_,fun h1=>⟨fun h2=>⟨?_,AU (cf ?_ (ct (by simpa using h2) rfl))⟩,fun h2=>⟨?_,_,S6 a,_,Dt,AU (cf ?_ (cf (by simpa using h2) rfl))⟩⟩⟩
 ·simp at h1;omega
 ·simp only[Br,Bh,ieq,AT,AqM,AqN]at h1;exact AU (ct h1 rfl)
 ·simp at h1;omega
 ·grind
 ·simp at h1;omega
 ·simp only[Br,Bh,ieq,AT,AqM,AqN]at h1;exact h1
theorem Mu {e:D.Env}{a:Int}{p:Int × Int}(h:EvS e a p):Aj Tryz.prog 188 [] [Aa a,.tp [.tp (Ae e)]] [] (vII p) :=
 Aq Tryz.func188 (AgH _ _ e a) ⟨p,h,AU rfl⟩
theorem R1 {e:D.Env}{ev:Evl}{x:D.Expr}(h:EvS e x.A (ev x.A))(hB:EvS e x.B (ev x.B))(b:x.Op=24->EvS e x.C (ev x.C)):Aj Tryz.prog 159 [] [.tp (Ae e),.agg (Az x)] [] (vII (Jw ev x)):=by
 refine Aq Tryz.func159 (AgJ _ _ e x rfl rfl) ⟨ev x.A,h,fun h=>AU (ct (by simpa using h) rfl),fun h=>?_⟩;have h0:decide ((ev x.A).2≠0)=false:=by simpa using h
 have c:Jw ev x=bif decide (x.Op=24) then(bif decide ((ev x.A).1≠0) then ev x.B else ev x.C)
   else bif (decide (x.Op=22)&&decide ((ev x.A).1=0))||(decide (x.Op=23)&&decide ((ev x.A).1≠0)) then CW (decide ((ev x.A).1≠0))
   else bif decide ((ev x.B).2≠0) then(0,(ev x.B).2) else CW (decide ((ev x.B).1≠0)):=by unfold Jw;rw[h0]<;>rfl
 rw[c];generalize (ev x.A).1=n;refine⟨fun h1=>⟨_,Mu hB,?_⟩,fun h1=>⟨fun h2=>⟨_,Mu (b (by simpa using h2)),?_⟩,fun h2=>⟨fun h3=>⟨_,Dt,?_⟩,fun h3=>⟨_,Mu hB,fun h4=>?_,fun h4=>⟨_,Dt,?_⟩⟩⟩⟩⟩
 ·simp only[Bh,ieq,AT,Apv]at h1;exact AU (ct h1.1 (ct h1.2 rfl))
 ·have a:decide (x.Op=24)=true:=by simpa using h2
  simp only[Bh,ieq,AT,a,Ap7]at h1;exact AU (ct a (cf h1 rfl))
 ·have a:decide (x.Op=24)=false:=by simpa using h2
  simp only[Bh,Br,ieq,AT]at h3;rw[AT];exact AU (cf a (ct h3 rfl))
 ·have a:decide (x.Op=24)=false:=by simpa using h2
  simp only[Bh,Br,ieq,AT]at h3;exact AU (by grind)
 ·have a:decide (x.Op=24)=false:=by simpa using h2
  simp only[Bh,Br,ieq,AT]at h3;rw[AT];exact AU (by grind)
theorem Agy {op a:Int}:Aj Tryz.prog 191 [] [Aa op,Aa a] [] (vII (Mr op a,Vo op)):=by
 refine Aj.hand ⟨_,Tryz.func191,rfl,by kernel_rfl⟩ fun w E vs d f _ _ hs=>?_
 obtain⟨g,us1,rfl,b,hs⟩:=hs.cons_inv;obtain⟨h,us2,rfl,c,hs⟩:=hs.cons_inv;obtain rfl:=hs.nil_inv;rw[b.sc_inv,c.sc_inv];refine(Api op a w).mono ?_;rintro e w' ⟨rfl,rfl⟩;exact⟨_,rfl,UN .sc .sc,Below.refl _ _⟩
theorem AeG {op a b:Int}:Aj Tryz.prog 192 [] [Aa op,Aa a,Aa b] [] (vII (D6 op a b,FX op b)):=by
 refine Aj.hand ⟨_,Tryz.func192,rfl,by kernel_rfl⟩ fun w E vs g h _ _ hs=>?_
 obtain⟨i,us1,rfl,c,hs⟩:=hs.cons_inv;obtain⟨j,us2,rfl,d,hs⟩:=hs.cons_inv;obtain⟨k,us3,rfl,f,hs⟩:=hs.cons_inv;obtain rfl:=hs.nil_inv;rw[c.sc_inv,d.sc_inv,f.sc_inv];refine(Aph op a b w).mono ?_;rintro e w' ⟨rfl,rfl⟩;exact⟨_,rfl,UN .sc .sc,Below.refl _ _⟩
theorem Tq {e:D.Env}{ev:Evl}{x:D.Expr}(h:EvS e x.A (ev x.A))(hB:¬ (x.Op=3∨x.Op=4∨x.Op=5)->EvS e x.B (ev x.B)):Aj Tryz.prog 165 [] [.tp (Ae e),.agg (Az x)] [] (vII (Q8 ev x)):=by
 refine Aq Tryz.func165 (Aie _ _ e x) ⟨ev x.A,h,fun h=>AU (ct (by simpa using h) rfl),fun h=>?_⟩;have h0:decide ((ev x.A).2≠0)=false:=by simpa using h
 have a:Q8 ev x=bif decide (x.Op=3)||(decide (x.Op=4)||decide (x.Op=5)) then(Mr x.Op (ev x.A).1,Vo x.Op)
   else bif decide ((ev x.B).2≠0) then(0,(ev x.B).2) else(D6 x.Op (ev x.A).1 (ev x.B).1,FX x.Op (ev x.B).1):=by unfold Q8;rw[h0]<;>rfl
 rw[a];generalize (ev x.A).1=n;refine⟨fun h1=>⟨_,Agy,AU (ct ?_ rfl)⟩,fun h1=>⟨ev x.B,hB ?_,fun h2=>AU (cf ?_ (ct (by simpa using h2) rfl)),fun h2=>⟨_,AeG,AU (cf ?_ (cf (by simpa using h2) rfl))⟩⟩⟩
 ·grind
 ·simp at h1;omega
 ·grind
 grind
theorem AgB {x l mt:List Int}(n:Len mt.length):Aj Tryz.prog 200 [] [Ad true x,Ad false l,Ad true mt] [] (Ac (Dv x l mt)):=by
 unfold Len at n;refine Aq Tryz.func200 (AjM _ x l mt) ⟨fun h=>Aw ?_,fun h=>?_⟩
 ·symm;unfold Dv;rw[Br]at h;rw[Aqn];intro o;simp only[Apv,ApB]at o;simp at h;omega
 ·have g:mt.length<=x.length/\mt.length<=l.length:=by simp at h;omega
  have p:Dv x l mt=Cu mt.length fun i=>!(decide (mt.getD i 0=1)&&decide (x.getD i 0≠l.getD i 0)):=by
   unfold Dv;rw[Aqb g.1,Aqb g.2]<;>rfl
  rw[p];refine As mt.length (fun k=>U1 x l mt k) (fun k=>∀ i,i<k->(!(decide (mt.getD i 0=1)&&decide (x.getD i 0≠l.getD i 0)))=true) (fun i hi=>by omega) ?_;intro k q j J next
  refine ApI (AgC _ x l mt k J) ⟨fun c=>?_,fun d=>Aw ?_⟩
  ·have a:k<mt.length:=by have:=AL c;omega
   have e:(k:Int).toNat=k:=by omega
   rw[e];refine⟨by omega,fun _=>by omega,fun _=>by omega,fun b=>Aw ?_,fun b=>next _ a (BO j ?_) (Up.of ?_)⟩
   ·simp only[Bh,ieq,AT]at b;exact(BG (f:=fun i=>!(decide (mt.getD i 0=1)&&decide (x.getD i 0≠l.getD i 0))) a (by rw[b]<;>rfl)).symm
   ·simp only[Bh,ieq,AT]at b;rw[b]<;>rfl
   ·rw[Al (by omega)]<;>rfl
  ·have m:mt.length<=k:=by have:=AP d;omega
   exact(AO.2 fun i hi=>j i (by omega)).symm
theorem Sd {l mt:List Int}{any:Bool}{k:Nat}{x:List Int}{q:List (List Int)}:N4 l mt any k (x::q)=bif Dv x l mt then(k:Int) else bif any then N4 l mt any (k+1) q else -1:=rfl
theorem Ul {c:D.Chan}{l mt:List Int}{any:Bool}(m:Len c.Queue.length)(n:Len mt.length):Aj Tryz.prog 177 [] [.agg (AM c),Ad false l,Ad true mt,Ac any] [] (Aa (Gy c l mt any)):=by
 unfold Len at m;refine Aq Tryz.func177 (Akk _ c l mt any) ?_;unfold Gy;refine As c.Queue.length (fun k=>U2 c l mt any k) (fun k=>N4 l mt any 0 c.Queue=N4 l mt any k (c.Queue.drop k)) rfl ?_;intro k o b J next
 refine ApI (Ahb _ c l mt any k J) ⟨fun g=>?_,fun h=>BK ?_⟩
 ·have a:k<c.Queue.length:=by have:=AL g;omega
  have i:(k:Int).toNat=k:=by omega
  rw[i];rw[Bs (d:=[]) a,Sd]at b;refine⟨by omega,_,AgB n,fun f=>BK ?_,fun f=>⟨fun j=>BK ?_,fun j=>next _ a ?_ (Up.of ?_)⟩⟩
  ·rw[b,f,Apy]
  ·rw[b,f,Apw,show any=false by simpa using j,Apw]
  ·rw[b,f,Apw,show any=true by simpa using j,Apy]
  ·rw[Al (by omega)]<;>rfl
 ·have e:c.Queue.length<=k:=by have:=AP h;omega
  rw[b,Ap2 e]<;>rfl
theorem I1 {f:Nat->Int}:∀ {n:Nat},(∀ i,i<n->f i=0)->Ace n f=0
 | 0,_=>rfl
 | n+1,h=>by
  unfold Ace;rw[I1 fun i hi=>h i (by omega),h n (by omega)]<;>rfl
theorem N6 {f:Nat->Int}{k:Nat}(h:∀ i,i<k->f i=0)(b:f k≠0):∀ {n:Nat},k<n->Ace n f=f k
 | 0,hk=>by omega
 | n+1,hk=>by
  unfold Ace
  by_cases a:k=n
  ·subst a;rw[I1 h]<;>rfl
  ·rw[N6 h b (n:=n) (by omega),Aqb b,Apy]
def Cm (ev:Evl)(args mt:List Int)(k:Nat):List Int:=(List.range args.length).map fun i=>if i<k then(C2 ev (args.getD i 0) (mt.getD i 0)).1 else 0
theorem CQ {ev:Evl}{args mt:List Int}{k:Nat}:(Cm ev args mt k).length=args.length:=by simp[Cm]
theorem FW {ev:Evl}{args mt:List Int}{k i:Nat}(hi:i<args.length):(Cm ev args mt k).getD i 0=if i<k then(C2 ev (args.getD i 0) (mt.getD i 0)).1 else 0:=by
 simp[Cm,List.getD,hi]
theorem QR {ev:Evl}{args mt:List Int}:Cm ev args mt args.length=CV ev args mt:=by
 unfold Cm CV;apply Arf;intro i hi;rw[Aqc (Aqo.1 hi)]
theorem Ago {e:D.Env}{ev:Evl}{x:D.Expr}(t:BF e)(h:EvS e x.A (ev x.A))(I:∀ a∈x.Args,EvS e a (ev a))(O:x.Args.length<=8)(P:x.Match.length=x.Args.length):Aj Tryz.prog 161 [] [.tp (Ae e),.agg (Az x)] [] (vII (L3 e ev x)):=by
 refine Aq Tryz.func161 (AjB _ _ e x) ⟨CL e ev x.A,Mb h,fun h=>AU (ct (by simpa using h) rfl),fun h=>?_⟩;have h0:decide ((CL e ev x.A).2≠0)=false:=by simpa using h
 have p:L3 e ev x=bif decide ((BV e.M (B6 e (CL e ev x.A).1).Shape).Fields.length≠x.Args.length) then(0,49)
   else bif decide (C7 ev x.Args x.Match x.Args.length≠0) then(0,C7 ev x.Args x.Match x.Args.length)
   else CW (decide (0<=Gy (B6 e (CL e ev x.A).1) (CV ev x.Args x.Match) x.Match (decide (x.N=1)))):=by unfold L3;rw[h0]<;>rfl
 rw[p];have J:=QB t (ApY h0);generalize (CL e ev x.A).1=n at J;rw[AK (by omega) (by omega)];have r:=Av (d:=default) (show(n - 1).toNat<e.S.Chans.length by omega);have H:=t.chan r;have hs:=(Fa H).1;have u:=(t.fit.q _ r).1;refine⟨by omega,hs,fun h1=>AU (ct ?_ rfl),fun h1=>⟨by omega,?_⟩⟩
 ·rw[AT]at h1;have:=ApK h1;rw[ApB];intro v;apply this;have w:(e.M.Shapes.getD (e.S.Chans.getD (n - 1).toNat default).Shape.toNat default).Fields.length=x.Args.length:=v;rw[w]
 have y:decide ((BV e.M (B6 e n).Shape).Fields.length≠x.Args.length)=false:=by
  rw[AT]at h1;have:=ApY h1;rw[ApW];intro v;apply this;intro h2;apply v;exact Int.ofNat.inj h2
 rw[y,Apw];have g:e.S.Chans.getD (n - 1).toNat default=B6 e n:=rfl;clear p h1 hs H;generalize B6 e n=c at g;have K:c.Queue.length<=16:=by rw[← g];exact u
 refine Ar (fun gg st=>∃ k:Nat,k<=x.Args.length/\gg=x.Args.length - k/\(∀ i,i<k->(C2 ev (x.Args.getD i 0) (x.Match.getD i 0)).2=0)/\st=Aab e x c (Cm ev x.Args x.Match k) k)
  ⟨x.Args.length,Up.mk (l':=[(0,.tp (Ae e)),(3,.bp 0 0),(8,.bp 1 0),(9,.ow 2 0 (Cm ev x.Args x.Match 0).length),(51,Ad true x.Args),(52,Aa x.Args.length),(53,Aa ((0:Nat):Int))])
   (hs':=[.box (Az x),.box (AM c),.arr true 0 (Cm ev x.Args x.Match 0).length 1 (AJ (Cm ev x.Args x.Match 0))]) ?_ ?_ ⟨0,ApD _,rfl,fun i hi=>by omega,rfl⟩⟩ ?_
 ·rw[CQ];exact AS _
 ·rw[CQ];refine⟨Ob.le_refl _,by rw[← g];exact Ob.le_refl _,Ap6 fun i hi=>AV ?_,trivial⟩;have o:AJ (Cm ev x.Args x.Match 0) i=[Aa 0]:=by
   unfold AJ;rw[FW (by omega),ApT (AqZ _)]
  refine Eq.trans ?_ o.symm;rfl
 ·rintro gg st ⟨k,Q,rfl,s,rfl⟩;refine ApI (Agp _ _ e x c _ k _) ⟨fun z=>?_,fun B=>?_⟩
  ·have j:k<x.Args.length:=by have:=AL z;omega
   have C:(k:Int).toNat=k:=by omega
   rw[C];refine⟨by omega,by omega,fun l=>?_,fun l=>⟨ev (x.Args.getD k 0),I _ (Av j),by rw[CQ];omega,fun o=>AU ?_,fun o=>?_⟩⟩
   ·rw[AT]at l;have h1:=ApK l;have hv:C2 ev (x.Args.getD k 0) (x.Match.getD k 0)=(0,0):=by unfold C2;rw[Ap9 h1]<;>rfl
    have L:Cm ev x.Args x.Match k=Cm ev x.Args x.Match (k+1):=by
     unfold Cm;apply Arf;intro i _
     by_cases E:i=k
     ·subst E;rw[ApT (Arz _),Aqc (Aqx _),hv]
     ·by_cases b:i<k
      ·rw[Aqc b,Aqc (by omega)]
      ·rw[ApT b,ApT (by omega)]
    rw[L,Al (by omega)];exact⟨x.Args.length - (k+1),by omega,Up.of ⟨k+1,by omega,rfl,BO s (by rw[hv]),rfl⟩⟩
   ·have m:decide (x.Match.getD k 0=1)=true:=by rw[AT]at l;simpa using l
    have hv:C2 ev (x.Args.getD k 0) (x.Match.getD k 0)=ev (x.Args.getD k 0):=by unfold C2;rw[m]<;>rfl
    have F:(C2 ev (x.Args.getD k 0) (x.Match.getD k 0)).2≠0:=by rw[hv];simpa using o
    have G:C7 ev x.Args x.Match x.Args.length=(ev (x.Args.getD k 0)).2:=by
     unfold C7;rw[N6 (f:=fun i=>(C2 ev (x.Args.getD i 0) (x.Match.getD i 0)).2) s F j,hv]
    rw[G];exact ct (by simpa using o) rfl
   ·have m:decide (x.Match.getD k 0=1)=true:=by rw[AT]at l;simpa using l
    have hv:C2 ev (x.Args.getD k 0) (x.Match.getD k 0)=ev (x.Args.getD k 0):=by unfold C2;rw[m]<;>rfl
    have h2:(ev (x.Args.getD k 0)).2=0:=by simpa using o
    rw[Al (by omega)];refine⟨x.Args.length - (k+1),by omega,Up.mk (l':=[(0,.tp (Ae e)),(3,.bp 0 0),(8,.bp 1 0),(9,.ow 2 0 (Cm ev x.Args x.Match (k+1)).length),(51,Ad true x.Args),(52,Aa x.Args.length),(53,Aa ((k+1:Nat):Int))])
     (hs':=[.box (Az x),.box (AM c),.arr true 0 (Cm ev x.Args x.Match (k+1)).length 1 (AJ (Cm ev x.Args x.Match (k+1)))]) ?_ ?_ ⟨k+1,by omega,rfl,BO s (by rw[hv];exact h2),rfl⟩⟩
    ·rw[CQ,CQ];exact AS _
    ·rw[CQ,CQ];refine⟨Ob.le_refl _,Ob.le_refl _,Ap6 fun i hi=>AV ?_,trivial⟩;show(bif i.beq k then[Aa (ev (x.Args.getD k 0)).1] else[Aa ((Cm ev x.Args x.Match k).getD i 0)])=[Aa ((Cm ev x.Args x.Match (k+1)).getD i 0)];rw[FW hi,FW hi];cases p:i.beq k with
     | true =>
      have:=ApA p;subst this;rw[Apy,Aqc (Aqx _),hv]
     | false =>
      have:i≠k:=Nat.ne_of_beq_eq_false p;rw[Apw]
      by_cases b:i<k
      ·rw[Aqc b,Aqc (by omega)]
      ·rw[ApT b,ApT (by omega)]
  ·obtain rfl:k=x.Args.length:=by have:=AP B;omega
   have G:C7 ev x.Args x.Match x.Args.length=0:=I1 s;rw[G,QR];refine⟨_,Ul (by unfold Len;omega) (by unfold Len;omega),_,Dt,AU (cf rfl ?_)⟩;rw[ieq]
theorem Yw {e:D.Env}{ev:Evl}{v:D.Var}(a:BF e)(hv:Jd v)(b:¬ (v.Scope=0∨v.Scope=1)->EvS e v.Who (ev v.Who)):Aj Tryz.prog 187 [] [.tp (Ae e),.agg (Bz v)] [] (vII (C5 e ev v)):=by
 have hp:=a.pid;refine Aq Tryz.func187 (AbY _ _ e v rfl rfl) ⟨fun h=>⟨_,Hv hv,fun h1=>AU ?_,fun h1=>AU ?_⟩,fun h=>⟨fun h1=>⟨_,fun _=>Hv hv,fun h2=>?_,fun h2=>AU ?_,fun h2=>AU ?_⟩,fun h1=>⟨_,b ?_,fun h2=>AU ?_,fun h2=>⟨fun h3=>?_,fun h3=>AU ?_,fun h3=>⟨_,Hv hv,?_,fun h4=>AU ?_,fun h4=>AU ?_⟩⟩⟩⟩⟩
 ·exact ct (by simpa using h) (ct h1 rfl)
 ·exact ct (by simpa using h) (cf h1 rfl)
 ·simp at h2;omega
 ·exact cf (by simpa using h) (ct (by simpa using h1) (ct (by rw[Br]at h2;exact h2) rfl))
 ·exact cf (by simpa using h) (ct (by simpa using h1) (cf (by rw[Br]at h2;exact h2) rfl))
 ·simp at h h1;omega
 ·exact cf (by simpa using h) (cf (by simpa using h1) (ct (by simpa using h2) rfl))
 ·simp at h3;omega
 ·refine cf (by simpa using h) (cf (by simpa using h1) (cf (by simpa using h2) (ct ?_ rfl)));simp only[Br,AT,AqM,AqN]at h3;exact h3
 ·simp at h3;omega
 ·refine cf (by simpa using h) (cf (by simpa using h1) (cf (by simpa using h2) (cf ?_ (ct h4 rfl))));simp only[Br,AT,AqM,AqN]at h3;exact h3
 ·refine cf (by simpa using h) (cf (by simpa using h1) (cf (by simpa using h2) (cf ?_ (cf h4 rfl))));simp only[Br,AT,AqM,AqN]at h3;exact h3
theorem ME {ev:Evl}{n:Int}{d:D.Dim}{l:List D.Dim}:DM ev n (d::l)=bif decide ((ev d.I).2≠0) then(0,(ev d.I).2) else bif decide ((ev d.I).1<0)||decide (d.Len<=(ev d.I).1) then(0,47) else DM ev (n+(ev d.I).1*d.Stride) l:=rfl
structure AdX (d:D.Dim):Prop where
 l1:1<=d.Len
 l2:d.Len<=128
 s1:0<=d.Stride
 s2:d.Stride<=128
theorem AbL {i s n:Int}(h0:0<=i)(h1:i<n)(h2:n<=128)(d:0<=s)(s1:s<=128):0<=i*s/\i*s<=(n - 1)*s/\(n - 1)*s<=16384:=by
 have a:=Int.mul_nonneg h0 d;have b:=Int.mul_le_mul_of_nonneg_right (show i<=n - 1 by omega) d;have c:=Int.mul_le_mul (show n - 1<=128 by omega) s1 d (by omega);omega
theorem Ae4 {e:D.Env}{ev:Evl}{x:Int}(w:BF e)(u:0<=x/\x<e.M.Exprs.length)(hv:Jd (Ao e.M x).V)(o:(Ao e.M x).Op=2->¬ ((Ao e.M x).V.Scope=0∨(Ao e.M x).V.Scope=1)->EvS e (Ao e.M x).V.Who (ev (Ao e.M x).V.Who))
  (hs:(Ao e.M x).Op=2->0<=(Ao e.M x).V.Slot/\(Ao e.M x).V.Slot<=128/\(Ao e.M x).V.Dims.length<=4) (hd:(Ao e.M x).Op=2->∀ d∈(Ao e.M x).V.Dims,AdX d/\EvS e d.I (ev d.I)):Aj Tryz.prog 158 [] [.tp (Ae e),Aa x] [] (Kd (BP e ev (Ao e.M x))):=by
 refine Aq Tryz.func158 (Aiz _ _ _ e x rfl rfl) ⟨u,u,fun h=>FS (ct (by simpa[Ao] using h) rfl),fun h=>?_⟩;have h0:(Ao e.M x).Op=2:=by simpa[Ao] using h
 change ∃ y:Int × Int,Aj Tryz.prog 187 [] [.tp (Ae e),.agg (Bz (Ao e.M x).V)] [] (vII y)/\_
 replace o:=o h0
 replace hs:=hs h0
 replace hd:=hd h0
 have v:BP e ev (Ao e.M x)=bif decide ((C5 e ev (Ao e.M x).V).2≠0) then(0,0,(C5 e ev (Ao e.M x).V).2)
   else bif decide ((DM ev (Ao e.M x).V.Slot (Ao e.M x).V.Dims).2≠0) then(0,0,(DM ev (Ao e.M x).V.Slot (Ao e.M x).V.Dims).2) else((C5 e ev (Ao e.M x).V).1,(DM ev (Ao e.M x).V.Slot (Ao e.M x).V.Dims).1,0):=by
  unfold BP;rw[Ap9 (by rw[h0];simp)];rfl
 rw[v];refine⟨_,Yw w hv o,fun h1=>FS (ct (by simpa using h1) rfl),fun h1=>?_⟩;have j:decide ((C5 e ev (Ao e.M x).V).2≠0)=false:=by simpa using h1
 rw[j,Apw];generalize (C5 e ev (Ao e.M x).V).1=who;have l:=hs.1;have f:=hs.2;change Ax _ [1,1,1,1,1,1,0,1,0] (Rh e (Ao e.M x).V.Dims who (Ao e.M x).V.Slot 0);clear v o hv h h1 j hs;generalize (Ao e.M x).V.Dims=ds at hd f ⊢;generalize (Ao e.M x).V.Slot=sl at l f ⊢;generalize z:DM ev sl ds=R;refine Ar (fun gg st=>∃ (k:Nat) (n:Int),k<=ds.length/\gg=ds.length - k/\0<=n/\n<=128+16384*k/\DM ev n (ds.drop k)=R/\st=Rh e ds who n k)
  ⟨ds.length,Up.of ⟨0,sl,ApD _,rfl,l,by omega,z,rfl⟩⟩ ?_
 rintro gg st ⟨k,n,E,rfl,A,B,b,rfl⟩;refine ApI (Ae5 _ _ _ e x ds who n k _ rfl rfl) ⟨fun q=>?_,fun r=>?_⟩
 ·have g:k<ds.length:=by have:=AL q;omega
  have t:(k:Int).toNat=k:=by omega
  rw[t];obtain⟨p,m⟩:=hd _ (Av (d:=default) g);rw[Bs (d:=default) g,ME]at b;generalize ds.getD k default=d at p m b ⊢;refine⟨by omega,_,m,fun h2=>FS ?_,fun h2=>⟨fun h3=>FS ?_,fun h3=>?_⟩⟩
  ·have a:decide ((ev d.I).2≠0)=true:=by simpa using h2
   rw[a,Apy]at b;subst b;exact ct a rfl
  ·have a:decide ((ev d.I).2≠0)=false:=by simpa using h2
   rw[Br]at h3;rw[a,Apw]at b;have c:(decide ((ev d.I).1<0)||decide (d.Len<=(ev d.I).1))=true:=h3;rw[c,Apy]at b;subst b;exact ct rfl rfl
  ·have a:decide ((ev d.I).2≠0)=false:=by simpa using h2
   rw[Br]at h3;have c:(decide ((ev d.I).1<0)||decide (d.Len<=(ev d.I).1))=false:=h3;rw[a,Apw,c,Apw]at b;simp only[ApN,ApW]at c;have F:=AbL (i:=(ev d.I).1) (s:=d.Stride) (n:=d.Len) (by omega) (by omega) p.l2 p.s1 p.s2;have C:k<4:=by omega
   rw[AK (n:=(ev d.I).1*d.Stride) (by omega) (by omega),AK (by omega) (by omega),Al (by omega)];exact⟨ds.length - (k+1),by omega,Up.of ⟨k+1,n+(ev d.I).1*d.Stride,by omega,rfl,by omega,by omega,b,rfl⟩⟩
 ·obtain rfl:k=ds.length:=by have:=AP r;omega
  rw[Aq9]at b;subst b;exact FS (cf rfl rfl)
theorem SY {e:D.Env}(j:BF e):Aj Tryz.prog 163 [] [.tp (Ae e)] [] (Ac (F4 e)):=by
 have n:=j.fit.p;refine Aq Tryz.func163 (Vg _ e) ?_;refine As e.S.Procs.length (fun k=>U0 e k) (fun k=>∀ i,i<k->(!((FD e.M (e.S.Procs.getD i default).Type_).getD (e.S.Procs.getD i default).Loc.toNat default).Progress)=true) (fun i hi=>by omega) ?_;intro k q o J next
 refine ApI (SZ _ e k J rfl) ⟨fun b=>?_,fun c=>Aw ?_⟩
 ·have a:k<e.S.Procs.length:=by have:=AL b;omega
  have g:(k:Int).toNat=k:=by omega
  rw[g];have l:=Eb (j.proc (Av (d:=default) a));refine⟨by omega,l.1,l.2.1,fun h=>Aw ?_,fun h=>next _ a (BO o ?_) (Up.of ?_)⟩
  ·unfold F4;rw[BG (f:=fun i=>!((FD e.M (e.S.Procs.getD i default).Type_).getD (e.S.Procs.getD i default).Loc.toNat default).Progress) a (by show(!_)=false;unfold FD;rw[h]<;>rfl)];rfl
  ·show(!_)=true;unfold FD;rw[h]<;>rfl
  grind [Al]
 ·have m:e.S.Procs.length<=k:=by have:=AP c;omega
  unfold F4;grind [AO]
structure Ta (m:D.Model) (k:Int) (x:D.Expr):Prop where
 op:1<=x.Op/\x.Op<=39
 a:1<=AZ x.Op->0<=x.A/\x.A<k
 b:2<=AZ x.Op->0<=x.B/\x.B<k
 c:3<=AZ x.Op->0<=x.C/\x.C<k
 num:x.Op=1->CO ⟨32,true⟩ x.N=true
 var:x.Op=2->Dn m k x.V=true
 poll:x.Op=30->B4 m k x.Args x.Match=true
theorem Vi {k op p:Int}{i:Nat}(h:EQ k op i p=true)(hi:i<AZ op):0<=p/\p<k:=by
 unfold EQ at h;simp_all [Aqb,CT]
theorem YM {m:D.Model}{k:Int}(h:Ep m k=true):Ta m k (Ao m k):=by
 unfold Ep at h;simp only[Apv,ApB]at h;obtain⟨⟨h1,⟨b,hB⟩,c⟩,h3⟩:=h;refine⟨h1,fun hi=>Vi b (by omega),fun hi=>Vi hB (by omega),fun hi=>Vi c (by omega),fun a=>?_,fun a=>?_,fun a=>?_⟩
 ·grind
 ·grind
 grind
theorem AgE {k:Int}{l:List Int}(h:Cr k l=true):∀ a∈l,0<=a/\a<k:=fun a b =>
 CT.1 ((CF (d:=0) (f:=fun a=>inP k a)).1 h a b)
structure AdV (m:D.Model) (k:Int) (v:D.Var):Prop where
 scope:0<=v.Scope/\v.Scope<=2
 slot:0<=v.Slot/\v.Slot<=128
 dims:v.Dims.length<=4
 who:v.Scope=2->0<=v.Who/\v.Who<k
 dim:∀ d∈v.Dims,AdX d/\0<=d.I/\d.I<k
theorem Je {m:D.Model}{k:Int}{v:D.Var}(h:Dn m k v=true):AdV m k v:=by
 unfold Dn at h;simp only[Apv,ApB]at h;obtain⟨⟨⟨⟨⟨⟨h1,h2⟩,h3⟩,h4⟩,h5⟩,h6⟩,h7⟩:=h;refine⟨⟨h1,h2⟩,⟨h3,h4⟩,h5,fun hs=>?_,fun d hd=>?_⟩
 ·simp_all [Aqb,CT]
 ·have:=(CF (d:=default) (f:=fun d=>N7 k d)).1 h7 d hd;unfold N7 at this;simp only[Apv,ApB]at this;obtain⟨⟨⟨⟨a,b⟩,c⟩,e⟩,g⟩:=this;have:=CT.1 a;exact⟨⟨b,c,e,g⟩,this⟩
theorem AdQ {ev:Evl}:∀ {l:List D.Dim} {n r k:Int},(∀ d∈l,AdX d)->0<=n->n<r->(DM ev n l).2=0->(DM ev n l).1=k->0<=k/\k<DX r l
 | [],n,r,k,_,h0,h1,_,b=>by subst b;exact⟨h0,h1⟩
 | d::l,n,r,k,hd,h0,h1,h2,b=>by
  have a:=hd d (ApF ..);rw[ME]at h2 b;cases e:decide ((ev d.I).2≠0) with
  | true=>grind
  | false =>
   rw[e,Apw]at h2 b;cases c:(decide ((ev d.I).1<0)||decide (d.Len<=(ev d.I).1)) with
   | true=>grind
   | false =>
    rw[c,Apw]at h2 b;simp only[ApN,ApW]at c;have f:=AbL (i:=(ev d.I).1) (s:=d.Stride) (n:=d.Len) (by omega) (by omega) a.l2 a.s1 a.s2;have:=AdQ (r:=r+(d.Len - 1)*d.Stride) (by grind) (by omega) (by omega) h2 b;have g:HM d=false:=by
     have:=a.l1;have:=a.l2;have:=a.s1;have:=a.s2;unfold HM;simp;omega
    show 0<=k/\k<DX r (d::l);unfold DX;grind
structure SN (e:D.Env) (who k:Int):Prop where
 glob:who<0->0<=k/\k<e.S.Globals.length
 own:0<=who->who<e.S.Procs.length/\0<=k/\k<(De e who).Frame.length
theorem AfP {m:D.Model}{k:Int}{v:D.Var}(h:AdV m k v):DC v=DX (v.Slot+1) v.Dims:=by
 have h1:=h.slot;have h2:=h.dims;unfold DC;grind
theorem Ql {e:D.Env}{ev:Evl}{x:D.Expr}{k:Int}(m:BF e)(hv:x.Op=2->AdV e.M k x.V)(h:(BP e ev x).2.2=0):SN e (BP e ev x).1 (BP e ev x).2.1:=by
 have b:=m.pid;unfold BP at h ⊢;cases i:decide (x.Op≠2) with
 | true=>grind
 | false =>
  rw[i,Apw]at h;rw[Apw];have hv:=hv (by simpa using i);have o:=AfP hv;cases a:decide ((C5 e ev x.V).2≠0) with
  | true=>grind
  | false =>
   rw[a,Apw]at h;rw[Apw];cases p:decide ((DM ev x.V.Slot x.V.Dims).2≠0) with
   | true=>grind
   | false =>
    rw[Apw];have hd:=AdQ (ev:=ev) (l:=x.V.Dims) (n:=x.V.Slot) (r:=x.V.Slot+1) (fun d hd=>(hv.dim d hd).1) hv.slot.1 (by omega) (by simpa using p) rfl;rw[← o]at hd;show SN e (C5 e ev x.V).1 (DM ev x.V.Slot x.V.Dims).1;generalize (DM ev x.V.Slot x.V.Dims).1=n at hd;unfold C5 at a ⊢;cases j:decide (x.V.Scope=0) with
    | true =>
     rw[j,Apy]at a;rw[Apy];cases c:decide ((e.S.Globals.length:Int)<DC x.V) with
     | true=>grind
     | false =>
      have:=ApY c;exact⟨fun _=>⟨hd.1,by omega⟩,fun h=>by simp at h⟩
    | false =>
     rw[j,Apw]at a;rw[Apw];cases c:decide (x.V.Scope=1) with
     | true =>
      rw[c,Apy]at a;rw[Apy];cases f:(decide (e.Pid<0)||decide (((De e e.Pid).Frame.length:Int)<DC x.V)) with
      | true=>grind
      | false =>
       simp only[ApN,ApW]at f;exact(show SN e e.Pid n from⟨fun h=>absurd h f.1,fun _=>⟨b.2,hd.1,by omega⟩⟩)
     | false =>
      rw[c,Apw]at a;rw[Apw];cases f:decide ((ev x.V.Who).2≠0) with
      | true=>grind
      | false =>
       rw[f,Apw]at a;rw[Apw];cases g:(decide ((ev x.V.Who).1<0)||(decide ((e.S.Procs.length:Int)<=(ev x.V.Who).1)||decide ((De e (ev x.V.Who).1).Type_≠x.V.Type_))) with
       | true=>grind
       | false =>
        rw[g,Apw]at a;rw[Apw];simp only[ApN,ApW]at g;cases q:decide (((De e (ev x.V.Who).1).Frame.length:Int)<DC x.V) with
        | true=>grind
        | false =>
         have:=ApY q;exact(show SN e (ev x.V.Who).1 n from⟨fun h=>absurd h g.1,fun _=>⟨by omega,hd.1,by omega⟩⟩)
theorem Il {m:D.Model}{k:Int}{a t:List Int}(h:B4 m k a t=true):a.length<=8/\t.length=a.length/\∀ x∈a,0<=x/\x<k:=by
 unfold B4 at h;simp only[Apv,ApB]at h;exact⟨h.1.1.1.2,h.1.1.2,AgE h.1.2⟩
theorem VR {m:D.Model}{x:Int}(a:0<=x/\x<m.Exprs.length):Ao m x∈m.Exprs:=Av (d:=default) (by omega)
theorem Y9 {e:D.Env}{x:Int}(a:BF e)(b:0<=x/\x<e.M.Exprs.length):Len (Ao e.M x).Args.length:=by
 have:=(a.wf.Exprs.2 _ (VR b)).Args.1;unfold Len;omega
theorem Ac4 {e:D.Env}{ev:Evl}{x:Int}(g:BF e)(h:0<=x/\x<e.M.Exprs.length)(b:Ta e.M x (Ao e.M x))(c:∀ a,0<=a->a<x->EvS e a (ev a)):Aj Tryz.prog 158 [] [.tp (Ae e),Aa x] [] (Kd (BP e ev (Ao e.M x))):=by
 refine Ae4 g h (g.wf.Exprs.2 _ (VR h)).V (fun f hs=>?_) (fun f=>?_) (fun f d hd=>?_)
 ·have hv:=Je (b.var f);have h1:=hv.scope;exact c _ (hv.who (by omega)).1 (hv.who (by omega)).2
 ·have hv:=Je (b.var f);exact⟨hv.slot.1,hv.slot.2,hv.dims⟩
 ·have hv:=Je (b.var f);exact⟨(hv.dim d hd).1,c _ (hv.dim d hd).2.1 (hv.dim d hd).2.2⟩
theorem AfO {e:D.Env}{ev:Evl}{x:Int}(g:BF e)(c:(e.M.Exprs.getD x.toNat default).Op=2)(d:Ta e.M x (Ao e.M x))(f:Aj Tryz.prog 158 [] [.tp (Ae e),Aa x] [] (Kd (BP e ev (Ao e.M x)))) :
  ∃ y:Int × Int × Int,Aj Tryz.prog 158 [] [.tp (Ae e),Aa x] [] (Kd y)/\((y.2.2 != 0)=true->leO [] []/\VV.le (.tup [.sc (.int .i64 0),.sc (.int .i64 y.2.2)]) (vII (Ck e ev (Ao e.M x))))/\((y.2.2 != 0)=false ->
   (decide (y.1<0)=true->(0<=y.2.1/\y.2.1<(e.S.Globals.length:Int))/\leO [] []/\VV.le (.tup [.sc (.int .i64 (e.S.Globals.getD y.2.1.toNat 0)),.sc (.int .i64 0)]) (vII (Ck e ev (Ao e.M x)))) /\
   (decide (y.1<0)=false->(0<=y.1/\y.1<(e.S.Procs.length:Int))/\(0<=y.2.1/\y.2.1<((e.S.Procs.getD y.1.toNat default).Frame.length:Int))/\leO [] []/\VV.le (.tup [.sc (.int .i64 ((e.S.Procs.getD y.1.toNat default).Frame.getD y.2.1.toNat 0)),.sc (.int .i64 0)]) (vII (Ck e ev (Ao e.M x))))):=by
 have a:(Ao e.M x).Op=2:=c;have i:Ck e ev (Ao e.M x)=XC e ev (Ao e.M x):=by unfold Ck;rw[a]<;>rfl
 rw[i];have b:=Ql (e:=e) (ev:=ev) g (fun j=>Je (d.var j));refine⟨BP e ev (Ao e.M x),f,fun h=>AU (ct (by simpa using h) rfl),fun h=>⟨fun h1=>?_,fun h1=>?_⟩⟩
 ·have h0:decide ((BP e ev (Ao e.M x)).2.2≠0)=false:=by simpa using h
  exact⟨(b (by simpa using h0)).glob (ApK h1),AU (cf h0 (ct h1 rfl))⟩
 ·have h0:decide ((BP e ev (Ao e.M x)).2.2≠0)=false:=by simpa using h
  have hi:=b (by simpa using h0);have:=ApY h1;exact⟨⟨by omega,(hi.own (by omega)).1⟩,(hi.own (by omega)).2,AU (cf h0 (cf h1 rfl))⟩
theorem AhF {e:D.Env}{ev:Evl}{x:Int}(b:(e.M.Exprs.getD x.toNat default).Op=36)(h:EvS e (Ao e.M x).A (ev (Ao e.M x).A)) :
  ∃ y:Int × Int,Aj Tryz.prog 124 [] [.tp (Ae e),Aa (Ao e.M x).A] [] (vII y)/\((y.2 != 0)=true->leO [] []/\VV.le (.tup [.sc (.int .i64 0),.sc (.int .i64 y.2)]) (vII (Ck e ev (Ao e.M x))))/\((y.2 != 0)=false ->
   ((true&&(bif decide (y.1>=0) then decide (y.1<(e.Able.length:Int)) else false)==true)=true->0<=y.1/\y.1<(e.Able.length:Int)) /\
   ∃ c:Int × Int,Aj Tryz.prog 162 [] [Ac (bif bif decide (y.1>=0) then decide (y.1<(e.Able.length:Int)) else false then e.Able.getD y.1.toNat false else false)] [] (vII c)/\leO [] []/\VV.le (vII c) (vII (Ck e ev (Ao e.M x)))):=by
 have a:(Ao e.M x).Op=36:=b;have d:Ck e ev (Ao e.M x)=PS e ev (Ao e.M x):=by unfold Ck;rw[a]<;>rfl
 rw[d];refine⟨_,h,fun h1=>AU (ct (by simpa using h1) rfl),fun h1=>⟨fun h2=>?_,_,Dt,AU (cf (by simpa using h1) ?_)⟩⟩
 ·simp at h2;omega
 grind
theorem Yb {o:Int}(h:1<=o/\o<=39):o=1∨o=2∨o=3∨o=4∨o=5∨o=6∨o=7∨o=8∨o=9∨o=10∨o=11∨o=12∨o=13∨o=14∨o=15∨o=16∨o=17∨o=18∨o=19∨o=20∨o=21∨o=22∨o=23∨o=24∨o=25∨o=26∨o=27∨o=28∨o=29∨o=30∨o=31∨o=32∨o=33∨o=34∨o=35∨o=36∨o=37∨o=38∨o=39:=by omega
set_option maxHeartbeats 4000000 in
theorem Uq {e:D.Env}{ev:Evl}{x:Int}(j:BF e)(l:0<=x/\x<e.M.Exprs.length)(g:∀ a,0<=a->a<x->EvS e a (ev a)):EvS e x (Ck e ev (Ao e.M x)):=by
 have m:((x.toNat:Nat):Int)=x:=by omega
 have f:Ta e.M x (Ao e.M x):=YM (by have:=j.expr x.toNat (by omega);rwa [m]at this);have n:=Ac4 j l f g;have i:1<=AZ (Ao e.M x).Op->EvS e (Ao e.M x).A (ev (Ao e.M x).A):=fun h=>g _ (f.a h).1 (f.a h).2
 have hB:2<=AZ (Ao e.M x).Op->EvS e (Ao e.M x).B (ev (Ao e.M x).B):=fun h=>g _ (f.b h).1 (f.b h).2
 have q:3<=AZ (Ao e.M x).Op->EvS e (Ao e.M x).C (ev (Ao e.M x).C):=fun h=>g _ (f.c h).1 (f.c h).2
 have r:=fun b=>DU (c:=B8 Tryz.prog tb DB D2 true Tryz.f124 [] (vII (Ck e ev (Ao e.M x)))) Ai Ak (by kernel_rfl) (Ahh _ _ e (Ao e.M x) b rfl)
 have s:=fun b=>DU (c:=B8 Tryz.prog tb DB D2 true Tryz.f124 [] (vII (Ck e ev (Ao e.M x)))) Ai Ak (by kernel_rfl) (Ahg _ _ e (Ao e.M x) b rfl rfl rfl rfl)
 refine Aq Tryz.func124 (Ako _ _ e x rfl rfl) ⟨l,?_⟩;rcases Yb (o:=(Ao e.M x).Op) (by have:=f.op;omega) with d | d | d | d | d | d | d | d | d | d | d | d | d | d | d | d | d | d | d | d | d | d | d | d | d | d | d | d | d | d | d | d | d | d | d | d | d | d | d
 all_goals
  have k:(e.M.Exprs.getD x.toNat default).Op=_:=d
  repeat (first
   | refine⟨fun h=>absurd h (by (first | rw[k] | rw[d]);decide),fun _=>?_⟩
   | refine⟨fun _=>?_,(by grind)⟩
   | refine r _ ?_
   | refine s _ ?_)
  first
   | exact AU (by unfold Ck;rw[d]<;>rfl)
   | exact⟨_,Tq (i (by rw[d];decide)) (fun h=>absurd (by omega) h),AU (by unfold Ck;rw[d]<;>rfl)⟩
   | exact⟨_,Tq (i (by rw[d];decide)) (fun _=>hB (by rw[d];decide)),AU (by unfold Ck;rw[d]<;>rfl)⟩
   | exact⟨_,R1 (i (by rw[d];decide)) (hB (by rw[d];decide)) (fun h=>absurd h (by rw[d];decide)),AU (by unfold Ck;rw[d]<;>rfl)⟩
   | exact⟨_,R1 (i (by rw[d];decide)) (hB (by rw[d];decide)) (fun _=>q (by rw[d];decide)),AU (by unfold Ck;rw[d]<;>rfl)⟩
   | exact⟨_,AhB j (i (by rw[d];decide)),AU (by unfold Ck;rw[d]<;>rfl)⟩
   | exact⟨_,XA (i (by rw[d];decide)) (Y9 j l),AU (by unfold Ck;rw[d]<;>rfl)⟩
   | exact⟨_,Dt,AU (by unfold Ck;rw[d]<;>rfl)⟩
   | exact⟨_,SY j,_,Dt,AU (by unfold Ck;rw[d]<;>rfl)⟩
   | exact AfO j k f n
   | exact AhF k (i (by rw[d];decide))
   | exact⟨_,Ago j (i (by rw[d];decide)) (fun a p=>g _ ((Il (f.poll d)).2.2 a p).1 ((Il (f.poll d)).2.2 a p).2) (Il (f.poll d)).1 (Il (f.poll d)).2.1,AU (by unfold Ck;rw[d]<;>rfl)⟩
theorem MC {e:D.Env}(b:BF e):∀ (n:Nat) (x:Int),0<=x->x<e.M.Exprs.length->x<n->EvS e x (PN e n x)
 | 0,x,h0,_,h2=>by omega
 | n+1,x,h0,h1,h2=>Uq b ⟨h0,h1⟩ fun a c d=>MC b n a c (by omega) (by omega)
theorem Tr {e:D.Env}(b:BF e){x a:Int}(c:x<e.M.Exprs.length)(h0:0<=a)(h1:a<x):EvS e a (FP e a):=MC b _ a h0 (by omega) (by omega)
theorem Aca {e:D.Env}(a:BF e){x:Int}(b:0<=x/\x<e.M.Exprs.length):EvS e x (Ck e (FP e) (Ao e.M x)):=Uq a b fun _ h0 h1=>Tr a b.2 h0 h1
theorem EL {e:D.Env}(a:AG e.M)(hs:Bq e.S)(x:Int):Aj Tryz.prog 123 [] [.agg (Ae e),Aa x] [] (Aa (CE e x)):=by
 refine Aq Tryz.func123 (YL _ e x) ⟨_,Fv a hs (fun h=>(Ky h).clp),fun h=>BK (ct (by simpa using h) rfl),fun h=>⟨fun h1=>BK (cf (by simpa using h) (ct ?_ rfl)),fun h1=>BK (cf (by simpa using h) (cf ?_ rfl))⟩⟩
 ·simp only[Br,AqM,AqN]at h1;exact h1
 ·simp only[Br,AqM,AqN]at h1;exact h1
theorem JC {e:D.Env}{x:Int}(c:AG e.M)(h:CE e x=0):BF e/\0<=x/\x<e.M.Exprs.length:=by
 unfold CE at h;cases a:decide (Cb e.M e.S≠0) with
 | true=>rw[a,Apy]at h;exact absurd h (ApK a)
 | false =>
  rw[a,Apw]at h;obtain⟨h1,h2⟩:=MF (show Cb e.M e.S=0 by simpa using a);cases b:(decide (e.Pid < -1)||(decide ((e.S.Procs.length:Int)<=e.Pid)||(decide (x<0)||decide ((e.M.Exprs.length:Int)<=x)))) with
  | true=>rw[b,Apy]at h;simp at h
  | false =>
   simp only[ApN,ApW]at b;exact⟨⟨h2,h1,c,by omega,by omega⟩,by omega,by omega⟩
theorem JD {e:D.Env}(a:AG e.M)(hs:Bq e.S)(x:Int):Aj Tryz.prog 92 [] [.agg (Ae e),Aa x] [] (vII (Be e x)):=by
 refine Aq Tryz.func92 (Ahm _ _ e x) ⟨_,EL a hs x,fun h=>AU (ct (by simpa using h) rfl),fun h=>?_⟩;obtain⟨b,c⟩:=JC (x:=x) a (by simpa using h);exact⟨_,Aca b c,AU (cf (by simpa using h) rfl)⟩
theorem JE {e:D.Env}(b:AG e.M)(hs:Bq e.S)(x:Int):Aj Tryz.prog 170 [] [.agg (Ae e),Aa x] [] (vII (AB e x)):=by
 refine Aq Tryz.func170 (Ahn _ _ e x) ⟨_,EL b hs x,fun h=>AU (ct (by simpa using h) rfl),fun h=>?_⟩;obtain⟨c,a⟩:=JC (x:=x) b (by simpa using h);exact⟨_,Mb (MC c _ x a.1 a.2 a.2),AU (cf (by simpa using h) rfl)⟩
def B33 (n:Int):Prop:=-2147483648<=n/\n<=4294967295
def Q33 (t:Bool)(p:Int × Int):Prop:=p.2=0->B33 p.1/\(t=true->p.1=0∨p.1=1)
theorem Fz {t b:Bool}:Q33 t (CW b):=by cases b<;>simp[Q33,B33,CW]
theorem Ade {t:Bool}{a c:Int}(h:c≠0):Q33 t (a,c):=fun b=>absurd b h
theorem Ks {t:Bool}{a c:Int}(h:decide (c≠0)=true):Q33 t (a,c):=Ade (ApK h)
theorem FA {t c:Bool}{p q:Int × Int}(h1:c=true->Q33 t p)(h2:c=false->Q33 t q):Q33 t (bif c then p else q):=by
 cases c
 ·exact h2 rfl
 ·exact h1 rfl
theorem Gv {t:Bool}{c:Prop}[Decidable c]{p q:Int × Int}(h1:c->Q33 t p)(h2:¬ c->Q33 t q):Q33 t (if c then p else q):=by
 split
 ·rename_i h;exact h1 h
 ·rename_i h;exact h2 h
theorem PE {t:Bool}{a c:Int}(h:B33 a)(b:t=false):Q33 t (a,c):=fun _=>⟨h,fun h=>by rw[b]at h;cases h⟩
theorem Vc {t:Bool}{p:Int × Int}(h:Q33 t p):Q33 false p:=fun h0=>⟨(h h0).1,fun h=>by cases h⟩
theorem YB {t:D.Type}{v:Int}(h:CO t v=true):B33 v:=by
 unfold CO Ft at h;simp only[Apv,ApB]at h;obtain⟨⟨h1,h2,h3⟩,h4⟩:=h;have hp:=AbA t.Bits h1 h2;unfold B33;cases hs:t.Signed with
 | false=>rw[hs]at h4;simp at h4;omega
 | true =>
  rw[hs]at h3 h4;simp at h3 h4;rcases h3 with h3 | h3
  ·rw[h3]at h4;simp at h4;omega
  ·rw[h3]at h4;simp at h4;omega
theorem Q0 {t:List D.Type}{l:List Int}{k:Nat}(h:Bw t l=true)(a:k<l.length):B33 (l.getD k 0):=by
 unfold Bw at h;simp only[Apv,ApB]at h;exact YB (AO.1 h.2 k a)
theorem Vn {b:Bool}:Io b=0∨Io b=1:=by cases b<;>simp[Io]
def AmF (n:Int):Prop:=-2147483648<=n/\n<=2147483647
theorem Dy {c:Prop}[Decidable c]{a b:Int}(h1:AmF a)(h2:AmF b):AmF (if c then a else b):=by
 split
 ·exact h1
 ·exact h2
theorem Anb (op a b:Int):-2147483648<=D6 op a b/\D6 op a b<=2147483647:=by
 have c:∀ b:Bool,-2147483648<=Io b/\Io b<=2147483647:=fun b=>by rcases Vn (b:=b) with h | h<;>rw[h]<;>decide
 have d:(-2147483648:Int)<=0/\(0:Int)<=2147483647:=by decide
 show AmF (D6 op a b);unfold D6;exact Dy (Bu _) (Dy (Dy d (Bu _)) (Dy (Dy d (AcJ _ _ (Bu _).1 (Bu _).2)) (Dy (Bu _) (Dy (Bu _) (Dy (Ln _ _ (Bu _)) (Dy (Ln _ _ (Bu _)) (Dy (c _) (Dy (c _) (Dy (c _) (Dy (c _) (Dy (c _) (Dy (c _) (Dy (Fm .and (.inl rfl) _ _) (Dy (Fm .xor (.inr (.inr rfl)) _ _) (Dy (Fm .or (.inr (.inl rfl)) _ _) d)))))))))))))))
theorem AeF {op a b:Int}(h:13<=op/\op<=18):D6 op a b=0∨D6 op a b=1:=by
 obtain⟨h1,h2⟩:=h;have:op=13∨op=14∨op=15∨op=16∨op=17∨op=18:=by omega
 rcases this with rfl | rfl | rfl | rfl | rfl | rfl<;>exact Vn
theorem AlN (op a:Int):-2147483648<=Mr op a/\Mr op a<=2147483647:=by
 have c:=Bu a;unfold Mr;split
 ·exact Bu _
 split
 ·rcases Vn (b:=wrap32 a==0) with h | h<;>rw[h]<;>decide
 split
 ·omega
 ·decide
def K4 (op:Int):Bool:=decide (13<=op/\op<=18)||(decide (op=4)||(decide (op=22)||(decide (op=23)||(decide (26<=op/\op<=30)||(decide (op=34)||(decide (op=35)||(decide (op=36)||decide (op=38))))))))
section
variable {e : D.Env} {ev:Evl}
theorem Amx {op a b:Int}:B33 (D6 op a b):=by have:=Anb op a b;unfold B33;omega
theorem Amy {op a:Int}:B33 (Mr op a):=by have:=AlN op a;unfold B33;omega
theorem AnH {x:D.Expr}{t:Bool}(b:t=true->x.Op=4∨(13<=x.Op/\x.Op<=18)):Q33 t (Q8 ev x):=by
 unfold Q8;refine FA Ks fun _=>FA (fun h _=>⟨Amy,fun a=>?_⟩) fun h=>FA Ks fun _=>fun _=>⟨Amx,fun a=>?_⟩
 ·rcases b a with h4 | h4
  ·show Mr x.Op _=0∨Mr x.Op _=1;rw[h4];exact Vn
  ·simp at h;omega
 ·rcases b a with h4 | h4
  ·rw[h4]at h;simp at h
  ·exact AeF h4
theorem AlE {x:D.Expr}{t:Bool}(b:t=true->x.Op≠24)(hB:Q33 false (ev x.B))(c:x.Op=24->Q33 false (ev x.C)):Q33 t (Jw ev x):=by
 unfold Jw;refine FA Ks fun _=>FA (fun h=>?_) fun h=>FA (fun _=>Fz) fun _=>FA Ks fun _=>Fz
 have a:=ApK h;cases t with
 | true=>exact absurd a (b rfl)
 | false=>exact FA (fun _=>hB) fun _=>c a
theorem AkA (a:BF e)(n:Int):(B6 e n).Queue.length<=16:=by
 unfold B6
 by_cases h:(n - 1).toNat<e.S.Chans.length
 ·exact(a.fit.q _ (Av h)).1
 ·rw[List.getD,AqK (show e.S.Chans.length<=(n - 1).toNat by omega)];exact ApD _
theorem AnK {x:D.Expr}{t:Bool}(a:BF e)(b:t=true->x.Op≠25):Q33 t (L9 e ev x):=by
 have c:=AkA a (CL e ev x.A).1;unfold L9;refine FA Ks fun _=>?_
 unfold AmA;refine Gv (fun h=>?_) fun _=>Gv (fun _=>Fz) fun _=>Gv (fun _=>Fz) fun _=>Gv (fun _=>Fz) fun _=>Fz
 refine PE (by unfold B33;omega) ?_;cases t with
 | true=>exact absurd h (b rfl)
 | false=>rfl
theorem AnJ {x:D.Expr}{t:Bool}:Q33 t (L3 e ev x):=by
 unfold L3;exact FA Ks fun _=>FA (fun _=>Ade (by decide)) fun _=>FA Ks fun _=>Fz
theorem AnL {x:D.Expr}{t:Bool}:Q33 t (PS e ev x):=by
 unfold PS;exact FA Ks fun _=>Fz
theorem Ajt {x:D.Expr}{t:Bool}(a:BF e)(c:t=true->x.Op≠37):Q33 t (Gj e ev x):=by
 unfold Gj;refine FA Ks fun _=>FA (fun _=>Ade (by decide)) fun h2=>FA (fun h=>?_) fun _=>Fz
 simp only[ApN,ApW]at h2;have hp:=Eb (a.proc (p:=De e (ev x.A).1) (Av (d:=default) (show(ev x.A).1.toNat<e.S.Procs.length by omega)));have f:=(Ky a.may).locs _ hp.1.1 hp.1.2;have b:=hp.2.1;refine PE (by unfold B33;omega) ?_;cases t with
 | true=>exact absurd (ApK h) (c rfl)
 | false=>rfl
theorem AnI {x:D.Expr}{k:Int}(a:BF e)(hv:x.Op=2->AdV e.M k x.V):Q33 false (XC e ev x):=by
 unfold XC;refine FA Ks fun h=>?_
 have hs:=Ql a hv (by simpa using h);refine FA (fun h1=>?_) fun h1=>?_
 ·have:=hs.glob (ApK h1);exact PE (Q0 a.globals.2 (by omega)) rfl
 ·have h0:0<=(BP e ev x).1:=by have:=ApY h1;omega
  have:=hs.own h0;have hp:=Eb (a.proc (p:=De e (BP e ev x).1) (Av (d:=default) (show(BP e ev x).1.toNat<e.S.Procs.length by omega)));exact PE (Q0 hp.2.2.2.1 (by omega)) rfl
theorem YN {x:D.Expr}{k:Int}(b:BF e)(f:Ta e.M k x)(hB:2<=AZ x.Op->Q33 false (ev x.B))(i:3<=AZ x.Op->Q33 false (ev x.C))(s:0<=e.S.Last/\e.S.Last<16):Q33 (K4 x.Op) (Ck e ev x):=by
 have g:=b.pid;have j:=b.fit.p;have tt:∀ {o:Int},K4 o=true->(13<=o/\o<=18)∨o=4∨o=22∨o=23∨(26<=o/\o<=30)∨o=34∨o=35∨o=36∨o=38:=fun h=>by
  simpa only[K4,Aqv,ApB] using h
 unfold Ck;refine Gv (fun h=>PE (YB (f.num h)) (by rw[h]<;>rfl)) fun n1=>Gv (fun h=>?_) fun n2=>Gv (fun h=>?_) fun t=>Gv (fun h=>?_) fun u=>Gv (fun _=>AnJ) fun v =>
  Gv (fun h=>PE (by unfold B33;omega) (by rw[h]<;>rfl)) fun n6=>Gv (fun h=>PE (by unfold B33;omega) (by rw[h];rfl)) fun w=>Gv (fun h=>PE (by unfold B33;omega) (by rw[h];rfl)) fun y=>Gv (fun _=>Fz) fun z=>Gv (fun _=>Fz) fun l=>Gv (fun _=>AnL) fun m=>Gv (fun h=>?_) fun n=>Gv (fun _=>Ade (by decide)) fun q=>?_
 ·rw[show K4 x.Op=false by rw[h]<;>rfl];exact AnI b fun r=>Je (f.var r)
 ·refine AlE (fun a c=>by rw[c]at a;cases a) (hB ?_) fun d=>i (by rw[d];decide)
  rcases h with h | h | h<;>rw[h]<;>decide
 ·exact AnK b fun a c=>by rw[c]at a;cases a
 ·exact Ajt b fun a c=>by rw[c]at a;cases a
 ·refine AnH fun a=>?_
  have:=tt a;omega
end
theorem BF.last {e:D.Env}(h:BF e):0<=e.S.Last/\e.S.Last<16:=by
 have h:=h.fits;unfold C8 I0 at h;simp only[Apv,ApB]at h;exact⟨h.1.1.1.1.1.1.2,h.1.1.1.1.1.2⟩
theorem LD {e:D.Env}(d:BF e):∀ (n:Nat) (x:Int),0<=x->x<e.M.Exprs.length->x<n->Q33 (K4 (Ao e.M x).Op) (PN e n x)
 | 0,x,h0,_,h2=>by omega
 | n+1,x,h0,h1,h2=>by
  have f:((x.toNat:Nat):Int)=x:=by omega
  have a:Ta e.M x (Ao e.M x):=YM (by have:=d.expr x.toNat (by omega);rwa [f]at this);exact YN d a (fun h=>Vc (LD d n _ (a.b h).1 (by have:=a.b h;omega) (by have:=a.b h;omega))) (fun h=>Vc (LD d n _ (a.c h).1 (by have:=a.c h;omega) (by have:=a.c h;omega))) d.last
theorem Ahf {e:D.Env}(g:AG e.M)(x:Int):Q33 (K4 (Ao e.M x).Op) (Be e x):=by
 unfold Be;refine FA Ks fun h=>?_
 obtain⟨d,h0,h1⟩:=JC (x:=x) g (by simpa using h);have f:((x.toNat:Nat):Int)=x:=by omega
 have a:Ta e.M x (Ao e.M x):=YM (by have:=d.expr x.toNat (by omega);rwa [f]at this);exact YN d a (fun h=>Vc (LD d _ _ (a.b h).1 (by have:=a.b h;omega) (by have:=a.b h;omega))) (fun h=>Vc (LD d _ _ (a.c h).1 (by have:=a.c h;omega) (by have:=a.c h;omega))) d.last
def IG (t:D.Type)(v:Int):Int:=DL t.Bits t.Signed v
def setG (m:D.Model)(s:D.State)(k v:Int):D.State:={ s with Globals:=s.Globals.set k.toNat (IG (m.Globals.getD k.toNat default) v) }
def AiP (m:D.Model)(p:D.Process)(k v:Int):D.Process:={ p with Frame:=p.Frame.set k.toNat (IG ((A3 m p.Type_).Frame.getD k.toNat default) v) }
def setO (m:D.Model)(s:D.State)(who k v:Int):D.State:={ s with Procs:=s.Procs.set who.toNat (AiP m (s.Procs.getD who.toNat default) k v) }
def PV (m:D.Model)(s:D.State)(who k v:Int):D.State:=bif decide (who<0) then setG m s k v else setO m s who k v
def Bg (e:D.Env)(x v:Int):D.State × Int :=
 bif decide (CE e x≠0) then(default,CE e x)
 else bif decide ((BP e (FP e) (Ao e.M x)).2.2≠0) then(default,(BP e (FP e) (Ao e.M x)).2.2)
 else(PV e.M e.S (BP e (FP e) (Ao e.M x)).1 (BP e (FP e) (Ao e.M x)).2.1 v,0)
theorem Gk {α:Type}{l:List α}{i:Nat}{a x:α}(h:x∈l.set i a):x∈l∨x=a:=List.mem_or_eq_of_mem_set h
theorem Fit.setG {s:D.State}(h:Fit s)(m:D.Model)(k v:Int):Fit (setG m s k v):=⟨by show(List.set _ _ _).length<=_;rw[Aqs];exact h.g,h.c,h.q,h.p,h.f⟩
theorem Fit.setO {s:D.State}(h:Fit s)(m:D.Model)(who k v:Int)(a:who.toNat<s.Procs.length):Fit (setO m s who k v):=by
 refine⟨h.g,h.c,h.q,by show(List.set _ _ _).length<=_;rw[Aqs];exact h.p,fun p hp=>?_⟩;rcases Gk hp with hp | rfl
 ·exact h.f p hp
 ·show(List.set _ _ _).length<=_;rw[Aqs];exact h.f _ (Av (d:=default) a)
theorem PL : Fit (default:D.State):=⟨by decide,by decide,fun c a=>(by cases a),by decide,fun p hp=>(by cases hp)⟩
section
variable {e : D.Env} {x:Int}
theorem Akn (b:BF e)(h0:0<=x)(h1:x<e.M.Exprs.length):Ta e.M x (Ao e.M x):=by
 have a:((x.toNat:Nat):Int)=x:=by omega
 exact YM (by have:=b.expr x.toNat (by omega);rwa [a]at this)
theorem Lj (a:BF e)(h0:0<=x)(h1:x<e.M.Exprs.length){ev:Evl}(h:(BP e ev (Ao e.M x)).2.2=0):SN e (BP e ev (Ao e.M x)).1 (BP e ev (Ao e.M x)).2.1 :=
 Ql a (fun b=>Je ((Akn a h0 h1).var b)) h
theorem Z6 (b:AG e.M)(v:Int):Fit (Bg e x v).1:=by
 unfold Bg;cases c:decide (CE e x≠0) with
 | true=>exact PL
 | false =>
  obtain⟨a,h0,h1⟩:=JC (x:=x) b (by simpa using c);rw[Apw];cases d:decide ((BP e (FP e) (Ao e.M x)).2.2≠0) with
  | true=>exact PL
  | false =>
   rw[Apw];have hs:=Lj a h0 h1 (ev:=FP e) (by simpa using d);show Fit (PV _ _ _ _ _);unfold PV;cases f:decide ((BP e (FP e) (Ao e.M x)).1<0) with
   | true=>exact a.fit.setG _ _ _
   | false =>
    have g:0<=(BP e (FP e) (Ao e.M x)).1:=by have:=ApY f;omega
    exact a.fit.setO _ _ _ _ (by have:=hs.own g;omega)
end
abbrev P0 : AN:=⟨fun _=>False,fun _=>False,0,[]⟩
theorem V.keep {w w':World}{x:VV}{v:Value}(h:V w P0 none x v)(a:Below w.heap.size w w'):V w' P0 none x v :=
 h.mono a.size (fun k b _=>⟨a.block k b,fun h=>h⟩) (fun k b _=>⟨a.block k b,fun h=>h⟩) trivial
theorem Aj.at {P:Program}{f:FuncId}{xs:List VV}{r:VV}(h:Aj P f [] xs [] r){w0 w:World}{vs:Array Value}(c:CG w0)(hB:∀ k,k∈EB->k<w0.heap.size)(b:Below w0.heap.size w0 w)(hs:Dh w P0 none xs vs) :
  Calls P f vs w fun e w'=>∃ v,e=.returned v/\Below w.heap.size w w'/\V w' P0 none r v :=
 h.start (c.congr fun k a=>b.block k (hB k a)) (fun k a=>ApR (hB k a) b.size) hs
theorem Nw {w:World}{E:AN}{x y:VV}{u v:Value}(h1:V w E none x u)(h2:V w E none y v):Dh w E none [x,y] #[u,v]:=by
 refine⟨rfl,fun j z a=>?_⟩
 match j,a with
 | 0,a=>simp only[ApG,Apx]at a;subst a;exact h1
 | 1,a=>simp only[Aqf,ApG,Apx]at a;subst a;exact h2
 | j+2,a=>simp at a
theorem Q1 {w:World}{E:AN}{m:Option Phi}{a b c:Int}{v:Value}(h:V w E m (Kd (a,b,c)) v):v=.tuple #[.int .i64 a,.int .i64 b,.int .i64 c]:=by
 cases h with
 | @tup _ _ _ vs h1 h2 =>
  obtain⟨l⟩:=vs
  match l,h1,h2 with
  | [d,e,f],_,h2 =>
   have g:d=.int .i64 a:=(h2 0 _ rfl).sc_inv;have i:e=.int .i64 b:=(h2 1 _ rfl).sc_inv;have j:f=.int .i64 c:=(h2 2 _ rfl).sc_inv;rw[g,i,j]
theorem AnV {l:List Value}(h:l.length=16):∃ g i j k n o p q r s a b c d e f,l=[g,i,j,k,n,o,p,q,r,s,a,b,c,d,e,f]:=by
 match l,h with
 | [g,i,j,k,n,o,p,q,r,s,a,b,c,d,e,f],_=>exact⟨_,_,_,_,_,_,_,_,_,_,_,_,_,_,_,_,rfl⟩
def AtT (w:World)(ts:List D.Type)(v:Value):Prop :=
 AtL w ts.length (fun b off i=>w.cell? ⟨b,off+i*2,none⟩=some (.int .i64 (ts.getD i default).Bits)/\w.cell? ⟨b,off+i*2+1,none⟩=some (.bool (ts.getD i default).Signed)) v
def AtF (w:World)(ps:List D.Proc)(v:Value):Prop :=
 AtL w ps.length (fun b off i=>∃ u,w.cell? ⟨b,off+i*10+2,none⟩=some u/\AtT w (ps.getD i default).Frame u) v
section
variable {w w':World} {E:AN} {m:Option Phi} {v:Value} {fz:Bool}
theorem Apd {ts:List D.Type}(h:V w E m (AC fz ts) v):AtT w ts v:=by
 obtain⟨ao,cap,rfl,h1,h2,h3⟩:=V.sl_inv h;refine⟨ao,cap,rfl,h1,h2,fun hp=>?_⟩;obtain⟨b,off,rfl,e,_,_,u,d,hv⟩:=h3 hp;refine⟨b,off,rfl,e,fun i hi=>⟨?_,?_⟩⟩
 ·have a:=d i 0 _ hi rfl;have c:=(hv i 0 _ hi rfl).sc_inv;rw[c]at a;simpa using a
 ·have a:=d i 1 _ hi rfl;have c:=(hv i 1 _ hi rfl).sc_inv;rw[c]at a;simpa using a
theorem Apt {ps:List D.Proc}(h:V w E m (BE fz ps) v):AtF w ps v:=by
 obtain⟨ao,cap,rfl,h1,h2,h3⟩:=V.sl_inv h;refine⟨ao,cap,rfl,h1,h2,fun hp=>?_⟩;obtain⟨b,off,rfl,a,_,_,u,c,hv⟩:=h3 hp;exact⟨b,off,rfl,a,fun i hi=>⟨u i 2,c i 2 _ hi rfl,Apd (hv i 2 _ hi rfl)⟩⟩
theorem AtT.below {ts:List D.Type}(h:AtT w ts v)(a:Below w.heap.size w w'):AtT w' ts v :=
 AtL.map h a.size fun b off i c _ d=>⟨by rw[a.cell (p:=⟨b,off+i*2,none⟩) c];exact d.1,by rw[a.cell (p:=⟨b,off+i*2+1,none⟩) c];exact d.2⟩
theorem AtF.below {ps:List D.Proc}(h:AtF w ps v)(a:Below w.heap.size w w'):AtF w' ps v :=
 AtL.map h a.size fun b off i c _ ⟨u,h1,h2⟩=>⟨u,by rw[a.cell (p:=⟨b,off+i*10+2,none⟩) c];exact h1,h2.below a⟩
theorem AtQ.below {q:List (List Int)}(h:AtQ w q v)(a:Below w.heap.size w w'):AtQ w' q v :=
 AtL.map h a.size fun b off i c _ ⟨u,h1,h2⟩=>⟨u,by rw[a.cell (p:=⟨b,off+i,none⟩) c];exact h1,h2.below a⟩
theorem AtC.below {cs:List D.Chan}(h:AtC w cs v)(a:Below w.heap.size w w'):AtC w' cs v :=
 AtL.map h a.size fun b off i c _ ⟨u,h0,h1,h2⟩=>⟨u,by rw[a.cell (p:=⟨b,off+i*2,none⟩) c];exact h0,by rw[a.cell (p:=⟨b,off+i*2+1,none⟩) c];exact h1,h2.below a⟩
theorem AtP.below {ps:List D.Process}(h:AtP w ps v)(a:Below w.heap.size w w'):AtP w' ps v :=
 AtL.map h a.size fun b off i c _ ⟨u,h0,h1,h2,h3,h4⟩=>⟨u,by rw[a.cell (p:=⟨b,off+i*4,none⟩) c];exact h0,by rw[a.cell (p:=⟨b,off+i*4+1,none⟩) c];exact h1,
  by rw[a.cell (p:=⟨b,off+i*4+2,none⟩) c];exact h2,by rw[a.cell (p:=⟨b,off+i*4+3,none⟩) c];exact h3,h4.below a⟩
end
structure SO (w:World) (e:D.Env) (c0 c1 c2 c3 c4 c6 c7 c8 c9 c15:Value):Prop where
 t:AtT w e.M.Globals c0
 f:AtF w e.M.Procs c4
 g:AtI w e.S.Globals c7
 c:AtC w e.S.Chans c8
 p:AtP w e.S.Procs c9
abbrev MD (e:D.Env)(c0 c1 c2 c3 c4 c6 c7 c8 c9 c15:Value):Array Value :=
 #[c0,c1,c2,c3,c4,.int .i64 e.M.Claim,c6,c7,c8,c9,.int .i64 e.S.Last,.int .i64 e.S.Alone,.int .i64 e.S.Claim,.int .i64 e.Pid,.bool e.Timeout,c15]
theorem Amo {w:World}{E:AN}{m:Option Phi}{e:D.Env}{v:Value}(h:V w E m (.agg (Ae e)) v) :
  ∃ p q r s t u x y z a,v=.agg (MD e p q r s t u x y z a)/\SO w e p q r s t u x y z a:=by
 obtain⟨vs,rfl,h1,h2⟩:=h.agg_inv;obtain⟨l⟩:=vs;obtain⟨F,G,H,I,J,A,K,L,N,O,b,c,d,f,g,B,rfl⟩:=AnV (l:=l) h1;have C:A=.int .i64 e.M.Claim:=(h2 5 _ rfl).sc_inv;have i:b=.int .i64 e.S.Last:=(h2 10 _ rfl).sc_inv;have j:c=.int .i64 e.S.Alone:=(h2 11 _ rfl).sc_inv;have k:d=.int .i64 e.S.Claim:=(h2 12 _ rfl).sc_inv;have n:f=.int .i64 e.Pid:=(h2 13 _ rfl).sc_inv;have o:g=.bool e.Timeout:=(h2 14 _ rfl).sc_inv;subst C i j k n o;exact⟨_,_,_,_,_,_,_,_,_,_,rfl,Apd (h2 0 _ rfl),Apt (h2 4 _ rfl),Amz (h2 7 _ rfl),Apu (h2 8 _ rfl),Aps (h2 9 _ rfl)⟩
theorem Acf {w:World}{b:Nat}{vs:Array Value}{t:TypeId}{cs:List VV}(a:w.heap[b]?=some (.cells vs t (0,0)))(h:V w P0 none (.agg cs) (.agg vs)):V w P0 none (.tp cs) (.pointer (some ⟨b,0,none⟩)):=by
 obtain⟨vs',e,h1,h2⟩:=h.agg_inv;obtain rfl:vs=vs':=by simpa using e
 refine .tp (fun j=>vs.getD j undef) (Cc a) (fun h=>h) (fun j x c=>?_) fun j x c=>h2 j x c
 have d:j<vs.size:=by grind
 rw[Ap5];exact Am a (by simp[Array.getD,d])
theorem Oz {w:World}{b:Nat}{a c d e f g:Value}{t:TypeId}(h:w.heap[b]?=some (.cells #[a,c,d,e,f,g] t (0,0))) :
  w.cell? ⟨b,0,none⟩=some a/\w.cell? ⟨b,1,none⟩=some c/\w.cell? ⟨b,2,none⟩=some d/\w.cell? ⟨b,3,none⟩=some e/\w.cell? ⟨b,4,none⟩=some f/\w.cell? ⟨b,5,none⟩=some g /\
  w.frozen? ⟨b,0,none⟩=false/\w.frozen? ⟨b,1,none⟩=false/\w.frozen? ⟨b,2,none⟩=false/\w.frozen? ⟨b,3,none⟩=false/\w.frozen? ⟨b,4,none⟩=false/\w.frozen? ⟨b,5,none⟩=false :=
 ⟨Am h rfl,Am h rfl,Am h rfl,Am h rfl,Am h rfl,Am h rfl,AH h,AH h,AH h,AH h,AH h,AH h⟩
theorem Jf (w:World)(A Z:Obj):((w.alloc A).alloc Z).heap[w.heap.size]?=some A/\((w.alloc A).alloc Z).heap[w.heap.size+1]?=some Z/\((w.alloc A).alloc Z).heap.size=w.heap.size+1+1/\Below w.heap.size w ((w.alloc A).alloc Z):=by
 refine⟨?_,?_,by simp,((Below.refl _ w).alloc (ApC _) _).alloc (by simp) _⟩
 ·grind [Below.heap_alloc,heap_alloc_new]
 ·have:=heap_alloc_new (w.alloc A) Z;simpa using this
def FO (w:World)(n0:Nat)(s:D.State)(vs:Array Value):Prop :=
 ∃ vg vc vp qs fs,vs=#[vg,vc,vp,.int .i64 s.Last,.int .i64 s.Alone,.int .i64 s.Claim]/\JQ w n0 vg s.Globals/\Ig w n0 vc qs s.Chans/\Gi w n0 vp fs s.Procs
theorem FO.zero (w:World)(n0:Nat):FO w n0 default #[.slice none 0 0,.slice none 0 0,.slice none 0 0,.int .i64 0,.int .i64 0,.int .i64 0] :=
 ⟨_,_,_,[],[],rfl,World.ownsRow_nil _ _ _ _,Ig.nil _ _,Gi.nil _ _⟩
theorem FO.base {w:World}{n0 n1:Nat}{s:D.State}{vs:Array Value}(h:FO w n0 s vs)(d:n1<=n0):FO w n1 s vs:=by
 obtain⟨vg,vc,vp,qs,fs,rfl,h1,h2,h3⟩:=h;exact⟨vg,vc,vp,qs,fs,rfl,CZ h1 d,⟨CZ h2.row d,h2.len,fun i u c a b=>let ⟨vs,e⟩:=h2.each i u c a b;⟨vs,e.base d⟩⟩,⟨CZ h3.row d,h3.len,fun i u p a b=>CZ (h3.each i u p a b) d,h3.apart⟩⟩
theorem FO.aside {w w':World}{b B:Nat}{s:D.State}{vs:Array Value}(h:FO w B s vs)(d:b<B)(c:Cw w w' (fun k=>k=b)):FO w' B s vs:=by
 obtain⟨vg,vc,vp,qs,fs,rfl,h1,h2,h3⟩:=h;have a:∀ k,B<=k->k<w.heap.size->w'.heap[k]?=w.heap[k]?:=fun k h0 h1=>c.block k h1 fun e=>by have e:k=b:=e;omega
 exact⟨vg,vc,vp,qs,fs,rfl,Cn (ts:=[Es]) h1 (CB.of a) (by simp),h2.kept (ts:=[EE,Ie,Es]) (CB.of a) (by simp) (by simp) (by simp),h3.kept (ts:=[EP,Es]) (CB.of a) (by simp) (by simp)⟩
def MV (w:World)(e:D.Env)(x v:Int)(r:Ending)(w':World):Prop :=
 ∃ vs,r=.returned (.tuple #[.agg vs,.int .i64 (Bg e x v).2])/\FO w' w.heap.size (Bg e x v).1 vs/\Below w.heap.size w w'
theorem Rm {e:D.Env}{x:Int}(a:AG e.M)(h:CE e x=0):Aj Tryz.prog 158 [] [.tp (Ae e),Aa x] [] (Kd (BP e (FP e) (Ao e.M x))):=by grind [JC,Ac4,Akn,Tr]
abbrev Amp : TypeId:=45
set_option maxRecDepth 100000 in
set_option maxHeartbeats 4000000 in
theorem AeR {w:World}{e:D.Env}{x v:Int}{h i j l m n o p q c:Value}(y:AG e.M)(hs:Bq e.S)(z:CG w)(hB:∀ k,k∈EB->k<w.heap.size)
  (t:V w P0 none (.agg (Ae e)) (.agg (MD e h i j l m n o p q c))) (a:CE e x≠0) :
  Calls Tryz.prog 135 #[.agg (MD e h i j l m n o p q c),.int .i64 x,.int .i64 v] w (MV w e x v):=by
 have HQ:Hid (Bg e x v=(default,CE e x)):=by unfold Hid Bg;grind
 have HC:=Lib.hid (EL y hs x);have A:(CE e x==0)=false:=by simpa using a
 clear a;unfold MD at t ⊢
 go_enter Tryz.func135,Tryz.ntmps135
 obtain⟨B0,B1,B2,BB⟩:=Jf w (.cells #[h,i,j,l,m,.int .i64 e.M.Claim,n,o,p,q,.int .i64 e.S.Last,.int .i64 e.S.Alone,.int .i64 e.S.Claim,.int .i64 e.Pid,.bool e.Timeout,c] Amp (0,0)) (.cells #[.slice none 0 0,.slice none 0 0,.slice none 0 0,.int .i64 0,.int .i64 0,.int .i64 0] B7 (0,0))
 go_wp2_with (go_at_call 123;refine(HC.out.at z hB BB (Nw (t.keep BB) .sc)).mono ?_;rintro r s ⟨u,rfl,d,B⟩;obtain rfl:=B.sc_inv;have Z1:=(d.block _ (by omega)).trans B1;obtain⟨E,F,G,H,I,J,K,g1,L,N,O,P⟩:=Oz Z1)
 have f:=Oe Z1 (.slice none 0 0) (.slice none 0 0) (.slice none 0 0) (.int .i64 0) (.int .i64 0) (.int .i64 0);have C:=IK (w:=s) (b:=w.heap.size+1) (.slice none 0 0) (.slice none 0 0) (.slice none 0 0) (.int .i64 0) (.int .i64 0) (.int .i64 0);refine Ej rfl rfl f Tryz.underlying33 rfl (by kernel_rfl) rfl ?_;generalize (((((((s.setCell ⟨w.heap.size+1,0,none⟩ (.slice none 0 0)).setCell ⟨w.heap.size+1,1,none⟩ (.slice none 0 0)).setCell ⟨w.heap.size+1,2,none⟩ (.slice none 0 0)).setCell ⟨w.heap.size+1,3,none⟩ (.int .i64 0)).setCell ⟨w.heap.size+1,4,none⟩ (.int .i64 0)).setCell ⟨w.heap.size+1,5,none⟩ (.int .i64 0)))=wz at *;have g:Below w.heap.size w s:=BB.trans (d.mono (by omega));refine⟨_,by rw[HQ.out];rfl,by rw[HQ.out];exact FO.zero _ _,g.trans (C.below g.size (by omega))⟩
set_option maxRecDepth 100000 in
set_option maxHeartbeats 4000000 in
theorem Z2 {w:World}{e:D.Env}{x v:Int}{j l m n o p q s t d:Value}(A:AG e.M)(hs:Bq e.S)(B:CG w)(hB:∀ k,k∈EB->k<w.heap.size)
  (y:V w P0 none (.agg (Ae e)) (.agg (MD e j l m n o p q s t d))) (a:CE e x=0) (c:(BP e (FP e) (Ao e.M x)).2.2≠0) :
  Calls Tryz.prog 135 #[.agg (MD e j l m n o p q s t d),.int .i64 x,.int .i64 v] w (MV w e x v):=by
 have HQ:Hid (Bg e x v=(default,(BP e (FP e) (Ao e.M x)).2.2)):=by unfold Hid Bg;grind
 have HC:=Lib.hid (EL A hs x);have HS:=Lib.hid (Rm A a);generalize BP e (FP e) (Ao e.M x)=sv at HQ HS c;obtain⟨who,k,err⟩:=sv;have C:(err==0)=false:=by simpa using c
 change Hid (Bg e x v=(default,err)) at HQ;clear c;unfold MD at y ⊢;rw[a]at HC
 go_enter Tryz.func135,Tryz.ntmps135
 obtain⟨B0,B1,B2,BB⟩:=Jf w (.cells #[j,l,m,n,o,.int .i64 e.M.Claim,p,q,s,t,.int .i64 e.S.Last,.int .i64 e.S.Alone,.int .i64 e.S.Claim,.int .i64 e.Pid,.bool e.Timeout,d] Amp (0,0)) (.cells #[.slice none 0 0,.slice none 0 0,.slice none 0 0,.int .i64 0,.int .i64 0,.int .i64 0] B7 (0,0))
 go_wp2_with (first
  | (go_at_call 123;refine(HC.out.at B hB BB (Nw (y.keep BB) .sc)).mono ?_;rintro r F ⟨u,rfl,f,z⟩;obtain rfl:=z.sc_inv;have Z0:=(f.block _ (by omega)).trans B0;have Z1:=(f.block _ (by omega)).trans B1;have BW:=BB.trans (f.mono (by omega)))
  | (go_at_call 158;refine(HS.out.at B hB BW (Nw (Acf Z0 (y.keep BW)) .sc)).mono ?_;rintro r w2 ⟨u,rfl,g,z⟩;obtain rfl:=Q1 z;have Y1:=(g.block _ (Cc Z1)).trans Z1;obtain⟨G,H,I,J,K,L,N,g1,O,P,Q,R⟩:=Oz Y1))
 have h:=Oe Y1 (.slice none 0 0) (.slice none 0 0) (.slice none 0 0) (.int .i64 0) (.int .i64 0) (.int .i64 0);have E:=IK (w:=w2) (b:=w.heap.size+1) (.slice none 0 0) (.slice none 0 0) (.slice none 0 0) (.int .i64 0) (.int .i64 0) (.int .i64 0);refine Ej rfl rfl h Tryz.underlying33 rfl (by kernel_rfl) rfl ?_;generalize (((((((w2.setCell ⟨w.heap.size+1,0,none⟩ (.slice none 0 0)).setCell ⟨w.heap.size+1,1,none⟩ (.slice none 0 0)).setCell ⟨w.heap.size+1,2,none⟩ (.slice none 0 0)).setCell ⟨w.heap.size+1,3,none⟩ (.int .i64 0)).setCell ⟨w.heap.size+1,4,none⟩ (.int .i64 0)).setCell ⟨w.heap.size+1,5,none⟩ (.int .i64 0)))=wz at *;have i:Below w.heap.size w w2:=BW.trans (g.mono BW.size);refine⟨_,by rw[HQ.out];rfl,by rw[HQ.out];exact FO.zero _ _,i.trans (E.below i.size (by omega))⟩
section
variable {w w4 w' w5:World} {s:D.State} {vg vc vp:Value} {n1 g gcap kn:Nat} {qs fs:List Value}
theorem Zg.kept5 (h:Zg w w4 w' s vg vc vp n1 qs fs)(a:∀ k,w.heap.size<=k->k<w'.heap.size->w5.heap[k]?=w'.heap[k]?)(ts:List TypeId):CB w4 w5 n1 ts:=fun k cur t h0 h1 b _=>by
 have e:=h.kept k h0 h1;exact(a k (Ap0 h.n0 h0) (Cc (e.trans b))).trans e
theorem Ahq (h:Zg w w4 w' s (.slice (some ⟨g,0,none⟩) s.Globals.length gcap) vc vp n1 qs fs)(e:∀ k,w.heap.size<=k->k<w'.heap.size->w5.heap[k]?=w'.heap[k]?)(x:Int) :
  FO (w5.setCell ⟨g,kn,none⟩ (.int .i64 x)) w.heap.size { s with Globals:=s.Globals.set kn x } #[.slice (some ⟨g,0,none⟩) s.Globals.length gcap,vc,vp,.int .i64 s.Last,.int .i64 s.Alone,.int .i64 s.Claim]:=by
 have d:=h.n0;have f:=h.n2;have hg:=h.g1 g rfl;have low:∀ {qs:List Value} {v:Value} {cs:List D.Chan} {w':World},Ig w' n1 v qs cs->Ig w' w.heap.size v qs cs:=fun h2=>⟨CZ h2.row d,h2.len,fun i u c a b=>let ⟨vs,j⟩:=h2.each i u c a b;⟨vs,j.base d⟩⟩
 have lowp:∀ {fs:List Value} {v:Value} {ps:List D.Process} {w':World},Gi w' w4.heap.size v fs ps->Gi w' w.heap.size v fs ps:=fun h3=>⟨CZ h3.row (by omega),h3.len,fun i u p a b=>CZ (h3.each i u p a b) (by omega),h3.apart⟩
 refine⟨_,_,_,qs,fs,rfl,?_,low ?_,lowp ?_⟩
 ·have h1:=Ada (k:=kn) (Cn (ts:=[Es]) h.g (CB.of e) (by simp)) x
  rwa [Aqs]at h1
 ·exact((h.c.kept (h.kept5 e [EE,Ie,Es]) (by simp) (by simp) (by simp)).kept (ts:=[EE,Ie,Es]) (CB.low hg) (by simp) (by simp) (by simp))
 ·exact((h.p.kept (ts:=[EP,Es]) (CB.of fun k h0 h1=>e k (by omega) h1) (by simp) (by simp)).kept (ts:=[EP,Es]) (CB.low (by omega)) (by simp) (by simp))
theorem Ahp {i:Nat}(h:Zg w w4 w' s vg vc vp n1 qs fs)(hi:i<s.Procs.length)(j:fs[i]?=some (.slice (some ⟨g,0,none⟩) (s.Procs.getD i default).Frame.length gcap))(f:∀ k,w.heap.size<=k->k<w'.heap.size->w5.heap[k]?=w'.heap[k]?)(x:Int) :
  FO (w5.setCell ⟨g,kn,none⟩ (.int .i64 x)) w.heap.size { s with Procs:=s.Procs.set i { s.Procs.getD i default with Frame:=(s.Procs.getD i default).Frame.set kn x } } #[vg,vc,vp,.int .i64 s.Last,.int .i64 s.Alone,.int .i64 s.Claim]:=by
 have d:=h.n0;have l:=h.n2;have m:Gi w5 w4.heap.size vp fs s.Procs:=h.p.kept (ts:=[EP,Es]) (CB.of fun k h0 h1=>f k (by omega) h1) (by simp) (by simp);have hg:=((h.p.each i _ (s.Procs.getD i default) j (by simp[List.getD,hi])).lt g rfl).1;have low:∀ {qs:List Value} {v:Value} {cs:List D.Chan} {w':World},Ig w' n1 v qs cs->Ig w' w.heap.size v qs cs:=fun h2=>⟨CZ h2.row d,h2.len,fun i u c a b=>let ⟨vs,n⟩:=h2.each i u c a b;⟨vs,n.base d⟩⟩
 have lowp:∀ {fs:List Value} {v:Value} {ps:List D.Process} {w':World},Gi w' w4.heap.size v fs ps->Gi w' w.heap.size v fs ps:=fun h3=>⟨CZ h3.row (by omega),h3.len,fun i u p a b=>CZ (h3.each i u p a b) (by omega),h3.apart⟩
 refine⟨_,_,_,qs,fs,rfl,?_,low ?_,lowp ?_⟩
 ·refine CS (Cn (ts:=[Es]) h.g (CB.of f) (by simp)) fun k e=>Below.heap_setCell _ _ _ _ ?_
  have:=h.g1 k e;simp;omega
 ·exact(h.c.kept (ts:=[EE,Ie,Es]) (fun k cur t h0 h1 o q=>(Below.heap_setCell _ _ _ _ (by simp;omega)).trans (h.kept5 f [EE,Ie,Es] k cur t h0 h1 o q)) (by simp) (by simp) (by simp))
 ·exact(Gi.write m hi j x)
end
theorem SO.below {w w':World}{e:D.Env}{d i j k l m n o q a:Value}(h:SO w e d i j k l m n o q a)(b:Below w.heap.size w w'):SO w' e d i j k l m n o q a :=
 ⟨h.t.below b,h.f.below b,h.g.below b,h.c.below b,h.p.below b⟩
theorem AeQ {w w2 a c:World}{e:D.Env}{x v:Int}{kn:Nat}{ty:D.Type}{vs:Array Value}(HQ:Hid (Bg e x v=(setG e.M e.S kn v,0)))(HTY:Hid (e.M.Globals.getD kn default=ty))
  (HV:Hid (FO a w2.heap.size { e.S with Globals:=e.S.Globals.set kn (DL ty.Bits ty.Signed v) } vs)) (HB:Below w.heap.size w a)
  (d:Cw a c (fun k=>k=w.heap.size+1)) (f:w.heap.size+1<w2.heap.size):MV w e x v (.returned (.tuple #[.agg vs,.int .i64 0])) c:=by
 refine⟨vs,by rw[HQ.out],?_,HB.trans (d.below HB.size (by omega))⟩;rw[HQ.out];have g:setG e.M e.S kn v={ e.S with Globals:=e.S.Globals.set kn (DL ty.Bits ty.Signed v) }:=by
  unfold setG IG;rw[show((kn:Nat):Int).toNat=kn by omega,HTY.out]
 rw[g];exact(FO.aside (b:=w.heap.size+1) (B:=w2.heap.size) HV.out f d).base (by omega)
set_option maxRecDepth 100000 in
set_option maxHeartbeats 4000000 in
theorem Z4 {w:World}{e:D.Env}{x v who k:Int}{U W X Y Z c6 A B C l:Value}(hw:AG e.M)(hs:Bq e.S)(hL:CG w)(hB:∀ k,k∈EB->k<w.heap.size)
  (hV:V w P0 none (.agg (Ae e)) (.agg (MD e U W X Y Z c6 A B C l))) (m:SO w e U W X Y Z c6 A B C l) (h:CE e x=0) (n:BP e (FP e) (Ao e.M x)=(who,k,0)) (E:who<0) :
  Calls Tryz.prog 135 #[.agg (MD e U W X Y Z c6 A B C l),.int .i64 x,.int .i64 v] w (MV w e x v):=by
 have HQ:Hid (Bg e x v=(setG e.M e.S k v,0)):=by
  unfold Hid Bg PV;grind
 have HC:=Lib.hid (EL hw hs x);have HS:=Lib.hid (Rm hw h);obtain⟨hE,hx0,hx1⟩:=JC hw h;have q:=(Lj hE hx0 hx1 (ev:=FP e) (by rw[n])).glob (by rw[n];exact E);have F:=hE.fit;have G:e.S.Globals.length=e.M.Globals.length:=Fg hE.globals.2;rw[n]at q HS;change 0<=k/\k<e.S.Globals.length at q;obtain⟨kn,rfl⟩:∃ kn:Nat,k=kn:=⟨k.toNat,by omega⟩;have hkn:kn<e.S.Globals.length:=by omega
 have hkt:kn<e.M.Globals.length:=by omega
 obtain⟨tb,toff,tcap,rfl,ht1,ht2,H,I⟩:∃ b off cap,U=.slice (some ⟨b,off,none⟩) e.M.Globals.length cap/\e.M.Globals.length<=cap/\cap<=maxLen/\b<w.heap.size/\∀ i,i<e.M.Globals.length->w.cell? ⟨b,off+i*2,none⟩=some (.int .i64 (e.M.Globals.getD i default).Bits)/\w.cell? ⟨b,off+i*2+1,none⟩=some (.bool (e.M.Globals.getD i default).Signed):=by
  obtain⟨ao,cap,rfl,h1,h2,h3⟩:=m.t;grind
 obtain⟨ty0,ty1⟩:=I kn hkt;obtain⟨ty,s⟩:∃ ty,e.M.Globals.getD kn default=ty:=⟨_,rfl⟩;rw[s]at ty0 ty1;have HTY:=Lib.hid s;clear s;have HTL:=Lib.hid G;clear I G;clear q n hE;unfold MD at hV ⊢;rw[h]at HC
 go_enter Tryz.func135,Tryz.ntmps135
 obtain⟨B0,B1,B2,BB⟩:=Jf w (.cells #[.slice (some ⟨tb,toff,none⟩) e.M.Globals.length tcap,W,X,Y,Z,.int .i64 e.M.Claim,c6,A,B,C,.int .i64 e.S.Last,.int .i64 e.S.Alone,.int .i64 e.S.Claim,.int .i64 e.Pid,.bool e.Timeout,l] Amp (0,0)) (.cells #[.slice none 0 0,.slice none 0 0,.slice none 0 0,.int .i64 0,.int .i64 0,.int .i64 0] B7 (0,0))
 go_wp2_with (first
  | (go_at_call 123;refine(HC.out.at hL hB BB (Nw (hV.keep BB) .sc)).mono ?_;rintro r w1 ⟨u,rfl,y,hu⟩;obtain rfl:=hu.sc_inv;have Z0:=(y.block _ (by omega)).trans B0;have Z1:=(y.block _ (by omega)).trans B1;have BW:=BB.trans (y.mono (by omega)))
  | (go_at_call 158;refine(HS.out.at hL hB BW (Nw (Acf Z0 (hV.keep BW)) .sc)).mono ?_;rintro r w2 ⟨u,rfl,z,hu⟩;obtain rfl:=Q1 hu;have Y0:=(z.block _ (Cc Z0)).trans Z0;have Y1:=(z.block _ (Cc Z1)).trans Z1;have BX:=BW.trans (z.mono BW.size);have s7:w2.cell? ⟨w.heap.size,7,none⟩=some A:=Am Y0 rfl;have s8:w2.cell? ⟨w.heap.size,8,none⟩=some B:=Am Y0 rfl;have s9:w2.cell? ⟨w.heap.size,9,none⟩=some C:=Am Y0 rfl;have s10:w2.cell? ⟨w.heap.size,10,none⟩=some (.int .i64 e.S.Last):=Am Y0 rfl;have s11:w2.cell? ⟨w.heap.size,11,none⟩=some (.int .i64 e.S.Alone):=Am Y0 rfl;have s12:w2.cell? ⟨w.heap.size,12,none⟩=some (.int .i64 e.S.Claim):=Am Y0 rfl)
  | (go_at_call 49;refine(Sl F (m.below BX).g (m.below BX).c (m.below BX).p).mono ?_;rintro r f ⟨vg,vc,vp,n1,qs,fs,w4,rfl,d⟩;obtain⟨ag,gcap,rfl,hg1,hg2,J⟩:=DH d.g;obtain⟨ac,ccap,rfl,_⟩:=DH d.c.row;obtain⟨ap,pcap,rfl,_⟩:=DH d.p.row))
 have hz3:=d.below.size;have hz2:=BX.size;have K:=Cc Y1;obtain⟨g,rfl,hgb,L,N⟩:=J (by omega);obtain⟨gcur,hgk⟩:=Bf d.g (k:=g) rfl;have hgn:=d.g1 g rfl;have K0:=(Below.heap_alloc f (.cells #[.slice (some ⟨g,0,none⟩) e.S.Globals.length gcap,.slice ac e.S.Chans.length ccap,.slice ap e.S.Procs.length pcap,.int .i64 e.S.Last,.int .i64 e.S.Alone,.int .i64 e.S.Claim] B7 (0,0)) _ (by omega)).trans ((d.below.block _ (Cc Y0)).trans Y0);have K1:=(Below.heap_alloc f (.cells #[.slice (some ⟨g,0,none⟩) e.S.Globals.length gcap,.slice ac e.S.Chans.length ccap,.slice ap e.S.Procs.length pcap,.int .i64 e.S.Last,.int .i64 e.S.Alone,.int .i64 e.S.Claim] B7 (0,0)) _ (by omega)).trans ((d.below.block _ (Cc Y1)).trans Y1);have K2:=heap_alloc_new f (.cells #[.slice (some ⟨g,0,none⟩) e.S.Globals.length gcap,.slice ac e.S.Chans.length ccap,.slice ap e.S.Procs.length pcap,.int .i64 e.S.Last,.int .i64 e.S.Alone,.int .i64 e.S.Claim] B7 (0,0));have KB:Below f.heap.size f (f.alloc (.cells #[.slice (some ⟨g,0,none⟩) e.S.Globals.length gcap,.slice ac e.S.Chans.length ccap,.slice ap e.S.Procs.length pcap,.int .i64 e.S.Last,.int .i64 e.S.Alone,.int .i64 e.S.Claim] B7 (0,0))):=(Below.refl _ f).alloc (ApC _) _;have KZ:(f.alloc (.cells #[.slice (some ⟨g,0,none⟩) e.S.Globals.length gcap,.slice ac e.S.Chans.length ccap,.slice ap e.S.Procs.length pcap,.int .i64 e.S.Last,.int .i64 e.S.Alone,.int .i64 e.S.Claim] B7 (0,0))).heap.size=f.heap.size+1:=by simp
 generalize f.alloc (.cells #[.slice (some ⟨g,0,none⟩) e.S.Globals.length gcap,.slice ac e.S.Chans.length ccap,.slice ap e.S.Procs.length pcap,.int .i64 e.S.Last,.int .i64 e.S.Alone,.int .i64 e.S.Claim] B7 (0,0))=wd at *;have BD:Below w.heap.size w wd:=(BX.trans (d.below.mono hz2)).trans (KB.mono (by omega));rw[← BD.cell (p:=⟨tb,toff+kn*2,none⟩) H]at ty0;rw[← BD.cell (p:=⟨tb,toff+kn*2+1,none⟩) H]at ty1;have x0:wd.cell? ⟨w.heap.size,0,none⟩=some (.slice (some ⟨tb,toff,none⟩) e.M.Globals.length tcap):=Am K0 rfl;have x1:wd.cell? ⟨f.heap.size,0,none⟩=some (.slice (some ⟨g,0,none⟩) e.S.Globals.length gcap):=Am K2 rfl;have hgw:wd.heap[g]?=some (.cells gcur Es (0,0)):=(KB.block _ L).trans hgk;have xg:wd.cell? ⟨g,kn,none⟩=some (.int .i64 (e.S.Globals.getD kn 0)):=by
  rw[KB.cell (p:=⟨g,kn,none⟩) L,N kn (by omega)];simp[List.getD,hkn]
 have O:g<wd.heap.size:=by omega
 have P:f.heap.size<wd.heap.size:=by omega
 have hsg:f.heap.size≠(⟨g,kn,none⟩:Addr).block:=by simp;omega
 have hrg:w.heap.size+1≠(⟨g,kn,none⟩:Addr).block:=by simp;omega
 have hrd:w.heap.size+1<wd.heap.size:=by omega
 have hng:w.heap.size<=(⟨g,kn,none⟩:Addr).block:=by simp;omega
 have hrw:w.heap.size+1<w2.heap.size:=K;clear s7 s8 s9 s10 s11 s12 N J;have Q:=hg2;have R:=ht2;unfold maxLen at Q R
 go_region_with (go_at_call 169;(with_reducible refine(Ala _ _ _ _).mono ?_);rintro r o ⟨rfl,j⟩;have a:Below wd.heap.size wd o:=⟨j.os,j.tape,j.output,j.size,j.block⟩;have x5:o.cell? ⟨g,kn,none⟩=_:=(a.cell (p:=⟨g,kn,none⟩) O).trans xg;have y1:o.cell? ⟨f.heap.size,0,none⟩=_:=(a.cell (p:=⟨f.heap.size,0,none⟩) P).trans x1;have f5:o.frozen? ⟨g,kn,none⟩=false:=AH ((a.block _ O).trans hgw))
 all_goals
  have L0:(o.setCell ⟨g,kn,none⟩ (.int .i64 (DL ty.Bits ty.Signed v))).heap[f.heap.size]?=_:=(Below.heap_setCell _ _ _ _ hsg).trans ((a.block _ P).trans K2);have L1:(o.setCell ⟨g,kn,none⟩ (.int .i64 (DL ty.Bits ty.Signed v))).heap[w.heap.size+1]?=_:=(Below.heap_setCell _ _ _ _ hrg).trans ((a.block _ hrd).trans K1);have HV:Hid (FO (o.setCell ⟨g,kn,none⟩ (.int .i64 (DL ty.Bits ty.Signed v))) w2.heap.size { e.S with Globals:=e.S.Globals.set kn (DL ty.Bits ty.Signed v) } #[.slice (some ⟨g,0,none⟩) e.S.Globals.length gcap,.slice ac e.S.Chans.length ccap,.slice ap e.S.Procs.length pcap,.int .i64 e.S.Last,.int .i64 e.S.Alone,.int .i64 e.S.Claim]) :=
   Ahq d (fun k h0 h1=>(a.block k (by omega)).trans (KB.block k h1)) _
  have HB:Below w.heap.size w (o.setCell ⟨g,kn,none⟩ (.int .i64 (DL ty.Bits ty.Signed v))):=(BD.trans (a.mono (by omega))).setCell (p:=⟨g,kn,none⟩) hng _;obtain⟨t0,t1,t2,t3,t4,t5,-⟩:=Oz L0;obtain⟨d0,d1,d2,d3,d4,d5,g0,g1,g2,g3,g4,g5⟩:=Oz L1;clear x5 y1 f5 j a;generalize o.setCell ⟨g,kn,none⟩ (.int .i64 (DL ty.Bits ty.Signed v))=w6 at *
  go_wp2
  have T:=Oe L1 (.slice (some ⟨g,0,none⟩) e.S.Globals.length gcap) (.slice ac e.S.Chans.length ccap) (.slice ap e.S.Procs.length pcap) (.int .i64 e.S.Last) (.int .i64 e.S.Alone) (.int .i64 e.S.Claim);have hT:=IK (w:=w6) (b:=w.heap.size+1) (.slice (some ⟨g,0,none⟩) e.S.Globals.length gcap) (.slice ac e.S.Chans.length ccap) (.slice ap e.S.Procs.length pcap) (.int .i64 e.S.Last) (.int .i64 e.S.Alone) (.int .i64 e.S.Claim);refine Ej rfl rfl T Tryz.underlying33 rfl (by kernel_rfl) rfl ?_;exact AeQ HQ HTY HV HB hT hrw
theorem KF {w:World}{g i b o:Nat}{u:Value}(h:b≠g):(w.setCell ⟨g,i,none⟩ u).cell? ⟨b,o,none⟩=w.cell? ⟨b,o,none⟩:=World.cell?_of_block (Below.heap_setCell _ _ _ _ h)
theorem Z5 {w w2 a c:World}{e:D.Env}{x v:Int}{i kn:Nat}{p:D.Process}{ty:D.Type}{vs:Array Value}(HQ:Hid (Bg e x v=(setO e.M e.S i kn v,0)))(HP:Hid (e.S.Procs.getD i default=p))(HTY:Hid ((A3 e.M p.Type_).Frame.getD kn default=ty))
  (HV:Hid (FO a w2.heap.size { e.S with Procs:=e.S.Procs.set i { e.S.Procs.getD i default with Frame:=(e.S.Procs.getD i default).Frame.set kn (DL ty.Bits ty.Signed v) } } vs)) (HB:Below w.heap.size w a)
  (d:Cw a c (fun k=>k=w.heap.size+1)) (g:w.heap.size+1<w2.heap.size):MV w e x v (.returned (.tuple #[.agg vs,.int .i64 0])) c:=by
 refine⟨vs,by rw[HQ.out],?_,HB.trans (d.below HB.size fun j f=>by have f:j=w.heap.size+1:=f;omega)⟩;rw[HQ.out];have h:setO e.M e.S i kn v={ e.S with Procs:=e.S.Procs.set i { e.S.Procs.getD i default with Frame:=(e.S.Procs.getD i default).Frame.set kn (DL ty.Bits ty.Signed v) } }:=by
  unfold setO AiP IG;rw[show((kn:Nat):Int).toNat=kn by omega,show((i:Nat):Int).toNat=i by omega,HP.out,HTY.out]
 rw[h];exact(FO.aside (b:=w.heap.size+1) (B:=w2.heap.size) HV.out g d).base (by omega)
set_option maxRecDepth 100000 in
set_option maxHeartbeats 8000000 in
theorem AeP {w:World}{e:D.Env}{x v who k:Int}{c0 c1 c2 c3 c4 c6 K L N s:Value}(hw:AG e.M)(hs:Bq e.S)(hL:CG w)(hB:∀ k,k∈EB->k<w.heap.size)
  (hV:V w P0 none (.agg (Ae e)) (.agg (MD e c0 c1 c2 c3 c4 c6 K L N s))) (t:SO w e c0 c1 c2 c3 c4 c6 K L N s) (l:CE e x=0) (o:BP e (FP e) (Ao e.M x)=(who,k,0)) (y:0<=who) :
  Calls Tryz.prog 135 #[.agg (MD e c0 c1 c2 c3 c4 c6 K L N s),.int .i64 x,.int .i64 v] w (MV w e x v):=by
 have HQ0:Hid (Bg e x v=(setO e.M e.S who k v,0)):=by
  unfold Hid Bg PV;rw[Ap9 (by omega),Apw,o];show(bif decide ((0:Int)≠0) then _ else _)=_;rw[Ap9 (by simp),Apw,Ap9 (by omega),Apw]
 have HC:=Lib.hid (EL hw hs x);have HS:=Lib.hid (Rm hw l);obtain⟨hE,hx0,hx1⟩:=JC hw l;have q:=(Lj hE hx0 hx1 (ev:=FP e) (by rw[o])).own (by rw[o];exact y);have O:=hE.fit;rw[o]at q HS;obtain⟨i,rfl⟩:∃ i:Nat,who=i:=⟨who.toNat,by omega⟩;change(i:Int)<e.S.Procs.length/\0<=k/\k<(e.S.Procs.getD (i:Int).toNat default).Frame.length at q;rw[show((i:Nat):Int).toNat=i by omega]at q;obtain⟨kn,rfl⟩:∃ kn:Nat,k=kn:=⟨k.toNat,by omega⟩;have hi:i<e.S.Procs.length:=by omega
 have HQ:=HQ0;have A:=Eb (hE.proc (p:=e.S.Procs.getD i default) (Av hi));obtain⟨p,hp⟩:∃ p,e.S.Procs.getD i default=p:=⟨_,rfl⟩;rw[hp]at q A;have HP:=Lib.hid hp;have P:kn<p.Frame.length:=by omega
 obtain⟨tn,Q⟩:∃ tn:Nat,p.Type_=tn:=⟨p.Type_.toNat,by omega⟩;have htm:tn<e.M.Procs.length:=by omega
 have B:=A.2.2.1;have C:A3 e.M p.Type_=e.M.Procs.getD tn default:=by unfold A3;rw[Q,show((tn:Nat):Int).toNat=tn by omega]
 rw[C]at B;obtain⟨mb,moff,mcap,tb,toff,tcap,rfl,hm1,hm2,hmb,R,ht1,ht2,T,U⟩:∃ mb moff mcap tb toff tcap,c4=.slice (some ⟨mb,moff,none⟩) e.M.Procs.length mcap/\e.M.Procs.length<=mcap/\mcap<=maxLen/\mb<w.heap.size /\
   w.cell? ⟨mb,moff+tn*10+2,none⟩=some (.slice (some ⟨tb,toff,none⟩) p.Frame.length tcap)/\p.Frame.length<=tcap/\tcap<=maxLen/\tb<w.heap.size /\
   ∀ j,j<p.Frame.length->w.cell? ⟨tb,toff+j*2,none⟩=some (.int .i64 ((A3 e.M p.Type_).Frame.getD j default).Bits)/\w.cell? ⟨tb,toff+j*2+1,none⟩=some (.bool ((A3 e.M p.Type_).Frame.getD j default).Signed):=by
  obtain⟨ao,cap,rfl,h1,h2,h3⟩:=t.f;obtain⟨b,off,rfl,h4,h5⟩:=h3 (by omega);obtain⟨u,h6,ao',cap',rfl,h7,h8,h9⟩:=h5 tn htm;rw[← B]at h6 h7 h9;obtain⟨b',off',rfl,h10,h11⟩:=h9 (by omega);rw[C];exact⟨b,off,cap,b',off',cap',rfl,h1,h2,h4,h6,h7,h8,h10,h11⟩
 obtain⟨ty0,ty1⟩:=U kn P;obtain⟨ty,E⟩:∃ ty,(A3 e.M p.Type_).Frame.getD kn default=ty:=⟨_,rfl⟩;rw[E]at ty0 ty1;have HTY:=Lib.hid E;have hwi:((i:Int)<0)=False:=by simp
 clear U E hp C B A q o hE HQ0 y;unfold MD at hV ⊢;rw[l]at HC
 go_enter Tryz.func135,Tryz.ntmps135
 obtain⟨B0,B1,B2,BB⟩:=Jf w (.cells #[c0,c1,c2,c3,.slice (some ⟨mb,moff,none⟩) e.M.Procs.length mcap,.int .i64 e.M.Claim,c6,K,L,N,.int .i64 e.S.Last,.int .i64 e.S.Alone,.int .i64 e.S.Claim,.int .i64 e.Pid,.bool e.Timeout,s] Amp (0,0)) (.cells #[.slice none 0 0,.slice none 0 0,.slice none 0 0,.int .i64 0,.int .i64 0,.int .i64 0] B7 (0,0))
 go_wp2_with (first
  | (go_at_call 123;refine(HC.out.at hL hB BB (Nw (hV.keep BB) .sc)).mono ?_;rintro r w1 ⟨u,rfl,F,J⟩;obtain rfl:=J.sc_inv;have Z0:=(F.block _ (by omega)).trans B0;have Z1:=(F.block _ (by omega)).trans B1;have BW:=BB.trans (F.mono (by omega)))
  | (go_at_call 158;refine(HS.out.at hL hB BW (Nw (Acf Z0 (hV.keep BW)) .sc)).mono ?_;rintro r w2 ⟨u,rfl,G,J⟩;obtain rfl:=Q1 J;have Y0:=(G.block _ (Cc Z0)).trans Z0;have Y1:=(G.block _ (Cc Z1)).trans Z1;have BX:=BW.trans (G.mono BW.size);have s7:w2.cell? ⟨w.heap.size,7,none⟩=some K:=Am Y0 rfl;have s8:w2.cell? ⟨w.heap.size,8,none⟩=some L:=Am Y0 rfl;have s9:w2.cell? ⟨w.heap.size,9,none⟩=some N:=Am Y0 rfl;have s10:w2.cell? ⟨w.heap.size,10,none⟩=some (.int .i64 e.S.Last):=Am Y0 rfl;have s11:w2.cell? ⟨w.heap.size,11,none⟩=some (.int .i64 e.S.Alone):=Am Y0 rfl;have s12:w2.cell? ⟨w.heap.size,12,none⟩=some (.int .i64 e.S.Claim):=Am Y0 rfl)
  | (go_at_call 49;refine(Sl O (t.below BX).g (t.below BX).c (t.below BX).p).mono ?_;rintro r h ⟨vg,vc,vp,n1,qs,fs,w4,rfl,d⟩;obtain⟨ag,ggcap,rfl,_⟩:=DH d.g;obtain⟨ac,ccap,rfl,_⟩:=DH d.c.row;obtain⟨ap,pcap,rfl,hp1,hp2,W⟩:=DH d.p.row))
 have hz3:=d.below.size;have hz2:=BX.size;have X:=Cc Y1;obtain⟨pb,rfl,hpbb,z,H⟩:=W (by omega);obtain⟨q0,-,-,q3⟩:=MG d.p.len hi;have Y:i<fs.length:=by rw[d.p.len];exact hi
 have Z:e.S.Procs[i]?=some p:=by have:=HP.out;simp[List.getD,hi]at this;simp[hi,this]
 obtain⟨ag2,gcap,J,hg1,hg2,hg3⟩:=DH (d.p.each i (fs[i]) p (by simp[Y]) Z);obtain⟨g,rfl,hgb,hgl,hgc⟩:=hg3 (by omega);have I:fs[i]?=some (.slice (some ⟨g,0,none⟩) p.Frame.length gcap):=by simp[Y,J]
 obtain⟨gcur,hgk⟩:=Bf (d.p.each i _ p I Z) (k:=g) rfl;have hn2:=d.n2;have hn0:=d.n0;rw[HP.out,Q]at q0;rw[I]at q3;have p0:h.cell? ⟨pb,i*4,none⟩=some (.int .i64 tn):=(H (i*4) (by omega)).trans q0;have p3:h.cell? ⟨pb,i*4+3,none⟩=some (.slice (some ⟨g,0,none⟩) p.Frame.length gcap):=(H (i*4+3) (by omega)).trans q3;have K0:=(Below.heap_alloc h (.cells #[.slice ag e.S.Globals.length ggcap,.slice ac e.S.Chans.length ccap,.slice (some ⟨pb,0,none⟩) e.S.Procs.length pcap,.int .i64 e.S.Last,.int .i64 e.S.Alone,.int .i64 e.S.Claim] B7 (0,0)) _ (by omega)).trans ((d.below.block _ (Cc Y0)).trans Y0);have K1:=(Below.heap_alloc h (.cells #[.slice ag e.S.Globals.length ggcap,.slice ac e.S.Chans.length ccap,.slice (some ⟨pb,0,none⟩) e.S.Procs.length pcap,.int .i64 e.S.Last,.int .i64 e.S.Alone,.int .i64 e.S.Claim] B7 (0,0)) _ (by omega)).trans ((d.below.block _ (Cc Y1)).trans Y1);have K2:=heap_alloc_new h (.cells #[.slice ag e.S.Globals.length ggcap,.slice ac e.S.Chans.length ccap,.slice (some ⟨pb,0,none⟩) e.S.Procs.length pcap,.int .i64 e.S.Last,.int .i64 e.S.Alone,.int .i64 e.S.Claim] B7 (0,0));have KB:Below h.heap.size h (h.alloc (.cells #[.slice ag e.S.Globals.length ggcap,.slice ac e.S.Chans.length ccap,.slice (some ⟨pb,0,none⟩) e.S.Procs.length pcap,.int .i64 e.S.Last,.int .i64 e.S.Alone,.int .i64 e.S.Claim] B7 (0,0))):=(Below.refl _ h).alloc (ApC _) _;have KZ:(h.alloc (.cells #[.slice ag e.S.Globals.length ggcap,.slice ac e.S.Chans.length ccap,.slice (some ⟨pb,0,none⟩) e.S.Procs.length pcap,.int .i64 e.S.Last,.int .i64 e.S.Alone,.int .i64 e.S.Claim] B7 (0,0))).heap.size=h.heap.size+1:=by simp
 generalize h.alloc (.cells #[.slice ag e.S.Globals.length ggcap,.slice ac e.S.Chans.length ccap,.slice (some ⟨pb,0,none⟩) e.S.Procs.length pcap,.int .i64 e.S.Last,.int .i64 e.S.Alone,.int .i64 e.S.Claim] B7 (0,0))=wd at *;have BD:Below w.heap.size w wd:=(BX.trans (d.below.mono hz2)).trans (KB.mono (by omega));rw[← BD.cell (p:=⟨tb,toff+kn*2,none⟩) T]at ty0;rw[← BD.cell (p:=⟨tb,toff+kn*2+1,none⟩) T]at ty1;rw[← BD.cell (p:=⟨mb,moff+tn*10+2,none⟩) hmb]at R;rw[← KB.cell (p:=⟨pb,i*4,none⟩) z]at p0;rw[← KB.cell (p:=⟨pb,i*4+3,none⟩) z]at p3;have x0:wd.cell? ⟨w.heap.size,4,none⟩=some (.slice (some ⟨mb,moff,none⟩) e.M.Procs.length mcap):=Am K0 rfl;have x1:wd.cell? ⟨h.heap.size,2,none⟩=some (.slice (some ⟨pb,0,none⟩) e.S.Procs.length pcap):=Am K2 rfl;have hgw:wd.heap[g]?=some (.cells gcur Es (0,0)):=(KB.block _ hgl).trans hgk;have xg:wd.cell? ⟨g,kn,none⟩=some (.int .i64 (p.Frame.getD kn 0)):=by
  rw[KB.cell (p:=⟨g,kn,none⟩) hgl,hgc kn (by omega)];simp[List.getD,P]
 have hgd:g<wd.heap.size:=by omega
 have hsd:h.heap.size<wd.heap.size:=by omega
 have hpd:pb<wd.heap.size:=by omega
 have hsg:h.heap.size≠(⟨g,kn,none⟩:Addr).block:=by simp;omega
 have hrg:w.heap.size+1≠(⟨g,kn,none⟩:Addr).block:=by simp;omega
 have hrd:w.heap.size+1<wd.heap.size:=by omega
 have hng:w.heap.size<=(⟨g,kn,none⟩:Addr).block:=by simp;omega
 have hrw:w.heap.size+1<w2.heap.size:=X;clear s7 s8 s9 s10 s11 s12 hgc hg3 H W J q0 q3;have hg2':=hg2;have ht2':=ht2;have hm2':=hm2;have hp2':=hp2;unfold maxLen at hg2' ht2' hm2' hp2';obtain⟨pcur,hpk⟩:=Bf d.p.row (k:=pb) rfl;have hpg:pb≠g:=FL hpk hgk (by decide);have hf1:h.heap.size≠g:=by omega
 have hf2:w.heap.size≠g:=by omega
 have hf3:mb≠g:=by omega
 have hf4:tb≠g:=by omega
 have hbd0:w.heap.size<wd.heap.size:=by omega
 have htd:tb<wd.heap.size:=by omega
 have hmd:mb<wd.heap.size:=by omega
 have hkI:(0:Int)<=(kn:Int):=by omega
 have hiI:(0:Int)<=(i:Int):=by omega
 have htI:(0:Int)<=(tn:Int):=by omega
 have hkF:(kn:Int)<(p.Frame.length:Int):=by omega
 have hiF:(i:Int)<(e.S.Procs.length:Int):=by omega
 have htF:(tn:Int)<(e.M.Procs.length:Int):=by omega
 go_region_held3 (fun w'=>w'.cell? ⟨h.heap.size,2,none⟩=some (.slice (some ⟨pb,0,none⟩) e.S.Procs.length pcap)/\w'.cell? ⟨pb,i*4+3,none⟩=some (.slice (some ⟨g,0,none⟩) p.Frame.length gcap)/\w'.cell? ⟨w.heap.size,4,none⟩=some (.slice (some ⟨mb,moff,none⟩) e.M.Procs.length mcap)/\w'.cell? ⟨pb,i*4,none⟩=some (.int .i64 tn)/\w'.cell? ⟨mb,moff+tn*10+2,none⟩=some (.slice (some ⟨tb,toff,none⟩) p.Frame.length tcap)/\w'.cell? ⟨tb,toff+kn*2,none⟩=some (.int .i64 ty.Bits)/\w'.cell? ⟨tb,toff+kn*2+1,none⟩=some (.bool ty.Signed)) (first | (refine⟨?_,?_,?_,?_,?_,?_,?_⟩<;>(first | (rw[KF hf1];assumption) | (rw[KF hpg];assumption) | (rw[KF hf2];assumption) | (rw[KF hf3];assumption) | (rw[KF hf4];assumption))) | go_keep)
  ((go_at_call 169;go_loud ((with_reducible refine(Ala _ _ _ _).mono ?_);rintro r m ⟨rfl,n⟩;have a:Below wd.heap.size wd m:=⟨n.os,n.tape,n.output,n.size,n.block⟩;have x5:m.cell? ⟨g,kn,none⟩=_:=(a.cell (p:=⟨g,kn,none⟩) hgd).trans xg;have y1:m.cell? ⟨h.heap.size,2,none⟩=_:=(a.cell (p:=⟨h.heap.size,2,none⟩) hsd).trans x1;have y2:m.cell? ⟨pb,i*4+3,none⟩=_:=(a.cell (p:=⟨pb,i*4+3,none⟩) hpd).trans p3;have y3:m.cell? ⟨w.heap.size,4,none⟩=_:=(a.cell (p:=⟨w.heap.size,4,none⟩) hbd0).trans x0;have y4:m.cell? ⟨pb,i*4,none⟩=_:=(a.cell (p:=⟨pb,i*4,none⟩) hpd).trans p0;have y5:m.cell? ⟨mb,moff+tn*10+2,none⟩=_:=(a.cell (p:=⟨mb,moff+tn*10+2,none⟩) hmd).trans R;have y6:m.cell? ⟨tb,toff+kn*2,none⟩=_:=(a.cell (p:=⟨tb,toff+kn*2,none⟩) htd).trans ty0;have y7:m.cell? ⟨tb,toff+kn*2+1,none⟩=_:=(a.cell (p:=⟨tb,toff+kn*2+1,none⟩) htd).trans ty1;have f5:m.frozen? ⟨g,kn,none⟩=false:=AH ((a.block _ hgd).trans hgw))))
 all_goals
  have L0:(m.setCell ⟨g,kn,none⟩ (.int .i64 (DL ty.Bits ty.Signed v))).heap[h.heap.size]?=_:=(Below.heap_setCell _ _ _ _ hsg).trans ((a.block _ hsd).trans K2);have L1:(m.setCell ⟨g,kn,none⟩ (.int .i64 (DL ty.Bits ty.Signed v))).heap[w.heap.size+1]?=_:=(Below.heap_setCell _ _ _ _ hrg).trans ((a.block _ hrd).trans K1);have HV:Hid (FO (m.setCell ⟨g,kn,none⟩ (.int .i64 (DL ty.Bits ty.Signed v))) w2.heap.size { e.S with Procs:=e.S.Procs.set i { e.S.Procs.getD i default with Frame:=(e.S.Procs.getD i default).Frame.set kn (DL ty.Bits ty.Signed v) } } #[.slice ag e.S.Globals.length ggcap,.slice ac e.S.Chans.length ccap,.slice (some ⟨pb,0,none⟩) e.S.Procs.length pcap,.int .i64 e.S.Last,.int .i64 e.S.Alone,.int .i64 e.S.Claim]) :=
   Ahp d hi (by rw[HP.out];exact I) (fun k h0 h1=>(a.block k (by omega)).trans (KB.block k h1)) _
  have HB:Below w.heap.size w (m.setCell ⟨g,kn,none⟩ (.int .i64 (DL ty.Bits ty.Signed v))):=(BD.trans (a.mono (by omega))).setCell (p:=⟨g,kn,none⟩) hng _;obtain⟨t0,t1,t2,t3,t4,t5,-⟩:=Oz L0;obtain⟨d0,d1,d2,d3,d4,d5,g0,g1,g2,g3,g4,g5⟩:=Oz L1;clear x5 y1 y2 y3 y4 y5 y6 y7 f5 n a;generalize m.setCell ⟨g,kn,none⟩ (.int .i64 (DL ty.Bits ty.Signed v))=w6 at *
  go_wp2
  have hres:=Oe L1 (.slice ag e.S.Globals.length ggcap) (.slice ac e.S.Chans.length ccap) (.slice (some ⟨pb,0,none⟩) e.S.Procs.length pcap) (.int .i64 e.S.Last) (.int .i64 e.S.Alone) (.int .i64 e.S.Claim);have hT:=IK (w:=w6) (b:=w.heap.size+1) (.slice ag e.S.Globals.length ggcap) (.slice ac e.S.Chans.length ccap) (.slice (some ⟨pb,0,none⟩) e.S.Procs.length pcap) (.int .i64 e.S.Last) (.int .i64 e.S.Alone) (.int .i64 e.S.Claim);refine Ej rfl rfl hres Tryz.underlying33 rfl (by kernel_rfl) rfl ?_;exact Z5 HQ HP HTY HV HB hT hrw
def Q4 (y x:VV):Prop:=∀ (w:World) (E:AN) (v:Value),V w E none y v->∀ B,V w ⟨fun _=>False,B,0,[]⟩ none x v
def Q5 : List VV->List VV->Prop
 | [],[]=>True
 | y::ys,x::xs=>Q4 y x/\Q5 ys xs
 | _,_=>False
theorem K5 : ∀ {ys xs:List VV},Q5 ys xs->ys.length=xs.length
 | [],[],_=>rfl
 | y::ys,x::xs,h=>by simp[K5 h.2]
 | [],_::_,h=>h.elim
 | _::_,[],h=>h.elim
theorem Kh : ∀ {ys xs:List VV},Q5 ys xs->∀ (j:Nat) x,xs[j]?=some x->∃ y,ys[j]?=some y/\Q4 y x
 | y::ys,x::xs,h,0,z,hz=>by simp only[ApG,Apx]at hz;subst hz;exact⟨y,rfl,h.1⟩
 | y::ys,x::xs,h,j+1,z,hz=>by simpa using Kh h.2 j z (by simpa using hz)
 | [],_::_,h,_,_,_=>h.elim
 | _,[],_,_,_,hz=>by simp at hz
theorem AcL {u:Value}:Q4 (.sc u) (.sc u):=fun w E v h B=>by
 obtain rfl:=h.sc_inv;exact .sc
theorem AcK {b:Bool}{n s:Nat}{f l:Nat->List VV}(c:∀ i,i<n->Q5 (f i) (l i)):Q4 (.sl b n s f) (.sl true n s l):=fun w E v h B=>by
 obtain⟨a,cap,rfl,h1,h2,h3⟩:=V.sl_inv h;refine Arg h1 h2 fun hp=>?_
 obtain⟨g,off,rfl,m,_,o,u,p,hv⟩:=h3 hp;refine⟨g,off,rfl,m,fun h=>h,fun i hi=>by rw[← K5 (c i hi)];exact o i hi,u,fun i j x hi d=>?_,fun i j x hi d=>?_⟩
 ·obtain⟨y,e,_⟩:=Kh (c i hi) j x d;exact p i j y hi e
 ·obtain⟨y,e,k⟩:=Kh (c i hi) j x d;exact k _ _ _ (hv i j y hi e) _
theorem WK {ys xs:List VV}(b:Q5 ys xs):Q4 (.agg ys) (.agg xs):=fun w E v h B=>by
 obtain⟨vs,rfl,h1,h2⟩:=h.agg_inv;refine .agg (h1.trans (K5 b)) fun j x c=>?_
 obtain⟨y,d,a⟩:=Kh b j x c;exact a _ _ _ (h2 j y d) _
def V6 (r:VV):Prop:=∀ (w:World) (E E':AN) (m m':Option Phi) (v:Value),V w E m r v->V w E' m' r v
theorem RQ {u:Value}:V6 (.sc u):=fun w E E' m m' v h=>by
 obtain rfl:=h.sc_inv;exact .sc
theorem OG {xs:List VV}(h:∀ x∈xs,V6 x):V6 (.tup xs):=fun w E E' m m' v hv=>by
 cases hv with
 | tup h1 h2=>exact .tup h1 fun j x a=>h x (Aql a) _ _ _ _ _ _ (h2 j x a)
theorem Aj.thaw {P:Program}{f:FuncId}{xs ys:List VV}{r:VV}(h:Aj P f [] xs [] r)(c:V6 r)(a:Q5 ys xs):Aj P f [] ys [] r:=by
 refine Aj.hand h.callable fun w E vs l d hB m hs=>?_
 refine(h.start d hB ⟨hs.1.trans (K5 a),fun j x g=>?_⟩).mono ?_
 ·obtain⟨y,i,k⟩:=Kh a j x g;exact k _ _ _ (hs.2 j y i) _
 ·rintro e w' ⟨v,rfl,b,hv⟩;exact⟨v,rfl,c _ _ _ _ _ _ hv,b⟩
theorem AeS {w:World}{e:D.Env}{x v:Int}{g h i j l m n o p a:Value}(c:AG e.M)(hs:Bq e.S)(d:CG w)(hB:∀ k,k∈EB->k<w.heap.size)
  (f:V w P0 none (.agg (Ae e)) (.agg (MD e g h i j l m n o p a))) (b:SO w e g h i j l m n o p a) :
  Calls Tryz.prog 135 #[.agg (MD e g h i j l m n o p a),.int .i64 x,.int .i64 v] w (MV w e x v):=by
 by_cases h1:CE e x=0
 ·by_cases h2:(BP e (FP e) (Ao e.M x)).2.2=0
  ·have h3:BP e (FP e) (Ao e.M x)=((BP e (FP e) (Ao e.M x)).1,(BP e (FP e) (Ao e.M x)).2.1,0):=by rw[← h2]
   by_cases h4:(BP e (FP e) (Ao e.M x)).1<0
   ·exact Z4 c hs d hB f b h1 h3 h4
   ·exact AeP c hs d hB f b h1 h3 (by omega)
  ·exact Z2 c hs d hB f h1 h2
 ·exact AeR c hs d hB f h1
def FQ : Phi:=fun _=>none
theorem Aj.handN {P:Program}{f:FuncId}{xs:List VV}{r:VV}{obs:List Ob}(n:Ic P f)
  (h:∀ (w:World) (E:AN) (vs:Array Value),(∀ k,E.fz k->k<w.heap.size)->CG w->(∀ k,k∈EB->k<w.heap.size)->(∀ k,E.br k->E.fz k)->Dh w E none xs vs ->
   Calls P f vs w fun e w'=>∃ v pls,e=.returned v/\EG w E FQ 0 obs pls w'/\V w' (E.up (addP FQ 0 pls)) (some (addP FQ 0 pls)) r v):Aj P f [] xs obs r:=by
 refine⟨n,fun w E φ vs g m hφ hs=>?_⟩;obtain rfl:φ=FQ:=funext fun id=>ApZ fun c=>by have:=(hφ id).1 c;simp at this
 have b:∀ id,FQ id=none:=fun _=>rfl
 refine(h w E vs g.lt g.lib.at' g.lib.lt m.sub ⟨hs.1,fun j x p=>?_⟩).mono ?_
 ·exact((hs.2 j x p).unmap b).less (fun k d=>.inl d) fun k d=>.inl d
 ·rintro e w' ⟨v,pls,rfl,c,hv⟩;have a:∀ i,i<obs.length->FQ (0+i)=none:=fun _ _=>rfl
  refine⟨v,addP FQ 0 pls,rfl,m.news g.lt c a (fun k d=>absurd rfl d) fun i o q=>?_,Aq2 (c.ext a),fun id=>?_,hv⟩
  ·unfold BS;rw[Ap5,ApQ,q];rfl
  ·rcases Aqj id obs.length with l | l
   ·have s:id<pls.length:=by rw[c.len];exact l
    have:=Ed (φ:=FQ) (nx:=0) (pls:=pls) (i:=id) (ApH s);rw[Ap5]at this;rw[this];simp[l]
   ·rw[D3 (.inr (by rw[c.len];omega))];simp[FQ];omega
theorem U9 {w:World}{n0 sz n:Nat}{e:TypeId}{v:Value}{xs:List Value}(h:w.ownsRow n0 e sz v n xs)(d:∀ u∈xs,u.oneCell'=true) :
  ∃ hd,hdV hd n v/\(∀ k cap,hd=some (k,cap)->v.ownBlock=some k/\n0<=k/\∃ cur,w.heap[k]?=some (.cells cur e (0,0))) /\
   ∀ (E:AN) (φ:Phi) (f:Nat->List VV),(∀ i,i<n->(f i).length=sz)->(∀ i j x,i<n->(f i)[j]?=some x->V w (E.up φ).hold none x (xs.getD (i*sz+j) undef))->LU w E φ true n sz f hd:=by
 obtain⟨p,⟨rfl,rfl⟩ | ⟨g,cap,cur,rfl,hg,m,h1,h2,h3,h4⟩⟩:=h
 ·exact⟨none,⟨rfl,rfl⟩,(fun k cap h=>by cases h),fun _ _ _ _ _=>rfl⟩
 ·have q:n*sz<=cur.size:=by rw[h3];exact ApS _ h1
  have cell:∀ k,k<n*sz->cur.getD k undef=xs.getD k undef:=fun k a=>by
   have l:k<cur.size:=by omega
   rw[← h4];simp[List.getD,Array.getD,l,a]
  refine⟨some (g,cap),⟨rfl,h1⟩,fun k c a=>?_,fun E φ f b hv=>⟨cur,e,m,h3,h1,h2,b,fun i j x hi o=>?_,fun k a=>?_⟩⟩
  ·simp only[Apx,Ap8]at a;obtain⟨rfl,rfl⟩:=a;exact⟨rfl,hg,cur,m⟩
  ·have r:j<sz:=by rw[← b i hi];exact(Apz.1 o).1
   have a:i*sz+j<n*sz:=by
    have:(i+1)*sz<=n*sz:=ApS _ hi;rw[Nat.succ_mul]at this;omega
   show V w (E.up φ).hold none x _;rw[cell _ a];exact hv i j x hi o
  ·rw[cell k a];refine d _ ?_;have:k<xs.length:=by rw[p];exact a
   simp[List.getD,this]
structure Pn where
 pid:Int
 esc:Int
 way:Int
deriving DecidableEq
instance : Inhabited Pn:=⟨⟨0,0,0⟩⟩
structure Ab where
 is:Bool
 err:Int
 wth:List Pn
instance : Inhabited Ab:=⟨⟨false,0,[]⟩⟩
structure Wy where
 Esc:Int
 Way:Int
 With:Int
 WithEsc:Int
 WithWay:Int
 Err:Int
deriving DecidableEq
instance : Inhabited Wy:=⟨⟨0,0,0,0,0,0⟩⟩
section
variable (e : D.Env)
def HH : Int:=bif decide (Cb e.M e.S≠0) then Cb e.M e.S else bif decide (e.Pid<0)||decide ((e.S.Procs.length:Int)<=e.Pid) then 42 else 0
def CC : D.Proc:=A3 e.M (De e e.Pid).Type_
def Cy : D.Loc:=(CC e).Locs.getD (De e e.Pid).Loc.toNat default
def Dz (x:Int):Bool:=decide (0<=x)&&decide ((Ao e.M x).Op=39)
def Si : Nat->List (List D.Trans)->List (Int × List D.Trans)
 | _,[]=>[]
 | k,w::r=>((k:Int),w)::Si (k+1) r
def EA (l:D.Loc):List (Int × List D.Trans):=Si 0 l.Esc++[(-1,l.Out)]
def JP (ev:Evl):List Int->List Int->List Int × Int
 | out,[]=>(out,0)
 | out,x::l=>bif decide ((ev x).2≠0) then([],(ev x).2) else JP ev (out++[(ev x).1]) l
def BQ (l:List Int):List Int × Int:=JP (Be e) [] l
def G4 (f:List D.Type)(l:List Int):List Int:=(List.range l.length).map fun i=>IG (f.getD i default) (l.getD i 0)
def Bb (c:Int):List D.Type:=(BV e.M (B6 e c).Shape).Fields
def AD (s:D.Stmt):Int × List Int × Int :=
 bif decide ((AB e s.A).2≠0) then(0,[],(AB e s.A).2)
 else bif decide ((Bb e (AB e s.A).1).length≠s.Args.length) then(0,[],49)
 else bif decide ((BQ e s.Args).2≠0) then(0,[],(BQ e s.Args).2)
 else((AB e s.A).1,G4 (Bb e (AB e s.A).1) (BQ e s.Args).1,0)
def Cl (s:D.Stmt):List Int × Int :=
 bif decide (C7 (Be e) s.Args s.Match s.Args.length≠0) then([],C7 (Be e) s.Args s.Match s.Args.length) else(CV (Be e) s.Args s.Match,0)
def Bj (s:D.Stmt):Int × Int × Int :=
 bif decide ((AB e s.A).2≠0) then(0,-1,(AB e s.A).2)
 else bif decide ((Bb e (AB e s.A).1).length≠s.Args.length) then(0,-1,49)
 else bif decide ((Cl e s).2≠0) then(0,-1,(Cl e s).2)
 else((AB e s.A).1,Gy (B6 e (AB e s.A).1) (Cl e s).1 s.Match (decide (s.N.tmod 2=1)),0)
def E0 (s:D.Stmt)(c:Int)(m:List Int):Bool :=
 bif decide (s.Kind≠6)||(decide (1<s.N)||decide (s.Args.length≠m.length)) then false
 else bif decide ((AB e s.A).2≠0)||decide ((AB e s.A).1≠c) then false
 else bif decide ((Cl e s).2≠0) then false else decide (Gy ⟨0,[m]⟩ (Cl e s).1 s.Match false=0)
def JW : Ab:=⟨decide (e.S.Procs.length<16),0,[]⟩
def E5 (mt:Int->List Int->List Pn)(s:D.Stmt)(self:Bool):Ab :=
 bif decide ((AB e s.A).2≠0) then⟨true,(AB e s.A).2,[]⟩
 else bif decide ((Bb e (AB e s.A).1).length≠s.Args.length) then⟨true,49,[]⟩
 else bif decide (0<(BV e.M (B6 e (AB e s.A).1).Shape).Room) then⟨decide (((B6 e (AB e s.A).1).Queue.length:Int)<(BV e.M (B6 e (AB e s.A).1).Shape).Room),0,[]⟩
 else bif self then⟨false,0,[]⟩
 else bif decide ((AD e s).2.2≠0) then⟨true,(AD e s).2.2,[]⟩
 else⟨decide (0<(mt (AB e s.A).1 (AD e s).2.1).length),0,mt (AB e s.A).1 (AD e s).2.1⟩
def Ce (mt:Int->List Int->List Pn)(s:D.Stmt)(self:Bool):Ab :=
 if s.Kind=1 then(bif Dz e s.A then JW e else⟨decide ((Be e s.A).1≠0)||decide ((Be e s.A).2≠0),(Be e s.A).2,[]⟩)
 else if s.Kind=2 then(bif Dz e s.B then JW e else⟨true,0,[]⟩)
 else if s.Kind=9 then⟨decide (e.S.Chans.length<32),0,[]⟩
 else if s.Kind=5 then E5 e mt s self
 else if s.Kind=6 then⟨decide (0<=(Bj e s).2.1)||decide ((Bj e s).2.2≠0),(Bj e s).2.2,[]⟩
 else if s.Kind=7 then⟨false,0,[]⟩ else⟨true,0,[]⟩
def Eg (mt:Int->List Int->List Pn)(ways:List D.Trans)(self:Bool):Nat->Bool
 | 0=>false
 | n+1=>Eg mt ways self n||(Ce e mt (ways.getD n default).S self).is
def Er (mt:Int->List Int->List Pn)(ways:List D.Trans)(self:Bool)(i:Nat):Ab :=
 let x:=Ce e mt (ways.getD i default).S self
 bif decide ((ways.getD i default).S.Kind=7)&&!(Eg e mt ways self ways.length) then{ x with is:=true } else x
def Dc (mt:Int->List Int->List Pn)(ways:List D.Trans)(self:Bool):List Ab:=(List.range ways.length).map (Er e mt ways self)
def GZ : Int->List Int->List Pn:=fun _ _=>[]
def isSome (l:List Ab):Bool:=l.any Ab.is
def DA (c:Int)(m:List Int)(i:Int):Nat->List D.Trans->List Pn
 | _,[]=>[]
 | k,t::r=>(bif E0 e t.S c m then[⟨e.Pid,i,k⟩] else[])++DA c m i (k+1) r
def Hu (c:Int)(m:List Int):List (Int × List D.Trans)->List Pn
 | []=>[]
 | (i,ws)::r=>bif decide (0<(DA e c m i 0 ws).length)||isSome (Dc e GZ ws true) then DA e c m i 0 ws else Hu c m r
def AX : Bool × Int:=bif decide ((CC e).Provided<0) then(true,0) else(decide ((Be e (CC e).Provided).1≠0),(Be e (CC e).Provided).2)
def Ey (c:Int)(m:List Int):List Pn:=bif !(AX e).1||decide ((AX e).2≠0) then[] else Hu e c m (EA (Cy e))
def BA (q:Int):D.Env:={ e with Pid:=q }
def CD (c:Int)(m:List Int):Nat->List Pn
 | 0=>[]
 | n+1=>CD c m n++bif decide ((n:Int)≠e.Pid) then Ey (BA e n) c m else[]
def BY (c:Int)(m:List Int):List Pn:=CD e c m e.S.Procs.length
def IW (err:Int):Wy:=⟨-1,-1,-1,-1,-1,err⟩
def Ff (i:Int)(k:Nat)(err:Int)(p:Pn):Wy:=⟨i,k,p.pid,p.esc,p.way,err⟩
def Fp (i:Int)(k:Nat)(x:Ab):List Wy:=(bif x.is&&decide (x.wth.length=0) then[⟨i,k,-1,-1,-1,x.err⟩] else[])++x.wth.map (Ff i k x.err)
def CP (i:Int):Nat->List Ab->List Wy
 | _,[]=>[]
 | k,x::r=>Fp i k x++CP i (k+1) r
def ES : List (Int × List D.Trans)->List Wy
 | []=>[]
 | (i,ws)::r=>bif decide (0<(CP i 0 (Dc e (BY e) ws false)).length) then CP i 0 (Dc e (BY e) ws false) else ES r
def Bt : List Wy :=
 bif decide ((De e e.Pid).Loc=(CC e).Final) then(bif decide (e.Pid=(e.S.Procs.length:Int) - 1) then[IW 0] else[])
 else bif decide ((AX e).2≠0) then[IW (AX e).2]
 else bif !(AX e).1 then[] else ES e (EA (Cy e))
def EN : List Wy × Int:=bif decide (HH e≠0) then([],HH e) else(Bt e,0)
end
def AjS : Value->Value->Bool
 | .int k a,.int l b=>decide (k=l)&&decide (a=b)
 | .bool a,.bool b=>a==b
 | .string a,.string b=>decide (a=b)
 | _,_=>false
theorem AjR {u v:Value}(h:AjS u v=true):u=v:=by
 unfold AjS at h;split at h
 ·simp only[Apv,ApB]at h;rw[h.1,h.2]
 ·simp only[beq_iff_eq]at h;rw[h]
 ·simp only[ApB]at h;rw[h]
 ·cases h
section
variable {P : Program} {w:World} {E:AN} {φ:Phi} {hs hs' hs1:List Ob} {xs:List VV} {r:VV} {f:FuncId}
theorem AmQ (j:HRel E (BS hs) φ w)(hφ:∀ id,φ id≠none ↔ id<hs.length)(l:∀ k,E.fz k->k<w.heap.size)(sz:Nat)(g:Nat->List VV) :
  HRel E (BS (hs++[.arr true 0 0 sz g])) (addP φ hs.length [Pl.arr 0 0 none]) w/\Ext w φ w (addP φ hs.length [Pl.arr 0 0 none]) /\
   (∀ id,addP φ hs.length [Pl.arr 0 0 none] id≠none ↔ id<(hs++[Ob.arr true 0 0 sz g]).length)/\addP φ hs.length [Pl.arr 0 0 none] hs.length=some (.arr 0 0 none):=by
 have c:φ hs.length=none:=ApZ fun m=>by have:=(hφ _).1 m;omega
 have d:Room w [Pl.arr 0 0 none] w:=Room.one (Below.refl _ _) fun k h=>by obtain⟨_,n⟩:=h;cases n
 have b:∀ i,i<[Ob.arr true 0 0 sz g].length->φ (hs.length+i)=none:=fun i hi=>by
  simp only[Aqi,AqB,Ap5,Nat.lt_one_iff]at hi;subst hi;exact c
 have a:EG w E φ hs.length [Ob.arr true 0 0 sz g] [Pl.arr 0 0 none] w:=EG.one d ⟨rfl,rfl,rfl⟩;have e:addP φ hs.length [Pl.arr 0 0 none] hs.length=some (.arr 0 0 none):=Ed (i:=0) rfl;refine⟨j.news l a b (fun k h=>?_) fun i o p=>?_,a.ext b,fun id=>?_,e⟩
 ·have:=(hφ k).1 h;show BS (hs++_) k=BS hs k;simp[BS,ApL this]
 ·show BS (hs++_) (hs.length+i)=o;unfold BS;rw[ApQ,ApX (by omega),show hs.length+i - hs.length=i by omega,p];rfl
 ·simp only[ApP,Aqi,AqB]
  by_cases q:id=hs.length
  ·subst q;rw[e];simp
  ·rw[D3 (by simp;omega)];rw[hφ id];omega
theorem Aj.conv {c:VV}{a:List Ob}(h:Aj P f hs xs hs1 r)
  (g:∀ (w:World) (E:AN) (φ:Phi) (v:Value),HRel E (BS hs1) φ w->(∀ id,φ id≠none ↔ id<hs1.length)->(∀ k,E.fz k->k<w.heap.size)->V w (E.up φ) (some φ) r v ->
   ∃ φ',HRel E (BS a) φ' w/\Ext w φ w φ'/\(∀ id,φ' id≠none ↔ id<a.length)/\V w (E.up φ') (some φ') c v):Aj P f hs xs a c:=by
 refine⟨h.callable,fun w E φ vs d i hφ b=>(h.call w E φ vs d i hφ b).mono ?_⟩;rintro e w' ⟨v,φ',rfl,h1,h2,h3,h4⟩;obtain⟨φ2,k1,k2,j,l⟩:=g w' E φ' v h1 h3 (fun k m=>ApR (d.lt k m) h2.size) h4;exact⟨v,φ2,rfl,k1,h2.trans (Aq2 k2),j,l⟩
theorem Aj.ownR {ys:List VV}(h:Aj P f hs xs hs1 (.tup ys))(j:Nat)(c:ys[j]?=some .nl)(sz:Nat)(g:Nat->List VV):Aj P f hs xs (hs1++[.arr true 0 0 sz g]) (.tup (ys.set j (.ow hs1.length 0 0))):=by
 refine h.conv fun w E φ v d hφ e hv=>?_
 obtain⟨h1,h2,h3,h4⟩:=AmQ d hφ e sz g;refine⟨_,h1,h2,h3,?_⟩;cases hv with
 | tup k1 k2 =>
  refine .tup (by simp[k1]) fun i x a=>?_
  rw[Ary]at a;split at a
  ·rename_i b;subst b;split at a
   ·simp only[Apx]at a;subst a;rw[(k2 j _ c).nl_inv];exact .ow h4 (ApC _) (hd0:=none) ⟨rfl,rfl⟩ fun _=>⟨rfl,ApC _⟩
   ·cases a
  ·exact(k2 i x a).ext h2
theorem Fr.less {b b':Nat}{w w':World}{φ φ':Phi}(h:Fr b w φ w' φ')(a:b'<=b):Fr b' w φ w' φ' :=
 ⟨h.os,h.tape,h.output,h.size,h.block,h.new,fun id p hi e=>h.kind id p (ApR hi a) e⟩
theorem Aj.ownB {i j:Nat}{cs:List VV}(hi:hs[i]?=some (.box cs))(u:cs[j]?=some .nl)(sz:Nat)(g:Nat->List VV)
  (h:Aj P f (hs.set i (.box (cs.set j (.ow hs.length 0 0)))++[.arr true 0 0 sz g]) xs hs' r):Aj P f hs xs hs' r:=by
 refine⟨h.callable,fun w E φ vs s y hφ l=>?_⟩;obtain⟨h1,h2,h3,h4⟩:=AmQ y hφ s.lt sz g;have m:i<hs.length:=(Apz.1 hi).1;refine(h.call w E _ vs (s.ext h2) ⟨h1.sub,fun id p e=>?_,h1.inj,h1.free⟩ (fun id=>by rw[h3 id];simp) ⟨l.1,fun k x a=>(l.2 k x a).ext h2⟩).mono ?_
 ·have d:=h1.ob id p e;show ObV w E _ (BS (hs.set i _++_) id) p
  by_cases t:id=i
  ·subst t;have n:BS (hs++[Ob.arr true 0 0 sz g]) id=.box cs:=by simp[BS,ApL m,hi]
   have z:BS (hs.set id (.box (cs.set j (.ow hs.length 0 0)))++[Ob.arr true 0 0 sz g]) id=.box (cs.set j (.ow hs.length 0 0)):=by
    simp[BS,ApL,m]
   rw[n]at d;rw[z];cases p with
   | arr=>exact d.elim
   | box b =>
    obtain⟨c,ty,k1,k2⟩:=d;refine⟨c,ty,k1,by simp[k2.1],fun k x a=>?_⟩;rw[Ary]at a;split at a
    ·rename_i o;subst o;split at a
     ·simp only[Apx]at a;subst a;rw[(k2.2 j _ u).nl_inv];exact .ow h4 (ApC _) (hd0:=none) ⟨rfl,rfl⟩ fun _=>⟨rfl,ApC _⟩
     ·cases a
    ·exact k2.2 k x a
  ·have n:BS (hs.set i (.box (cs.set j (.ow hs.length 0 0)))++[Ob.arr true 0 0 sz g]) id=BS (hs++[Ob.arr true 0 0 sz g]) id:=by
    rcases Aqj id hs.length with q | q
    ·simp[BS,ApL,q,List.getElem_set_ne (Ne.symm t)]
    ·simp[BS,ApX,q]
   rw[n];exact d
 ·rintro e w' ⟨v,φ',rfl,k1,k2,A,B⟩;refine⟨v,φ',rfl,k1,(Aq2 h2).trans (k2.less (by simp)),A,B⟩
end
def GP (x:Pn):List VV:=[Aa x.pid,Aa x.esc,Aa x.way]
def Dj (l:List Pn):Nat->List VV:=fun i=>GP (l.getD i default)
def Bl (fz:Bool)(l:List Pn):VV:=.sl fz l.length 3 fun i=>GP (l.getD i default)
def AR (x:Ab):List VV:=[Ac x.is,Aa x.err,Bl true x.wth]
def D9 (l:List Ab):Nat->List VV:=fun i=>AR (l.getD i default)
def Bo (fz:Bool)(l:List Ab):VV:=.sl fz l.length 3 fun i=>AR (l.getD i default)
def AY (x:Wy):List VV:=[Aa x.Esc,Aa x.Way,Aa x.With,Aa x.WithEsc,Aa x.WithWay,Aa x.Err]
def ER (l:List Wy):Nat->List VV:=fun i=>AY (l.getD i default)
def AW (fz:Bool)(l:List Wy):VV:=.sl fz l.length 6 fun i=>AY (l.getD i default)
def BJ (x:D.Env):List VV:=[AC true x.M.Globals,Ad true x.M.Init,Bn true x.M.Shapes,Ad true x.M.Chans,BE true x.M.Procs,Aa x.M.Claim,BL true x.M.Exprs,Ad true x.S.Globals,A0 false x.S.Chans,AI false x.S.Procs,Aa x.S.Last,Aa x.S.Alone,Aa x.S.Claim,Aa x.Pid,Ac x.Timeout,A6 true x.Able]
def AmK : Shp:={ α:=List Pn,enc:=fun y=>([],Bl true y) }
def AmO : Shp:={ α:=Ab,enc:=fun y=>([],.agg (AR y)) }
def AiH : Shp:={ α:=List Ab,enc:=fun y=>([],Bo true y) }
def AmI : Shp:={ α:=Wy,enc:=fun y=>([],.agg (AY y)) }
def AiB : Shp:={ α:=List Wy,enc:=fun y=>([],AW true y) }
def Anm : Shp:={ α:=D.Loc,enc:=fun y=>([],.agg (A8 y)) }
def Alk : Shp:={ α:=D.Proc,enc:=fun y=>([],.agg (A4 y)) }
def AiD : Shp:={ α:=D.Trans,enc:=fun y=>([],.agg (Dr y)) }
def AmN : Shp:={ α:=Bool × Int,enc:=fun y=>([],.tup [Ac y.1,Aa y.2]) }
def AiG : Shp:={ α:=Int × List Int × Int,enc:=fun y=>([],.tup [Aa y.1,Ad true y.2.1,Aa y.2.2]) }
def AmL : Shp:={ α:=List Int × Int,enc:=fun y=>([],.tup [Ad true y.1,Aa y.2]) }
def Aoz : Shp:={ α:=List Wy × Int,enc:=fun y=>([],.tup [AW true y.1,Aa y.2]) }
def Ant : Shp:={ α:=List Int × Int,enc:=fun y=>([.arr true 0 y.1.length 1 (AJ y.1)],.tup [.ow 0 0 y.1.length,Aa y.2]) }
def CN (f:FuncId):Shp :=
 bif Nat.beq f 46||Nat.beq f 86||Nat.beq f 218 then Aae
 else bif Nat.beq f 51 then Anm
 else bif Nat.beq f 80 then Alk
 else bif Nat.beq f 50 then AiD
 else bif Nat.beq f 89||Nat.beq f 212||Nat.beq f 213||Nat.beq f 47||Nat.beq f 214 then Alo
 else bif Nat.beq f 93 then Ant
 else bif Nat.beq f 136 then AiG
 else bif Nat.beq f 176 then AmL
 else bif Nat.beq f 139 then Ro
 else bif Nat.beq f 201||Nat.beq f 186 then AmK
 else bif Nat.beq f 82 then AmN
 else bif Nat.beq f 155||Nat.beq f 121||Nat.beq f 156 then AmO
 else bif Nat.beq f 85 then AiH
 else bif Nat.beq f 81 then AmI
 else bif Nat.beq f 44 then AiB
 else bif Nat.beq f 53 then Aoz
 else DB f
def hsR (e:D.Env)(c:Int)(m:List Int)(out:List Pn):List Ob:=[.box (Ae e),.box [Aa c],.box [Ad true m],.box [.ow 4 0 out.length],.arr true 0 out.length 3 (Dj out)]
def Aof : VV:=.fn (.func 211) [.bp 0 0,.bp 1 0,.bp 2 0,.bp 3 0]
def shR (e:D.Env)(c:Int)(m:List Int)(f:FuncId):Shp :=
 bif Nat.beq f 211 then{ α:=List Pn × Bool,enc:=fun y=>(hsR e c m y.1,Ac y.2),lend:=true }
 else bif Nat.beq f 83 then{ α:=List Pn,enc:=fun y=>(hsR e c m y,.tup []),lend:=true }
 else CN f
def hsW (e:D.Env)(out:List Wy):List Ob:=[.box (Ae e),.box [.ow 2 0 out.length],.arr true 0 out.length 6 (ER out)]
def Aoe : VV:=.fn (.func 84) [.bp 0 0,.bp 1 0]
def shW (e:D.Env)(f:FuncId):Shp :=
 bif Nat.beq f 84 then{ α:=List Wy × Bool,enc:=fun y=>(hsW e y.1,Ac y.2),lend:=true }
 else bif Nat.beq f 83 then{ α:=List Wy,enc:=fun y=>(hsW e y,.tup []),lend:=true }
 else CN f
def SB : Ann:={ keep:=fun
  | [0,1,0,1,1]=>[2,6,11,12,13]
  | _=>[] }
def SA : Ann:={ keep:=fun
  | [0,1,0,1,1,1,1,1,1,1]=>[7,9,10,53,54,55]
  | _=>[] }
def JM : Ann:={ keep:=fun
  | [0,1,0,1,1]=>[2,3,6,16,17,18]
  | _=>[] }
def MK : Ann:={ keep:=fun
  | [0,1,0,1,1]=>[1,2,3,7,13,14]
  | _=>[] }
def GB : Ann:={ cut:=(fun | [1,1,0,0,1,1,0,0,1,0,1,1,1]=>true | _=>false),keep:=fun
  | [0,1,0,1,1,1]=>[1,2,3,7,8,16,17,18]
  | [0,1,0,1,1,1,1]=>[7,8,40,41,42]
  | [1,1,0,0,1,1,0,0,1,0,1,1,1]=>[1,2,3,7,8,9,16,17,18]
  | _=>[] }
def O2 : Ann:={ keep:=fun
  | [0,1,0,1]=>[0,1,7,8]
  | _=>[] }
def O1 : Ann:={ keep:=fun
  | [0,1,0,1]=>[0,3,7,8]
  | _=>[] }
def KJ : Ann:={ base:=5,keep:=fun
  | [0,1,0,1]=>[1,2,7,8,9]
  | _=>[] }
def KI : Ann:={ base:=3,keep:=fun
  | [0,1,0,1]=>[1,2,7,8,9]
  | _=>[] }
def Sz : Ann:={ base:=5,keep:=fun
  | [0,1,0,1]=>[0,1,2,3,4,5,11,12,13]
  | _=>[] }
def H3 : Ann:={ base:=3,keep:=fun
  | [0,1,0,1]=>[0,3,14,15,16]
  | [0,1,1,1,1,0,0,1,1,0,0,1,0,1]=>[0,3,9,14,15,16,39,40,41]
  | _=>[] }
def UU (e:D.Env)(l out:List Int)(k:Int):St:=Ay [(2,.bp 0 0),(6,.ow 1 0 out.length),(11,Ad true l),(12,Aa l.length),(13,Aa k)] [.box (BJ e),.arr true 0 out.length 1 (AJ out)]
def Rf (c:Int)(f:List D.Type)(l:List Int)(k:Int):St:=Ay [(7,Aa c),(9,AC true f),(10,.ow 0 0 l.length),(53,.ow 0 0 l.length),(54,Aa l.length),(55,Aa k)] [.arr true 0 l.length 1 (AJ l)]
def Rc (e:D.Env)(s:D.Stmt)(want:List Int)(k:Int):St:=Ay [(2,.bp 0 0),(3,.bp 1 0),(6,.ow 2 0 want.length),(16,Ad true s.Args),(17,Aa s.Args.length),(18,Aa k)] [.box (Ae e),.box (Au s),.arr true 0 want.length 1 (AJ want)]
def Nc (e:D.Env)(c:Int)(m:List Int)(out:List Pn)(k:Int):St:=Ay [(1,Aa c),(2,Ad true m),(3,.bp 0 0),(7,.ow 1 0 out.length),(13,Aa e.S.Procs.length),(14,Aa k)] [.box (Ae e),.arr true 0 out.length 3 (Dj out)]
def UT (e:D.Env)(ws:List D.Trans)(self:Bool)(n:Nat)(F:Nat->List VV)(some:Bool)(k:Int):St:=Ay [(1,Ap true ws),(2,Ac self),(3,.bp 0 0),(7,.ow 1 0 n),(8,Ac some),(16,Ap true ws),(17,Aa ws.length),(18,Aa k)] [.box (Ae e),.arr true 0 n 3 F]
def US (e:D.Env)(ws:List D.Trans)(self:Bool)(l:List Ab)(some:Bool)(i k:Int):St:=Ay [(1,Ap true ws),(2,Ac self),(3,.bp 0 0),(7,.ow 1 0 l.length),(8,Ac some),(9,Aa i),(16,Ap true ws),(17,Aa ws.length),(18,Aa k)] [.box (Ae e),.arr true 0 l.length 3 (D9 l)]
def Nd (ws:List D.Trans)(l:List Ab)(some:Bool)(k:Int):St:=Ay [(7,.ow 0 0 l.length),(8,Ac some),(40,Ap true ws),(41,Aa ws.length),(42,Aa k)] [.arr true 0 l.length 3 (D9 l)]
def P4 (l:List Ab)(k:Int):St:=Ay [(0,Bo true l),(1,.fn (.func 214) []),(7,Aa l.length),(8,Aa k)] []
def P3 (l:List Wy)(w:Wy)(k:Int):St:=Ay [(0,AW true l),(3,.bp 0 0),(7,Aa l.length),(8,Aa k)] [.box (AY w)]
def K9 (e:D.Env)(c:Int)(m:List Int)(out:List Pn)(l:D.Loc)(k:Int):St:=Ay [(1,Aof),(2,.bp 5 0),(7,Bk true l.Esc),(8,Aa l.Esc.length),(9,Aa k)] (hsR e c m out++[.box (A8 l)])
def K8 (e:D.Env)(out:List Wy)(l:D.Loc)(k:Int):St:=Ay [(1,Aoe),(2,.bp 3 0),(7,Bk true l.Esc),(8,Aa l.Esc.length),(9,Aa k)] (hsW e out++[.box (A8 l)])
def Re (e:D.Env)(c:Int)(m:List Int)(out:List Pn)(i:Int)(ws:List D.Trans)(k:Int):St:=Ay [(0,Aa i),(1,Ap true ws),(2,.bp 0 0),(3,.bp 1 0),(4,.bp 2 0),(5,.bp 3 0),(11,Ap true ws),(12,Aa ws.length),(13,Aa k)] (hsR e c m out)
def Jj (e:D.Env)(out:List Wy)(i:Int)(l:List Ab)(k:Int):St:=Ay [(0,Aa i),(3,.bp 1 0),(14,Bo true l),(15,Aa l.length),(16,Aa k)] (hsW e out)
def Nb (e:D.Env)(out:List Wy)(i:Int)(l:List Ab)(k:Int)(w:Wy)(ps:List Pn)(j:Int):St:=Ay [(0,Aa i),(3,.bp 1 0),(9,.bp 3 0),(14,Bo true l),(15,Aa l.length),(16,Aa k),(39,Bl true ps),(40,Aa ps.length),(41,Aa j)] (hsW e out++[.box (AY w)])
end Go.Proofs.YtnhamlpcpngafaaGreatDoor
