/-
  Texts, joined: GdW4, GdW5, GdW6, CkP, CkS, CkA, CkH, CkW, Touch, StClone, ExS, ExA, ExH, ValPlain, TwoPlain, ExP, Scope, ExOne, ExW1, ExW2, ExW3, ExW4, ExW5, EbP, EbS, EcP, VjThaw, VjThawF, VjOwn, EcE, EcA, EcH, EcW1, EcW2, EcW3, EcW4, EcW5, EcW6, EcW7, CoP, CoV, CellRet, CoW, RfS, RfA.
-/
import Derived.Test.YtboifkdeeigcaaaGreatDoorYkB
import Derived.KernelRfl
import Derived.WalkKit
import Derived.OneCell
import Derived.Deep.QuietTactic
import Derived.BigRegion
import Derived.Deep.RegionLaw
import Derived.Deep.AppendLies
import Derived.Lib.SliceRun
import Derived.Lib.Hide
import Derived.Test.YtboifkdeeigcaaaGreatDoorProg
import Derived.WalkSpells
import Derived.WalkLawsBesides
import Derived.BigQuiet
import Derived.Laws.Rows
set_option linter.defProp false
set_option maxRecDepth 100000
namespace Go.Proofs.YtboifkdeeigcaaaGreatDoor
open Go.RowKit Go.Proofs.Tryz
open IntKind(i64)
def leS (x y:VV):Prop:=∀(w:World)(E:A2)(m:Option Phi)(v:Value),(∀k,E.br k->E.fz k)->V w E m x v->V w E m y v
theorem Dd (x):leS x x:=λ_ _ _ _ _ h=>h
def IM {n sz}{f}:leS (.sl true n sz f) (.sl false n sz f):=by
 intro w E m v d h;obtain⟨a,cap,rfl,h1,h2,h3⟩:=V.sl_inv h;refine Atw h1 h2 λhp=>?_
 obtain⟨b,off,rfl,e,g,k,u,l,hv⟩:=h3 hp;exact⟨b,off,rfl,e,λc=>g (d b c),k,u,l,λi j x hi o=>(hv i j x hi o).less (λ_ h=>h) λ_ _=>trivial⟩
def Ai.frz {P}{f}{hs hs'}{xs ys}{r}(h:Ai P f hs xs hs' r)(d:ys.length=xs.length)(b:∀(j:Nat) x y,xs[j]?=some x->ys[j]?=some y->leS y x):Ai P f hs ys hs' r:=by
 refine⟨h.callable,λw E φ vs e c hφ a=>h.call w E φ vs e c hφ ⟨a.1.trans d,λj x g=>?_⟩⟩;have hj:j<ys.length:=gD
 exact b j x _ g (ArF hj) _ _ _ _ (λk hk=>hk.imp (c.sub k) λh=>h) (a.2 j _ (ArF hj))
def ieq (a b:Int):(a==b)=decide (a=b):=gD
def A8 (a b):(bif a then b else false)=(a&&b):=by cases a<;>rfl
theorem Bj (a b):(bif a then true else b)=(a||b):=by cases a<;>rfl
def nge (n k:Nat):decide ((n:Int)>=k)=decide (k<=n):=gD
def nle (n k:Nat):decide ((n:Int)<=k)=decide (n<=k):=gD
def ge1 (n:Nat):decide ((n:Int)>=1)=decide (1<=n):=nge n 1
def le8 (n:Nat):decide ((n:Int)<=8)=decide (n<=8):=nle n 8
def AqY (n:Nat):decide ((n:Int)<=256)=decide (n<=256):=nle n 256
def AqU (n:Nat):decide ((n:Int)=0)=decide (n=0):=gD
structure PG (s:D.Stmt):Prop where
 a:s.Args.length<=1048576
 m:s.Match.length<=1048576
def RL {m}{s}(hs:PG s):Ai prog 197 [] [tpM m,.agg (An s)] [] (Ad (AF m s)):=by
 have e:=hs.a;have f:=hs.m;have em:∀u v x:Bool,Ai prog 221 [] [.agg (An s),Ad u,Ad v,Ad x] [] (Ad (D6 s u v x)):=λu v x=>AcT e f
 have n1:∀x:Bool,(bif x then s.B==(-1:Int)else false)=(x&&decide (s.B=-1)):=λx=>by rw[ieq,A8]
 have c:∀{k:Int},(s.Kind==k)=true->s.Kind=k:=λh=>by simpa using h
 have i:∀{k:Int},(s.Kind==k)=false->s.Kind≠k:=λh=>by simpa using h
 refine Ay func197 (Tw _ m s rfl rfl) ?_;have d:s.Kind=1\/s.Kind=3->AF m s=(DU m s.A&&decide (s.B=-1)&&D6 s true true true):=λh=>by unfold AF;rw[ArY h]
 have t2:s.Kind=2->AF m s=(B5 m s.A&&DU m s.B&&D6 s true true true):=λh=>by unfold AF;grind
 have j:s.Kind=4->AF m s=(decide (s.A=-1)&&decide (s.B=-1)&&CI m.Exprs.length s.Args&&decide (s.Match.length=0)&&decide (s.Text.size<=256)&&decide (s.N=0)):=λh=>by unfold AF;grind
 have g:s.Kind=5->AF m s=(DU m s.A&&decide (s.B=-1)&&decide (1<=s.Args.length)&&decide (s.Args.length<=8)&&CI m.Exprs.length s.Args&&decide (s.Match.length=0)&&(decide (s.N=0)||decide (s.N=1))&&decide (s.Text.size=0)):=λh=>by unfold AF;grind
 have t6:s.Kind=6->AF m s=(DU m s.A&&decide (s.B=-1)&&Gp m s&&decide (0<=s.N)&&decide (s.N<=3)&&decide (s.Text.size=0)):=λh=>by unfold AF;grind
 have l:s.Kind=7\/s.Kind=8->AF m s=(decide (s.A=-1)&&decide (s.B=-1)&&D6 s true true true):=λh=>by unfold AF;grind
 have t9:s.Kind=9->AF m s=(B5 m s.A&&decide (s.B=-1)&&decide (0<=s.N)&&decide (s.N<m.Shapes.length)&&D6 s true false true):=λh=>by unfold AF;grind
 have tx:¬(s.Kind=1\/s.Kind=3)->s.Kind≠2->s.Kind≠4->s.Kind≠5->s.Kind≠6->¬(s.Kind=7\/s.Kind=8)->s.Kind≠9->AF m s=false:=λh1 h2 h3 h4 h5 h6 h7=>by unfold AF;grind
 generalize AF m s=b at d t2 j g t6 l t9 tx |-;exact⟨λh1=>⟨λ_=>⟨_,Gw m s.A,_,λ_=>em true true true,AB gD⟩,λh=>bt h1 h⟩,λh1=>⟨λh3=>⟨_,Gw m s.A,_,λ_=>em true true true,AB gD⟩,λh3=>⟨λh2=>⟨_,Ky m s.A,_,λ_=>Gw m s.B,_,λ_=>em true true true,AB gD⟩,λh2=>⟨λh4=>⟨_,λ_=>GF oM,AB (by simp_all[ieq,AqY])⟩,λh4=>⟨λh5=>⟨_,Gw m s.A,_,λ_=>GF oM,AB (by rw[g (c h5)];simp only[ieq,A8,Bj,AqU,Nv,le8,ge1])⟩,λh5=>⟨λh6=>⟨_,Gw m s.A,_,λ_=>Aai e f,AB (by rw[t6 (c h6)];simp only[ieq,A8,Nv,AsN])⟩,λh6=>⟨λh7=>⟨λ_=>⟨_,λ_=>em true true true,AB gD⟩,λh=>bt h7 h⟩,λh7=>⟨λn=>⟨_,λ_=>em true true true,AB gD⟩,λn=>⟨λo=>⟨_,Ky m s.A,_,λ_=>em true false true,AB gD⟩,λo=>AB gD⟩⟩⟩⟩⟩⟩⟩⟩⟩
def Jb {x}(h1:x.Args.length<=1048576)(h2:x.V.Dims.length<=1048576):Ai prog 154 [] [.agg (AL x)] [] (Ac true (BU x)):=by
 have s:=Sm x.Op;have v:([x.A,x.B,x.C].take (Ba x.Op)).length=Ba x.Op:=by simp;omega
 have a:∀i,i<([x.A,x.B,x.C].take (Ba x.Op)).length->List.take 1 (List.drop (i*1) [VV.sc (.int .i64 x.A),.sc (.int .i64 x.B),.sc (.int .i64 x.C)])=[Aa (([x.A,x.B,x.C].take (Ba x.Op)).getD i 0)]:=by
  intro i hi;rw[v]at hi;have:([x.A,x.B,x.C].take (Ba x.Op)).getD i 0=[x.A,x.B,x.C].getD i 0:=gD
  rw[this];rcases(show i=0\/i=1\/i=2 by omega)with rfl|rfl|rfl<;>rfl
 have b:((Ba x.Op:Nat):Int).toNat=Ba x.Op:=oM
 have loop:∀(L:List Int),L.length<=2097152->L++x.V.Dims.map D.Dim.I=BU x->Au (BO prog tb BZ Ik true f154 [] (Ac true (BU x))) [1,1,1,0,1,0,1,1,0] (Aau x L 0):=by
  intro L H y;generalize BU x=R at y |-;refine AA x.V.Dims.length (λk=>Aau x (L++(x.V.Dims.take k).map D.Dim.I) k) (λ_=>True) trivial ?_ |> λh=>by simpa using h
  intro k hk _ J next
  have m:(L++(x.V.Dims.take k).map D.Dim.I).length=L.length+k:=by simp;omega
  refine ArC (AhN _ x _ k J) ⟨λt=>?_,λE=>⟨trivial,?_⟩⟩
  .have o:k<x.V.Dims.length:=by have:=AQ t;omega
   have b:(k:Int).toNat=k:=oM
   rw[b];refine⟨⟨oM,oM⟩,by rw[m];omega,next _ o trivial ?_⟩;have c:(x.V.Dims.take (k+1)).map D.Dim.I=(x.V.Dims.take k).map D.Dim.I++[(x.V.Dims.getD k default).I]:=by grind[Dh]
   have e:L++(x.V.Dims.take (k+1)).map D.Dim.I=(L++(x.V.Dims.take k).map D.Dim.I)++[(x.V.Dims.getD k default).I]:=by rw[c,Asf]
   rw[e,Aj oM];generalize L++(x.V.Dims.take k).map D.Dim.I=M;generalize(x.V.Dims.getD k default).I=z;refine Up.mk (l':=[(3,.ow 0 0 (M++[z]).length),(45,D2 true x.V.Dims),(46,Aa x.V.Dims.length),(47,Aa ((k+1:Nat):Int))]) (hs':=[.arr true 0 (M++[z]).length 1 (AD (M++[z]))]) ?_ ?_ rfl
   .grind[AH]
   .rw[show M.length+1=(M++[z]).length by simp];exact⟨ArT λi hi=>AO (Bu (f:=λn=>[Aa n]) (d:=0) (l:=M) (r:=[z]) (F:=λi=>[.sc (.int .i64 (M.getD i 0))]) (λi hi=>rfl) Fs hi),trivial⟩
  grind[AP,Ar8,VV.le_refl]
 refine Ay func154 (Alm _ x rfl rfl rfl rfl rfl rfl) ⟨(Ba x.Op:Nat),FD _,?_⟩;rw[b];have p:Ba x.Op=([x.A,x.B,x.C].take (Ba x.Op)).length:=v.symm;generalize u:[x.A,x.B,x.C].take (Ba x.Op)=P at a p loop;have g:BU x=P++((if x.Op=30\/x.Op=39 then x.Args else[])++(if x.Op=2 then(if x.V.Scope=2 then[x.V.Who]else[])++x.V.Dims.map D.Dim.I else[])):=by unfold BU;rw[u]
 generalize BU x=R at g loop |-;rw[p]at s |-;refine⟨⟨oM,oM⟩,oM,λh=>⟨oM,λi hi=>rfl,λk=>?_,λk=>⟨trivial,?_⟩⟩,λh=>⟨λk=>⟨λq=>⟨oM,?_⟩,λq=>?_⟩,λk=>⟨trivial,?_⟩⟩⟩
 .simp at h k;omega
 .have e:R=P++x.Args:=gD
  subst e;rw[show P.length+x.Args.length=(P++x.Args).length by simp];exact Asy (.inl rfl) λi hi=>AO (Bu (f:=λn=>[Aa n]) (d:=0) (l:=P) (r:=x.Args) (G:=λj=>[.sc (.int .i64 (x.Args.getD j 0))]) a (λi hi=>rfl) hi)
 .have w:¬(x.Op=30\/x.Op=39):=by simpa using h
  have e:(P++[x.V.Who])++x.V.Dims.map D.Dim.I=R:=gD
  refine Au.le (l':=[(3,.ow 0 0 (P++[x.V.Who]).length),(45,D2 true x.V.Dims),(46,Aa x.V.Dims.length),(47,Aa 0)]) (hs':=[.arr true 0 (P++[x.V.Who]).length 1 (AD (P++[x.V.Who]))]) ?_ ?_ (loop _ (by simp;omega) e)
  .grind[AH]
  .rw[show P.length+1=(P++[x.V.Who]).length by simp];exact⟨ArT λi hi=>AO (Bu (f:=λn=>[Aa n]) (d:=0) (l:=P) (r:=[x.V.Who]) a Fs hi),trivial⟩
 .have w:¬(x.Op=30\/x.Op=39):=by simpa using h
  have e:P++x.V.Dims.map D.Dim.I=R:=gD
  exact Af0 (G:=AD P) (λi hi=>a i hi) (loop _ oM e)
 .have w:¬(x.Op=30\/x.Op=39):=by simpa using h
  have e:R=P:=gD
  subst e;exact Asy (.inl rfl) λi hi=>AO (a i hi)
structure Fp (m:D.Model):Prop where
 wf:AS m
 ex:∀k:Nat,k<m.Exprs.length->EC m k=true
def InE (m:D.Model)(l:List Int):Prop:=∀x∈l,0<=x/\x<m.Exprs.length
def Om {m}{k}(h0:0<=k)(h:k<m.Exprs.length):As m k∈m.Exprs:=Av oM
def Fp.at {m}(h:Fp m){k:Int}(h0:0<=k)(hk:k<m.Exprs.length):EC m k:=by
 have:=h.ex k.toNat oM;grind
def Fp.held {m}(h:Fp m){k:Int}(h0:0<=k)(hk:k<m.Exprs.length):InE m (BU (As m k)):=λx a=>by
 have:=Og (h.at h0 hk) x a;omega
def Fp.small {m}(h:Fp m):∀x∈m.Exprs,x.Args.length<=1048576/\x.V.Dims.length<=1048576:=λx a =>
 ⟨(h.wf.Exprs.2 x a).Args.1,(h.wf.Exprs.2 x a).V.Dims.1⟩
def Fp.slots {m}(h:Fp m){k:Int}(h0:0<=k)(hk:k<m.Exprs.length)(h2:(As m k).Op=2):(As m k).V.Scope≠0->(As m k).V.Scope≠1->0<=(As m k).V.Type_/\(As m k).V.Type_<m.Procs.length:=by
 have a:=h.at h0 hk;unfold EC at a;simp only[Arr]at a;obtain⟨_,c⟩:=a;generalize As m k=x at *;rw[ArG oM,ArY h2]at c;simp only[Arr,DI]at c;obtain⟨⟨⟨⟨⟨⟨d,hs2⟩,_⟩,_⟩,_⟩,e⟩,_⟩:=c;intro n0 n1;have hs:x.V.Scope=2:=by simp at d hs2;omega
 simp only[hs,decide_true,Art,Arr]at e;have:=e.2;unfold C0 at this;simp at this;omega
structure Inv (m:D.Model) (i run:Int) (n:Nat) (b:Bool) (seen:List Bool) (todo:List Int) (k:Nat):Prop where
 sl:seen.length=m.Exprs.length
 le:k<=todo.length
 mem:InE m todo
 sum:todo.length+load m seen=n
 res:Ns m i run (todo.length-k+load m seen+1) seen (todo.drop k)=b
section
variable {m : D.Model} {i run:Int} {n:Nat} {b:Bool} {seen:List Bool} {todo:List Int} {k:Nat}
def Inv.at (h:Inv m i run n b seen todo k)(hk:k<todo.length):0<=todo.getD k 0/\todo.getD k 0<m.Exprs.length:=h.mem _ (Av hk)
def Inv.step (h:Inv m i run n b seen todo k)(hk:k<todo.length) :
  (bif seen.getD (todo.getD k 0).toNat false then Ns m i run (todo.length-(k+1)+load m seen+1) seen (todo.drop (k+1))else bif Fw m i run (todo.getD k 0)then false
   else Ns m i run (todo.length-(k+1)+load m seen+1) (seen.set (todo.getD k 0).toNat true) (todo.drop (k+1)++BU (As m (todo.getD k 0))))=b:=by
 have:=h.res;rw[Br (d:=0) hk,show todo.length-k+load m seen+1=(todo.length-(k+1)+load m seen+1)+1 by omega]at this;exact this
def Inv.had (h:Inv m i run n b seen todo k)(hk:k<todo.length)(hs:seen.getD (todo.getD k 0).toNat false):Inv m i run n b seen todo (k+1):=by
 have:=h.step hk;rw[hs,Art]at this;exact⟨h.sl,hk,h.mem,h.sum,this⟩
def Inv.bad (h:Inv m i run n b seen todo k)(hk:k<todo.length)(hs:seen.getD (todo.getD k 0).toNat false=false)(a:Fw m i run (todo.getD k 0)):false=b:=by
 have:=h.step hk;grind
def Inv.more (e:Fp m)(h:Inv m i run n b seen todo k)(hk:k<todo.length)(hs:seen.getD (todo.getD k 0).toNat false=false)(f:Fw m i run (todo.getD k 0)=false) :
  Inv m i run n b (seen.set (todo.getD k 0).toNat true) (todo++BU (As m (todo.getD k 0))) (k+1):=by
 have c:=h.at hk;have g:=Ala (m:=m) hs (by rw[h.sl];omega) h.sl;have:=h.step hk;rw[hs,Arq,f,Arq]at this;have d:=h.sum;have j:m.Exprs.getD (todo.getD k 0).toNat default=As m (todo.getD k 0):=rfl;rw[j]at g;refine⟨by simp[h.sl],by simp;omega,λx a=>?_,gD,?_⟩
 .rcases ArX.1 a with a|a
  .exact h.mem x a
  .exact e.held c.1 c.2 x a
 grind
end
def TW (m)(i run k):Fw m i run k=((bif bif(As m k).Op==39 then k != run else false then true else bif i==m.Claim then bif bif(As m k).Op==31 then true else(As m k).Op==39 then true else bif(As m k).Op==2 then(As m k).V.Scope==1 else false else false) ||
  ((As m k).Op==2&&decide (F0 m i (As m k).V<DT (As m k).V))):=by
 unfold Fw;grind
def QS {l:List Bool}{t j:Nat}(hj:j<l.length):(bif j.beq t then[VV.sc (.bool true)]else[.sc (.bool (l.getD j false))])=[Ad ((l.set t true).getD j false)]:=by
 cases c:j.beq t with
 | true =>
  have:=Aru c;subst this;simp[List.getD,hj,Ad]
 | false =>
  have a:t≠j:=by rintro rfl;simp at c
  simp[List.getD,a,Ad]
def Wx {l r}{F:Nat->List VV}(a:∀i,i<l.length->F i=[Aa (l.getD i 0)]){i}(hi:i<(l++r).length):(bif i.blt l.length then F i else(λj=>[Aa (r.getD j 0)]) (i-l.length))=AD (l++r) i :=
 Bu (f:=λn=>[Aa n]) (d:=0) (l:=l) (r:=r) (G:=λj=>[Aa (r.getD j 0)]) a (λ_ _=>rfl) hi
def Afd {m}{i run:Int}{list}(r:Fp m)(y:0<=i)(hi:i<m.Procs.length)(A:InE m list)(E:list.length<=2097152) :
  Ai prog 157 [] [tpM m,Aa i,Ac false list,Aa run] [] (Ad (Ku m i list run)):=by
 have K:=r.wf.Exprs.1;have B:=AnA r.small (Bi m);have F:m.Exprs.length*2097156<=1048576*2097156:=ArO _ K;generalize L:Ku m i list run=b;have inv0:Inv m i run (list.length+load m (Bi m)) b (Bi m) list 0:=⟨by simp[Bi],Arv _,A,rfl,by rw[<- L]<;>rfl⟩;generalize R:list.length+load m (Bi m)=n at inv0;have M:n<=4398046511104:=oM
 have small:∀{t:Int},0<=t->t<m.Exprs.length->(As m t).Args.length<=1048576/\(As m t).V.Dims.length<=1048576:=λh0 h1=>r.small _ (Om h0 h1)
 have wfv:∀{t:Int},0<=t->t<m.Exprs.length->Ju (As m t).V:=λh0 h1=>(r.wf.Exprs.2 _ (Om h0 h1)).V
 refine Ay func157 (Ajd _ m i list run) ?_;refine Ua Ak Al 0 (λg st=>∃(seen:List Bool)(todo:List Int)(k:Nat),Inv m i run n b seen todo k/\g=todo.length-k+load m seen/\st=RP m i list run seen todo k) kR kR kR kR (ArC (Aff _ m i list run _ rfl rfl rfl rfl) ?_) λg st h=>?_
 .have C:((m.Exprs.length:Int).toNat)=m.Exprs.length:=oM
  rw[C];have s:Int.toNat 0=0:=rfl;have G:∀j,j<m.Exprs.length->(Bi m).getD j false=false:=λj hj=>by simp[Bi,List.getD,hj]
  have N:(Bi m).length=m.Exprs.length:=by simp[Bi]
  refine⟨⟨oM,oM,oM⟩,oM,λ_ _=>rfl,λh=>AB ?_,λh=>?_⟩
  .have h0:list.length=0:=by simp at h;omega
   have:=inv0.res;rw[Asa h0]at this;rw[<- this]<;>rfl
  .have h0:0<list.length:=by simp at h;omega
   have f:=inv0.at h0;rw[s];have hs:=G (list.getD 0 0).toNat oM;have a:=TW m i run (list.getD 0 0);have more:=λc=>inv0.more r h0 hs c
   have bad:=λc=>inv0.bad h0 hs c
   have d:=small f.1 f.2;have u:=wfv f.1 f.2;have z:=inv0.sum;have o:=r.slots f.1 f.2;refine⟨⟨oM,oM⟩,⟨oM,oM⟩,λh=>(by cases h),λ_=>⟨⟨oM,oM⟩,⟨oM,oM⟩,λp=>AB (bad (by rw[a,Asx];exact .inl p)),λp=>?_⟩⟩;have fin:Fw m i run (list.getD 0 0)=false->(list.length+(BU (As m (list.getD 0 0))).length)*8<=140737488355328/\∃g,Up (λst=>∃(seen:List Bool)(todo:List Int)(k:Nat),Inv m i run n b seen todo k/\g=todo.length-k+load m seen/\st=RP m i list run seen todo k)
     (Aq [(0,tpM m),(1,Aa i),(2,Ac false list),(3,Aa run),(9,.ow 0 0 m.Exprs.length),(10,.ow 1 0 (list.length+(BU (As m (list.getD 0 0))).length)),(11,Aa (i64.wrap (0+1)))]
      [.arr true 0 m.Exprs.length 1 (λj=>bif j.beq (list.getD 0 0).toNat then[.sc (.bool true)]else[.sc (.bool false)]),.arr true 0 (list.length+(BU (As m (list.getD 0 0))).length) 1 (λj=>bif j.blt list.length then(λj=>[Aa (list.getD j 0)]) j else(λj=>[Aa ((BU (As m (list.getD 0 0))).getD j 0)]) (j-list.length))]):=by
    intro c;have q:=more c;have e:=q.sum;generalize BU (As m (list.getD 0 0))=H at q e |-;generalize(list.getD 0 0).toNat=t at q e |-;rw[ArA]at e;refine⟨oM,(list++H).length-(0+1)+load m ((Bi m).set t true),?_⟩;have O:i64.wrap (0+1)=((1:Nat):Int):=rfl;have v:m.Exprs.length=((Bi m).set t true).length:=by simp[Bi]
    refine Up.mk (l':=[(0,tpM m),(1,Aa i),(2,Ac false list),(3,Aa run),(9,.ow 0 0 ((Bi m).set t true).length),(10,.ow 1 0 (list++H).length),(11,Aa ((1:Nat):Int))])
     (hs':=[.arr true 0 ((Bi m).set t true).length 1 (EP ((Bi m).set t true)),.arr true 0 (list++H).length 1 (AD (list++H))]) ?_ ?_ ⟨_,_,_,q,rfl,rfl⟩
    .grind[ArA,AH]
    .rw[<- v,<- ArA];refine⟨ArT λj hj=>AO ?_,ArT λj hj=>AO (Wx (λi hi=>rfl) hj),trivial⟩;have:=QS (l:=Bi m) (t:=t) (j:=j) oM;rw[G j hj]at this;exact this
   refine⟨λh2=>⟨_,HW u,_,RU (λ_=>⟨y,hi⟩) (o (eq_of_beq h2)),λh3=>AB (bad ?_),λh3=>?_⟩,λh2=>?_⟩
   .rw[a,Asx,Arr];exact .inr ⟨h2,h3⟩
   .have c:Fw m i run (list.getD 0 0)=false:=by
     rw[a,ArJ,AsQ];exact⟨p,.inr h3⟩
    obtain⟨w,x⟩:=fin c;exact⟨BU (As m (list.getD 0 0)),Jb d.1 d.2,w,λi hi=>rfl,x⟩
   .have c:Fw m i run (list.getD 0 0)=false:=by
     rw[a,ArJ,AsQ];exact⟨p,.inl h2⟩
    obtain⟨w,x⟩:=fin c;exact⟨BU (As m (list.getD 0 0)),Jb d.1 d.2,w,λi hi=>rfl,x⟩
 .obtain⟨seen,todo,k,inv,rfl,rfl⟩:=h;refine ArC (Afe _ m i list run seen todo k _ rfl rfl rfl) ⟨λh=>AB ?_,λh=>?_⟩
  .have h0:k=todo.length:=by simp at h;omega
   have:=inv.res;rw[AsE oM]at this;rw[<- this,Ns]
  .have P:=inv.le;have h0:k<todo.length:=by simp at h;omega
   have f:=inv.at h0;have s:(k:Int).toNat=k:=oM
   rw[s];have a:=TW m i run (todo.getD k 0);have d:=small f.1 f.2;have u:=wfv f.1 f.2;have z:=inv.sum;have I:=inv.sl;have o:=r.slots f.1 f.2;refine⟨⟨oM,oM⟩,⟨oM,oM⟩,λhs=>?_,λhs=>?_⟩
   .have Q:=inv.had h0 hs;refine⟨todo.length-(k+1)+load m seen,oM,Up.of ⟨seen,todo,k+1,Q,rfl,?_⟩⟩;grind[Aj]
   have more:=λc=>inv.more r h0 hs c
   have bad:=λc=>inv.bad h0 hs c
   refine⟨⟨oM,oM⟩,⟨oM,oM⟩,λp=>AB (bad (by rw[a,Asx];exact .inl p)),λp=>?_⟩;have fin:Fw m i run (todo.getD k 0)=false->(todo.length+(BU (As m (todo.getD k 0))).length)*8<=140737488355328/\∃J,J<todo.length-k+load m seen/\Up (λst=>∃(seen:List Bool)(todo:List Int)(k:Nat),Inv m i run n b seen todo k/\J=todo.length-k+load m seen/\st=RP m i list run seen todo k)
     (Aq [(0,tpM m),(1,Aa i),(2,Ac false list),(3,Aa run),(9,.ow 0 0 seen.length),(10,.ow 1 0 (todo.length+(BU (As m (todo.getD k 0))).length)),(11,Aa (i64.wrap (k+1)))]
      [.arr true 0 seen.length 1 (λj=>bif j.beq (todo.getD k 0).toNat then[.sc (.bool true)]else[.sc (.bool (seen.getD j false))]),.arr true 0 (todo.length+(BU (As m (todo.getD k 0))).length) 1 (λj=>bif j.blt todo.length then AD todo j else(λj=>[Aa ((BU (As m (todo.getD k 0))).getD j 0)]) (j-todo.length))]):=by
    intro c;have q:=more c;have e:=q.sum;generalize BU (As m (todo.getD k 0))=H at q e |-;generalize(todo.getD k 0).toNat=t at q e |-;rw[ArA]at e;refine⟨oM,(todo++H).length-(k+1)+load m (seen.set t true),gD,?_⟩;have v:seen.length=(seen.set t true).length:=sM
    refine Up.mk (l':=[(0,tpM m),(1,Aa i),(2,Ac false list),(3,Aa run),(9,.ow 0 0 (seen.set t true).length),(10,.ow 1 0 (todo++H).length),(11,Aa ((k+1:Nat):Int))])
     (hs':=[.arr true 0 (seen.set t true).length 1 (EP (seen.set t true)),.arr true 0 (todo++H).length 1 (AD (todo++H))]) ?_ ?_ ⟨_,_,_,q,rfl,rfl⟩
    .grind[Aj,ArA,AH]
    .rw[<- v,<- ArA];exact⟨ArT λj hj=>AO (QS hj),ArT λj hj=>AO (Wx (λi hi=>rfl) hj),trivial⟩
   refine⟨λh2=>⟨_,HW u,_,RU (λ_=>⟨y,hi⟩) (o (eq_of_beq h2)),λh3=>AB (bad ?_),λh3=>?_⟩,λh2=>?_⟩
   .rw[a,Asx,Arr];exact .inr ⟨h2,h3⟩
   .have c:Fw m i run (todo.getD k 0)=false:=by
     rw[a,ArJ,AsQ];exact⟨p,.inr h3⟩
    obtain⟨w,x⟩:=fin c;exact⟨BU (As m (todo.getD k 0)),Jb d.1 d.2,w,λi hi=>rfl,x⟩
   .have c:Fw m i run (todo.getD k 0)=false:=by
     rw[a,ArJ,AsQ];exact⟨p,.inl h2⟩
    obtain⟨w,x⟩:=fin c;exact⟨BU (As m (todo.getD k 0)),Jb d.1 d.2,w,λi hi=>rfl,x⟩
def Adt {m}{i run:Int}{list}{n}{F}(e:Fp m)(c:0<=i)(hi:i<m.Procs.length)(d:InE m list)(a:list.length<=2097152)(f:n=list.length)(g:∀j,j<list.length->F j=[Aa (list.getD j 0)]) :
  Ai prog 157 [] [tpM m,Aa i,.sl false n 1 F,Aa run] [] (Ad (Ku m i list run)):=by
 subst f;exact(Afd e c hi d a).le trivial ⟨lR,lR,Asy (.inl rfl) λj hj=>AO (g j hj),lR,trivial⟩ trivial lR
def Ca (s:D.Stmt):List Int:=s.Args++((if 0<=s.A then[s.A]else[])++(if 0<=s.B then[s.B]else[]))
def Hy {m}{a}(h:DU m a):0<=a/\a<m.Exprs.length:=CB.1 h
def RE {m}{a}(h:B5 m a):0<=a/\a<m.Exprs.length:=by
 unfold B5 at h;simp only[Arr]at h;exact Hy h.1.1
def YV {m}{a}{args mt}(h:Cl m a args mt):1<=args.length/\args.length<=8/\mt.length=args.length/\∀x∈args,0<=x/\x<a:=by
 unfold Cl at h;simp_all[FJ]
def Jy {m}{s}(h:AF m s):InE m s.Args/\(0<=s.A->s.A<m.Exprs.length)/\(0<=s.B->s.B<m.Exprs.length):=by
 have none:∀{n t:Bool},D6 s true n t=true->InE m s.Args:=λc=>by
  unfold D6 at c;simp only[Arr,AsX,As0,Ary]at c;have:s.Args=[]:=Asa oM;rw[this];intro x d;cases d
 unfold AF at h;split at h
 .simp_all[Hy]
 split at h
 .simp_all[RE,Hy]
 split at h
 .simp only[Arr,Ary]at h;exact⟨FJ.1 h.1.1.1.2,λh0=>oM,λh0=>oM⟩
 split at h
 .simp only[Arr,Ary]at h;exact⟨FJ.1 h.1.1.1.2,λ_=>(Hy h.1.1.1.1.1.1.1).2,λh0=>oM⟩
 split at h
 .simp only[Arr,Ary]at h;have a:=h.1.1.1.2;unfold Gp at a;simp only[Arr]at a;exact⟨(YV a.1).2.2.2,λ_=>(Hy h.1.1.1.1.1).2,λh0=>oM⟩
 split at h
 .grind
 simp_all[RE]
def Aaa {m}{s}(h:AF m s):InE m (Ca s):=by
 obtain⟨h1,h2,h3⟩:=Jy h;intro x a;unfold Ca at a;rcases ArX.1 a with a|a
 .exact h1 x a
 grind
def Ai1 {m}{i:Int}{s}(z:Fp m)(u:0<=i)(hi:i<m.Procs.length)(hs:PG s):Ai prog 156 [] [tpM m,Aa i,.agg (An s)] [] (Ad (Mt m i s)):=by
 have I:=hs.a;have e:∀{k:Int},(s.Kind==k)=true->s.Kind=k:=λh=>by simpa using h
 have c:∀{k:Int},(s.Kind==k)=false->s.Kind≠k:=λh=>by simpa using h
 have ec:(bif bif bif bif i==m.Claim then s.Kind != 1 else false then s.Kind != 3 else false then s.Kind != 7 else false then s.Kind != 8 else false)=(decide (i=m.Claim)&&(decide (s.Kind≠1)&&(decide (s.Kind≠3)&&(decide (s.Kind≠7)&&decide (s.Kind≠8))))):=gD
 refine Ay func156 (Amz _ m i s rfl rfl rfl rfl rfl) ⟨AF m s,RL hs,?_⟩;rw[ec];have ew:Mt m i s=(AF m s&&!(decide (i=m.Claim)&&(decide (s.Kind≠1)&&(decide (s.Kind≠3)&&(decide (s.Kind≠7)&&decide (s.Kind≠8)))))&&Ku m i (Ca s) (if s.Kind=1 then s.A else if s.Kind=2 then s.B else -1)):=rfl;generalize(decide (i=m.Claim)&&(decide (s.Kind≠1)&&(decide (s.Kind≠3)&&(decide (s.Kind≠7)&&decide (s.Kind≠8)))))=cl at ew |-;refine⟨λh=>AB ?_,λh=>?_⟩
 .grind
 .have v:AF m s=true:=gD
  have w:cl=false:=by rw[v]at h;simpa using h
  rw[v,w]at ew;simp only[Bool.not_false,Ar7]at ew;have x:=Aaa v;have go:∀(run:Int)(n:Nat)(F:Nat->List VV),n=(Ca s).length->(∀j,j<(Ca s).length->F j=[Aa ((Ca s).getD j 0)])->Ai prog 157 [] [tpM m,Aa i,.sl false n 1 F,Aa run] [] (Ad (Ku m i (Ca s) run)):=λrun n F C E =>
   Adt z u hi x (by unfold Ca;grind) C E
  have q:s.Kind=1->Mt m i s=Ku m i (Ca s) s.A:=λh=>by rw[ew,ArY h]
  have r2:s.Kind≠1->s.Kind=2->Mt m i s=Ku m i (Ca s) s.B:=λh y=>by rw[ew,ArG h,ArY y]
  have t:s.Kind≠1->s.Kind≠2->Mt m i s=Ku m i (Ca s) (-1):=λh y=>by rw[ew,ArG h,ArG y]
  generalize Mt m i s=b at q r2 t |-;refine⟨oM,λ_ _=>rfl,λG=>⟨oM,λhB=>⟨oM,?_⟩,λhB=>?_⟩,λG=>⟨λhB=>⟨oM,?_⟩,λhB=>?_⟩⟩
  .have p:Ca s=(s.Args++[s.A])++[s.B]:=by unfold Ca;grind
   have g:s.Args.length+1+1=(Ca s).length:=by rw[p];simp
   have H:s.Args.length+1=(s.Args++[s.A]).length:=sM
   have o:∀j,j<(Ca s).length->(bif Nat.blt j (s.Args.length+1)then(λj=>bif Nat.blt j s.Args.length then[VV.sc (.int .i64 (s.Args.getD j 0))]else(λi=>List.take 1 (List.drop (i*1) [VV.sc (.int .i64 s.A)])) (j-s.Args.length)) j else(λi=>List.take 1 (List.drop (i*1) [VV.sc (.int .i64 s.B)])) (j-(s.Args.length+1)))=[Aa ((Ca s).getD j 0)]:=by
    rw[p,H];exact λj hj=>Bu (f:=λn=>[Aa n]) (d:=0) (l:=s.Args++[s.A]) (r:=[s.B]) (F:=λj=>bif Nat.blt j s.Args.length then[VV.sc (.int .i64 (s.Args.getD j 0))]else(λi=>List.take 1 (List.drop (i*1) [VV.sc (.int .i64 s.A)])) (j-s.Args.length)) (λi hi=>Bu (f:=λn=>[Aa n]) (d:=0) (l:=s.Args) (r:=[s.A]) (F:=λj=>[.sc (.int .i64 (s.Args.getD j 0))]) (λi hi=>rfl) Fs hi) Fs hj
   exact⟨λk1=>⟨_,go _ _ _ g o,AB (q (e k1)).symm⟩,λk1=>⟨λk2=>⟨_,go _ _ _ g o,AB (r2 (c k1) (e k2)).symm⟩,λk2=>⟨_,go _ _ _ g o,AB (t (c k1) (c k2)).symm⟩⟩⟩
  .have p:Ca s=s.Args++[s.A]:=by unfold Ca;grind
   have g:s.Args.length+1=(Ca s).length:=by rw[p];simp
   have o:∀j,j<(Ca s).length->(bif Nat.blt j s.Args.length then[VV.sc (.int .i64 (s.Args.getD j 0))]else(λi=>List.take 1 (List.drop (i*1) [VV.sc (.int .i64 s.A)])) (j-s.Args.length))=[Aa ((Ca s).getD j 0)]:=by
    rw[p];exact λj hj=>Bu (f:=λn=>[Aa n]) (d:=0) (l:=s.Args) (r:=[s.A]) (F:=λj=>[.sc (.int .i64 (s.Args.getD j 0))]) (λi hi=>rfl) Fs hj
   exact⟨λk1=>⟨_,go _ _ _ g o,AB (q (e k1)).symm⟩,λk1=>⟨λk2=>⟨_,go _ _ _ g o,AB (r2 (c k1) (e k2)).symm⟩,λk2=>⟨_,go _ _ _ g o,AB (t (c k1) (c k2)).symm⟩⟩⟩
  .have p:Ca s=s.Args++[s.B]:=by unfold Ca;grind
   have g:s.Args.length+1=(Ca s).length:=by rw[p];simp
   have o:∀j,j<(Ca s).length->(bif Nat.blt j s.Args.length then[VV.sc (.int .i64 (s.Args.getD j 0))]else(λi=>List.take 1 (List.drop (i*1) [VV.sc (.int .i64 s.B)])) (j-s.Args.length))=[Aa ((Ca s).getD j 0)]:=by
    rw[p];exact λj hj=>Bu (f:=λn=>[Aa n]) (d:=0) (l:=s.Args) (r:=[s.B]) (F:=λj=>[.sc (.int .i64 (s.Args.getD j 0))]) (λi hi=>rfl) Fs hj
   exact⟨λk1=>⟨_,go _ _ _ g o,AB (q (e k1)).symm⟩,λk1=>⟨λk2=>⟨_,go _ _ _ g o,AB (r2 (c k1) (e k2)).symm⟩,λk2=>⟨_,go _ _ _ g o,AB (t (c k1) (c k2)).symm⟩⟩⟩
  .have p:Ca s=s.Args:=by unfold Ca;grind
   have g:s.Args.length=(Ca s).length:=by rw[p]
   have o:∀j,j<(Ca s).length->[Aa (s.Args.getD j 0)]=[Aa ((Ca s).getD j 0)]:=by rw[p];exact λ_ _=>rfl
   exact⟨λk1=>⟨_,go _ _ _ g o,AB (q (e k1)).symm⟩,λk1=>⟨λk2=>⟨_,go _ _ _ g o,AB (r2 (c k1) (e k2)).symm⟩,λk2=>⟨_,go _ _ _ g o,AB (t (c k1) (c k2)).symm⟩⟩⟩
def AiW {t}(h:Nj t):PG t.S:=⟨h.S.Args.1,h.S.Match.1⟩
def Amv {l}(h:Rm l):(B4 l).length<=1048577/\∀w∈B4 l,Lo w:=by
 refine⟨by have:=h.Esc.1;simp[B4];omega,λw a=>?_⟩;rcases Asg.1 a with rfl|a
 .exact h.Out
 .exact h.Esc.2 w a
def Ag9 {m}{i:Int}(G:Fp m)(q:0<=i)(hi:i<m.Procs.length)(H:(m.Procs.getD i.toNat default).Provided<m.Exprs.length) :
  Ai prog 110 [] [tpM m,Aa i] [] (Ad (DO m i)):=by
 have I:=G.wf.Procs.2 _ (Av (d:=default) (show i.toNat<m.Procs.length by omega));refine Ay func110 (AkP _ m i) ⟨⟨q,hi⟩,?_⟩;generalize F:DO m i=b;unfold DO at F;simp only at F;generalize m.Procs.getD i.toNat default=p at I H F |-;have Y:=I.Locs.1;have bad:∀k,k<p.Locs.length->V5 m i (p.Locs.getD k default)=false->false=b:=λk hk R=>by grind[BW]
 refine AA p.Locs.length (λk=>NJ m i p k) (λk=>∀j,j<k->V5 m i (p.Locs.getD j default)=true) (λi hi=>oM) ?_;intro k hk W J next
 refine ArC (Ahc _ m i p k J) ⟨λK=>?_,λL=>⟨Ku m i [p.Provided] (-1),λr=>?_,AB ?_⟩⟩
 .have o:k<p.Locs.length:=by have:=AQ K;omega
  have M:(k:Int).toNat=k:=oM
  rw[M];have t:=I.Locs.2 _ (Av (d:=default) o);have bad':=bad k o;have next':∀c,V5 m i (p.Locs.getD k default)=true->Up (λs=>s=NJ m i p ((k+1:Nat):Int)) c->J c:=gD;generalize p.Locs.getD k default=l at t bad' next' |-;obtain⟨N,v⟩:=Amv t;refine⟨⟨oM,oM⟩,B4 l,TP t.Esc.1,?_⟩;unfold V5 at bad' next';generalize B4 l=ws at N v bad' next' |-;refine AA ws.length (λj=>NI m i p k ws j) (λj=>∀x,x<j->Kv m i (ws.getD x [])=true) (λi hi=>oM) ?_;intro j hj X J2 next2;refine ArC (Ahb _ m i p k ws j J J2) ⟨λz=>?_,λT=>?_⟩
  .have e:j<ws.length:=by have:=AQ z;omega
   have A:(j:Int).toNat=j:=oM
   rw[A];have g:=v _ (Av (d:=[]) e);have bad2:Kv m i (ws.getD j [])=false->false=b:=λR=>bad' (BW (f:=λx=>Kv m i (ws.getD x [])) e R)
   have next2':∀c,Kv m i (ws.getD j [])=true->Up (λs=>s=NI m i p k ws ((j+1:Nat):Int)) c->J2 c:=gD;generalize ws.getD j []=w at g bad2 next2' |-;have U:=g.1;refine⟨⟨oM,oM⟩,?_⟩;refine AA w.length (λh=>QL m i p k ws j w h) (λh=>∀x,x<h->Mt m i (w.getD x default).S=true) (λi hi=>oM) ?_;intro h Z O J3 next3;refine ArC (Aha _ m i p k ws j w h J J2 J3) ⟨λB=>?_,λC=>?_⟩
   .have a:h<w.length:=by have:=AQ B;omega
    have E:(h:Int).toNat=h:=oM
    rw[E];have P:=AiW (g.2 _ (Av (d:=default) a));refine⟨⟨oM,oM⟩,Mt m i (w.getD h default).S,Ai1 G q hi P,λr=>AB ?_,λr=>next3 _ a (λx u=>?_) (Up.of ?_)⟩
    .exact bad2 (BW (f:=λx=>Mt m i (w.getD x default).S) a (by simpa using r))
    .grind
    grind[Aj]
   .have Q:w.length<=h:=by have:=AP C;omega
    refine next2' _ (A0.2 λx u=>O x oM) (Up.of ?_);grind[Aj]
  grind[AP,A0,Up.of,Aj]
 .have h0:0<=p.Provided:=by simp at r;omega
  refine Ai.frz (Adt (list:=[p.Provided]) (n:=1) G q hi (λx u=>?_) sM rfl Fs) rfl ?_
  .grind
  .intro j x y u r
   match j with
   | 0=>grind[Dd]
   | 1=>grind[Dd]
   | 2=>simp only[Asl,ArL,Ars]at u r;subst u r;exact IM
   | 3=>grind[Dd]
   | j+4=>simp at u
 .have V:p.Locs.length<=k:=by have:=AP L;omega
  rw[<- F,(A0 (n:=p.Locs.length) (f:=λk=>V5 m i (p.Locs.getD k default))).2 λj hj=>W j oM,Ar7,Bj]
def UR {m}:∀(g i)(had),g+i=m.Exprs.length->GD m g i had<0->∀j,i<=j->j<m.Exprs.length->EC m j
 | 0,i,had,h,_,j,h1,h2=>oM
 | g+1,i,had,h,hn,j,h1,h2=>by
  unfold GD at hn;cases c:EC m i with
  | false=>grind
  | true =>
   rw[c,Art]at hn;split at hn
   .rename_i a _
    by_cases b:i=j
    .subst b;exact c
    .exact UR g (i+1) a oM hn j oM h2
   .omega
def Zc {m}(h:JX m<0):∀k:Nat,k<m.Exprs.length->EC m k:=λk hk=>UR _ 0 _ rfl h k (Arv _) hk
def Ge {n}{f}(h:Jg n f<0):∀i,i<n->f i:=by grind[S5]
def Aoe {n}{f}:-1<=Jg n f:=by grind[S5]
def Xc {m}(F:AS m):Ai prog 106 [] [tpM m] [] (.tup [Aa (Cj m).1,Aa (Cj m).2]):=by
 have S:=F.Globals.1;have Z:=F.Shapes.1;have hC:=F.Chans.1;have hE:=F.Exprs.1;refine Ay func106 (Aak _ _ m) ?_;have T:(bif decide ((m.Globals.length:Int) > 128)then true else(m.Init.length:Int) != (m.Globals.length:Int))=(decide (128<m.Globals.length)||!decide (m.Init.length=m.Globals.length)):=gD
 have t2:(bif decide ((m.Shapes.length:Int) > 32)then true else decide ((m.Chans.length:Int) > 32))=(decide (32<m.Shapes.length)||decide (32<m.Chans.length)):=gD
 have U:(bif bif bif bif decide ((m.Procs.length:Int)<1)then true else decide ((m.Procs.length:Int) > 16)then true else decide (m.Claim<(-1:Int))then true else decide (m.Claim>=(m.Procs.length:Int))then true else decide ((m.Exprs.length:Int) > 4096)) =
   (decide (m.Procs.length<1)||(decide (16<m.Procs.length)||(decide (m.Claim < -1)||(decide ((m.Procs.length:Int)<=m.Claim)||decide (4096<m.Exprs.length))))):=gD
 rw[T,t2];generalize z:Cj m=R;unfold Cj at z;refine⟨λh=>Gj gD,λh=>⟨Fx m.Globals m.Init,Ry (by simp at h;omega) S,λh2=>Gj gD,λh2=>⟨λh3=>Gj ?_,λh3=>?_⟩⟩⟩
 .grind
 rw[h,Arq,h2,Arq,h3,Arq]at z;refine AA m.Shapes.length (λk=>Vp m k) (λk=>∀i,i<k->C3 (m.Shapes.getD i default)=true) (λi hi=>oM) ?_;intro k hk A J next
 refine ArC (Xg _ _ m k J) ⟨λc=>?_,λn=>?_⟩
 .have b:k<m.Shapes.length:=by have:=AQ c;omega
  refine⟨⟨oM,oM⟩,C3 (m.Shapes.getD k default),Aax (F.Shapes.2 _ (Av b)),λu=>Gj ?_,λu=>next _ b (λi hi=>?_) (Up.of ?_)⟩
  .have e:Hl m=k:=EF (f:=λi=>C3 (m.Shapes.getD i default)) A b (by simpa using u);grind
  .grind
  grind[Aj]
 have w:m.Shapes.length<=k:=by have:=AP n;omega
 have es:Hl m=-1:=DX (f:=λi=>C3 (m.Shapes.getD i default)) λi hi=>A i oM
 rw[es,show decide ((0:Int)<=-1)=false from rfl,Arq]at z;clear A next
 refine AA m.Chans.length (λk=>Vo m k) (λk=>∀i,i<k->inP m.Shapes.length (m.Chans.getD i 0)=true) (λi hi=>oM) ?_;intro k hk A J next
 refine ArC (Xf _ _ m k J rfl rfl) ⟨λc=>?_,λn=>?_⟩
 .have b:k<m.Chans.length:=by have:=AQ c;omega
  have q:(k:Int).toNat=k:=oM
  rw[q];have r:inP m.Shapes.length (m.Chans.getD k 0)=!(bif decide (m.Chans.getD k 0<0)then true else decide (m.Chans.getD k 0>=(m.Shapes.length:Int))):=by unfold inP;rw[Ase];simp
  refine⟨⟨oM,oM⟩,λu=>Gj ?_,λu=>next _ b (λi hi=>?_) (Up.of ?_)⟩
  .have e:J7 m=k:=EF (f:=λi=>inP m.Shapes.length (m.Chans.getD i 0)) A b gD;grind
  .grind
  grind[Aj]
 have w:m.Chans.length<=k:=by have:=AP n;omega
 have ec:J7 m=-1:=DX (f:=λi=>inP m.Shapes.length (m.Chans.getD i 0)) λi hi=>A i oM
 rw[ec,show decide ((0:Int)<=-1)=false from rfl,Arq]at z;rw[U];refine⟨λh4=>Gj gD,λh4=>⟨⟨oM,oM,oM⟩,?_⟩⟩;rw[h4,Arq]at z;clear A next
 have G:((m.Exprs.length:Int).toNat)=(Bi m).length:=by simp[Bi]
 have H:(Bi m).length=m.Exprs.length:=by simp[Bi]
 refine Au.le (l':=[(0,tpM m),(4,.bp 0 0),(10,.ow 1 0 (Bi m).length),(116,Aa m.Exprs.length),(117,Aa 0)]) (hs':=[.box (Ag m),.arr true 0 (Bi m).length 1 (EP (Bi m))]) ?_ ?_ ?_
 .rw[G];exact AH _
 .rw[G];refine⟨Ob.le_refl _,ArT λi hi=>AO ?_,trivial⟩;have:(Bi m).getD i false=false:=by
   have O:i<m.Exprs.length:=by rw[<- H];exact hi
   simp[Bi,List.getD,O]
  show _=[Ad ((Bi m).getD i false)];rw[this]<;>rfl
 generalize W:JX m=X at z;have fin:∀{y:Int×Int},(bif decide (0<=X)then((3:Int),X)else(0,0))=y->y=R:=λh=>by rw[<- h];exact z
 refine Az (λg st=>∃(k:Nat)(had:List Bool),k<=m.Exprs.length/\g=m.Exprs.length-k/\had.length=m.Exprs.length/\GD m (m.Exprs.length-k) k had=X/\st=Aar m had k) ⟨_,Up.of ⟨0,Bi m,Arv _,rfl,H,W,rfl⟩⟩ ?_;rintro g st ⟨k,had,hk,rfl,P,v,rfl⟩;refine ArC (Xe _ _ m had k _) ⟨λc=>?_,λn=>Gj (fin ?_)⟩
 .have b:k<m.Exprs.length:=by have:=AQ c;omega
  have q:(k:Int).toNat=k:=oM
  rw[q];have s:Ln (m.Exprs.getD k default):=F.Exprs.2 _ (Av b);rw[show m.Exprs.length-k=(m.Exprs.length-(k+1))+1 by omega]at v;unfold GD at v;refine⟨EC m k,Ah3 oM oM (by unfold As;rw[q];exact s),λu=>Gj (fin ?_),λu=>⟨⟨oM,oM⟩,BU (m.Exprs.getD k default),Jb s.Args.1 s.V.Dims.1,?_⟩⟩
  .grind
  .have I:EC m k=true:=by simpa using u
   rw[I,Art]at v;have r:=Og I;have B:=Oe s.Args.1 s.V.Dims.1;unfold As at r;rw[q]at r;generalize BU (m.Exprs.getD k default)=l at r B v |-;generalize Y:TD had l=o at v;refine Az (λg st=>∃(j:Nat)(a:List Bool),j<=l.length/\g=l.length-j/\a.length=m.Exprs.length/\TD a (l.drop j)=o/\st=Aaq m a k l j) ⟨_,Up.of ⟨0,had,Arv _,rfl,P,Y,rfl⟩⟩ ?_;rintro g st ⟨j,a,hj,rfl,K,x,rfl⟩;refine ArC (Xd _ _ m a k l j _ _ rfl) ⟨λL=>?_,λM=>?_⟩
   .have t:j<l.length:=by have:=AQ L;omega
    have N:(j:Int).toNat=j:=oM
    rw[N];have Q:=r _ (Av (d:=0) t);rw[Br (d:=0) t]at x;generalize l.getD j 0=p at Q x |-;unfold TD at x;refine⟨⟨oM,oM⟩,⟨oM,oM⟩,λu=>Gj (fin ?_),λu=>⟨⟨oM,oM⟩,l.length-(j+1),oM,?_⟩⟩
    .grind
    .rw[u,Arq]at x;have C:(a.set p.toNat true).length=a.length:=sM
     rw[Aj oM];refine Up.mk (l':=[(0,tpM m),(4,.bp 0 0),(10,.ow 1 0 (a.set p.toNat true).length),(11,Aa k),(116,Aa m.Exprs.length),(117,Aa k),(130,Ac true l),(131,Aa l.length),(132,Aa ((j+1:Nat):Int))])
      (hs':=[.box (Ag m),.arr true 0 (a.set p.toNat true).length 1 (EP (a.set p.toNat true))]) ?_ ?_ ⟨j+1,a.set p.toNat true,oM,rfl,by rw[C];exact K,x,rfl⟩
     .rw[C];exact AH _
     .rw[C];exact⟨Ob.le_refl _,ArT λi hi=>AO (QS hi),trivial⟩
   .have E:l.length<=j:=by have:=AP M;omega
    rw[AsE E]at x;unfold TD at x;rw[<- x]at v;rw[Aj oM];exact⟨m.Exprs.length-(k+1),oM,Up.of gD⟩
 .have w:m.Exprs.length<=k:=by have:=AP n;omega
  rw[show m.Exprs.length-k=0 by omega]at v;unfold GD at v;rw[<- v]<;>rfl
theorem KW (m)(k):D1 m k=bif bif bif bif !(Ed (m.Procs.getD k default))then true else !(FG (m.Procs.getD k default))then true else decide ((m.Procs.getD k default).Provided<(-1))then true else decide ((m.Procs.getD k default).Provided>=(m.Exprs.length))then true else bif(k)==m.Claim then !(Fo (m.Procs.getD k default))else false:=by
 unfold D1;grind
theorem Uz {m}{k}(hk:k<m.Procs.length):Fi m (k+1)=Fi m k+(m.Procs.getD k default).Active:=by
 unfold Fi;grind[Dh,AsJ]
def Jx {m}(a:AS m)(h:¬0<(Cj m).1):Fp m:=by
 refine⟨a,Zc ?_⟩;have b:-1<=JX m:=by
  unfold JX;have:∀(g i:Nat)(had:List Bool),-1<=GD m g i had:=by
   intro g
   induction g with
   | zero=>intro i had;unfold GD;omega
   | succ g ih =>
    intro i had;unfold GD;grind
  exact this _ _ _
 refine ArW λc=>h ?_
 unfold Cj;grind
def Ac1 {m}(p:AS m):Ai prog 59 [] [.agg (Ag m)] [] (.tup [Aa (J6 m).1,Aa (J6 m).2.1,Aa (J6 m).2.2]):=by
 have x:=p.Procs.1;refine Ay func59 (Aio _ _ _ m) ⟨Cj m,Xc p,?_⟩;generalize q:J6 m=R;unfold J6 at q;refine⟨λh=>Mm gD,λh=>?_⟩;have b:=Jx p (ArP h);rw[show decide (0<(Cj m).1)=false from h,Arq]at q;refine AA m.Procs.length (λk=>NP m (Fi m k) k) (λk=>(∀i,i<k->(!D1 m i)=true)/\0<=Fi m k/\Fi m k<=16*k) ⟨λi hi=>oM,by simp[Fi],by simp[Fi]⟩ ?_;intro k hk ⟨n,u,v⟩ J next
 refine ArC (Ac3 _ _ _ m (Fi m k) k J rfl rfl) ⟨λg=>?_,λj=>?_⟩
 .have a:k<m.Procs.length:=by have:=AQ g;omega
  have r:(k:Int).toNat=k:=oM
  rw[r];have l:=p.Procs.2 _ (Av (d:=default) a);refine⟨⟨oM,oM⟩,Ed (m.Procs.getD k default),AcI l,FG (m.Procs.getD k default),λ_=>AcC l,Fo (m.Procs.getD k default),λ_=>Wp l,?_⟩;rw[<- KW];refine⟨λo=>Mm ?_,λo=>?_⟩
  .have e:GN m=k:=EF (f:=λi=>!D1 m i) n a (by rw[o]<;>rfl);grind
  .have s:Ed (m.Procs.getD k default)=true:=by grind[KW]
   have w:0<=(m.Procs.getD k default).Active/\(m.Procs.getD k default).Active<=16:=by
    unfold Ed at s;grind
   grind[Uz,Up.of,AsR,Aj,AT]
 .have c:k=m.Procs.length:=by have:=AP j;omega
  subst c;have e:GN m=-1:=DX (f:=λi=>!D1 m i) λi hi=>n i oM
  rw[e,show decide ((0:Int)<=-1)=false from rfl,Arq]at q;refine⟨λh2=>Mm gD,λh2=>?_⟩;rw[show decide (16<Fi m m.Procs.length)=false from h2,Arq]at q;have t:∀i,i<m.Procs.length->(m.Procs.getD i default).Provided<m.Exprs.length:=λi hi=>by grind[KW,Bj,Asu,ArJ,ArV]
  clear n next
  refine AA m.Procs.length (λk=>NO m k) (λk=>∀i:Nat,i<k->DO m i=true) (λi hi=>oM) ?_;intro k hk n J next
  refine ArC (Ac2 _ _ _ m k J) ⟨λg=>?_,λj=>Mm ?_⟩
  .have a:k<m.Procs.length:=by have:=AQ g;omega
   refine⟨DO m k,Ag9 b oM oM (t _ oM),λo=>Mm ?_,λo=>next _ a (λi hi=>?_) (Up.of ?_)⟩
   .have e:JN m=k:=EF (f:=λi:Nat=>DO m i) n a (by simpa using o);grind
   .grind
   grind[Aj]
  .have c:m.Procs.length<=k:=by have:=AP j;omega
   have e:JN m=-1:=DX (f:=λi:Nat=>DO m i) λi hi=>n i oM
   grind
def Mn (fz:Bool)(x:D.State):List VV:=[Ac true x.Globals,AG fz x.Chans,Aw fz x.Procs,Aa x.Last,Aa x.Alone,Aa x.Claim]
def BR (t:List D.Type)(l:List Int):Bool:=decide (t.length=l.length)&&CL l.length λi=>C1 (t.getD i default) (l.getD i 0)
def B8 (m:D.Model)(k:Int):D.Shape:=m.Shapes.getD k.toNat default
def AY (m:D.Model)(k:Int):D.Proc:=m.Procs.getD k.toNat default
def De (m:D.Model)(c:D.Chan):Bool:=inP m.Shapes.length c.Shape&&decide ((c.Queue.length:Int)<=(B8 m c.Shape).Room)&&CL c.Queue.length λi=>BR (B8 m c.Shape).Fields (c.Queue.getD i [])
def Bo (m:D.Model)(p:D.Process):Bool:=C0 m p.Type_&&inP (AY m p.Type_).Locs.length p.Loc&&decide (p.Prio=(AY m p.Type_).Prio)&&BR (AY m p.Type_).Frame p.Frame
def Jc (m:D.Model)(s:D.State):Bool:=BR m.Globals s.Globals&&decide (s.Chans.length<=32)&&decide (s.Procs.length<=16)&&decide (0<=s.Last)&&decide (s.Last<16)&&decide (-1<=s.Alone)&&decide (s.Alone<s.Procs.length)
def Fu (m:D.Model)(s:D.State):Bool:=bif decide (m.Claim<0)then decide (s.Claim=-1)else inP (AY m m.Claim).Locs.length s.Claim
def Dz (m:D.Model)(s:D.State):Bool:=Jc m s&&(CL s.Chans.length λi=>De m (s.Chans.getD i default))&&(CL s.Procs.length λi=>Bo m (s.Procs.getD i default))&&Fu m s
def Hq (m:D.Model):Bool:=decide ((J6 m).1=0)
def Co (m:D.Model)(s:D.State):Int:=bif Hq m then(bif Dz m s then 0 else 41)else 40
structure Lim (m:D.Model):Prop where
 room:∀k:Int,0<=k->k<m.Shapes.length->(B8 m k).Room<=16
 locs:∀k:Int,0<=k->k<m.Procs.length->(AY m k).Locs.length<=256
 one:1<=m.Procs.length
 clp:m.Claim<m.Procs.length
def Dj {m}(h:Hq m):Cj m=(0,0)/\GN m=-1/\JN m=-1:=by
 unfold Hq J6 at h;have h1:∀n (f:Nat->Bool),-1<=Jg n f:=λn f=>Aoe
 have k:=h1 m.Procs.length λi=>!D1 m i
 have hp:=h1 m.Procs.length λi:Nat=>DO m i
 cases b1:decide (0<(Cj m).1)with
 | true=>rw[b1,Art]at h;simp at h
 | false =>
  rw[b1,Arq]at h;cases b2:decide (0<=GN m)with
  | true=>rw[b2,Art]at h;simp at h
  | false =>
   rw[b2,Arq]at h;cases b3:decide (16<Fi m m.Procs.length)with
   | true=>rw[b3,Art]at h;simp at h
   | false =>
    rw[b3,Arq]at h;cases b4:decide (0<=JN m)with
    | true=>rw[b4,Art]at h;simp at h
    | false =>
     have:=ArP b2;have:=ArP b4;refine⟨?_,by show Jg _ _=-1;unfold GN at *;omega,by show Jg _ _=-1;unfold JN at *;omega⟩;have b1:=ArP b1;unfold Cj at b1 |-;generalize(decide (128<m.Globals.length)||!decide (m.Init.length=m.Globals.length))=a at b1 |-;generalize decide (0<=Fx m.Globals m.Init)=b at b1 |-;generalize(decide (32<m.Shapes.length)||decide (32<m.Chans.length))=c at b1 |-;generalize decide (0<=Hl m)=d at b1 |-;generalize decide (0<=J7 m)=e at b1 |-;generalize(decide (m.Procs.length<1)||(decide (16<m.Procs.length)||(decide (m.Claim < -1)||(decide ((m.Procs.length:Int)<=m.Claim)||decide (4096<m.Exprs.length)))))=g at b1 |-;generalize decide (0<=JX m)=j at b1 |-;cases a<;>cases b<;>cases c<;>cases d<;>cases e<;>cases g<;>cases j<;>simp at b1 |-
structure AoL (m:D.Model):Prop where
 globals:m.Globals.length<=128
 init:m.Init.length=m.Globals.length
 types:Fx m.Globals m.Init<0
 shapes:m.Shapes.length<=32
 chans:m.Chans.length<=32
 shape:∀i,i<m.Shapes.length->C3 (m.Shapes.getD i default)=true
 chan:∀i,i<m.Chans.length->inP m.Shapes.length (m.Chans.getD i 0)=true
 procs:1<=m.Procs.length/\m.Procs.length<=16
 claim:-1<=m.Claim/\m.Claim<m.Procs.length
 exprs:m.Exprs.length<=4096
def RG {m}(h:Cj m=(0,0)):AoL m:=by
 unfold Cj at h;cases a:(decide (128<m.Globals.length)||!decide (m.Init.length=m.Globals.length))with
 | true=>grind
 | false =>
 cases d:decide (0<=Fx m.Globals m.Init)with
 | true=>grind
 | false =>
 cases e:(decide (32<m.Shapes.length)||decide (32<m.Chans.length))with
 | true=>grind
 | false =>
 cases b:decide (0<=Hl m)with
 | true=>grind
 | false =>
 cases c:decide (0<=J7 m)with
 | true=>grind
 | false =>
 cases g:(decide (m.Procs.length<1)||(decide (16<m.Procs.length)||(decide (m.Claim < -1)||(decide ((m.Procs.length:Int)<=m.Claim)||decide (4096<m.Exprs.length)))))with
 | true=>grind
 | false =>
 simp only[ArJ,ArV,Atk,Ary]at a d e b c g;exact⟨oM,a.2,oM,oM,oM,Ge (f:=λi=>C3 (m.Shapes.getD i default)) (by unfold Hl at b;omega),Ge (f:=λi=>inP m.Shapes.length (m.Chans.getD i 0)) (by unfold J7 at c;omega),oM,oM,oM⟩
def E4 {m}(h:GN m=-1):∀i,i<m.Procs.length->Ed (m.Procs.getD i default)/\FG (m.Procs.getD i default):=λi hi=>by
 have:=Ge (f:=λi=>!D1 m i) (by unfold GN at h;omega) i hi;unfold D1 at this;grind
def IK {m}(h:Hq m):Lim m:=by
 obtain⟨h1,h2,_⟩:=Dj h;have a:=RG h1;refine⟨λk h0 hk=>?_,λk h0 hk=>?_,a.procs.1,a.claim.2⟩
 .have:=a.shape k.toNat oM;unfold C3 at this;simp only[Arr,Ary]at this;exact this.1.1.1.2
 .have:=(E4 h2 k.toNat oM).2;unfold FG at this;simp only[Arr,Ary]at this;exact this.1.1.1.2
structure Fit (s:D.State):Prop where
 g:s.Globals.length<=128
 c:s.Chans.length<=32
 q:∀c∈s.Chans,c.Queue.length<=16/\∀x∈c.Queue,x.length<=8
 p:s.Procs.length<=16
 f:∀p∈s.Procs,p.Frame.length<=128
theorem EE {t}{l}(h:BR t l):l.length=t.length:=by
 unfold BR at h;grind
def SK {m}{s}(a:Hq m)(h:Dz m s):Fit s:=by
 have i:=IK a;obtain⟨b,e,_⟩:=Dj a;have g:=RG b;unfold Dz at h;simp only[Arr]at h;obtain⟨⟨⟨h1,h2⟩,h3⟩,h4⟩:=h;unfold Jc at h1;simp only[Arr,Ary]at h1;obtain⟨⟨⟨⟨⟨⟨g1,j⟩,k⟩,q⟩,r⟩,t⟩,u⟩:=h1;refine⟨?_,j,λc l=>?_,k,λp hp=>?_⟩
 .rw[EE g1];exact g.globals
 .have h:=(CR (d:=default) (f:=λc=>De m c)).1 h2 c l;unfold De at h;simp only[Arr,Ary]at h;have hi:=CB.1 h.1.1;have v:=i.room _ hi.1 hi.2;refine⟨oM,λx n=>?_⟩;have o:=(CR (d:=[]) (f:=λx=>BR (B8 m c.Shape).Fields x)).1 h.2 x n;rw[EE o];have:=g.shape c.Shape.toNat oM;unfold C3 at this;simp only[Arr,Ary]at this;exact this.1.2
 .have h:=(CR (d:=default) (f:=λc=>Bo m c)).1 h3 p hp;unfold Bo C0 at h;simp only[Arr,Ary]at h;rw[EE h.2];have:=(E4 e p.Type_.toNat oM).1;unfold Ed at this;simp only[Arr,Ary]at this;exact this.1.1.1.1.1.1.1.1
def MC (f:FuncId):Shp:=bif Nat.beq f 20 then Vx else BZ f
def Ps:Ann:={keep:=fun
  | [0,1,0,1,1]=>[0,12,13,14]
  | _=>[]}
def Li:Ann:={keep:=fun
  | [0,1,0,1,1]=>[2,3,32,33,34]
  | _=>[]}
def Ic:Ann:={keep:=fun
  | [0,1,0,1,1]=>[2,3,51,52,53]
  | [0,1,0,1,1,1]=>[2,3,63,64,65]
  | _=>[]}
def Qz (t:List D.Type)(l:List Int)(k:Int):St:=Aq [(0,AE true t),(12,Ac true l),(13,Aa l.length),(14,Aa k)] []
def LB (m:D.Model)(c:D.Chan)(k:Int):St:=Aq [(2,.bp 0 0),(3,.bp 1 0),(32,BI true c.Queue),(33,Aa c.Queue.length),(34,Aa k)] [.box (Ag m),.box (Am c)]
def QN (m:D.Model)(s:D.State)(k:Int):St:=Aq [(2,.bp 0 0),(3,.bp 1 0),(51,AG false s.Chans),(52,Aa s.Chans.length),(53,Aa k)] [.box (Ag m),.box (Mn false s)]
def QM (m:D.Model)(s:D.State)(k:Int):St:=Aq [(2,.bp 0 0),(3,.bp 1 0),(63,Aw false s.Procs),(64,Aa s.Procs.length),(65,Aa k)] [.box (Ag m),.box (Mn false s)]
def Afh (b)(t)(l):(fc MC Ps f60 [] (Ad b)).goal (St.init [] [AE true t,Ac true l]) =
  BB ((↑t.length) != (↑l.length:Int)) (LQ (Ad false) (Ad b)) (Au (fc MC Ps f60 [] (Ad b)) [1,1,0,1,0] (Qz t l (0))):=kR
def Zt (b)(m)(c):(fc MC Li f61 [] (Ad b)).goal (St.init [] [.agg (Ag m),.agg (Am c)]) =
  (((true&&(bif decide (c.Shape<0)then true else decide (c.Shape>=(↑m.Shapes.length)))==false)->inX c.Shape m.Shapes.length)/\BB (bif bif decide (c.Shape<0)then true else decide (c.Shape>=(↑m.Shapes.length))then true else decide ((↑c.Queue.length) > (m.Shapes.getD c.Shape.toNat default).Room)) (LQ (Ad false) (Ad b)) (Au (fc MC Li f61 [] (Ad b)) [1,1,0,1,0] (LB m c (0)))):=kR
def Yy (b)(m)(p){a}(c:a=m.Procs.getD p.Type_.toNat default):(fc MC AV f62 [] (Ad b)).goal (St.init [] [.agg (Ag m),.agg (Ap p)]) =
  BB (bif bif decide (p.Type_<0)then true else decide (p.Type_>=(↑m.Procs.length))then true else p.Type_==m.Claim) (LQ (Ad false) (Ad b)) (inX p.Type_ m.Procs.length/\∃(y:_),((true&&(bif bif decide (p.Loc>=0)then decide (p.Loc<(↑a.Locs.length))else false then p.Prio==a.Prio else false)==true)->VC 60 [AE true a.Frame,Ac true p.Frame] (Ad y))/\LQ (Ad (bif bif bif decide (p.Loc>=0)then decide (p.Loc<(↑a.Locs.length))else false then p.Prio==a.Prio else false then y else false)) (Ad b)):=by subst c;kernel_rfl
def Aao (b)(m)(s):(fc MC Ic f41 [] (Ad b)).goal (St.init [] [.agg (Ag m),.agg (Mn false s)]) =
  ∃(y:_),VC 60 [AE true m.Globals,Ac true s.Globals] (Ad y)/\BB (bif bif bif bif bif bif !y then true else decide ((↑s.Chans.length:Int) > 32)then true else decide ((↑s.Procs.length:Int) > 16)then true else decide (s.Last<0)then true else decide (s.Last>=16)then true else decide (s.Alone<(-1))then true else decide (s.Alone>=(↑s.Procs.length))) (LQ (Ad false) (Ad b)) (Au (fc MC Ic f41 [] (Ad b)) [1,1,0,1,0] (QN m s (0))):=kR
def Anv (b)(m):(fc MC AV f40 [] (Ad b)).goal (St.init [] [.agg (Ag m)]) =
  ∃(y:Int×Int×Int),VC 59 [VV.agg (Ag m)] (VV.tup [Aa y.fst,Aa y.snd.fst,Aa y.snd.snd])/\LQ (Ad (y.fst==0)) (Ad b):=kR
def Xm (r)(m)(s):(fc MC AV f20 [] (Aa r)).goal (St.init [] [.agg (Ag m),.agg (Ae s)]) =
  ∃(y:_),VC 40 [VV.agg (Ag m)] (Ad y)/\BB (!y) (LQ (Aa 40) (Aa r)) (∃(y:_),VC 41 [VV.agg (Ag m),VV.agg (Ae s)] (Ad y)/\BB (!y) (LQ (Aa 41) (Aa r)) (LQ (Aa 0) (Aa r))):=kR
def Aaf (b)(t)(l)(k)(J):((fc MC Ps f60 [] (Ad b)).loop [1,1,0,1,0] J).goal (Qz t l k) =
  BB (decide (k<(↑l.length))) (inX k l.length/\inX k t.length/\∃(y:_),VC 111 [VV.agg (Bp (t.getD k.toNat default)),Aa (l.getD k.toNat 0)] (Ad y)/\BB (!y) (LQ (Ad false) (Ad b)) (J (Qz t l (i64.wrap (k+(1)))))) (LQ (Ad true) (Ad b)):=kR
def Ws (b)(m)(c)(k)(J):((fc MC Li f61 [] (Ad b)).loop [1,1,0,1,0] J).goal (LB m c k) =
  BB (decide (k<(↑c.Queue.length))) (inX k c.Queue.length/\inX c.Shape m.Shapes.length/\∃(y:_),VC 60 [AE true (m.Shapes.getD c.Shape.toNat default).Fields,Ac true (c.Queue.getD k.toNat [])] (Ad y)/\BB (!y) (LQ (Ad false) (Ad b)) (J (LB m c (i64.wrap (k+(1)))))) (LQ (Ad true) (Ad b)):=kR
def Xl (b)(m)(s)(k)(J):((fc MC Ic f41 [] (Ad b)).loop [1,1,0,1,0] J).goal (QN m s k) =
  BB (decide (k<(↑s.Chans.length))) (inX k s.Chans.length/\∃(y:_),VC 61 [VV.agg (Ag m),VV.agg (Am (s.Chans.getD k.toNat default))] (Ad y)/\BB (!y) (LQ (Ad false) (Ad b)) (J (QN m s (i64.wrap (k+(1)))))) (Au (fc MC Ic f41 [] (Ad b)) [1,1,1,0,1,0] (QM m s (0))):=kR
def Xk (b)(m)(s)(k)(J):((fc MC Ic f41 [] (Ad b)).loop [1,1,1,0,1,0] J).goal (QM m s k) =
  BB (decide (k<(↑s.Procs.length))) (inX k s.Procs.length/\∃(y:_),VC 62 [VV.agg (Ag m),VV.agg (Ap (s.Procs.getD k.toNat default))] (Ad y)/\BB (!y) (LQ (Ad false) (Ad b)) (J (QM m s (i64.wrap (k+(1)))))) (BB (decide (m.Claim<0)) (LQ (Ad (s.Claim==(-1))) (Ad b)) (((true&&decide (s.Claim>=0)==true)->inX m.Claim m.Procs.length)/\LQ (Ad (bif decide (s.Claim>=0)then decide (s.Claim<(↑(m.Procs.getD m.Claim.toNat default).Locs.length))else false)) (Ad b))):=kR
end Go.Proofs.YtboifkdeeigcaaaGreatDoor
namespace Go.Proofs.YtboifkdeeigcaaaGreatDoor
open Go.RowKit Go.Proofs.Tryz
open IntKind(i64)
def Wb {xs ys}(a:ys.length=xs.length)(h:∀(j:Nat) x y,xs[j]?=some x->ys[j]?=some y->leS x y):leS (.agg xs) (.agg ys):=by
 intro w E m v b hv;obtain⟨vs,rfl,h1,h2⟩:=hv.agg_inv;refine .agg (h1.trans a.symm) λj y c=>?_
 have hj:j<xs.length:=gD
 exact h j _ y (ArF hj) c w E m _ b (h2 j _ (ArF hj))
def BV {k}{P:Nat->Prop}(a:∀i,i<k->P i)(h:P k):∀i,i<k+1->P i:=gD
def Len (n:Nat):Prop:=n<=1099511627776
def My {t}{l}(f:Len l.length):Ai prog 60 [] [AE true t,Ac true l] [] (Ad (BR t l)):=by
 unfold Len at f;refine Ay func60 (Afh _ t l) ⟨λh=>AB ?_,λh=>?_⟩
 .unfold BR;grind
 .have c:t.length=l.length:=by simp at h;omega
  have e:BR t l=CL l.length λi=>C1 (t.getD i default) (l.getD i 0):=by unfold BR;grind
  rw[e];refine AA l.length (λk=>Qz t l k) (λk=>∀i,i<k->C1 (t.getD i default) (l.getD i 0)=true) (λi hi=>oM) ?_;intro k hk g J next
  refine ArC (Aaf _ t l k J) ⟨λb=>?_,λj=>AB ?_⟩
  .have a:k<l.length:=by have:=AQ b;omega
   refine⟨⟨oM,oM⟩,⟨oM,oM⟩,C1 (t.getD k default) (l.getD k 0),Pf _ _,λd=>AB ?_,λd=>next _ a (BV g (by simpa using d)) (Up.of ?_)⟩
   .grind[BW]
   grind[Aj]
  grind[AP,A0]
structure Amn (c:D.Chan):Prop where
 q:Len c.Queue.length
 m:∀x∈c.Queue,Len x.length
def Wr {m}{c}(f:Amn c):Ai prog 61 [] [.agg (Ag m),.agg (Am c)] [] (Ad (De m c)):=by
 have j:=f.q;unfold Len at j;refine Ay func61 (Zt _ m c) ⟨λh=>?_,λh=>AB ?_,λh=>?_⟩
 .simp at h;omega
 .symm;rw[Asp];intro b;unfold De at b;simp only[Arr,Ary]at b;have:=CB.1 b.1.1;have l:(B8 m c.Shape).Room=(m.Shapes.getD c.Shape.toNat default).Room:=rfl;grind
 .have hs:0<=c.Shape/\c.Shape<m.Shapes.length/\(c.Queue.length:Int)<=(B8 m c.Shape).Room:=by
   have l:(B8 m c.Shape).Room=(m.Shapes.getD c.Shape.toNat default).Room:=rfl;grind
  have e:De m c=CL c.Queue.length λi=>BR (B8 m c.Shape).Fields (c.Queue.getD i []):=by
   unfold De;grind[CB]
  rw[e];refine AA c.Queue.length (λk=>LB m c k) (λk=>∀i,i<k->BR (B8 m c.Shape).Fields (c.Queue.getD i [])=true) (λi hi=>oM) ?_;intro k hk n J next
  refine ArC (Ws _ m c k J) ⟨λd=>?_,λo=>AB ?_⟩
  .have a:k<c.Queue.length:=by have:=AQ d;omega
   refine⟨⟨oM,oM⟩,⟨hs.1,hs.2.1⟩,BR (B8 m c.Shape).Fields (c.Queue.getD k []),My (f.m _ (Av a)),λg=>AB ?_,λg=>next _ a (BV n (by simpa using g)) (Up.of ?_)⟩
   .grind[BW]
   grind[Aj]
  grind[AP,A0]
def VQ {m}{p}(hp:Len p.Frame.length):Ai prog 62 [] [.agg (Ag m),.agg (Ap p)] [] (Ad (Bo m p)):=by
 have a:(AY m p.Type_)=m.Procs.getD p.Type_.toNat default:=rfl;refine Ay func62 (Yy _ m p rfl) ⟨λh=>AB ?_,λh=>⟨?_,BR (AY m p.Type_).Frame p.Frame,λ_=>My hp,AB ?_⟩⟩
 .unfold Bo C0;grind
 .simp at h;omega
 .unfold Bo C0 inP;grind
structure BX (s:D.State):Prop where
 g:Len s.Globals.length
 c:Len s.Chans.length
 p:Len s.Procs.length
 cs:∀c∈s.Chans,Amn c
 ps:∀p∈s.Procs,Len p.Frame.length
def Vk {m}{s}(hs:BX s)(r:m.Claim<m.Procs.length):Ai prog 41 [] [.agg (Ag m),.agg (Mn false s)] [] (Ad (Dz m s)):=by
 have t:=hs.c;have hp:=hs.p;unfold Len at t hp;have u:(bif bif bif bif bif bif !(BR m.Globals s.Globals)then true else decide ((s.Chans.length:Int) > 32)then true else decide ((s.Procs.length:Int) > 16)then true else decide (s.Last<0)then true else decide (s.Last>=16)then true else decide (s.Alone<(-1:Int))then true else decide (s.Alone>=(s.Procs.length:Int)))=!(Jc m s):=by
  unfold Jc;grind
 refine Ay func41 (Aao _ m s) ⟨BR m.Globals s.Globals,My hs.g,?_⟩;rw[u];have d:Dz m s=(Jc m s&&(CL s.Chans.length λi=>De m (s.Chans.getD i default))&&(CL s.Procs.length λi=>Bo m (s.Procs.getD i default))&&Fu m s):=rfl;generalize Dz m s=b at d |-;refine⟨λh=>AB ?_,λh=>?_⟩
 .grind
 rw[show Jc m s=true by simpa using h,Ar7]at d;refine AA s.Chans.length (λk=>QN m s k) (λk=>∀i,i<k->De m (s.Chans.getD i default)=true) (λi hi=>oM) ?_;intro k hk l J next
 refine ArC (Xl _ m s k J) ⟨λe=>?_,λj=>?_⟩
 .have a:k<s.Chans.length:=by have:=AQ e;omega
  refine⟨⟨oM,oM⟩,De m (s.Chans.getD k default),Wr (hs.cs _ (Av a)),λo=>AB ?_,λo=>next _ a (BV l (by simpa using o)) (Up.of ?_)⟩
  .grind[BW]
  grind[Aj]
 have q:s.Chans.length<=k:=by have:=AP j;omega
 rw[(A0 (n:=s.Chans.length) (f:=λi=>De m (s.Chans.getD i default))).2 λi hi=>l i oM,Ar7]at d;clear l next
 refine AA s.Procs.length (λk=>QM m s k) (λk=>∀i,i<k->Bo m (s.Procs.getD i default)=true) (λi hi=>oM) ?_;intro k hk l J next
 refine ArC (Xk _ m s k J) ⟨λe=>?_,λj=>?_⟩
 .have a:k<s.Procs.length:=by have:=AQ e;omega
  refine⟨⟨oM,oM⟩,Bo m (s.Procs.getD k default),VQ (hs.ps _ (Av a)),λo=>AB ?_,λo=>next _ a (BV l (by simpa using o)) (Up.of ?_)⟩
  .grind[BW]
  grind[Aj]
 have q:s.Procs.length<=k:=by have:=AP j;omega
 rw[(A0 (n:=s.Procs.length) (f:=λi=>Bo m (s.Procs.getD i default))).2 λi hi=>l i oM,Ar7]at d;unfold Fu at d;refine⟨λh2=>AB ?_,λh2=>⟨λ_=>⟨?_,r⟩,AB ?_⟩⟩
 .grind
 .grind
 .rw[h2,Arq]at d;rw[d,A8]<;>rfl
def Xj {m}{s}(hs:BX s)(c:m.Claim<m.Procs.length):Ai prog 41 [] [.agg (Ag m),.agg (Ae s)] [] (Ad (Dz m s)):=by
 refine(Vk hs c).frz rfl λj x y a b=>?_
 match j,a,b with
 | 0,a,b=>grind[ArL,Ars,Dd]
 | 1,a,b =>
  simp only[Asl,ArL,Ars]at a b;subst a b;refine Wb rfl λj x y a b=>?_
  match j,a,b with
  | 0,a,b=>simp only[Ae,Mn,ArL,Ars]at a b;subst a b;exact Dd _
  | 1,a,b=>simp only[Ae,Mn,Asl,ArL,Ars]at a b;subst a b;exact IM
  | 2,a,b=>simp only[Ae,Mn,Asl,ArL,Ars]at a b;subst a b;exact IM
  | 3,a,b=>simp only[Ae,Mn,Asl,ArL,Ars]at a b;subst a b;exact Dd _
  | 4,a,b=>simp only[Ae,Mn,Asl,ArL,Ars]at a b;subst a b;exact Dd _
  | 5,a,b=>simp only[Ae,Mn,Asl,ArL,Ars]at a b;subst a b;exact Dd _
  | j+6,a,b=>simp[Ae]at a
 | j+2,a,b=>simp at a
def YS {m}(a:AS m):Ai prog 40 [] [.agg (Ag m)] [] (Ad (Hq m)) :=
 Ay func40 (Anv _ m) ⟨J6 m,Ac1 a,AB (ieq _ _)⟩
def E0 {m}{s}(b:AS m)(hs:BX s)(a:Hq m->m.Claim<m.Procs.length):Ai prog 20 [] [.agg (Ag m),.agg (Ae s)] [] (Aa (Co m s)):=by
 refine Ay func20 (Xm _ m s) ⟨Hq m,YS b,λh=>BY ?_,λh=>⟨Dz m s,Xj hs (a (by simpa using h)),λh2=>BY ?_,λh2=>BY ?_⟩⟩
 .unfold Co;grind
 .unfold Co;grind
 .unfold Co;grind
def Fit.small {s}(h:Fit s):BX s:=by
 have hg:=h.g;have a:=h.c;have hp:=h.p;refine⟨by unfold Len;omega,by unfold Len;omega,by unfold Len;omega,λc a=>⟨by have:=(h.q c a).1;unfold Len;omega,λx b=>by have:=(h.q c a).2 x b;unfold Len;omega⟩,λp hp=>by have:=h.f p hp;unfold Len;omega⟩
def AjJ {s}(h:Rk s):BX s:=by
 have hg:=h.Globals.1;have a:=h.Chans.1;have hp:=h.Procs.1;refine⟨by unfold Len;omega,by unfold Len;omega,by unfold Len;omega,λc a=>⟨by have:=(h.Chans.2 c a).Queue.1;unfold Len;omega,λx b=>by have:=((h.Chans.2 c a).Queue.2 x b).1;unfold Len;omega⟩,λp hp=>by have:=(h.Procs.2 p hp).Frame.1;unfold Len;omega⟩
def M1 {m}{s}(h:Co m s=0):Hq m/\Dz m s:=by
 unfold Co at h;grind
def VW {w w':World}{base}{e}{size}{v}{n}{xs}(h:w.ownsRow base e size v n xs)
  (hs:∀k,v.ownBlock=some k->w'.heap[k]?=w.heap[k]?):w'.ownsRow base e size v n xs:=by
 refine⟨h.1,?_⟩;rcases h.2 with a|⟨g,cap,cur,rfl,b,hg,rest⟩
 .exact .inl a
 .exact .inr ⟨g,cap,cur,rfl,b,by rw[hs g rfl];exact hg,rest⟩
def Aqb {w:World}{b}{o}(h:w.heap[b]?=some o):b<w.heap.size:=lt_of_block h
def DG {w:World}{b i}{cs}{t}{v}(h:w.heap[b]?=some (.cells cs t (0,0)))(hi:cs[i]?=some v):w.cell? ⟨b,i,none⟩=some v:=by
 simp[World.cell?,h,hi]
def EV {w:World}{b i}{cs}{t}(h:w.heap[b]?=some (.cells cs t (0,0))):w.frozen? ⟨b,i,none⟩=false:=by
 simp[World.frozen?,h]
def Oy {w:World}{b i}{cs}{t}(h:w.heap[b]?=some (.cells cs t (0,0)))(u):(w.setCell ⟨b,i,none⟩ u).heap[b]?=some (.cells (cs.setIfInBounds i u) t (0,0)) :=
 heap_setCell_same w b i cs t u h
def EU {P:Program}{t}{z}{s b}(h:(P.info? t).map (λi=>(i.zero,i.size,i.bytes))=some (some z,s,b)):∃i,P.info? t=some i/\i.zero=some z/\i.size=s/\i.bytes=b:=by
 cases hi:P.info? t with
 | none=>rw[hi]at h;cases h
 | some i=>rw[hi]at h;simp only[Atg,Ars,Ar6]at h;exact⟨i,rfl,h⟩
def Y2:(prog.info? 2).map (λi=>(i.zero,i.size,i.bytes))=some (some (.int .i64 0),1,8):=kR
def Anp {w:World}{n0}{e}{v}{n}{xs}(h:w.ownsRow n0 e 1 v n xs) :
  ∃ao cap,v=.slice ao n cap/\n<=cap/\cap<=maxLen/\(0<n->∃g,ao=some ⟨g,0,none⟩/\n0<=g/\g<w.heap.size/\∀j,j<n->w.cell? ⟨g,j,none⟩=xs[j]?):=by
 rcases h.2 with⟨rfl,rfl⟩ | ⟨g,cap,cur,rfl,a,hg,h1,h2,_⟩
 .exact⟨none,0,rfl,Arx _,Arv _,λh=>oM⟩
 .exact⟨_,cap,rfl,h1,h2,λ_=>⟨g,rfl,a,Aqb hg,λj hj=>h.cellAt j oM⟩⟩
def Ajc {w}{E}{m}{n0}{v}{xs}(h:w.ownsRow n0 2 1 v xs.length (xs.map (Value.int .i64)))(c:∀k,E.fz k->k<n0):V w E m (Ac true xs) v:=by
 obtain⟨ao,cap,rfl,h1,h2,h3⟩:=Anp h;refine Atw h1 h2 λhp=>?_
 obtain⟨g,rfl,hg,b,d⟩:=h3 hp;refine⟨g,0,rfl,b,λhk=>by have:=c g hk;omega,λi _=>rfl,λi _=>.int .i64 (xs.getD i 0),λi j y hi a=>?_,λi j y hi a=>?_⟩
 .match j,a with
  | 0,_ =>
   have:=d i hi;simp only[Ar4,Nat.mul_one,AsY];rw[this];simp[List.getD,hi]
  | j+1,a=>simp at a
 .match j,a with
  | 0,a=>simp only[ArL,Ars]at a;subst a;exact .sc
  | j+1,a=>simp at a
set_option maxHeartbeats 1000000 in
def Zr {w}{ao}{cap}{xs:List Int}(h1:xs.length<=cap)(h2:cap<=maxLen)(s:xs.length*8<=140737488355328)(h3:0<xs.length->∃a,ao=some a/\∀i,i<xs.length->w.cell? (a.add i)=some (.int .i64 (xs.getD i 0))) :
  Calls prog 29 #[.slice ao xs.length cap] w λe w'=>∃h,e=.returned h/\w'.ownsRow w.heap.size 2 1 h xs.length (xs.map (Value.int .i64))/\Below w.heap.size w w':=by
 have q:∀(w:World)(a:Option Addr)(n c l m:Nat),(binOp .eql 23 (.slice a n c) (.slice none l m)).run prog w=.ok (.bool a.isNone) w:=λw a n c l m=>Lib.run_eql_slice_nil w _ _ a n c l m underlying23
 obtain⟨ki,khi,khz0,khz1,khz2⟩:=EU Y2;cases ao with
 | none =>
  have h0:xs=[]:=by
   apply Asa;apply ArW;intro hp;obtain⟨_,e,_⟩:=h3 oM;cases e
  subst h0;clear h3
  go_enter func29,ntmps29
  go_wp2
  go_ret
  exact⟨_,rfl,World.ownsRow_nil _ _ _ _,Below.refl _ _⟩
 | some a =>
  have o:∀(j:Nat)(u:Value),(xs.map (Value.int .i64))[j]?=some u->w.cell? (a.add j)=some u:=by
   intro j u hj;have d:j<xs.length:=by have:=(ArB.1 hj).1;simpa using this
   obtain⟨t,e,r⟩:=h3 oM;simp only[Ars]at e;subst e;rw[r j d,<- hj];simp[List.getD,d]
  have HN:=Lib.hid o;clear h3 o;have f:=h2;unfold maxLen at f
  go_enter func29,ntmps29
  go_wp2_with (at_builtin;refine wpList_append_own _ rfl _ _ 23 rfl w.heap.size 2 ki (.int .i64 0) 1 8 underlying23 khi khz0 khz1 khz2 rfl dZ _ _ _ rfl (World.ownsRow_made w #[] 0 (Arx _) (Arv _) sM) a xs.length cap (xs.map (Value.int .i64)) rfl ?qc1 ?qc2 ?qc3 ?qc4 ?qc5 ?qc6 ?_)
  case qc1=>simp
  case qc2=>intro j u hj;have:=HN.out j u hj;exact Lib.cell?_alloc_some _ this
  case qc3=>intro u p;simp at p;obtain⟨x,_,rfl⟩:=p;rfl
  case qc4=>unfold maxLen;omega
  case qc5=>omega
  case qc6=>simp
  intro h v g b _
  go_wp2
  go_ret
  exact⟨h,rfl,by simpa using g,((Below.refl _ w).alloc (Arx _) _).grown b sM (by intro k hk;simp[Value.ownBlock]at hk;omega)⟩
def Arj:Shp:={α:=ByteArray,enc:=λb=>([],AI b)}
def DR (f:FuncId):Shp :=
 bif Nat.beq f 85||Nat.beq f 215||Nat.beq f 182||Nat.beq f 204 then Vx
 else bif Nat.beq f 53||Nat.beq f 205||Nat.beq f 134||Nat.beq f 179||Nat.beq f 181||Nat.beq f 132||Nat.beq f 133||Nat.beq f 136||Nat.beq f 131||Nat.beq f 180||Nat.beq f 137||Nat.beq f 86||Nat.beq f 184||Nat.beq f 185 then AdQ
 else bif Nat.beq f 130 then RV
 else bif Nat.beq f 29||Nat.beq f 30 then AfK else MC f
def Tb:Ann:={keep:=fun
  | [0,1,0,1,1,1,1,1,1]=>[0,8,10,46,47,48]
  | _=>[]}
def OD:Ann:={keep:=fun
  | [0,1,0,1,1,1,1,1,1]=>[0,3,8,9,51,52,53]
  | _=>[]}
def Kb:Ann:={keep:=fun
  | [0,1,0,1]=>[0,9,10,11]
  | _=>[]}
def PE:Ann:={keep:=fun
  | [0,1,0,1]=>[0,1,7,8]
  | _=>[]}
def Ti:Ann:={keep:=fun
  | [0,1,0,1]=>[1,2,3,12,13,14]
  | _=>[]}
def Th:Ann:={keep:=fun
  | [0,1,0,1,1]=>[0,1,21,22,23]
  | _=>[]}
def Ee:Ann:={cut:=(λ| 1::0::1::1::0::0::0::0::q=>Nat.beq q.length 29 | 1::0::1::1::1::0::0::0::0::q=>Nat.beq q.length 29 | _=>false),keep:=fun
  | 1::0::1::1::0::0::0::0::q=>bif Nat.beq q.length 29 then[0,6,21,26]else[]
  | 1::0::1::1::1::0::0::0::0::q=>bif Nat.beq q.length 29 then[0,6,21,30]else[]
  | _=>[]}
def Ano:List Nat:=[1,1,0,1,0,0,0,0,0,0,0,0,0,0,0,0,0,0,0,0,0,0,0,0,0,0,0,0,0,0,0,0,0,1,1,0,1]
def Ahi:List Nat:=[1,1,0,1,0,0,0,0,0,0,0,0,0,0,0,0,0,0,0,0,0,0,0,0,0,0,0,0,0,0,0,0,0,1,1,1,0,1]
def II (e:D.Env)(x:D.Expr)(i:Nat)(b:Bool):St:=Aq [(0,.tp (Af e)),(6,.bp 0 0),(21,Aa x.Op),(i,Ad b)] [.box (AL x)]
def RQ (e:D.Env)(ds:List D.Dim)(who at' k:Int):St:=Aq [(0,.tp (Af e)),(8,Aa who),(10,Aa at'),(46,D2 true ds),(47,Aa ds.length),(48,Aa k)] []
def Aat (e:D.Env)(x:D.Expr)(c:D.Chan)(l:List Int)(k:Int):St:=Aq [(0,.tp (Af e)),(3,.bp 0 0),(8,.bp 1 0),(9,.ow 2 0 l.length),(51,Ac true x.Args),(52,Aa x.Args.length),(53,Aa k)] [.box (AL x),.box (Am c),.arr true 0 l.length 1 (AD l)]
def Vu (e:D.Env)(k:Int):St:=Aq [(0,.tp (Af e)),(9,Aw true e.S.Procs),(10,Aa e.S.Procs.length),(11,Aa k)] []
def AdL (l:List Int)(v k:Int):St:=Aq [(0,Ac true l),(1,Aa v),(7,Aa l.length),(8,Aa k)] []
def Vw (c:D.Chan)(l mt:List Int)(any:Bool)(k:Int):St:=Aq [(1,Ac false l),(2,Ac true mt),(3,Ad any),(12,BI true c.Queue),(13,Aa c.Queue.length),(14,Aa k)] []
def Vv (x l mt:List Int)(k:Int):St:=Aq [(0,Ac true x),(1,Ac false l),(21,Ac true mt),(22,Aa mt.length),(23,Aa k)] []
def Zh (r)(e)(x):(fc DR AV f85 [] (Aa r)).goal (St.init [] [.agg (Af e),Aa x]) =
  ∃(y:_),VC 20 [VV.agg (Ag e.M),VV.agg (Ae e.S)] (Aa y)/\BB (y != 0) (LQ (Aa y) (Aa r)) (BB (bif bif bif decide (e.Pid<(-1))then true else decide (e.Pid>=(↑e.S.Procs.length))then true else decide (x<0)then true else decide (x>=(↑e.M.Exprs.length))) (LQ (Aa 42) (Aa r)) (LQ (Aa 0) (Aa r))):=kR
def Aib (v r)(e)(x):(fc DR AV f53 [] (.tup [Aa v,Aa r])).goal (St.init [] [.agg (Af e),Aa x]) =
  ∃(y:_),VC 85 [VV.agg (Af e),Aa x] (Aa y)/\BB (y != 0) (LQ (VV.tup [Aa 0,Aa y]) (VV.tup [Aa v,Aa r])) (∃(y:Int×Int),VC 86 [VV.tp (Af e),Aa x] (VV.tup [Aa y.fst,Aa y.snd])/\LQ (VV.tup [Aa y.fst,Aa y.snd]) (VV.tup [Aa v,Aa r])):=kR
def Aic (v r)(e)(x):(fc DR AV f205 [] (.tup [Aa v,Aa r])).goal (St.init [] [.agg (Af e),Aa x]) =
  ∃(y:_),VC 85 [VV.agg (Af e),Aa x] (Aa y)/\BB (y != 0) (LQ (VV.tup [Aa 0,Aa y]) (VV.tup [Aa v,Aa r])) (∃(y:Int×Int),VC 181 [VV.tp (Af e),Aa x] (VV.tup [Aa y.fst,Aa y.snd])/\LQ (VV.tup [Aa y.fst,Aa y.snd]) (VV.tup [Aa v,Aa r])):=kR
def Afm (v r)(c):(fc DR AV f134 [] (.tup [Aa v,Aa r])).goal (St.init [] [Ad c]) =
  BB c (LQ (VV.tup [Aa 1,Aa 0]) (VV.tup [Aa v,Aa r])) (LQ (VV.tup [Aa 0,Aa 0]) (VV.tup [Aa v,Aa r])):=kR
def AcB (v r)(e)(x){c}(d:c=LQ (VV.tup [Aa 0,Aa 42]) (VV.tup [Aa v,Aa r])){a}(f:a=[Aa v,Aa r]):(fc DR AV f179 [] (.tup [Aa v,Aa r])).goal (St.init [] [.tp (Af e),.agg (BP x)]) =
  BB (x.Scope==0) (∃(y:_),VC 198 [.agg (BP x)] (Aa y)/\BB (decide (y > (↑e.S.Globals.length))) c (LQ (.tup [Aa (-1),Aa 0]) (.tup a))) (BB (x.Scope==1) (∃(y:_),((true&&decide (e.Pid<0)==false)->VC 198 [.agg (BP x)] (Aa y))/\((true&&decide (e.Pid<0)==false)->inX e.Pid e.S.Procs.length)/\BB (bif decide (e.Pid<0)then true else decide (y > (↑(e.S.Procs.getD e.Pid.toNat default).Frame.length))) c (LQ (.tup [Aa e.Pid,Aa 0]) (.tup a))) (∃(y:Int×Int),VC 86 [.tp (Af e),Aa x.Who] (.tup [Aa y.fst,Aa y.snd])/\BB (y.snd != 0) (LQ (.tup [Aa 0,Aa y.snd]) (.tup a)) (((true&&(bif decide (y.fst<0)then true else decide (y.fst>=(↑e.S.Procs.length)))==false)->inX y.fst e.S.Procs.length)/\BB (bif bif decide (y.fst<0)then true else decide (y.fst>=(↑e.S.Procs.length))then true else(e.S.Procs.getD y.fst.toNat default).Type_ != x.Type_) (LQ (.tup [Aa 0,Aa 52]) (.tup a)) (∃(b:_),VC 198 [.agg (BP x)] (Aa b)/\inX y.fst e.S.Procs.length/\BB (decide (b > (↑(e.S.Procs.getD y.fst.toNat default).Frame.length))) c (LQ (.tup [Aa y.fst,Aa 0]) (.tup a)))))):=by subst d f;kernel_rfl
def AjL (p k r)(e)(x){a}(c:a=e.M.Exprs.getD x.toNat default){b}(d:b=[Aa p,Aa k,Aa r]):(fc DR Tb f130 [] (.tup [Aa p,Aa k,Aa r])).goal (St.init [] [.tp (Af e),Aa x]) =
  (inX x e.M.Exprs.length/\inX x e.M.Exprs.length/\BB (a.Op != 2) (LQ (.tup [Aa 0,Aa 0,Aa 42]) (.tup b)) (∃(y:Int×Int),VC 179 [.tp (Af e),.agg (BP a.V)] (.tup [Aa y.fst,Aa y.snd])/\BB (y.snd != 0) (LQ (.tup [Aa 0,Aa 0,Aa y.snd]) (.tup b)) (Au (fc DR Tb f130 [] (.tup b)) [1,1,1,1,1,1,0,1,0] (RQ e a.V.Dims y.fst a.V.Slot (0))))):=by subst c d;kernel_rfl
def AeZ (v r)(e)(x):(fc DR AV f181 [] (.tup [Aa v,Aa r])).goal (St.init [] [.tp (Af e),Aa x]) =
  ∃(y:Int×Int),VC 86 [VV.tp (Af e),Aa x] (VV.tup [Aa y.fst,Aa y.snd])/\BB (y.snd != 0) (LQ (VV.tup [Aa 0,Aa y.snd]) (VV.tup [Aa v,Aa r])) (BB (bif decide (y.fst<1)then true else decide (y.fst > (↑e.S.Chans.length))) (LQ (VV.tup [Aa 0,Aa 49]) (VV.tup [Aa v,Aa r])) (LQ (VV.tup [Aa y.fst,Aa 0]) (VV.tup [Aa v,Aa r]))):=kR
def Ami (v r)(e)(x){f}(g:f=λ(y:Int×Int)=>e.S.Chans.getD (i64.wrap (y.fst-(1:Int))).toNat default){b}(h:b=λ(a:Int×Int)=>[Aa a.fst,Aa a.snd]){l}(i:l=[Aa v,Aa r]){d}(j:d=λ(y:Int×Int)=>(↑(f y).Queue.length:Int)){c}(k:c=VV.tup l):(fc DR AV f132 [] (.tup [Aa v,Aa r])).goal (St.init [] [.tp (Af e),.agg (AL x)]) =
  ∃(y:_),VC 181 [.tp (Af e),Aa x.A] (.tup [Aa y.fst,Aa y.snd])/\BB (y.snd != 0) (LQ (.tup [Aa 0,Aa y.snd]) c) (inX (i64.wrap (y.fst-(1))) e.S.Chans.length/\inX (f y).Shape e.M.Shapes.length/\BB (x.Op==25) (LQ (.tup [Aa (d y),Aa 0]) c) (BB (x.Op==26) (∃(a:_),VC 134 [Ad (decide ((d y)>=(e.M.Shapes.getD (f y).Shape.toNat default).Room))] (.tup (b a))/\LQ (.tup (b a)) c) (BB (x.Op==28) (∃(a:_),VC 134 [Ad (decide ((d y)<(e.M.Shapes.getD (f y).Shape.toNat default).Room))] (.tup (b a))/\LQ (.tup (b a)) c) (BB (x.Op==27) (∃(a:_),VC 134 [Ad ((d y)==0)] (.tup (b a))/\LQ (.tup (b a)) c) (∃(a:_),VC 134 [Ad (decide ((d y) > 0))] (.tup (b a))/\LQ (.tup (b a)) c))))):=by subst g h i j k;kernel_rfl
def AkV (v r)(e)(x):(fc DR OD f133 [] (.tup [Aa v,Aa r])).goal (St.init [] [.tp (Af e),.agg (AL x)]) =
  (∃(y:Int×Int),VC 181 [VV.tp (Af e),Aa x.A] (VV.tup [Aa y.fst,Aa y.snd])/\BB (y.snd != 0) (LQ (VV.tup [Aa 0,Aa y.snd]) (VV.tup [Aa v,Aa r])) (inX (i64.wrap (y.fst-(1))) e.S.Chans.length/\inX (e.S.Chans.getD (i64.wrap (y.fst-(1))).toNat default).Shape e.M.Shapes.length/\BB ((↑(e.M.Shapes.getD (e.S.Chans.getD (i64.wrap (y.fst-(1))).toNat default).Shape.toNat default).Fields.length) != (↑x.Args.length:Int)) (LQ (VV.tup [Aa 0,Aa 49]) (VV.tup [Aa v,Aa r])) (((0)<=(↑x.Args.length:Int)/\(↑x.Args.length)<=(↑x.Args.length:Int)/\(↑x.Args.length)*(↑8:Int)<=140737488355328)/\Au (fc DR OD f133 [] (VV.tup [Aa v,Aa r])) [1,1,1,1,1,1,0,1,0] (Aq [(0,VV.tp (Af e)),(3,VV.bp 0 0),(8,VV.bp 1 0),(9,VV.ow 2 0 (↑x.Args.length:Int).toNat),(51,Ac true x.Args),(52,Aa (↑x.Args.length)),(53,Aa 0)] [Ob.box (AL x),Ob.box (Am (e.S.Chans.getD (i64.wrap (y.fst-(1))).toNat default)),Ob.arr true 0 (↑x.Args.length:Int).toNat 1 λ(_)=>((fc DR OD f133 [] (VV.tup [Aa v,Aa r])).T 2).zero])))):=kR
def Aa5 (v r)(e)(x):(fc DR AV f136 [] (.tup [Aa v,Aa r])).goal (St.init [] [.tp (Af e),.agg (AL x)]) =
  ∃(y:Int×Int),VC 86 [VV.tp (Af e),Aa x.A] (VV.tup [Aa y.fst,Aa y.snd])/\BB (y.snd != 0) (LQ (VV.tup [Aa 0,Aa y.snd]) (VV.tup [Aa v,Aa r])) (((true&&(bif decide (y.fst<0)then true else decide (y.fst>=(↑e.S.Procs.length)))==false&&(x.Op==38)==true)->inX y.fst e.S.Procs.length)/\BB (bif bif decide (y.fst<0)then true else decide (y.fst>=(↑e.S.Procs.length))then true else bif x.Op==38 then(e.S.Procs.getD y.fst.toNat default).Type_ != x.N else false) (LQ (VV.tup [Aa 0,Aa 52]) (VV.tup [Aa v,Aa r])) (BB (x.Op==37) (inX y.fst e.S.Procs.length/\LQ (VV.tup [Aa (e.S.Procs.getD y.fst.toNat default).Loc,Aa 0]) (VV.tup [Aa v,Aa r])) (inX y.fst e.S.Procs.length/\∃(a:_),VC 183 [Ac true x.Args,Aa (e.S.Procs.getD y.fst.toNat default).Loc] (Ad a)/\∃(y:Int×Int),VC 134 [Ad a] (VV.tup [Aa y.fst,Aa y.snd])/\LQ (VV.tup [Aa y.fst,Aa y.snd]) (VV.tup [Aa v,Aa r])))):=kR
def AhB (v r)(e)(x){c}(d:c=λ(y:Int×Int)=>∃(a:Int×Int),VC 134 [Ad (y.fst != 0)] (VV.tup [Aa a.fst,Aa a.snd])/\LQ (VV.tup [Aa a.fst,Aa a.snd]) (VV.tup [Aa v,Aa r])){b}(f:b=λ(y:Int×Int)=>[Aa y.fst,Aa y.snd]):(fc DR AV f131 [] (.tup [Aa v,Aa r])).goal (St.init [] [.tp (Af e),.agg (AL x)]) =
  ∃(y:_),VC 86 [.tp (Af e),Aa x.A] (.tup (b y))/\BB (y.snd != 0) (LQ (.tup [Aa 0,Aa y.snd]) (.tup [Aa v,Aa r])) (BB (bif x.Op==24 then y.fst != 0 else false) (∃(y:_),VC 180 [Aa x.B,.tp [.tp (Af e)]] (.tup (b y))/\LQ (.tup (b y)) (.tup [Aa v,Aa r])) (BB (x.Op==24) (∃(y:_),VC 180 [Aa x.C,.tp [.tp (Af e)]] (.tup (b y))/\LQ (.tup (b y)) (.tup [Aa v,Aa r])) (BB (bif bif x.Op==22 then y.fst==0 else false then true else bif x.Op==23 then y.fst != 0 else false) (c y) (∃(y:_),VC 180 [Aa x.B,.tp [.tp (Af e)]] (.tup (b y))/\BB (y.snd != 0) (LQ (.tup [Aa 0,Aa y.snd]) (.tup [Aa v,Aa r])) (c y))))):=by subst d f;kernel_rfl
def Ajk (v r)(e)(x):(fc DR AV f137 [] (.tup [Aa v,Aa r])).goal (St.init [] [.tp (Af e),.agg (AL x)]) =
  ∃(y:Int×Int),VC 86 [VV.tp (Af e),Aa x.A] (VV.tup [Aa y.fst,Aa y.snd])/\BB (y.snd != 0) (LQ (VV.tup [Aa 0,Aa y.snd]) (VV.tup [Aa v,Aa r])) (BB (bif bif x.Op==3 then true else x.Op==4 then true else x.Op==5) (∃(a:Int×Int),VC 184 [Aa x.Op,Aa y.fst] (VV.tup [Aa a.fst,Aa a.snd])/\LQ (VV.tup [Aa a.fst,Aa a.snd]) (VV.tup [Aa v,Aa r])) (∃(a:Int×Int),VC 86 [VV.tp (Af e),Aa x.B] (VV.tup [Aa a.fst,Aa a.snd])/\BB (a.snd != 0) (LQ (VV.tup [Aa 0,Aa a.snd]) (VV.tup [Aa v,Aa r])) (∃(b:Int×Int),VC 185 [Aa x.Op,Aa y.fst,Aa a.fst] (VV.tup [Aa b.fst,Aa b.snd])/\LQ (VV.tup [Aa b.fst,Aa b.snd]) (VV.tup [Aa v,Aa r])))):=kR
def VP (b)(e):(fc DR Kb f135 [] (Ad b)).goal (St.init [] [.tp (Af e)]) =
  Au (fc DR Kb f135 [] (Ad b)) [1,0,1,0] (Vu e (0)):=kR
def AlG (v r)(e)(x){a}(c:a=e.M.Exprs.getD x.toNat default){b}(d:b=fc DR Ee f86 [] (VV.tup [Aa v,Aa r])):(fc DR Ee f86 [] (.tup [Aa v,Aa r])).goal (St.init [] [.tp (Af e),Aa x]) =
  (inX x e.M.Exprs.length/\BB (a.Op==1) (LQ (.tup [Aa a.N,Aa 0]) (.tup [Aa v,Aa r])) (BB (a.Op==2) (∃(y:Int×Int×Int),VC 130 [.tp (Af e),Aa x] (.tup [Aa y.fst,Aa y.snd.fst,Aa y.snd.snd])/\BB (y.snd.snd != 0) (LQ (.tup [Aa 0,Aa y.snd.snd]) (.tup [Aa v,Aa r])) (BB (decide (y.fst<0)) (inX y.snd.fst e.S.Globals.length/\LQ (.tup [Aa (e.S.Globals.getD y.snd.fst.toNat 0),Aa 0]) (.tup [Aa v,Aa r])) (inX y.fst e.S.Procs.length/\inX y.snd.fst (e.S.Procs.getD y.fst.toNat default).Frame.length/\LQ (.tup [Aa ((e.S.Procs.getD y.fst.toNat default).Frame.getD y.snd.fst.toNat 0),Aa 0]) (.tup [Aa v,Aa r])))) (BB (a.Op==22) (Au b Ano (II e a 26 (a.Op==22))) (BB (a.Op==23) (Au b Ano (II e a 26 (a.Op==23))) (Au b Ano (II e a 26 (a.Op==24))))))):=by subst c d;kernel_rfl
def Wn (b)(l)(v):(fc DR AV f183 [] (Ad b)).goal (St.init [] [Ac true l,Aa v]) =
  ∃(y:_),VC 215 [Ac true l,Aa v] (Aa y)/\LQ (Ad (decide (y>=0))) (Ad b):=kR
def AhK (r)(l)(v):(fc DR PE f215 [] (Aa r)).goal (St.init [] [Ac true l,Aa v]) =
  Au (fc DR PE f215 [] (Aa r)) [1,0,1,0] (AdL l v (0)):=kR
def AlD (r)(c)(l mt)(some'):(fc DR Ti f182 [] (Aa r)).goal (St.init [] [.agg (Am c),Ac false l,Ac true mt,Ad some']) =
  Au (fc DR Ti f182 [] (Aa r)) [1,0,1,0] (Vw c l mt some' (0)):=kR
def Ak5 (b)(x l mt):(fc DR Th f214 [] (Ad b)).goal (St.init [] [Ac true x,Ac false l,Ac true mt]) =
  BB (bif decide ((↑x.length)<(↑mt.length:Int))then true else decide ((↑l.length)<(↑mt.length:Int))) (LQ (Ad false) (Ad b)) (Au (fc DR Th f214 [] (Ad b)) [1,1,0,1,0] (Vv x l mt (0))):=kR
def Ah7 (v r)(e)(x)(b){a}(c:a=fc DR Ee f86 [] (VV.tup [Aa v,Aa r])):((fc DR Ee f86 [] (.tup [Aa v,Aa r])).cut Ano).goal (II e x 26 b) =
  BB b (∃(y:Int×Int),VC 131 [.tp (Af e),.agg (AL x)] (.tup [Aa y.fst,Aa y.snd])/\LQ (.tup [Aa y.fst,Aa y.snd]) (.tup [Aa v,Aa r])) (BB (x.Op==25) (Au a Ahi (II e x 30 (x.Op==25))) (BB (x.Op==26) (Au a Ahi (II e x 30 (x.Op==26))) (BB (x.Op==27) (Au a Ahi (II e x 30 (x.Op==27))) (BB (x.Op==28) (Au a Ahi (II e x 30 (x.Op==28))) (Au a Ahi (II e x 30 (x.Op==29))))))):=by subst c;kernel_rfl
def Ah6 (v r)(e)(x)(b){f}(g:f=[Aa v,Aa r]){d}(h:d=[VV.tp (Af e),VV.agg (AL x)]){i}(j:i=(∃(y:Int×Int),VC 136 d (VV.tup [Aa y.fst,Aa y.snd])/\LQ (VV.tup [Aa y.fst,Aa y.snd]) (VV.tup f))){c}(k:c=VV.tup f):((fc DR Ee f86 [] (.tup [Aa v,Aa r])).cut Ahi).goal (II e x 30 b) =
  (BB b (∃(y:Int×Int),VC 132 d (.tup [Aa y.fst,Aa y.snd])/\LQ (.tup [Aa y.fst,Aa y.snd]) c) (BB (x.Op==30) (∃(y:Int×Int),VC 133 d (.tup [Aa y.fst,Aa y.snd])/\LQ (.tup [Aa y.fst,Aa y.snd]) c) (BB (x.Op==31) (LQ (.tup [Aa e.Pid,Aa 0]) c) (BB (x.Op==32) (LQ (.tup [Aa e.S.Last,Aa 0]) c) (BB (x.Op==33) (LQ (.tup [Aa (↑e.S.Procs.length),Aa 0]) c) (BB (x.Op==34) (∃(y:_),VC 135 [.tp (Af e)] (Ad y)/\∃(a:Int×Int),VC 134 [Ad !y] (.tup [Aa a.fst,Aa a.snd])/\LQ (.tup [Aa a.fst,Aa a.snd]) c) (BB (x.Op==35) (∃(y:Int×Int),VC 134 [Ad e.Timeout] (.tup [Aa y.fst,Aa y.snd])/\LQ (.tup [Aa y.fst,Aa y.snd]) c) (BB (x.Op==36) (∃(y:Int×Int),VC 86 [.tp (Af e),Aa x.A] (.tup [Aa y.fst,Aa y.snd])/\BB (y.snd != 0) (LQ (.tup [Aa 0,Aa y.snd]) c) (((true&&(bif decide (y.fst>=0)then decide (y.fst<(↑e.Able.length))else false)==true)->inX y.fst e.Able.length)/\∃(a:Int×Int),VC 134 [Ad (bif bif decide (y.fst>=0)then decide (y.fst<(↑e.Able.length))else false then e.Able.getD y.fst.toNat false else false)] (.tup [Aa a.fst,Aa a.snd])/\LQ (.tup [Aa a.fst,Aa a.snd]) c)) (BB (x.Op==37) i (BB (x.Op==38) i (BB (x.Op==39) (LQ (.tup [Aa 0,Aa 42]) c) (∃(y:Int×Int),VC 137 d (.tup [Aa y.fst,Aa y.snd])/\LQ (.tup [Aa y.fst,Aa y.snd]) c)))))))))))):=by subst g h j k;kernel_rfl
def AfH (p k r)(e)(_:Int)(ds)(who at' i)(J){a}(c:a=ds.getD i.toNat default){b}(d:b=[Aa p,Aa k,Aa r]):((fc DR Tb f130 [] (.tup [Aa p,Aa k,Aa r])).loop [1,1,1,1,1,1,0,1,0] J).goal (RQ e ds who at' i) =
  BB (decide (i<(↑ds.length))) (inX i ds.length/\∃(y:Int×Int),VC 86 [.tp (Af e),Aa a.I] (.tup [Aa y.fst,Aa y.snd])/\BB (y.snd != 0) (LQ (.tup [Aa 0,Aa 0,Aa y.snd]) (.tup b)) (BB (bif decide (y.fst<0)then true else decide (y.fst>=a.Len)) (LQ (.tup [Aa 0,Aa 0,Aa 47]) (.tup b)) (J (RQ e ds who (i64.wrap (at'+i64.wrap (y.fst*a.Stride))) (i64.wrap (i+(1))))))) (LQ (.tup [Aa who,Aa at',Aa 0]) (.tup b)):=by subst c d;kernel_rfl
def Ahe (v r)(e)(x)(c)(l)(k)(J):((fc DR OD f133 [] (.tup [Aa v,Aa r])).loop [1,1,1,1,1,1,0,1,0] J).goal (Aat e x c l k) =
  BB (decide (k<(↑x.Args.length))) (inX k x.Args.length/\inX k x.Match.length/\BB (x.Match.getD k.toNat 0 != 1) (J (Aat e x c l (i64.wrap (k+(1))))) (∃(y:Int×Int),VC 86 [VV.tp (Af e),Aa (x.Args.getD k.toNat 0)] (VV.tup [Aa y.fst,Aa y.snd])/\inX k l.length/\BB (y.snd != 0) (LQ (VV.tup [Aa 0,Aa y.snd]) (VV.tup [Aa v,Aa r])) (J (Aq [(0,VV.tp (Af e)),(3,VV.bp 0 0),(8,VV.bp 1 0),(9,VV.ow 2 0 l.length),(51,Ac true x.Args),(52,Aa (↑x.Args.length)),(53,Aa (i64.wrap (k+(1))))] [Ob.box (AL x),Ob.box (Am c),Ob.arr true 0 l.length 1 λ(j)=>bif j.beq k.toNat then[Aa y.fst]else[Aa (l.getD j 0)]])))) (∃(y:_),VC 182 [VV.agg (Am c),Ac false l,Ac true x.Match,Ad (x.N==1)] (Aa y)/\∃(a:Int×Int),VC 134 [Ad (decide (y>=0))] (VV.tup [Aa a.fst,Aa a.snd])/\LQ (VV.tup [Aa a.fst,Aa a.snd]) (VV.tup [Aa v,Aa r])):=kR
def TB (b)(e)(k)(J){z1}(a:z1=e.S.Procs.getD k.toNat default):((fc DR Kb f135 [] (Ad b)).loop [1,0,1,0] J).goal (Vu e k) =
  BB (decide (k<(↑e.S.Procs.length))) (inX k e.S.Procs.length/\inX z1.Type_ e.M.Procs.length/\inX z1.Loc (e.M.Procs.getD z1.Type_.toNat default).Locs.length/\BB ((e.M.Procs.getD z1.Type_.toNat default).Locs.getD z1.Loc.toNat default).Progress (LQ (Ad true) (Ad b)) (J (Vu e (i64.wrap (k+(1)))))) (LQ (Ad false) (Ad b)):=by subst a;kernel_rfl
def Acz (r)(l)(v k)(J):((fc DR PE f215 [] (Aa r)).loop [1,0,1,0] J).goal (AdL l v k) =
  BB (decide (k<(↑l.length))) (inX k l.length/\BB (v==l.getD k.toNat 0) (LQ (Aa k) (Aa r)) (J (AdL l v (i64.wrap (k+(1)))))) (LQ (Aa (-1)) (Aa r)):=kR
def Ah2 (r)(c)(l mt)(any)(k)(J):((fc DR Ti f182 [] (Aa r)).loop [1,0,1,0] J).goal (Vw c l mt any k) =
  BB (decide (k<(↑c.Queue.length))) (inX k c.Queue.length/\∃(y:_),VC 214 [Ac true (c.Queue.getD k.toNat []),Ac false l,Ac true mt] (Ad y)/\BB y (LQ (Aa k) (Aa r)) (BB (!any) (LQ (Aa (-1)) (Aa r)) (J (Vw c l mt any (i64.wrap (k+(1))))))) (LQ (Aa (-1)) (Aa r)):=kR
def Ahv (b)(x l mt)(k)(J):((fc DR Th f214 [] (Ad b)).loop [1,1,0,1,0] J).goal (Vv x l mt k) =
  BB (decide (k<(↑mt.length))) (inX k mt.length/\((true&&(mt.getD k.toNat 0==1)==true)->inX k x.length)/\((true&&(mt.getD k.toNat 0==1)==true)->inX k l.length)/\BB (bif mt.getD k.toNat 0==1 then x.getD k.toNat 0 != l.getD k.toNat 0 else false) (LQ (Ad false) (Ad b)) (J (Vv x l mt (i64.wrap (k+(1)))))) (LQ (Ad true) (Ad b)):=kR
def Ahz (v r)(e)(x):(fc DR AV f180 [] (.tup [Aa v,Aa r])).goal (St.init [] [Aa x,.tp [.tp (Af e)]]) =
  ∃(y:Int×Int),VC 86 [VV.tp (Af e),Aa x] (VV.tup [Aa y.fst,Aa y.snd])/\LQ (VV.tup [Aa y.fst,Aa y.snd]) (VV.tup [Aa v,Aa r]):=kR
end Go.Proofs.YtboifkdeeigcaaaGreatDoor
namespace Go.Proofs.YtboifkdeeigcaaaGreatDoor
open Go.RowKit Go.Proofs.Tryz
open IntKind(i64)
def F6 (b:Int)(s:Bool)(v:Int):Int :=
 if 1<=b/\b<=32 then(if s then(v+2 ^ b.toNat / 2) % 2 ^ b.toNat-2 ^ b.toNat / 2 else v % 2 ^ b.toNat)else 0
def Aen (b v)(s)(h:b<1\/32<b):F6 b s v=0:=by
 unfold F6;rw[ArG oM]
def Y9 (b v)(h1:1<=b)(h2:b<=32):wrap64 (v*2 ^ (64-b).toNat) / 2 ^ (64-b).toNat=F6 b true v:=by
 have a:b=1\/b=2\/b=3\/b=4\/b=5\/b=6\/b=7\/b=8\/b=9\/b=10\/b=11\/b=12\/b=13\/b=14\/b=15\/b=16\/b=17\/b=18\/b=19\/b=20\/b=21\/b=22\/b=23\/b=24\/b=25\/b=26\/b=27\/b=28\/b=29\/b=30\/b=31\/b=32:=oM
 unfold wrap64 F6;rcases a with h|h|h|h|h|h|h|h|h|h|h|h|h|h|h|h|h|h|h|h|h|h|h|h|h|h|h|h|h|h|h|h <;>
  subst h<;>simp<;>omega
def HH (r:BitVec 64):i64.wrap (r.toNat)=r.toInt:=by
 rw[IntKind.wrap_i64,BitVec.toInt_eq_toNat_cond];have:=r.isLt;split<;>omega
def HI (r:BitVec 32):IntKind.i32.wrap (r.toNat)=r.toInt:=by
 rw[IntKind.wrap_i32,BitVec.toInt_eq_toNat_cond];have:=r.isLt;split<;>omega
def ZF (v)(m)(f:m<32):bits .and .i64 v ((2 ^ (m+1):Nat)-1)=v % (2 ^ (m+1):Nat):=by
 show i64.wrap ((BitVec.ofInt 64 v &&& BitVec.ofInt 64 (((2 ^ (m+1):Nat):Int)-1)).toNat:Int)=_;have hp:2 ^ (m+1)<=2 ^ 32:=AsK dZ oM;have a:0<2 ^ (m+1):=Nat.two_pow_pos _;have c:(((2 ^ (m+1):Nat):Int)-1)=((2 ^ (m+1)-1:Nat):Int):=oM
 rw[BitVec.toNat_and,c,BitVec.ofInt_natCast,BitVec.toNat_ofNat,BitVec.toNat_ofInt];have d:(2 ^ (m+1)-1) % 2 ^ 64=2 ^ (m+1)-1:=Nat.mod_eq_of_lt oM;rw[d,Atp];have e:(v % ((2 ^ 64:Nat):Int)).toNat % 2 ^ (m+1)<2 ^ (m+1):=AtB _ a;rw[IntWalk.i64_in _ oM];have b:0<=v % ((2 ^ 64:Nat):Int):=Atj _ dZ;have hd:((2 ^ (m+1):Nat):Int) ∣ ((2 ^ 64:Nat):Int):=by
  have:2 ^ (m+1) ∣ 2 ^ 64:=Nat.pow_dvd_pow 2 oM;exact Int.natCast_dvd_natCast.2 this
 rw[Int.natCast_emod,Int.toNat_of_nonneg b];exact Int.emod_emod_of_dvd _ hd
def AlA (b v)(h1:1<=b)(h2:b<=32):bits .and .i64 v (wrap64 (wrap64 (2 ^ b.toNat)-1))=F6 b false v:=by
 obtain⟨m,rfl⟩:∃m:Nat,b=(m:Int)+1:=⟨(b-1).toNat,oM⟩;have c:m<32:=oM
 have e:((m:Int)+1).toNat=m+1:=oM
 have hp:2 ^ (m+1)<=2 ^ 32:=AsK dZ oM;have a:0<2 ^ (m+1):=Nat.two_pow_pos _;have ec:(2:Int) ^ (m+1)=((2 ^ (m+1):Nat):Int):=sM
 unfold F6;rw[ArY ⟨h1,h2⟩,e,ec,IntWalk.wrap64_in ((2 ^ (m+1):Nat):Int) oM,IntWalk.wrap64_in _ oM,ZF v m c];simp
def Wk (b v)(h1:1<=b)(h2:b<=32)(s:Bool) :
  (if s then(if 2 ^ b.toNat / 2<=v % 2 ^ b.toNat then v % 2 ^ b.toNat-2 ^ b.toNat else v % 2 ^ b.toNat)else v % 2 ^ b.toNat)=F6 b s v:=by
 have a:b=1\/b=2\/b=3\/b=4\/b=5\/b=6\/b=7\/b=8\/b=9\/b=10\/b=11\/b=12\/b=13\/b=14\/b=15\/b=16\/b=17\/b=18\/b=19\/b=20\/b=21\/b=22\/b=23\/b=24\/b=25\/b=26\/b=27\/b=28\/b=29\/b=30\/b=31\/b=32:=oM
 unfold F6;cases s
 .simp[h1,h2]
 .rcases a with h|h|h|h|h|h|h|h|h|h|h|h|h|h|h|h|h|h|h|h|h|h|h|h|h|h|h|h|h|h|h|h <;>
   subst h<;>simp<;>split<;>omega
def AkU (b:Int)(h1:1<=b)(h2:b<=32):(2:Int)<=2 ^ b.toNat/\(2:Int) ^ b.toNat<=4294967296:=by
 obtain⟨m,a⟩:∃m:Nat,b.toNat=m+1:=⟨b.toNat-1,oM⟩;rw[a];have hp:2 ^ (m+1)<=2 ^ 32:=AsK dZ oM;have c:2 ^ 1<=2 ^ (m+1):=AsK dZ oM;have ec:(2:Int) ^ (m+1)=((2 ^ (m+1):Nat):Int):=sM
 rw[ec];omega
def Aqn (v m:Int)(c:0<m)(h:v.tmod m<0):v.tmod m+m=v % m:=by
 have h0:=Int.tmod_eq_emod (a:=v) (b:=m);have h1:=Atj v (b:=m) oM;have h2:=Int.emod_lt_of_pos v c;rw[h0]at h |-;split at h<;>rename_i d
 .omega
 .rw[ArG d];omega
def Aqo (v m:Int)(c:0<m)(h:0<=v.tmod m):v.tmod m=v % m:=by
 have h0:=Int.tmod_eq_emod (a:=v) (b:=m);have h1:=Atj v (b:=m) oM;have h2:=Int.emod_lt_of_pos v c;rw[h0]at h |-;split at h<;>rename_i d
 .rw[ArY d];omega
 .omega
def AhW (b v x)(h1:1<=b)(h2:b<=32)(a:x=v % 2 ^ b.toNat)(h:2 ^ b.toNat / 2<=x):x-2 ^ b.toNat=F6 b true v:=by
 have:=Wk b v h1 h2 true;rw[ArY rfl,<- a,ArY h]at this;exact this
def AhX (b v x)(h1:1<=b)(h2:b<=32)(a:x=v % 2 ^ b.toNat)(h:x<2 ^ b.toNat / 2):x=F6 b true v:=by
 have:=Wk b v h1 h2 true;rw[ArY rfl,<- a,ArG oM]at this;exact this
def AhV (b v x)(h1:1<=b)(h2:b<=32)(a:x=v % 2 ^ b.toNat):x=F6 b false v:=by
 have:=Wk b v h1 h2 false;rw[ArG dZ,<- a]at this;exact this
def AlB (v):F6 32 true v=wrap32 v:=by
 unfold F6 wrap32;simp
def BL (n):-2147483648<=wrap32 n/\wrap32 n<=2147483647:=by unfold wrap32;omega
def Lm {n}(h:-2147483648<=n)(a:n<=2147483647):wrap32 n=n:=by unfold wrap32;omega
def Ip (n):wrap64 (wrap32 n)=wrap32 n:=by have:=BL n;exact IntWalk.wrap64_in _ oM
def Ri (n):wrap32 n % 4294967296=n % 4294967296:=by unfold wrap32;omega
def TN {m n}(h:m % 4294967296=n % 4294967296):wrap32 m=wrap32 n:=by unfold wrap32;omega
def Adl (a b):wrap32 (wrap32 a*b)=wrap32 (a*b):=TN (by rw[Int.mul_emod,Ri,<- Int.mul_emod])
def U9 (a b):wrap32 (a-wrap32 b)=wrap32 (a-b):=TN (by rw[Int.sub_emod,Ri,<- Int.sub_emod])
def Adv (x y:Int)(h1:-2147483648<=x)(h2:x<=2147483647):-2147483648<=x.tmod y/\x.tmod y<=2147483647:=by
 by_cases h:0<=x
 .have a:=Int.tmod_nonneg y h;have b:x.tmod y<=x:=by
   have:=Atj;rw[Int.tmod_eq_emod_of_nonneg h]
   by_cases c:y=0
   .subst c;simp
   .have f:x % y=x-y*(x / y):=by have:=Int.emod_def x y;omega
    have:0<=y*(x / y):=by
     rcases Int.lt_or_gt_of_ne c with g|hp
     .exact Int.mul_nonneg_of_nonpos_of_nonpos oM (Int.ediv_nonpos_of_nonneg_of_nonpos h oM)
     .exact Int.mul_nonneg oM (Int.ediv_nonneg h oM)
    omega
  omega
 .have e:x.tmod y=-((-x).tmod y):=by rw[Int.neg_tmod];omega
  have d:0<=-x:=oM
  have a:=Int.tmod_nonneg y d;have b:(-x).tmod y<=-x:=by
   rw[Int.tmod_eq_emod_of_nonneg d]
   by_cases c:y=0
   .subst c;simp
   .have f:-x % y=-x-y*(-x / y):=by have:=Int.emod_def (-x) y;omega
    have:0<=y*(-x / y):=by
     rcases Int.lt_or_gt_of_ne c with g|hp
     .exact Int.mul_nonneg_of_nonpos_of_nonpos oM (Int.ediv_nonpos_of_nonneg_of_nonpos d oM)
     .exact Int.mul_nonneg oM (Int.ediv_nonneg d oM)
    omega
  omega
def Anc (x y)(h1:-2147483648<=x)(h2:x<=2147483647):wrap32 (x-wrap32 (wrap32 (x.tdiv y)*y))=x.tmod y:=by
 have a:=Adv x y h1 h2;rw[U9,<- U9,Adl,U9];have e:x-x.tdiv y*y=x.tmod y:=by have:=Int.tmod_add_mul_tdiv x y;rw[Int.mul_comm]at this;omega
 rw[e];exact Lm a.1 a.2
def Iy (b:Bool):Int:=if b then 1 else 0
def Dp (a n:Int):Int:=if 0<=n then wrap32 (a*2 ^ min n.toNat 32)else a / 2 ^ min (-n).toNat 32
def Em (op a b:Int):Int :=
 if op=6 then wrap32 (wrap32 a*wrap32 b)
 else if op=7 then(if wrap32 b=0 then 0 else wrap32 ((wrap32 a).tdiv (wrap32 b)))
 else if op=8 then(if wrap32 b=0 then 0 else(wrap32 a).tmod (wrap32 b))
 else if op=9 then wrap32 (wrap32 a+wrap32 b)
 else if op=10 then wrap32 (wrap32 a-wrap32 b)
 else if op=11 then Dp (wrap32 a) (wrap32 b)
 else if op=12 then Dp (wrap32 a) (-wrap32 b)
 else if op=13 then Iy (decide (wrap32 a<wrap32 b))
 else if op=14 then Iy (decide (wrap32 a<=wrap32 b))
 else if op=15 then Iy (decide (wrap32 b<wrap32 a))
 else if op=16 then Iy (decide (wrap32 b<=wrap32 a))
 else if op=17 then Iy (wrap32 a==wrap32 b)
 else if op=18 then Iy (wrap32 a != wrap32 b)
 else if op=19 then bits .and .i32 (wrap32 a) (wrap32 b)
 else if op=20 then bits .xor .i32 (wrap32 a) (wrap32 b)
 else if op=21 then bits .or .i32 (wrap32 a) (wrap32 b)
 else 0
def Gm (op b:Int):Int :=
 if(op=7\/op=8)/\wrap32 b=0 then 48 else if 6<=op/\op<=21 then 0 else 42
def MM (op a:Int):Int :=
 if op=3 then wrap32 (-wrap32 a)else if op=4 then Iy (wrap32 a==0)else if op=5 then -wrap32 a-1 else 0
def VZ (op:Int):Int:=if op=3\/op=4\/op=5 then 0 else 42
def FT (op)(c:op=.and\/op=.or\/op=.xor)(a b):-2147483648<=bits op .i32 a b/\bits op .i32 a b<=2147483647:=by
 rcases c with rfl|rfl|rfl
 all_goals
  unfold bits;simp only[];rw[IntKind.wrap_i32];omega
def DJ (n)(h1:-2147483648<=n)(h2:n<=2147483647):(BitVec.ofInt 32 n).signExtend 64=BitVec.ofInt 64 n:=by
 apply BitVec.eq_of_toInt_eq;rw[BitVec.toInt_signExtend_of_le dZ,BitVec.toInt_ofInt,BitVec.toInt_ofInt];have:(n.bmod (2 ^ 32))=n:=Int.bmod_eq_of_le oM oM;have h3:(n.bmod (2 ^ 64))=n:=Int.bmod_eq_of_le oM oM;rw[this,h3]
def Pm (op)(e:op=.and\/op=.or\/op=.xor)(a b)(c:-2147483648<=a/\a<=2147483647)(d:-2147483648<=b/\b<=2147483647) :
  bits op .i64 a b=bits op .i32 a b:=by
 rcases e with rfl|rfl|rfl
 .show i64.wrap ((BitVec.ofInt 64 a &&& BitVec.ofInt 64 b).toNat:Int)=IntKind.i32.wrap ((BitVec.ofInt 32 a &&& BitVec.ofInt 32 b).toNat:Int);rw[HH,HI,<- DJ a c.1 c.2,<- DJ b d.1 d.2,<- BitVec.signExtend_and,BitVec.toInt_signExtend_of_le dZ]
 .show i64.wrap ((BitVec.ofInt 64 a ||| BitVec.ofInt 64 b).toNat:Int)=IntKind.i32.wrap ((BitVec.ofInt 32 a ||| BitVec.ofInt 32 b).toNat:Int);rw[HH,HI,<- DJ a c.1 c.2,<- DJ b d.1 d.2,<- BitVec.signExtend_or,BitVec.toInt_signExtend_of_le dZ]
 .show i64.wrap ((BitVec.ofInt 64 a ^^^ BitVec.ofInt 64 b).toNat:Int)=IntKind.i32.wrap ((BitVec.ofInt 32 a ^^^ BitVec.ofInt 32 b).toNat:Int);rw[HH,HI,<- DJ a c.1 c.2,<- DJ b d.1 d.2,<- BitVec.signExtend_xor,BitVec.toInt_signExtend_of_le dZ]
def XG (a)(k)(h:32<=k):wrap32 (a*2 ^ k)=0:=by
 have e:(2:Int) ^ k=4294967296*2 ^ (k-32):=by
  rw[show k=32+(k-32)by omega,Int.pow_add];simp
 unfold wrap32;rw[e,<- Int.mul_assoc,Int.mul_comm a,Int.mul_assoc];omega
def AdR (a)(k):wrap32 (a*2 ^ k)=wrap32 (a*2 ^ min k 32):=by
 by_cases h:k<=32
 .rw[Nat.min_eq_left h]
 .rw[Nat.min_eq_right oM,XG a k oM,XG a 32 oM]
def XC (a:Int)(k):a / 2 ^ k / 2=a / 2 ^ (k+1):=by
 rw[Int.ediv_ediv_of_nonneg (Int.le_of_lt (Int.pow_pos dZ)),Int.pow_succ]
def AfJ (a)(k m)(c)(b:c=0\/c=-1)(h:a / 2 ^ k=c)(d:k<=m):a / 2 ^ m=c:=by
 have e:(2:Int) ^ m=2 ^ k*2 ^ (m-k):=by rw[<- Int.pow_add];congr 1;omega
 rw[e,<- Int.ediv_ediv_of_nonneg (Int.le_of_lt (Int.pow_pos dZ)),h];have hp:(0:Int)<2 ^ (m-k):=Int.pow_pos dZ;rcases b with rfl|rfl
 .simp
 .rw[Int.neg_one_ediv];have:=Int.sign_eq_one_of_pos hp;omega
def Ao4 (a)(h1:-2147483648<=a)(h2:a<=2147483647):a / 2 ^ 32=0\/a / 2 ^ 32=-1:=by
 have:(2:Int) ^ 32=4294967296:=dZ
 rw[this];omega
def AdO (a)(k)(h1:-2147483648<=a)(h2:a<=2147483647):a / 2 ^ k=a / 2 ^ min k 32:=by
 by_cases h:k<=32
 .rw[Nat.min_eq_left h]
 .rw[Nat.min_eq_right oM];exact AfJ a 32 k _ (Ao4 a h1 h2) rfl oM
def Ao3 (a)(k)(h1:-2147483648<=a)(h2:a<=2147483647):-2147483648<=a / 2 ^ k/\a / 2 ^ k<=2147483647:=by
 induction k with
 | zero=>simp;omega
 | succ k ih=>rw[<- XC];omega
def LF (a n)(h:-2147483648<=a/\a<=2147483647):-2147483648<=Dp a n/\Dp a n<=2147483647:=by
 unfold Dp;split
 .exact BL _
 .exact Ao3 a _ h.1 h.2
def AhU (x)(h:-2147483648<=x/\x<=2147483647):bits .xor .i32 (-1) x=-x-1:=by
 show IntKind.i32.wrap ((BitVec.ofInt 32 (-1) ^^^ BitVec.ofInt 32 x).toNat:Int)=_;have e:BitVec.ofInt 32 (-1)=BitVec.allOnes 32:=dZ
 rw[e,BitVec.allOnes_xor,BitVec.toNat_not,BitVec.toNat_ofInt,IntKind.wrap_i32];have:(((2:Nat) ^ 32:Nat):Int)=4294967296:=dZ
 rw[this];omega
def Alw (a):wrap64 (bits .xor .i32 (-1) (wrap32 a))=-wrap32 a-1:=by
 have h:=BL a;rw[AhU _ h];exact IntWalk.wrap64_in _ oM
def Aln (a:Int)(h:a<0):(a-1).tdiv 2=a / 2:=by
 have e:(a-1).tdiv 2=-((1-a).tdiv 2):=by rw[<- Int.neg_tdiv];congr 1;omega
 rw[e,Int.tdiv_eq_ediv_of_nonneg oM];omega
def C9 (b:Bool):Int×Int:=(bif b then 1 else 0,0)
abbrev Evl:=Int->Int×Int
section
variable (e : D.Env) (ev:Evl)
def CW (a:Int):Int×Int :=
 bif decide ((ev a).2≠0)then(0,(ev a).2)else bif decide ((ev a).1<1)||decide ((e.S.Chans.length:Int)<(ev a).1)then(0,49)else((ev a).1,0)
def BS (n:Int):D.Chan:=e.S.Chans.getD (n-1).toNat default
def Aoh (op room many:Int):Int×Int :=
 if op=25 then(many,0)else if op=26 then C9 (decide (room<=many))else if op=28 then C9 (decide (many<room))else if op=27 then C9 (decide (many=0))else C9 (decide (0<many))
def Mp (x:D.Expr):Int×Int :=
 bif decide ((CW e ev x.A).2≠0)then(0,(CW e ev x.A).2)else Aoh x.Op (B8 e.M (BS e (CW e ev x.A).1).Shape).Room (BS e (CW e ev x.A).1).Queue.length
def AcQ:Nat->(Nat->Int)->Int
 | 0,_=>0
 | n+1,f=>bif decide (AcQ n f≠0)then AcQ n f else f n
def Dr (a m:Int):Int×Int:=bif decide (m=1)then ev a else(0,0)
def C8 (args mt:List Int):List Int:=(List.range args.length).map λi=>(Dr ev (args.getD i 0) (mt.getD i 0)).1
def Dn (args mt:List Int)(n:Nat):Int:=AcQ n λi=>(Dr ev (args.getD i 0) (mt.getD i 0)).2
def Ec (x l mt:List Int):Bool:=decide (mt.length<=x.length)&&decide (mt.length<=l.length)&&CL mt.length λi=>!(decide (mt.getD i 0=1)&&decide (x.getD i 0≠l.getD i 0))
def Ol (l mt:List Int)(any:Bool):Nat->List (List Int)->Int
 | _,[]=>-1
 | k,x::q=>bif Ec x l mt then(k:Int)else bif any then Ol l mt any (k+1) q else -1
def F7 (c:D.Chan)(l mt:List Int)(any:Bool):Int:=Ol l mt any 0 c.Queue
def Mk (x:D.Expr):Int×Int :=
 bif decide ((CW e ev x.A).2≠0)then(0,(CW e ev x.A).2)
 else bif decide ((B8 e.M (BS e (CW e ev x.A).1).Shape).Fields.length≠x.Args.length)then(0,49)
 else bif decide (Dn ev x.Args x.Match x.Args.length≠0)then(0,Dn ev x.Args x.Match x.Args.length)
 else C9 (decide (0<=F7 (BS e (CW e ev x.A).1) (C8 ev x.Args x.Match) x.Match (decide (x.N=1))))
def DB (n:Int):D.Process:=e.S.Procs.getD n.toNat default
def GJ (x:D.Expr):Int×Int :=
 bif decide ((ev x.A).2≠0)then(0,(ev x.A).2)
 else bif decide ((ev x.A).1<0)||(decide ((e.S.Procs.length:Int)<=(ev x.A).1)||(decide (x.Op=38)&&decide ((DB e (ev x.A).1).Type_≠x.N)))then(0,52)
 else bif decide (x.Op=37)then((DB e (ev x.A).1).Loc,0)else C9 (decide ((DB e (ev x.A).1).Loc∈x.Args))
def JR (x:D.Expr):Int×Int :=
 bif decide ((ev x.A).2≠0)then(0,(ev x.A).2)
 else bif decide (x.Op=24)then(bif decide ((ev x.A).1≠0)then ev x.B else ev x.C)
 else bif(decide (x.Op=22)&&decide ((ev x.A).1=0))||(decide (x.Op=23)&&decide ((ev x.A).1≠0))then C9 (decide ((ev x.A).1≠0))
 else bif decide ((ev x.B).2≠0)then(0,(ev x.B).2)else C9 (decide ((ev x.B).1≠0))
def RH (x:D.Expr):Int×Int :=
 bif decide ((ev x.A).2≠0)then(0,(ev x.A).2)
 else bif decide (x.Op=3)||(decide (x.Op=4)||decide (x.Op=5))then(MM x.Op (ev x.A).1,VZ x.Op)
 else bif decide ((ev x.B).2≠0)then(0,(ev x.B).2)else(Em x.Op (ev x.A).1 (ev x.B).1,Gm x.Op (ev x.B).1)
def Dl (v:D.Var):Int×Int :=
 bif decide (v.Scope=0)then(bif decide ((e.S.Globals.length:Int)<DT v)then(0,42)else(-1,0))
 else bif decide (v.Scope=1)then(bif decide (e.Pid<0)||decide (((DB e e.Pid).Frame.length:Int)<DT v)then(0,42)else(e.Pid,0))
 else bif decide ((ev v.Who).2≠0)then(0,(ev v.Who).2)
 else bif decide ((ev v.Who).1<0)||(decide ((e.S.Procs.length:Int)<=(ev v.Who).1)||decide ((DB e (ev v.Who).1).Type_≠v.Type_))then(0,52)
 else bif decide (((DB e (ev v.Who).1).Frame.length:Int)<DT v)then(0,42)else((ev v.Who).1,0)
def D3:Int->List D.Dim->Int×Int
 | n,[]=>(n,0)
 | n,d::l=>bif decide ((ev d.I).2≠0)then(0,(ev d.I).2)else bif decide ((ev d.I).1<0)||decide (d.Len<=(ev d.I).1)then(0,47)else D3 (n+(ev d.I).1*d.Stride) l
def B9 (x:D.Expr):Int×Int×Int :=
 bif decide (x.Op≠2)then(0,0,42)
 else bif decide ((Dl e ev x.V).2≠0)then(0,0,(Dl e ev x.V).2)
 else bif decide ((D3 ev x.V.Slot x.V.Dims).2≠0)then(0,0,(D3 ev x.V.Slot x.V.Dims).2)else((Dl e ev x.V).1,(D3 ev x.V.Slot x.V.Dims).1,0)
def X5 (x:D.Expr):Int×Int :=
 bif decide ((B9 e ev x).2.2≠0)then(0,(B9 e ev x).2.2)
 else bif decide ((B9 e ev x).1<0)then(e.S.Globals.getD (B9 e ev x).2.1.toNat 0,0)else((DB e (B9 e ev x).1).Frame.getD (B9 e ev x).2.1.toNat 0,0)
def Gv:Bool:=!(CL e.S.Procs.length λi=>!((FE e.M (e.S.Procs.getD i default).Type_).getD (e.S.Procs.getD i default).Loc.toNat default).Progress)
def Qh (x:D.Expr):Int×Int :=
 bif decide ((ev x.A).2≠0)then(0,(ev x.A).2)
 else C9 (decide (0<=(ev x.A).1)&&(decide ((ev x.A).1<e.Able.length)&&e.Able.getD (ev x.A).1.toNat false))
def Cu (x:D.Expr):Int×Int :=
 if x.Op=1 then(x.N,0)else if x.Op=2 then X5 e ev x else if x.Op=22\/x.Op=23\/x.Op=24 then JR ev x
 else if x.Op=25\/x.Op=26\/x.Op=27\/x.Op=28\/x.Op=29 then Mp e ev x else if x.Op=30 then Mk e ev x
 else if x.Op=31 then(e.Pid,0)else if x.Op=32 then(e.S.Last,0)else if x.Op=33 then(e.S.Procs.length,0)else if x.Op=34 then C9 (!Gv e)
 else if x.Op=35 then C9 e.Timeout else if x.Op=36 then Qh e ev x else if x.Op=37\/x.Op=38 then GJ e ev x else if x.Op=39 then(0,42)else RH ev x
end
def Qd (e:D.Env):Nat->Evl
 | 0,_=>(0,0)
 | n+1,a=>Cu e (Qd e n) (As e.M a)
def Gh (e:D.Env):Evl:=Qd e (e.M.Exprs.length-1)
def C7 (e:D.Env)(x:Int):Int :=
 bif decide (Co e.M e.S≠0)then Co e.M e.S
 else bif decide (e.Pid < -1)||(decide ((e.S.Procs.length:Int)<=e.Pid)||(decide (x<0)||decide ((e.M.Exprs.length:Int)<=x)))then 42 else 0
def Bc (e:D.Env)(x:Int):Int×Int:=bif decide (C7 e x≠0)then(0,C7 e x)else Cu e (Gh e) (As e.M x)
def AK (e:D.Env)(x:Int):Int×Int:=bif decide (C7 e x≠0)then(0,C7 e x)else CW e (Qd e e.M.Exprs.length) x
def idxP (v:Int):Nat->List Int->Int
 | _,[]=>-1
 | k,y::l=>bif decide (v=y)then(k:Int)else idxP v (k+1) l
def AhL {v y}{k}{l}:idxP v k (y::l)=bif decide (v=y)then(k:Int)else idxP v (k+1) l:=rfl
def Aek {v}:∀{l}{k},decide (v∈l)=decide (idxP v k l>=0)
 | [],k=>by simp[idxP]
 | y::l,k=>by
  unfold idxP
  by_cases h:v=y
  .simp[h]
  .have:=Aek (v:=v) (l:=l) (k:=k+1);simp only[h,decide_false,Arq,<- this];simp[h]
section
variable {P : Program} {a:Act} {w:World} {Q:Exit->Act->World->Prop}
def Hj {c rest}(l)(g:findLabel c l=some rest)
  (h:∀J:Act->World->Prop,(∀a w,rest.wp P (Exit.noGoto Q) a w->J a w)->c.wp P (Exit.jump l J Q) a w):(Code.scope c).wp P Q a w:=by
 refine wp_scope_jumps l (λa w=>rest.wp P (Exit.noGoto Q) a w) (λ_ _=>0) g (h _ λ_ _ h=>h) ?_;intro a w i b k cs;obtain⟨e,j,m,d,f⟩:=i b k cs;refine⟨e,j,m,?_,f⟩;cases e with
 | goto l=>exact d.elim
 | normal=>exact d
 | exit _=>exact d
 | ret=>exact d
 | panic _=>exact d
 | outgrown=>exact d
@[go_sem] theorem AoF (l) (J):Exit.jump l J Q .normal a w=Q .normal a w:=rfl
@[go_sem] theorem Aqh (l) (J) (id):Exit.jump l J Q (.exit id) a w=Q (.exit id) a w:=rfl
@[go_sem] theorem Aq1 (l) (J):Exit.jump l J Q .ret a w=Q .ret a w:=rfl
@[go_sem] theorem ApV (l) (J) (ch):Exit.jump l J Q (.panic ch) a w=Q (.panic ch) a w:=rfl
end
def It {k}{a b}(h:a=b):Ending.returned (.int k a)=.returned (.int k b):=by rw[h]
def EX (w)(o):Below w.heap.size w (w.alloc o):=(Below.refl _ _).alloc (Arx _) _
set_option maxHeartbeats 400000 in
def AoX (b v)(w)(h1:1<=b)(h2:b<=32) :
  Calls prog 204 #[.agg #[.int .i64 b,.bool true],.int .i64 v] w λe w'=>e=.returned (.int .i64 (F6 b true v))/\Below w.heap.size w w':=by
 have a:decide (b<1)=false:=by simp;omega
 have c:decide (32<b)=false:=by simp;omega
 go_enter func204,ntmps204
 go_wp2
 go_quiet (fail)
 go_wp2
 go_ret
 exact⟨It (Y9 b v h1 h2),below_drewN (EX _ _) _⟩
set_option maxHeartbeats 400000 in
def AoW (b v)(w)(h1:1<=b)(h2:b<=32) :
  Calls prog 204 #[.agg #[.int .i64 b,.bool false],.int .i64 v] w λe w'=>e=.returned (.int .i64 (F6 b false v))/\Below w.heap.size w w':=by
 have a:decide (b<1)=false:=by simp;omega
 have c:decide (32<b)=false:=by simp;omega
 go_enter func204,ntmps204
 go_wp2
 go_ret
 exact⟨It (AlA b v h1 h2),EX _ _⟩
set_option maxHeartbeats 400000 in
def AoV (b v)(s)(w)(h1:b<1\/32<b) :
  Calls prog 204 #[.agg #[.int .i64 b,.bool s],.int .i64 v] w λe w'=>e=.returned (.int .i64 (F6 b s v))/\Below w.heap.size w w':=by
 have HF:=Lib.hid (Aen b v s h1);rcases h1 with h1|h1
 .go_enter func204,ntmps204
  go_wp2
  go_ret
  exact⟨It HF.out.symm,EX _ _⟩
 .have a:decide (b<1)=false:=by simp;omega
  go_enter func204,ntmps204
  go_wp2
  go_ret
  exact⟨It HF.out.symm,EX _ _⟩
def Arh (b v)(s)(w) :
  Calls prog 204 #[.agg #[.int .i64 b,.bool s],.int .i64 v] w λe w'=>e=.returned (.int .i64 (F6 b s v))/\Below w.heap.size w w':=by
 by_cases h:1<=b/\b<=32
 .cases s
  .exact AoW b v w h.1 h.2
  .exact AoX b v w h.1 h.2
 .exact AoV b v s w oM
def Hn {k l}{a b c d}(h:a=b)(e:c=d):Ending.returned (.tuple #[.int k a,.int l c])=.returned (.tuple #[.int k b,.int l d]):=by rw[h,e]
set_option maxHeartbeats 400000 in
def Aab (b)(w) :
  Calls prog 216 #[.bool b] w λe w'=>e=.returned (.int .i64 (Iy b))/\w=w':=by
 cases b
 all_goals
  go_enter func216,ntmps216
  go_wp2
  go_ret
  exact⟨rfl,rfl⟩
set_option maxHeartbeats 400000 in
def AiU (a n)(w)(h0:-2147483648<=n)(h1:n<=2147483648) :
  Calls prog 217 #[.int .i32 a,.int .i64 n] w λe w'=>e=.returned (.int .i32 (Dp a n))/\w=w':=by
 by_cases c:0<=n
 .have HP:Hid (Dp a n=wrap32 (a*2 ^ min n.toNat 32)):=by unfold Hid Dp;rw[ArY c]
  by_cases b:63<n
  .go_enter func217,ntmps217
   go_wp2
   go_ret
   exact⟨It (by rw[HP.out,show min n.toNat 32=32 by omega];first | rfl | (rw[IntKind.wrap_i32]<;>rfl)),rfl⟩
  .go_enter func217,ntmps217
   go_wp2
   go_ret
   exact⟨It (by rw[HP.out]),rfl⟩
 .have HP:Hid (Dp a n=a / 2 ^ min (-n).toNat 32):=by unfold Hid Dp;rw[ArG c]
  have d:n<=0:=oM
  by_cases b:63 < -n
  .go_enter func217,ntmps217
   go_wp2
   go_ret
   exact⟨It (by rw[HP.out,show min (-n).toNat 32=32 by omega]<;>rfl),rfl⟩
  .go_enter func217,ntmps217
   go_wp2
   go_ret
   exact⟨It HP.out.symm,rfl⟩
set_option maxHeartbeats 400000 in
def AoR (a b)(w) :
  Calls prog 185 #[.int .i64 7,.int .i64 a,.int .i64 b] w λe w'=>e=.returned (.tuple #[.int .i64 (Em 7 a b),.int .i64 (Gm 7 b)])/\w=w':=by
 have f:=BL b;have g:=BL a
 by_cases h0:wrap32 b=0
 .have HV:Hid (Em 7 a b=0):=by unfold Hid;simp[Em,h0]
  have HE:Hid (Gm 7 b=48):=by unfold Hid;simp[Gm,h0]
  have c:(wrap32 b==0)=true:=by simpa using h0
  clear h0
  go_enter func185,ntmps185
  go_wp2
  refine Hj 0 rfl (λJ d=>?_)
  go_wp2
  go_step3
  refine⟨rfl,d _ _ ?_⟩
  go_wp2
  rw[Exit.noGoto_ret]
  go_ret2
  exact⟨Hn HV.out.symm HE.out.symm,rfl⟩
 .have HV:Hid (Em 7 a b=wrap32 ((wrap32 a).tdiv (wrap32 b))):=by unfold Hid;simp[Em,h0]
  have HE:Hid (Gm 7 b=0):=by unfold Hid;simp[Gm,h0]
  have c:(wrap32 b==0)=false:=by simpa using h0
  go_enter func185,ntmps185
  go_wp2
  go_step3
  go_wp2
  rw[Exit.noGoto_ret]
  go_ret2
  exact⟨Hn (by rw[HV.out];exact Ip _) HE.out.symm,rfl⟩
set_option maxHeartbeats 400000 in
def AoQ (a b)(w) :
  Calls prog 185 #[.int .i64 8,.int .i64 a,.int .i64 b] w λe w'=>e=.returned (.tuple #[.int .i64 (Em 8 a b),.int .i64 (Gm 8 b)])/\w=w':=by
 have g:=BL b;have d:=BL a
 by_cases h0:wrap32 b=0
 .have HV:Hid (Em 8 a b=0):=by unfold Hid;simp[Em,h0]
  have HE:Hid (Gm 8 b=48):=by unfold Hid;simp[Gm,h0]
  have c:(wrap32 b==0)=true:=by simpa using h0
  clear h0
  go_enter func185,ntmps185
  go_wp2
  refine Hj 0 rfl (λJ f=>?_)
  go_wp2
  go_step3
  refine⟨rfl,f _ _ ?_⟩
  go_wp2
  rw[Exit.noGoto_ret]
  go_ret2
  exact⟨Hn HV.out.symm HE.out.symm,rfl⟩
 .have HV:Hid (Em 8 a b=(wrap32 a).tmod (wrap32 b)):=by unfold Hid;simp[Em,h0]
  have HE:Hid (Gm 8 b=0):=by unfold Hid;simp[Gm,h0]
  have c:(wrap32 b==0)=false:=by simpa using h0
  go_enter func185,ntmps185
  go_wp2
  go_step3
  go_wp2
  rw[Exit.noGoto_ret]
  go_ret2
  exact⟨Hn (by rw[HV.out];rw[Ip];exact Anc _ _ d.1 d.2) HE.out.symm,rfl⟩
set_option maxHeartbeats 4000000 in
def AoP (op a b)(w)(c:op=6\/op=9\/op=10\/op=11\/op=12\/op=19\/op=20\/op=21) :
  Calls prog 185 #[.int .i64 op,.int .i64 a,.int .i64 b] w λe w'=>e=.returned (.tuple #[.int .i64 (Em op a b),.int .i64 (Gm op b)])/\w=w':=by
 have f:=BL b;rcases c with rfl|rfl|rfl|rfl|rfl|rfl|rfl|rfl
 all_goals
  go_enter func185,ntmps185
  go_wp2
  go_step3
  go_wp2_with (first | (go_at_call 217;(with_reducible refine(AiU _ _ _ oM oM).mono ?_);rintro e d ⟨rfl,rfl⟩) | (go_at_call 216;(with_reducible refine(Aab _ _).mono ?_);rintro e d ⟨rfl,rfl⟩))
  rw[Exit.noGoto_ret]
  go_ret2
  refine⟨Hn ?_ (by simp[Gm]),rfl⟩
  first
   | (simp[Em,Ip];done)
   | (have h:=LF (wrap32 a) (wrap32 b) (BL a);simp only[Em];exact IntWalk.wrap64_in _ oM)
   | (have h:=LF (wrap32 a) (-wrap32 b) (BL a);simp only[Em];exact IntWalk.wrap64_in _ oM)
   | (have h:=FT .and sM (wrap32 a) (wrap32 b);simp only[Em];exact IntWalk.wrap64_in _ oM)
   | (have h:=FT .xor sM (wrap32 a) (wrap32 b);simp only[Em];exact IntWalk.wrap64_in _ oM)
   | (have h:=FT .or sM (wrap32 a) (wrap32 b);simp only[Em];exact IntWalk.wrap64_in _ oM)
set_option maxHeartbeats 4000000 in
def AoO (op a b)(w)(c:op=13\/op=14\/op=15\/op=16\/op=17\/op=18) :
  Calls prog 185 #[.int .i64 op,.int .i64 a,.int .i64 b] w λe w'=>e=.returned (.tuple #[.int .i64 (Em op a b),.int .i64 (Gm op b)])/\w=w':=by
 have g:=BL b;rcases c with rfl|rfl|rfl|rfl|rfl|rfl
 all_goals
  go_enter func185,ntmps185
  go_wp2
  refine Hj 1 rfl (λJ d=>?_)
  go_wp2
  go_step3
  refine⟨rfl,d _ _ ?_⟩
  go_wp2_with (first | (go_at_call 217;(with_reducible refine(AiU _ _ _ oM oM).mono ?_);rintro e f ⟨rfl,rfl⟩) | (go_at_call 216;(with_reducible refine(Aab _ _).mono ?_);rintro e f ⟨rfl,rfl⟩))
  rw[Exit.noGoto_ret]
  go_ret2
  exact⟨Hn (by simp only[Em];rfl) (by simp[Gm]),rfl⟩
set_option maxHeartbeats 400000 in
def AmA (op)(a b)(w)(c:op<6\/21<op) :
  Calls prog 185 #[.int .i64 op,.int .i64 a,.int .i64 b] w λe w'=>e=.returned (.tuple #[.int .i64 (Em op a b),.int .i64 (Gm op b)])/\w=w':=by
 have r:=BL b;have HV:Hid (Em op a b=0):=by unfold Hid Em;repeat (rw[ArG oM])
 have HE:Hid (Gm op b=42):=by unfold Hid Gm;rw[ArG oM,ArG oM]
 have s:(op==6)=false:=by simp;omega
 have t:(op==7)=false:=by simp;omega
 have u:(op==8)=false:=by simp;omega
 have v:(op==9)=false:=by simp;omega
 have d:(op==10)=false:=by simp;omega
 have f:(op==11)=false:=by simp;omega
 have g:(op==12)=false:=by simp;omega
 have h:(op==13)=false:=by simp;omega
 have i:(op==14)=false:=by simp;omega
 have j:(op==15)=false:=by simp;omega
 have k:(op==16)=false:=by simp;omega
 have l:(op==17)=false:=by simp;omega
 have m:(op==18)=false:=by simp;omega
 have n:(op==19)=false:=by simp;omega
 have o:(op==20)=false:=by simp;omega
 have p:(op==21)=false:=by simp;omega
 clear c
 go_enter func185,ntmps185
 go_wp2
 refine Hj 1 rfl (λJ q=>?_)
 go_wp2
 go_step3
 refine⟨rfl,q _ _ ?_⟩
 go_wp2
 rw[Exit.noGoto_ret]
 go_ret2
 exact⟨Hn HV.out.symm HE.out.symm,rfl⟩
def Arf (op a b)(w) :
  Calls prog 185 #[.int .i64 op,.int .i64 a,.int .i64 b] w λe w'=>e=.returned (.tuple #[.int .i64 (Em op a b),.int .i64 (Gm op b)])/\w=w':=by
 by_cases c:op<6\/21<op
 .exact AmA op a b w c
 by_cases h7:op=7
 .subst h7;exact AoR a b w
 by_cases d:op=8
 .subst d;exact AoQ a b w
 by_cases f:13<=op/\op<=18
 .exact AoO op a b w oM
 .exact AoP op a b w oM
set_option maxHeartbeats 1000000 in
def Arg (op a)(w) :
  Calls prog 184 #[.int .i64 op,.int .i64 a] w λe w'=>e=.returned (.tuple #[.int .i64 (MM op a),.int .i64 (VZ op)])/\w=w':=by
 by_cases b:op=3\/op=4\/op=5
 .rcases b with rfl|rfl|rfl
  all_goals
   have c:=BL a
   go_enter func184,ntmps184
   go_wp2_with (go_at_call 216;(with_reducible refine(Aab _ _).mono ?_);rintro e d ⟨rfl,rfl⟩)
   go_ret2
   exact⟨Hn (by simp only[MM];first | rfl | exact Ip _ | exact(Alw a) | (simp;omega)) (by simp[VZ]),rfl⟩
 have HV:Hid (MM op a=0):=by unfold Hid MM;repeat (rw[ArG oM])
 have HE:Hid (VZ op=42):=by unfold Hid VZ;rw[ArG oM]
 have f:(op==3)=false:=by simp;omega
 have g:(op==4)=false:=by simp;omega
 have h:(op==5)=false:=by simp;omega
 clear b
 go_enter func184,ntmps184
 go_wp2
 go_ret2
 exact⟨Hn HV.out.symm HE.out.symm,rfl⟩
def Afs {m}(h:Cj m=(0,0)):JX m<0:=by
 unfold Cj at h;grind
structure BJ (e:D.Env):Prop where
 fits:Dz e.M e.S=true
 may:Hq e.M=true
 wf:AS e.M
 pid:-1<=e.Pid/\e.Pid<e.S.Procs.length
section
variable {e : D.Env}
def BJ.fit (h:BJ e):Fit e.S:=SK h.may h.fits
def BJ.tab (h:BJ e):AoL e.M:=RG (Dj h.may).1
def BJ.expr (h:BJ e):∀i:Nat,i<e.M.Exprs.length->EC e.M i:=Zc (Afs (Dj h.may).1)
def BJ.chan (h:BJ e){c}(a:c∈e.S.Chans):De e.M c:=by
 have h:=h.fits;unfold Dz at h;simp only[Arr]at h;exact(CR (d:=default) (f:=λc=>De e.M c)).1 h.1.1.2 c a
def BJ.proc (h:BJ e){p}(hp:p∈e.S.Procs):Bo e.M p:=by
 have h:=h.fits;unfold Dz at h;simp only[Arr]at h;exact(CR (d:=default) (f:=λc=>Bo e.M c)).1 h.1.2 p hp
def BJ.globals (h:BJ e):e.S.Globals.length=e.M.Globals.length/\BR e.M.Globals e.S.Globals:=by
 have h:=h.fits;unfold Dz Jc at h;simp only[Arr]at h;grind[EE]
def DN {m}{p}(h:Bo m p):(0<=p.Type_/\p.Type_<m.Procs.length)/\(0<=p.Loc/\p.Loc<(AY m p.Type_).Locs.length)/\p.Frame.length=(AY m p.Type_).Frame.length/\BR (AY m p.Type_).Frame p.Frame/\p.Prio=(AY m p.Type_).Prio/\p.Type_≠m.Claim:=by
 unfold Bo C0 at h;simp only[Arr,Ary]at h;grind[CB,EE]
def EW {m}{c}(h:De m c):(0<=c.Shape/\c.Shape<m.Shapes.length)/\c.Queue.length<=(B8 m c.Shape).Room/\∀x∈c.Queue,BR (B8 m c.Shape).Fields x:=by
 unfold De at h;simp only[Arr,Ary]at h;exact⟨CB.1 h.1.1,h.1.2,λx a=>(CR (d:=[]) (f:=λx=>BR (B8 m c.Shape).Fields x)).1 h.2 x a⟩
end
abbrev vII (p:Int×Int):VV:=.tup [Aa p.1,Aa p.2]
abbrev Kt (p:Int×Int×Int):VV:=.tup [Aa p.1,Aa p.2.1,Aa p.2.2]
def A7 {a b}{q}(h:(a,b)=q):leO [] []/\VV.le (.tup [.sc (.int .i64 a),.sc (.int .i64 b)]) (.tup [.sc (.int .i64 q.1),.sc (.int .i64 q.2)]):=by
 subst h;exact⟨trivial,lR⟩
def Gi {a b c}{q}(h:(a,b,c)=q):leO [] []/\VV.le (.tup [.sc (.int .i64 a),.sc (.int .i64 b),.sc (.int .i64 c)]) (.tup [.sc (.int .i64 q.1),.sc (.int .i64 q.2.1),.sc (.int .i64 q.2.2)]):=by
 subst h;exact⟨trivial,lR⟩
def ct {α:Type}{c}{a b x:α}(h:c=true)(k:x=a):x=bif c then a else b:=by rw[h];exact k
def cf {α:Type}{c}{a b x:α}(h:c=false)(k:x=b):x=bif c then a else b:=by rw[h];exact k
def it {α:Type}{c}[Decidable c]{a b x:α}(h:c)(k:x=a):x=if c then a else b:=by rw[ArY h];exact k
def ie {α:Type}{c}[Decidable c]{a b x:α}(h:¬c)(k:x=b):x=if c then a else b:=by rw[ArG h];exact k
abbrev EvS (e:D.Env)(a:Int)(p:Int×Int):Prop:=Ai prog 86 [] [.tp (Af e),Aa a] [] (vII p)
def DL {b}:Ai prog 134 [] [Ad b] [] (vII (C9 b)) :=
 Ay func134 (Afm _ _ b) ⟨λh=>A7 (by rw[h]<;>rfl),λh=>A7 (by rw[h];rfl)⟩
def AU (a b:Int):(a != b)=decide (a≠b):=by rw[Ase];simp
def Mr {e}{ev}{a}(h:EvS e a (ev a)):Ai prog 181 [] [.tp (Af e),Aa a] [] (vII (CW e ev a)):=by
 refine Ay func181 (AeZ _ _ e a) ⟨ev a,h,λh=>A7 (ct (by simpa using h) rfl),λh=>⟨λh2=>A7 (cf (by simpa using h) (ct ?_ rfl)),λh2=>A7 (cf (by simpa using h) (cf ?_ rfl))⟩⟩
 .rw[Bj]at h2;exact h2
 grind
def Q9 {e}{ev}{a}(b:BJ e)(h:¬(CW e ev a).2≠0):1<=(CW e ev a).1/\(CW e ev a).1<=e.S.Chans.length/\e.S.Chans.length<=32:=by
 have d:=b.fit.c;unfold CW at h |-;grind
def Acy {l}{v}(i:Len l.length):Ai prog 215 [] [Ac true l,Aa v] [] (Aa (idxP v 0 l)):=by
 unfold Len at i;refine Ay func215 (AhK _ l v) ?_;refine AA l.length (λk=>AdL l v k) (λk=>idxP v 0 l=idxP v k (l.drop k)) rfl ?_;intro k hk c J next
 refine ArC (Acz _ l v k J) ⟨λf=>?_,λg=>BY ?_⟩
 .have a:k<l.length:=by have:=AQ f;omega
  have h:(k:Int).toNat=k:=oM
  rw[h];rw[Br (d:=0) a]at c;rw[AhL]at c;refine⟨oM,λj=>BY ?_,λj=>next _ a ?_ (Up.of ?_)⟩
  .grind
  .grind
  grind[Aj]
 .have b:l.length<=k:=by have:=AP g;omega
  rw[c,ArU b]<;>rfl
def TF {l}{v}(a:Len l.length):Ai prog 183 [] [Ac true l,Aa v] [] (Ad (decide (v∈l))) :=
 Ay func183 (Wn _ l v) ⟨_,Acy a,AB (by rw[Aek (k:=0)])⟩
def AiC {e}{ev}{x}(a:BJ e)(h:EvS e x.A (ev x.A)):Ai prog 132 [] [.tp (Af e),.agg (AL x)] [] (vII (Mp e ev x)):=by
 refine Ay func132 (Ami _ _ e x rfl rfl rfl rfl rfl) ⟨CW e ev x.A,Mr h,λh=>A7 (ct (by simpa using h) rfl),λh=>?_⟩;have h0:decide ((CW e ev x.A).2≠0)=false:=by simpa using h
 have b:Mp e ev x=Aoh x.Op (B8 e.M (BS e (CW e ev x.A).1).Shape).Room (BS e (CW e ev x.A).1).Queue.length:=by unfold Mp;rw[h0]<;>rfl
 rw[b];have c:=Q9 a (ArP h0);generalize(CW e ev x.A).1=n at c;rw[AT oM oM];have f:=a.chan (Av (d:=default) (show(n-1).toNat<e.S.Chans.length by omega));have hs:=(EW f).1;refine⟨oM,hs,λh1=>A7 (it (by simpa using h1) rfl),λh1=>⟨λh2=>⟨_,DL,A7 (ie (by simpa using h1) (it (by simpa using h2) rfl))⟩,λh2=>⟨λh3=>⟨_,DL,A7 (ie (by simpa using h1) (ie (by simpa using h2) (it (by simpa using h3) rfl)))⟩,λh3=>⟨λh4=>⟨_,DL,A7 (ie (by simpa using h1) (ie (by simpa using h2) (ie (by simpa using h3) (it (by simpa using h4) ?_))))⟩,λh4=>⟨_,DL,A7 (ie (by simpa using h1) (ie (by simpa using h2) (ie (by simpa using h3) (ie (by simpa using h4) ?_))))⟩⟩⟩⟩⟩
 .rw[ieq]<;>rfl
 .rfl
def X3 {e}{ev}{x}(h:EvS e x.A (ev x.A))(a:Len x.Args.length):Ai prog 136 [] [.tp (Af e),.agg (AL x)] [] (vII (GJ e ev x)):=by
 refine Ay func136 (Aa5 _ _ e x) ⟨ev x.A,h,λh=>A7 (ct (by simpa using h) rfl),λh=>?_⟩;have h0:decide ((ev x.A).2≠0)=false:=by simpa using h
 have b:GJ e ev x=bif decide ((ev x.A).1<0)||(decide ((e.S.Procs.length:Int)<=(ev x.A).1)||(decide (x.Op=38)&&decide ((DB e (ev x.A).1).Type_≠x.N)))then(0,52)
   else bif decide (x.Op=37)then((DB e (ev x.A).1).Loc,0)else C9 (decide ((DB e (ev x.A).1).Loc∈x.Args)):=by unfold GJ;rw[h0]<;>rfl
 rw[b];generalize(ev x.A).1=n;refine⟨λh1=>?_,λh1=>?_,λh1=>⟨λh2=>⟨?_,A7 (cf ?_ (ct (by simpa using h2) rfl))⟩,λh2=>⟨?_,_,TF a,_,DL,A7 (cf ?_ (cf (by simpa using h2) rfl))⟩⟩⟩
 .simp at h1;omega
 .simp only[Bj,A8,ieq,AU,AsN,AsP]at h1;exact A7 (ct h1 rfl)
 .simp at h1;omega
 .grind
 .simp at h1;omega
 .simp only[Bj,A8,ieq,AU,AsN,AsP]at h1;exact h1
def MQ {e}{a}{p}(h:EvS e a p):Ai prog 180 [] [Aa a,.tp [.tp (Af e)]] [] (vII p) :=
 Ay func180 (Ahz _ _ e a) ⟨p,h,A7 rfl⟩
def SA {e}{ev}{x}(h:EvS e x.A (ev x.A))(hB:EvS e x.B (ev x.B))(b:x.Op=24->EvS e x.C (ev x.C)):Ai prog 131 [] [.tp (Af e),.agg (AL x)] [] (vII (JR ev x)):=by
 refine Ay func131 (AhB _ _ e x rfl rfl) ⟨ev x.A,h,λh=>A7 (ct (by simpa using h) rfl),λh=>?_⟩;have h0:decide ((ev x.A).2≠0)=false:=by simpa using h
 have c:JR ev x=bif decide (x.Op=24)then(bif decide ((ev x.A).1≠0)then ev x.B else ev x.C)
   else bif(decide (x.Op=22)&&decide ((ev x.A).1=0))||(decide (x.Op=23)&&decide ((ev x.A).1≠0))then C9 (decide ((ev x.A).1≠0))
   else bif decide ((ev x.B).2≠0)then(0,(ev x.B).2)else C9 (decide ((ev x.B).1≠0)):=by unfold JR;rw[h0]<;>rfl
 rw[c];generalize(ev x.A).1=n;refine⟨λh1=>⟨_,MQ hB,?_⟩,λh1=>⟨λh2=>⟨_,MQ (b (by simpa using h2)),?_⟩,λh2=>⟨λh3=>⟨_,DL,?_⟩,λh3=>⟨_,MQ hB,λh4=>?_,λh4=>⟨_,DL,?_⟩⟩⟩⟩⟩
 .simp only[A8,ieq,AU,Arr]at h1;exact A7 (ct h1.1 (ct h1.2 rfl))
 .have a:decide (x.Op=24)=true:=by simpa using h2
  simp only[A8,ieq,AU,a,Ar7]at h1;exact A7 (ct a (cf h1 rfl))
 .have a:decide (x.Op=24)=false:=by simpa using h2
  simp only[A8,Bj,ieq,AU]at h3;rw[AU];exact A7 (cf a (ct h3 rfl))
 .have a:decide (x.Op=24)=false:=by simpa using h2
  simp only[A8,Bj,ieq,AU]at h3;exact A7 gD
 .have a:decide (x.Op=24)=false:=by simpa using h2
  simp only[A8,Bj,ieq,AU]at h3;rw[AU];exact A7 gD
def Ahq {op a}:Ai prog 184 [] [Aa op,Aa a] [] (vII (MM op a,VZ op)):=by
 refine Ai.hand ⟨_,func184,rfl,kR⟩ λw E vs d f _ _ hs=>?_
 obtain⟨g,us1,rfl,b,hs⟩:=hs.cons_inv;obtain⟨h,us2,rfl,c,hs⟩:=hs.cons_inv;obtain rfl:=hs.nil_inv;rw[b.sc_inv,c.sc_inv];refine(Arg op a w).mono ?_;rintro e w' ⟨rfl,rfl⟩;exact⟨_,rfl,Ajb .sc .sc,Below.refl _ _⟩
def Afl {op a b}:Ai prog 185 [] [Aa op,Aa a,Aa b] [] (vII (Em op a b,Gm op b)):=by
 refine Ai.hand ⟨_,func185,rfl,kR⟩ λw E vs g h _ _ hs=>?_
 obtain⟨i,us1,rfl,c,hs⟩:=hs.cons_inv;obtain⟨j,us2,rfl,d,hs⟩:=hs.cons_inv;obtain⟨k,us3,rfl,f,hs⟩:=hs.cons_inv;obtain rfl:=hs.nil_inv;rw[c.sc_inv,d.sc_inv,f.sc_inv];refine(Arf op a b w).mono ?_;rintro e w' ⟨rfl,rfl⟩;exact⟨_,rfl,Ajb .sc .sc,Below.refl _ _⟩
def TZ {e}{ev}{x}(h:EvS e x.A (ev x.A))(hB:¬(x.Op=3\/x.Op=4\/x.Op=5)->EvS e x.B (ev x.B)):Ai prog 137 [] [.tp (Af e),.agg (AL x)] [] (vII (RH ev x)):=by
 refine Ay func137 (Ajk _ _ e x) ⟨ev x.A,h,λh=>A7 (ct (by simpa using h) rfl),λh=>?_⟩;have h0:decide ((ev x.A).2≠0)=false:=by simpa using h
 have a:RH ev x=bif decide (x.Op=3)||(decide (x.Op=4)||decide (x.Op=5))then(MM x.Op (ev x.A).1,VZ x.Op)
   else bif decide ((ev x.B).2≠0)then(0,(ev x.B).2)else(Em x.Op (ev x.A).1 (ev x.B).1,Gm x.Op (ev x.B).1):=by unfold RH;rw[h0]<;>rfl
 rw[a];generalize(ev x.A).1=n;refine⟨λh1=>⟨_,Ahq,A7 (ct ?_ rfl)⟩,λh1=>⟨ev x.B,hB ?_,λh2=>A7 (cf ?_ (ct (by simpa using h2) rfl)),λh2=>⟨_,Afl,A7 (cf ?_ (cf (by simpa using h2) rfl))⟩⟩⟩
 .grind
 .simp at h1;omega
 .grind
 grind
def Ahu {x l mt}(n:Len mt.length):Ai prog 214 [] [Ac true x,Ac false l,Ac true mt] [] (Ad (Ec x l mt)):=by
 unfold Len at n;refine Ay func214 (Ak5 _ x l mt) ⟨λh=>AB ?_,λh=>?_⟩
 .symm;unfold Ec;rw[Bj]at h;rw[Asp];intro o;simp only[Arr,Ary]at o;simp at h;omega
 .have g:mt.length<=x.length/\mt.length<=l.length:=by simp at h;omega
  have p:Ec x l mt=CL mt.length λi=>!(decide (mt.getD i 0=1)&&decide (x.getD i 0≠l.getD i 0)):=by
   unfold Ec;rw[ArR g.1,ArR g.2]<;>rfl
  rw[p];refine AA mt.length (λk=>Vv x l mt k) (λk=>∀i,i<k->(!(decide (mt.getD i 0=1)&&decide (x.getD i 0≠l.getD i 0)))=true) (λi hi=>oM) ?_;intro k hk j J next
  refine ArC (Ahv _ x l mt k J) ⟨λc=>?_,λd=>AB ?_⟩
  .have a:k<mt.length:=by have:=AQ c;omega
   have e:(k:Int).toNat=k:=oM
   rw[e];refine⟨oM,λ_=>oM,λ_=>oM,λb=>AB ?_,λb=>next _ a (BV j ?_) (Up.of ?_)⟩
   .simp only[A8,ieq,AU]at b;exact(BW (f:=λi=>!(decide (mt.getD i 0=1)&&decide (x.getD i 0≠l.getD i 0))) a (by rw[b]<;>rfl)).symm
   .simp only[A8,ieq,AU]at b;rw[b]<;>rfl
   .rw[Aj oM]<;>rfl
  .have m:mt.length<=k:=by have:=AP d;omega
   exact(A0.2 λi hi=>j i oM).symm
def SM {l mt}{any}{k}{x}{q}:Ol l mt any k (x::q)=bif Ec x l mt then(k:Int)else bif any then Ol l mt any (k+1) q else -1:=rfl
def UP {c}{l mt}{any}(m:Len c.Queue.length)(n:Len mt.length):Ai prog 182 [] [.agg (Am c),Ac false l,Ac true mt,Ad any] [] (Aa (F7 c l mt any)):=by
 unfold Len at m;refine Ay func182 (AlD _ c l mt any) ?_;unfold F7;refine AA c.Queue.length (λk=>Vw c l mt any k) (λk=>Ol l mt any 0 c.Queue=Ol l mt any k (c.Queue.drop k)) rfl ?_;intro k hk b J next
 refine ArC (Ah2 _ c l mt any k J) ⟨λg=>?_,λh=>BY ?_⟩
 .have a:k<c.Queue.length:=by have:=AQ g;omega
  have i:(k:Int).toNat=k:=oM
  rw[i];rw[Br (d:=[]) a,SM]at b;refine⟨oM,_,Ahu n,λf=>BY ?_,λf=>⟨λj=>BY ?_,λj=>next _ a ?_ (Up.of ?_)⟩⟩
  .rw[b,f,Art]
  .rw[b,f,Arq,show any=false by simpa using j,Arq]
  .rw[b,f,Arq,show any=true by simpa using j,Art]
  .rw[Aj oM]<;>rfl
 .have e:c.Queue.length<=k:=by have:=AP h;omega
  rw[b,ArU e]<;>rfl
def Je {f}:∀{n},(∀i,i<n->f i=0)->AcQ n f=0
 | 0,_=>rfl
 | n+1,h=>by
  unfold AcQ;rw[Je λi hi=>h i oM,h n oM]<;>rfl
theorem On {f}{k}(h:∀i,i<k->f i=0)(b:f k≠0):∀{n},k<n->AcQ n f=f k
 | 0,hk=>oM
 | n+1,hk=>by
  unfold AcQ
  by_cases a:k=n
  .subst a;rw[Je h]<;>rfl
  .rw[On h b (n:=n) oM,ArR b,Art]
def Cx (ev:Evl)(args mt:List Int)(k:Nat):List Int:=(List.range args.length).map λi=>if i<k then(Dr ev (args.getD i 0) (mt.getD i 0)).1 else 0
theorem C2 {ev}{args mt}{k}:(Cx ev args mt k).length=args.length:=by simp[Cx]
def Gl {ev}{args mt}{k i}(hi:i<args.length):(Cx ev args mt k).getD i 0=if i<k then(Dr ev (args.getD i 0) (mt.getD i 0)).1 else 0:=by
 simp[Cx,List.getD,hi]
def Rq {ev}{args mt}:Cx ev args mt args.length=C8 ev args mt:=by
 unfold Cx C8;apply As2;intro i hi;rw[ArY (Ass.1 hi)]
def Ahd {e}{ev}{x}(t:BJ e)(h:EvS e x.A (ev x.A))(I:∀a∈x.Args,EvS e a (ev a))(O:x.Args.length<=8)(P:x.Match.length=x.Args.length):Ai prog 133 [] [.tp (Af e),.agg (AL x)] [] (vII (Mk e ev x)):=by
 refine Ay func133 (AkV _ _ e x) ⟨CW e ev x.A,Mr h,λh=>A7 (ct (by simpa using h) rfl),λh=>?_⟩;have h0:decide ((CW e ev x.A).2≠0)=false:=by simpa using h
 have p:Mk e ev x=bif decide ((B8 e.M (BS e (CW e ev x.A).1).Shape).Fields.length≠x.Args.length)then(0,49)
   else bif decide (Dn ev x.Args x.Match x.Args.length≠0)then(0,Dn ev x.Args x.Match x.Args.length)
   else C9 (decide (0<=F7 (BS e (CW e ev x.A).1) (C8 ev x.Args x.Match) x.Match (decide (x.N=1)))):=by unfold Mk;rw[h0]<;>rfl
 rw[p];have J:=Q9 t (ArP h0);generalize(CW e ev x.A).1=n at J;rw[AT oM oM];have r:=Av (d:=default) (show(n-1).toNat<e.S.Chans.length by omega);have H:=t.chan r;have hs:=(EW H).1;have u:=(t.fit.q _ r).1;refine⟨oM,hs,λh1=>A7 (ct ?_ rfl),λh1=>⟨oM,?_⟩⟩
 .rw[AU]at h1;have:=ArD h1;rw[Ary];intro v;apply this;have w:(e.M.Shapes.getD (e.S.Chans.getD (n-1).toNat default).Shape.toNat default).Fields.length=x.Args.length:=v;rw[w]
 have y:decide ((B8 e.M (BS e n).Shape).Fields.length≠x.Args.length)=false:=by
  rw[AU]at h1;have:=ArP h1;rw[ArV];intro v;apply this;intro h2;apply v;exact Int.ofNat.inj h2
 rw[y,Arq];have g:e.S.Chans.getD (n-1).toNat default=BS e n:=rfl;clear p h1 hs H;generalize BS e n=c at g;have K:c.Queue.length<=16:=by rw[<- g];exact u
 refine Az (λgg st=>∃k:Nat,k<=x.Args.length/\gg=x.Args.length-k/\(∀i,i<k->(Dr ev (x.Args.getD i 0) (x.Match.getD i 0)).2=0)/\st=Aat e x c (Cx ev x.Args x.Match k) k)
  ⟨x.Args.length,Up.mk (l':=[(0,.tp (Af e)),(3,.bp 0 0),(8,.bp 1 0),(9,.ow 2 0 (Cx ev x.Args x.Match 0).length),(51,Ac true x.Args),(52,Aa x.Args.length),(53,Aa ((0:Nat):Int))])
   (hs':=[.box (AL x),.box (Am c),.arr true 0 (Cx ev x.Args x.Match 0).length 1 (AD (Cx ev x.Args x.Match 0))]) ?_ ?_ ⟨0,Arv _,rfl,λi hi=>oM,rfl⟩⟩ ?_
 .rw[C2];exact AH _
 .rw[C2];refine⟨Ob.le_refl _,by rw[<- g];exact Ob.le_refl _,ArT λi hi=>AO ?_,trivial⟩;have o:AD (Cx ev x.Args x.Match 0) i=[Aa 0]:=by
   unfold AD;rw[Gl oM,ArG (Asm _)]
  refine Eq.trans ?_ o.symm;rfl
 .rintro gg st ⟨k,hk,rfl,s,rfl⟩;refine ArC (Ahe _ _ e x c _ k _) ⟨λz=>?_,λB=>?_⟩
  .have j:k<x.Args.length:=by have:=AQ z;omega
   have C:(k:Int).toNat=k:=oM
   rw[C];refine⟨oM,oM,λl=>?_,λl=>⟨ev (x.Args.getD k 0),I _ (Av j),by rw[C2];omega,λo=>A7 ?_,λo=>?_⟩⟩
   .rw[AU]at l;have h1:=ArD l;have hv:Dr ev (x.Args.getD k 0) (x.Match.getD k 0)=(0,0):=by unfold Dr;rw[ArK h1]<;>rfl
    have L:Cx ev x.Args x.Match k=Cx ev x.Args x.Match (k+1):=by
     unfold Cx;apply As2;intro i _
     by_cases E:i=k
     .subst E;rw[ArG (Atu _),ArY (Asq _),hv]
     .by_cases b:i<k
      .rw[ArY b,ArY oM]
      .rw[ArG b,ArG oM]
    rw[L,Aj oM];exact⟨x.Args.length-(k+1),oM,Up.of ⟨k+1,oM,rfl,BV s (by rw[hv]),rfl⟩⟩
   .have m:decide (x.Match.getD k 0=1)=true:=by rw[AU]at l;simpa using l
    have hv:Dr ev (x.Args.getD k 0) (x.Match.getD k 0)=ev (x.Args.getD k 0):=by unfold Dr;rw[m]<;>rfl
    have F:(Dr ev (x.Args.getD k 0) (x.Match.getD k 0)).2≠0:=by rw[hv];simpa using o
    have G:Dn ev x.Args x.Match x.Args.length=(ev (x.Args.getD k 0)).2:=by
     unfold Dn;rw[On (f:=λi=>(Dr ev (x.Args.getD i 0) (x.Match.getD i 0)).2) s F j,hv]
    rw[G];exact ct (by simpa using o) rfl
   .have m:decide (x.Match.getD k 0=1)=true:=by rw[AU]at l;simpa using l
    have hv:Dr ev (x.Args.getD k 0) (x.Match.getD k 0)=ev (x.Args.getD k 0):=by unfold Dr;rw[m]<;>rfl
    have h2:(ev (x.Args.getD k 0)).2=0:=by simpa using o
    rw[Aj oM];refine⟨x.Args.length-(k+1),oM,Up.mk (l':=[(0,.tp (Af e)),(3,.bp 0 0),(8,.bp 1 0),(9,.ow 2 0 (Cx ev x.Args x.Match (k+1)).length),(51,Ac true x.Args),(52,Aa x.Args.length),(53,Aa ((k+1:Nat):Int))])
     (hs':=[.box (AL x),.box (Am c),.arr true 0 (Cx ev x.Args x.Match (k+1)).length 1 (AD (Cx ev x.Args x.Match (k+1)))]) ?_ ?_ ⟨k+1,oM,rfl,BV s (by rw[hv];exact h2),rfl⟩⟩
    .rw[C2,C2];exact AH _
    .rw[C2,C2];refine⟨Ob.le_refl _,Ob.le_refl _,ArT λi hi=>AO ?_,trivial⟩;show(bif i.beq k then[Aa (ev (x.Args.getD k 0)).1]else[Aa ((Cx ev x.Args x.Match k).getD i 0)])=[Aa ((Cx ev x.Args x.Match (k+1)).getD i 0)];rw[Gl hi,Gl hi];cases p:i.beq k with
     | true =>
      have:=Aru p;subst this;rw[Art,ArY (Asq _),hv]
     | false =>
      have:i≠k:=Nat.ne_of_beq_eq_false p;rw[Arq]
      by_cases b:i<k
      .rw[ArY b,ArY oM]
      .rw[ArG b,ArG oM]
  .obtain rfl:k=x.Args.length:=by have:=AP B;omega
   have G:Dn ev x.Args x.Match x.Args.length=0:=Je s;rw[G,Rq];refine⟨_,UP (by unfold Len;omega) (by unfold Len;omega),_,DL,A7 (cf rfl ?_)⟩;rw[ieq]
def Y6 {e}{ev}{v}(a:BJ e)(hv:Ju v)(b:¬(v.Scope=0\/v.Scope=1)->EvS e v.Who (ev v.Who)):Ai prog 179 [] [.tp (Af e),.agg (BP v)] [] (vII (Dl e ev v)):=by
 have hp:=a.pid;refine Ay func179 (AcB _ _ e v rfl rfl) ⟨λh=>⟨_,HW hv,λh1=>A7 ?_,λh1=>A7 ?_⟩,λh=>⟨λh1=>⟨_,λ_=>HW hv,λh2=>?_,λh2=>A7 ?_,λh2=>A7 ?_⟩,λh1=>⟨_,b ?_,λh2=>A7 ?_,λh2=>⟨λh3=>?_,λh3=>A7 ?_,λh3=>⟨_,HW hv,?_,λh4=>A7 ?_,λh4=>A7 ?_⟩⟩⟩⟩⟩
 .exact ct (by simpa using h) (ct h1 rfl)
 .exact ct (by simpa using h) (cf h1 rfl)
 .simp at h2;omega
 .exact cf (by simpa using h) (ct (by simpa using h1) (ct (by rw[Bj]at h2;exact h2) rfl))
 .exact cf (by simpa using h) (ct (by simpa using h1) (cf (by rw[Bj]at h2;exact h2) rfl))
 .simp at h h1;omega
 .exact cf (by simpa using h) (cf (by simpa using h1) (ct (by simpa using h2) rfl))
 .simp at h3;omega
 .refine cf (by simpa using h) (cf (by simpa using h1) (cf (by simpa using h2) (ct ?_ rfl)));simp only[Bj,AU,AsN,AsP]at h3;exact h3
 .simp at h3;omega
 .refine cf (by simpa using h) (cf (by simpa using h1) (cf (by simpa using h2) (cf ?_ (ct h4 rfl))));simp only[Bj,AU,AsN,AsP]at h3;exact h3
 .refine cf (by simpa using h) (cf (by simpa using h1) (cf (by simpa using h2) (cf ?_ (cf h4 rfl))));simp only[Bj,AU,AsN,AsP]at h3;exact h3
def M0 {ev}{n}{d}{l}:D3 ev n (d::l)=bif decide ((ev d.I).2≠0)then(0,(ev d.I).2)else bif decide ((ev d.I).1<0)||decide (d.Len<=(ev d.I).1)then(0,47)else D3 ev (n+(ev d.I).1*d.Stride) l:=rfl
structure AeC (d:D.Dim):Prop where
 l1:1<=d.Len
 l2:d.Len<=128
 s1:0<=d.Stride
 s2:d.Stride<=128
def Ack {i s n:Int}(h0:0<=i)(h1:i<n)(h2:n<=128)(d:0<=s)(s1:s<=128):0<=i*s/\i*s<=(n-1)*s/\(n-1)*s<=16384:=by
 have a:=Int.mul_nonneg h0 d;have b:=Int.mul_le_mul_of_nonneg_right (show i<=n-1 by omega) d;have c:=Int.mul_le_mul (show n-1<=128 by omega) s1 d oM;omega
def AfG {e}{ev}{x:Int}(w:BJ e)(u:0<=x/\x<e.M.Exprs.length)(hv:Ju (As e.M x).V)(o:(As e.M x).Op=2->¬((As e.M x).V.Scope=0\/(As e.M x).V.Scope=1)->EvS e (As e.M x).V.Who (ev (As e.M x).V.Who))
  (hs:(As e.M x).Op=2->0<=(As e.M x).V.Slot/\(As e.M x).V.Slot<=128/\(As e.M x).V.Dims.length<=4) (hd:(As e.M x).Op=2->∀d∈(As e.M x).V.Dims,AeC d/\EvS e d.I (ev d.I)):Ai prog 130 [] [.tp (Af e),Aa x] [] (Kt (B9 e ev (As e.M x))):=by
 refine Ay func130 (AjL _ _ _ e x rfl rfl) ⟨u,u,λh=>Gi (ct (by simpa[As]using h) rfl),λh=>?_⟩;have h0:(As e.M x).Op=2:=by simpa[As]using h
 change ∃y:Int×Int,Ai prog 179 [] [.tp (Af e),.agg (BP (As e.M x).V)] [] (vII y)/\_
 replace o:=o h0
 replace hs:=hs h0
 replace hd:=hd h0
 have v:B9 e ev (As e.M x)=bif decide ((Dl e ev (As e.M x).V).2≠0)then(0,0,(Dl e ev (As e.M x).V).2)
   else bif decide ((D3 ev (As e.M x).V.Slot (As e.M x).V.Dims).2≠0)then(0,0,(D3 ev (As e.M x).V.Slot (As e.M x).V.Dims).2)else((Dl e ev (As e.M x).V).1,(D3 ev (As e.M x).V.Slot (As e.M x).V.Dims).1,0):=by
  unfold B9;rw[ArK (by rw[h0];simp)];rfl
 rw[v];refine⟨_,Y6 w hv o,λh1=>Gi (ct (by simpa using h1) rfl),λh1=>?_⟩;have j:decide ((Dl e ev (As e.M x).V).2≠0)=false:=by simpa using h1
 rw[j,Arq];generalize(Dl e ev (As e.M x).V).1=who;have l:=hs.1;have f:=hs.2;change Au _ [1,1,1,1,1,1,0,1,0] (RQ e (As e.M x).V.Dims who (As e.M x).V.Slot 0);clear v o hv h h1 j hs;generalize(As e.M x).V.Dims=ds at hd f |-;generalize(As e.M x).V.Slot=sl at l f |-;generalize z:D3 ev sl ds=R;refine Az (λgg st=>∃(k:Nat)(n:Int),k<=ds.length/\gg=ds.length-k/\0<=n/\n<=128+16384*k/\D3 ev n (ds.drop k)=R/\st=RQ e ds who n k)
  ⟨ds.length,Up.of ⟨0,sl,Arv _,rfl,l,oM,z,rfl⟩⟩ ?_
 rintro gg st ⟨k,n,hk,rfl,A,B,b,rfl⟩;refine ArC (AfH _ _ _ e x ds who n k _ rfl rfl) ⟨λq=>?_,λr=>?_⟩
 .have g:k<ds.length:=by have:=AQ q;omega
  have t:(k:Int).toNat=k:=oM
  rw[t];obtain⟨p,m⟩:=hd _ (Av (d:=default) g);rw[Br (d:=default) g,M0]at b;generalize ds.getD k default=d at p m b |-;refine⟨oM,_,m,λh2=>Gi ?_,λh2=>⟨λh3=>Gi ?_,λh3=>?_⟩⟩
  .have a:decide ((ev d.I).2≠0)=true:=by simpa using h2
   rw[a,Art]at b;subst b;exact ct a rfl
  .have a:decide ((ev d.I).2≠0)=false:=by simpa using h2
   rw[Bj]at h3;rw[a,Arq]at b;have c:(decide ((ev d.I).1<0)||decide (d.Len<=(ev d.I).1))=true:=h3;rw[c,Art]at b;subst b;exact ct rfl rfl
  .have a:decide ((ev d.I).2≠0)=false:=by simpa using h2
   rw[Bj]at h3;have c:(decide ((ev d.I).1<0)||decide (d.Len<=(ev d.I).1))=false:=h3;rw[a,Arq,c,Arq]at b;simp only[ArJ,ArV]at c;have E:=Ack (i:=(ev d.I).1) (s:=d.Stride) (n:=d.Len) oM oM p.l2 p.s1 p.s2;have C:k<4:=oM
   rw[AT (n:=(ev d.I).1*d.Stride) oM oM,AT oM oM,Aj oM];exact⟨ds.length-(k+1),oM,Up.of ⟨k+1,n+(ev d.I).1*d.Stride,oM,rfl,oM,oM,b,rfl⟩⟩
 .obtain rfl:k=ds.length:=by have:=AP r;omega
  rw[As6]at b;subst b;exact Gi (cf rfl rfl)
def TA {e}(j:BJ e):Ai prog 135 [] [.tp (Af e)] [] (Ad (Gv e)):=by
 have n:=j.fit.p;refine Ay func135 (VP _ e) ?_;refine AA e.S.Procs.length (λk=>Vu e k) (λk=>∀i,i<k->(!((FE e.M (e.S.Procs.getD i default).Type_).getD (e.S.Procs.getD i default).Loc.toNat default).Progress)=true) (λi hi=>oM) ?_;intro k hk o J next
 refine ArC (TB _ e k J rfl) ⟨λb=>?_,λc=>AB ?_⟩
 .have a:k<e.S.Procs.length:=by have:=AQ b;omega
  have g:(k:Int).toNat=k:=oM
  rw[g];have l:=DN (j.proc (Av (d:=default) a));refine⟨oM,l.1,l.2.1,λh=>AB ?_,λh=>next _ a (BV o ?_) (Up.of ?_)⟩
  .unfold Gv;rw[BW (f:=λi=>!((FE e.M (e.S.Procs.getD i default).Type_).getD (e.S.Procs.getD i default).Loc.toNat default).Progress) a (by show(!_)=false;unfold FE;rw[h]<;>rfl)];rfl
  .show(!_)=true;unfold FE;rw[h]<;>rfl
  grind[Aj]
 .have m:e.S.Procs.length<=k:=by have:=AP c;omega
  unfold Gv;grind[A0]
structure TI (m:D.Model) (k:Int) (x:D.Expr):Prop where
 op:1<=x.Op/\x.Op<=39
 a:1<=Ba x.Op->0<=x.A/\x.A<k
 b:2<=Ba x.Op->0<=x.B/\x.B<k
 c:3<=Ba x.Op->0<=x.C/\x.C<k
 num:x.Op=1->C1 ⟨32,true⟩ x.N=true
 var:x.Op=2->DI m k x.V=true
 poll:x.Op=30->Cl m k x.Args x.Match=true
def VR {k op p}{i}(h:E9 k op i p)(hi:i<Ba op):0<=p/\p<k:=by
 unfold E9 at h;simp_all[ArR,CB]
def Zi {m}{k}(h:EC m k):TI m k (As m k):=by
 unfold EC at h;simp only[Arr,Ary]at h;obtain⟨⟨h1,⟨b,hB⟩,c⟩,h3⟩:=h;refine⟨h1,λhi=>VR b oM,λhi=>VR hB oM,λhi=>VR c oM,λa=>?_,λa=>?_,λa=>?_⟩
 .grind
 .grind
 grind
def Uy {k}{l}(h:CI k l):∀a∈l,0<=a/\a<k:=λa b =>
 CB.1 ((CR (d:=0) (f:=λa=>inP k a)).1 h a b)
structure AeA (m:D.Model) (k:Int) (v:D.Var):Prop where
 scope:0<=v.Scope/\v.Scope<=2
 slot:0<=v.Slot/\v.Slot<=128
 dims:v.Dims.length<=4
 who:v.Scope=2->0<=v.Who/\v.Who<k
 dim:∀d∈v.Dims,AeC d/\0<=d.I/\d.I<k
def Jv {m}{k}{v}(h:DI m k v):AeA m k v:=by
 unfold DI at h;simp only[Arr,Ary]at h;obtain⟨⟨⟨⟨⟨⟨h1,h2⟩,h3⟩,h4⟩,h5⟩,h6⟩,h7⟩:=h;refine⟨⟨h1,h2⟩,⟨h3,h4⟩,h5,λhs=>?_,λd hd=>?_⟩
 .simp_all[ArR,CB]
 .have:=(CR (d:=default) (f:=λd=>Oo k d)).1 h7 d hd;unfold Oo at this;simp only[Arr,Ary]at this;obtain⟨⟨⟨⟨a,b⟩,c⟩,e⟩,g⟩:=this;have:=CB.1 a;exact⟨⟨b,c,e,g⟩,this⟩
def Aeu {ev}:∀{l}{n r k},(∀d∈l,AeC d)->0<=n->n<r->(D3 ev n l).2=0->(D3 ev n l).1=k->0<=k/\k<Ea r l
 | [],n,r,k,_,h0,h1,_,hk=>by subst hk;exact⟨h0,h1⟩
 | d::l,n,r,k,hd,h0,h1,h2,hk=>by
  have a:=hd d (Arw ..);rw[M0]at h2 hk;cases c:decide ((ev d.I).2≠0)with
  | true=>grind
  | false =>
   rw[c,Arq]at h2 hk;cases b:(decide ((ev d.I).1<0)||decide (d.Len<=(ev d.I).1))with
   | true=>grind
   | false =>
    rw[b,Arq]at h2 hk;simp only[ArJ,ArV]at b;have e:=Ack (i:=(ev d.I).1) (s:=d.Stride) (n:=d.Len) oM oM a.l2 a.s1 a.s2;have:=Aeu (r:=r+(d.Len-1)*d.Stride) gD oM oM h2 hk;have f:H6 d=false:=by
     have:=a.l1;have:=a.l2;have:=a.s1;have:=a.s2;unfold H6;simp;omega
    show 0<=k/\k<Ea r (d::l);unfold Ea;grind
structure Tr (e:D.Env) (who k:Int):Prop where
 glob:who<0->0<=k/\k<e.S.Globals.length
 own:0<=who->who<e.S.Procs.length/\0<=k/\k<(DB e who).Frame.length
def Agw {m}{k}{v}(h:AeA m k v):DT v=Ea (v.Slot+1) v.Dims:=by
 have h1:=h.slot;have h2:=h.dims;unfold DT;grind
def QR {e}{ev}{x}{k}(m:BJ e)(hv:x.Op=2->AeA e.M k x.V)(h:(B9 e ev x).2.2=0):Tr e (B9 e ev x).1 (B9 e ev x).2.1:=by
 have b:=m.pid;unfold B9 at h |-;cases i:decide (x.Op≠2)with
 | true=>grind
 | false =>
  rw[i,Arq]at h;rw[Arq];have hv:=hv (by simpa using i);have o:=Agw hv;cases a:decide ((Dl e ev x.V).2≠0)with
  | true=>grind
  | false =>
   rw[a,Arq]at h;rw[Arq];cases p:decide ((D3 ev x.V.Slot x.V.Dims).2≠0)with
   | true=>grind
   | false =>
    rw[Arq];have hd:=Aeu (ev:=ev) (l:=x.V.Dims) (n:=x.V.Slot) (r:=x.V.Slot+1) (λd hd=>(hv.dim d hd).1) hv.slot.1 oM (by simpa using p) rfl;rw[<- o]at hd;show Tr e (Dl e ev x.V).1 (D3 ev x.V.Slot x.V.Dims).1;generalize(D3 ev x.V.Slot x.V.Dims).1=n at hd;unfold Dl at a |-;cases j:decide (x.V.Scope=0)with
    | true =>
     rw[j,Art]at a;rw[Art];cases c:decide ((e.S.Globals.length:Int)<DT x.V)with
     | true=>grind
     | false =>
      have:=ArP c;exact⟨λ_=>⟨hd.1,oM⟩,λh=>by simp at h⟩
    | false =>
     rw[j,Arq]at a;rw[Arq];cases c:decide (x.V.Scope=1)with
     | true =>
      rw[c,Art]at a;rw[Art];cases f:(decide (e.Pid<0)||decide (((DB e e.Pid).Frame.length:Int)<DT x.V))with
      | true=>grind
      | false =>
       simp only[ArJ,ArV]at f;exact(show Tr e e.Pid n from⟨λh=>absurd h f.1,λ_=>⟨b.2,hd.1,oM⟩⟩)
     | false =>
      rw[c,Arq]at a;rw[Arq];cases f:decide ((ev x.V.Who).2≠0)with
      | true=>grind
      | false =>
       rw[f,Arq]at a;rw[Arq];cases g:(decide ((ev x.V.Who).1<0)||(decide ((e.S.Procs.length:Int)<=(ev x.V.Who).1)||decide ((DB e (ev x.V.Who).1).Type_≠x.V.Type_)))with
       | true=>grind
       | false =>
        rw[g,Arq]at a;rw[Arq];simp only[ArJ,ArV]at g;cases q:decide (((DB e (ev x.V.Who).1).Frame.length:Int)<DT x.V)with
        | true=>grind
        | false =>
         have:=ArP q;exact(show Tr e (ev x.V.Who).1 n from⟨λh=>absurd h g.1,λ_=>⟨oM,hd.1,oM⟩⟩)
def Iw {m}{k}{a t}(h:Cl m k a t):a.length<=8/\t.length=a.length/\∀x∈a,0<=x/\x<k:=by
 unfold Cl at h;simp only[Arr,Ary]at h;exact⟨h.1.1.1.2,h.1.1.2,Uy h.1.2⟩
def Wm {m}{x}(a:0<=x/\x<m.Exprs.length):As m x∈m.Exprs:=Av (d:=default) oM
def ZE {e}{x:Int}(a:BJ e)(b:0<=x/\x<e.M.Exprs.length):Len (As e.M x).Args.length:=by
 have:=(a.wf.Exprs.2 _ (Wm b)).Args.1;unfold Len;omega
def AdN {e}{ev}{x:Int}(g:BJ e)(h:0<=x/\x<e.M.Exprs.length)(b:TI e.M x (As e.M x))(c:∀a,0<=a->a<x->EvS e a (ev a)):Ai prog 130 [] [.tp (Af e),Aa x] [] (Kt (B9 e ev (As e.M x))):=by
 refine AfG g h (g.wf.Exprs.2 _ (Wm h)).V (λf hs=>?_) (λf=>?_) (λf d hd=>?_)
 .have hv:=Jv (b.var f);have h1:=hv.scope;exact c _ (hv.who oM).1 (hv.who oM).2
 .have hv:=Jv (b.var f);exact⟨hv.slot.1,hv.slot.2,hv.dims⟩
 .have hv:=Jv (b.var f);exact⟨(hv.dim d hd).1,c _ (hv.dim d hd).2.1 (hv.dim d hd).2.2⟩
def Agv {e}{ev}{x}(g:BJ e)(c:(e.M.Exprs.getD x.toNat default).Op=2)(d:TI e.M x (As e.M x))(f:Ai prog 130 [] [.tp (Af e),Aa x] [] (Kt (B9 e ev (As e.M x)))) :
  ∃y:Int×Int×Int,Ai prog 130 [] [.tp (Af e),Aa x] [] (Kt y)/\((y.2.2 != 0)->leO [] []/\VV.le (.tup [.sc (.int .i64 0),.sc (.int .i64 y.2.2)]) (vII (Cu e ev (As e.M x))))/\((y.2.2 != 0)=false ->
   (decide (y.1<0)->(0<=y.2.1/\y.2.1<(e.S.Globals.length))/\leO [] []/\VV.le (.tup [.sc (.int .i64 (e.S.Globals.getD y.2.1.toNat 0)),.sc (.int .i64 0)]) (vII (Cu e ev (As e.M x)))) /\
   (decide (y.1<0)=false->(0<=y.1/\y.1<(e.S.Procs.length))/\(0<=y.2.1/\y.2.1<((e.S.Procs.getD y.1.toNat default).Frame.length))/\leO [] []/\VV.le (.tup [.sc (.int .i64 ((e.S.Procs.getD y.1.toNat default).Frame.getD y.2.1.toNat 0)),.sc (.int .i64 0)]) (vII (Cu e ev (As e.M x))))):=by
 have a:(As e.M x).Op=2:=c;have i:Cu e ev (As e.M x)=X5 e ev (As e.M x):=by unfold Cu;rw[a]<;>rfl
 rw[i];have b:=QR (e:=e) (ev:=ev) g (λj=>Jv (d.var j));refine⟨B9 e ev (As e.M x),f,λh=>A7 (ct (by simpa using h) rfl),λh=>⟨λh1=>?_,λh1=>?_⟩⟩
 .have h0:decide ((B9 e ev (As e.M x)).2.2≠0)=false:=by simpa using h
  exact⟨(b (by simpa using h0)).glob (ArD h1),A7 (cf h0 (ct h1 rfl))⟩
 .have h0:decide ((B9 e ev (As e.M x)).2.2≠0)=false:=by simpa using h
  have hi:=b (by simpa using h0);have:=ArP h1;exact⟨⟨oM,(hi.own oM).1⟩,(hi.own oM).2,A7 (cf h0 (cf h1 rfl))⟩
def AiG {e}{ev}{x}(b:(e.M.Exprs.getD x.toNat default).Op=36)(h:EvS e (As e.M x).A (ev (As e.M x).A)) :
  ∃y:Int×Int,Ai prog 86 [] [.tp (Af e),Aa (As e.M x).A] [] (vII y)/\((y.2 != 0)->leO [] []/\VV.le (.tup [.sc (.int .i64 0),.sc (.int .i64 y.2)]) (vII (Cu e ev (As e.M x))))/\((y.2 != 0)=false ->
   ((true&&(bif decide (y.1>=0)then decide (y.1<(e.Able.length))else false)==true)->0<=y.1/\y.1<(e.Able.length)) /\
   ∃c:Int×Int,Ai prog 134 [] [Ad (bif bif decide (y.1>=0)then decide (y.1<(e.Able.length))else false then e.Able.getD y.1.toNat false else false)] [] (vII c)/\leO [] []/\VV.le (vII c) (vII (Cu e ev (As e.M x)))):=by
 have a:(As e.M x).Op=36:=b;have d:Cu e ev (As e.M x)=Qh e ev (As e.M x):=by unfold Cu;rw[a]<;>rfl
 rw[d];refine⟨_,h,λh1=>A7 (ct (by simpa using h1) rfl),λh1=>⟨λh2=>?_,_,DL,A7 (cf (by simpa using h1) ?_)⟩⟩
 .simp at h2;omega
 grind
def YN {o:Int}(h:1<=o/\o<=39):o=1\/o=2\/o=3\/o=4\/o=5\/o=6\/o=7\/o=8\/o=9\/o=10\/o=11\/o=12\/o=13\/o=14\/o=15\/o=16\/o=17\/o=18\/o=19\/o=20\/o=21\/o=22\/o=23\/o=24\/o=25\/o=26\/o=27\/o=28\/o=29\/o=30\/o=31\/o=32\/o=33\/o=34\/o=35\/o=36\/o=37\/o=38\/o=39:=oM
set_option maxHeartbeats 4000000 in
def US {e}{ev}{x:Int}(j:BJ e)(l:0<=x/\x<e.M.Exprs.length)(g:∀a,0<=a->a<x->EvS e a (ev a)):EvS e x (Cu e ev (As e.M x)):=by
 have m:((x.toNat:Nat):Int)=x:=oM
 have f:TI e.M x (As e.M x):=Zi (by have:=j.expr x.toNat oM;rwa [m]at this);have n:=AdN j l f g;have i:1<=Ba (As e.M x).Op->EvS e (As e.M x).A (ev (As e.M x).A):=λh=>g _ (f.a h).1 (f.a h).2
 have hB:2<=Ba (As e.M x).Op->EvS e (As e.M x).B (ev (As e.M x).B):=λh=>g _ (f.b h).1 (f.b h).2
 have q:3<=Ba (As e.M x).Op->EvS e (As e.M x).C (ev (As e.M x).C):=λh=>g _ (f.c h).1 (f.c h).2
 have r:=λb=>Dm (c:=BO prog tb DR Ee true f86 [] (vII (Cu e ev (As e.M x)))) Ak Al kR (Ah7 _ _ e (As e.M x) b rfl)
 have s:=λb=>Dm (c:=BO prog tb DR Ee true f86 [] (vII (Cu e ev (As e.M x)))) Ak Al kR (Ah6 _ _ e (As e.M x) b rfl rfl rfl rfl)
 refine Ay func86 (AlG _ _ e x rfl rfl) ⟨l,?_⟩;rcases YN (o:=(As e.M x).Op) (by have:=f.op;omega)with d|d|d|d|d|d|d|d|d|d|d|d|d|d|d|d|d|d|d|d|d|d|d|d|d|d|d|d|d|d|d|d|d|d|d|d|d|d|d
 all_goals
  have k:(e.M.Exprs.getD x.toNat default).Op=_:=d
  repeat (first
   | refine⟨λh=>absurd h (by(first | rw[k] | rw[d]);decide),λ_=>?_⟩
   | refine⟨λ_=>?_,gD⟩
   | refine r _ ?_
   | refine s _ ?_)
  first
   | exact A7 (by unfold Cu;rw[d]<;>rfl)
   | exact⟨_,TZ (i (by rw[d];decide)) (λh=>absurd oM h),A7 (by unfold Cu;rw[d]<;>rfl)⟩
   | exact⟨_,TZ (i (by rw[d];decide)) (λ_=>hB (by rw[d];decide)),A7 (by unfold Cu;rw[d]<;>rfl)⟩
   | exact⟨_,SA (i (by rw[d];decide)) (hB (by rw[d];decide)) (λh=>absurd h (by rw[d];decide)),A7 (by unfold Cu;rw[d]<;>rfl)⟩
   | exact⟨_,SA (i (by rw[d];decide)) (hB (by rw[d];decide)) (λ_=>q (by rw[d];decide)),A7 (by unfold Cu;rw[d]<;>rfl)⟩
   | exact⟨_,AiC j (i (by rw[d];decide)),A7 (by unfold Cu;rw[d]<;>rfl)⟩
   | exact⟨_,X3 (i (by rw[d];decide)) (ZE j l),A7 (by unfold Cu;rw[d]<;>rfl)⟩
   | exact⟨_,DL,A7 (by unfold Cu;rw[d]<;>rfl)⟩
   | exact⟨_,TA j,_,DL,A7 (by unfold Cu;rw[d]<;>rfl)⟩
   | exact Agv j k f n
   | exact AiG k (i (by rw[d];decide))
   | exact⟨_,Ahd j (i (by rw[d];decide)) (λa p=>g _ ((Iw (f.poll d)).2.2 a p).1 ((Iw (f.poll d)).2.2 a p).2) (Iw (f.poll d)).1 (Iw (f.poll d)).2.1,A7 (by unfold Cu;rw[d]<;>rfl)⟩
def MY {e}(b:BJ e):∀(n:Nat)(x:Int),0<=x->x<e.M.Exprs.length->x<n->EvS e x (Qd e n x)
 | 0,x,h0,_,h2=>oM
 | n+1,x,h0,h1,h2=>US b ⟨h0,h1⟩ λa c d=>MY b n a c oM oM
def T0 {e}(b:BJ e){x a:Int}(c:x<e.M.Exprs.length)(h0:0<=a)(h1:a<x):EvS e a (Gh e a):=MY b _ a h0 oM oM
def AcL {e}(a:BJ e){x:Int}(b:0<=x/\x<e.M.Exprs.length):EvS e x (Cu e (Gh e) (As e.M x)):=US a b λ_ h0 h1=>T0 a b.2 h0 h1
def JY {e}(a:AS e.M)(hs:BX e.S)(x):Ai prog 85 [] [.agg (Af e),Aa x] [] (Aa (C7 e x)):=by
 refine Ay func85 (Zh _ e x) ⟨_,E0 a hs (λh=>(IK h).clp),λh=>BY (ct (by simpa using h) rfl),λh=>⟨λh1=>BY (cf (by simpa using h) (ct ?_ rfl)),λh1=>BY (cf (by simpa using h) (cf ?_ rfl))⟩⟩
 .simp only[Bj,AsN,AsP]at h1;exact h1
 .simp only[Bj,AsN,AsP]at h1;exact h1
def MZ {e}{x}(c:AS e.M)(h:C7 e x=0):BJ e/\0<=x/\x<e.M.Exprs.length:=by
 unfold C7 at h;cases a:decide (Co e.M e.S≠0)with
 | true=>rw[a,Art]at h;exact absurd h (ArD a)
 | false =>
  rw[a,Arq]at h;obtain⟨h1,h2⟩:=M1 (show Co e.M e.S=0 by simpa using a);cases b:(decide (e.Pid < -1)||(decide ((e.S.Procs.length:Int)<=e.Pid)||(decide (x<0)||decide ((e.M.Exprs.length:Int)<=x))))with
  | true=>rw[b,Art]at h;simp at h
  | false =>
   simp only[ArJ,ArV]at b;exact⟨⟨h2,h1,c,oM,oM⟩,oM,oM⟩
def H5 {e}(a:AS e.M)(hs:BX e.S)(x):Ai prog 53 [] [.agg (Af e),Aa x] [] (vII (Bc e x)):=by
 refine Ay func53 (Aib _ _ e x) ⟨_,JY a hs x,λh=>A7 (ct (by simpa using h) rfl),λh=>?_⟩;obtain⟨b,c⟩:=MZ (x:=x) a (by simpa using h);exact⟨_,AcL b c,A7 (cf (by simpa using h) rfl)⟩
def JZ {e}(b:AS e.M)(hs:BX e.S)(x):Ai prog 205 [] [.agg (Af e),Aa x] [] (vII (AK e x)):=by
 refine Ay func205 (Aic _ _ e x) ⟨_,JY b hs x,λh=>A7 (ct (by simpa using h) rfl),λh=>?_⟩;obtain⟨c,a⟩:=MZ (x:=x) b (by simpa using h);exact⟨_,Mr (MY c _ x a.1 a.2 a.2),A7 (cf (by simpa using h) rfl)⟩
def B33 (n:Int):Prop:=-2147483648<=n/\n<=4294967295
def Q33 (t:Bool)(p:Int×Int):Prop:=p.2=0->B33 p.1/\(t=true->p.1=0\/p.1=1)
def F2 {t b}:Q33 t (C9 b):=by cases b<;>simp[Q33,B33,C9]
def AdZ {t}{a c}(h:c≠0):Q33 t (a,c):=λb=>absurd b h
def KK {t}{a c}(h:decide (c≠0)):Q33 t (a,c):=AdZ (ArD h)
def F3 {t c}{p q}(h1:c=true->Q33 t p)(h2:c=false->Q33 t q):Q33 t (bif c then p else q):=by
 cases c
 .exact h2 rfl
 .exact h1 rfl
def GZ {t}{c}[Decidable c]{p q}(h1:c->Q33 t p)(h2:¬c->Q33 t q):Q33 t (if c then p else q):=by
 split
 .rename_i h;exact h1 h
 .rename_i h;exact h2 h
def P6 {t}{a c}(h:B33 a)(b:t=false):Q33 t (a,c):=λ_=>⟨h,λh=>by rw[b]at h;cases h⟩
def VK {t}{p}(h:Q33 t p):Q33 false p:=λh0=>⟨(h h0).1,λh=>by cases h⟩
def Y8 {t}{v}(h:C1 t v):B33 v:=by
 unfold C1 EY at h;simp only[Arr,Ary]at h;obtain⟨⟨h1,h2,h3⟩,h4⟩:=h;have hp:=AkU t.Bits h1 h2;unfold B33;cases hs:t.Signed with
 | false=>rw[hs]at h4;simp at h4;omega
 | true =>
  rw[hs]at h3 h4;simp at h3 h4;rcases h3 with h3|h3
  .rw[h3]at h4;simp at h4;omega
  .rw[h3]at h4;simp at h4;omega
def W9 {t}{l}{k}(h:BR t l)(hk:k<l.length):B33 (l.getD k 0):=by
 unfold BR at h;simp only[Arr,Ary]at h;exact Y8 (A0.1 h.2 k hk)
def VY {b}:Iy b=0\/Iy b=1:=by cases b<;>simp[Iy]
def Aom (n:Int):Prop:=-2147483648<=n/\n<=2147483647
def DQ {c}[Decidable c]{a b}(h1:Aom a)(h2:Aom b):Aom (if c then a else b):=by
 split
 .exact h1
 .exact h2
def AoY (op a b):-2147483648<=Em op a b/\Em op a b<=2147483647:=by
 have c:∀b:Bool,-2147483648<=Iy b/\Iy b<=2147483647:=λb=>by rcases VY (b:=b)with h|h<;>rw[h]<;>decide
 have d:(-2147483648:Int)<=0/\(0:Int)<=2147483647:=dZ
 show Aom (Em op a b);unfold Em;exact DQ (BL _) (DQ (DQ d (BL _)) (DQ (DQ d (Adv _ _ (BL _).1 (BL _).2)) (DQ (BL _) (DQ (BL _) (DQ (LF _ _ (BL _)) (DQ (LF _ _ (BL _)) (DQ (c _) (DQ (c _) (DQ (c _) (DQ (c _) (DQ (c _) (DQ (c _) (DQ (FT .and (.inl rfl) _ _) (DQ (FT .xor (.inr (.inr rfl)) _ _) (DQ (FT .or (.inr (.inl rfl)) _ _) d)))))))))))))))
def Afk {op a b}(h:13<=op/\op<=18):Em op a b=0\/Em op a b=1:=by
 obtain⟨h1,h2⟩:=h;have:op=13\/op=14\/op=15\/op=16\/op=17\/op=18:=oM
 rcases this with rfl|rfl|rfl|rfl|rfl|rfl<;>exact VY
def Ans (op a):-2147483648<=MM op a/\MM op a<=2147483647:=by
 have c:=BL a;unfold MM;split
 .exact BL _
 split
 .rcases VY (b:=wrap32 a==0)with h|h<;>rw[h]<;>decide
 split
 .omega
 .decide
def Lq (op:Int):Bool:=decide (13<=op/\op<=18)||(decide (op=4)||(decide (op=22)||(decide (op=23)||(decide (26<=op/\op<=30)||(decide (op=34)||(decide (op=35)||(decide (op=36)||decide (op=38))))))))
section
variable {e : D.Env} {ev:Evl}
def Aof {op a b}:B33 (Em op a b):=by have:=AoY op a b;unfold B33;omega
def Aog {op a}:B33 (MM op a):=by have:=Ans op a;unfold B33;omega
def ApE {x}{t}(b:t=true->x.Op=4\/13<=x.Op/\x.Op<=18):Q33 t (RH ev x):=by
 unfold RH;refine F3 KK λ_=>F3 (λh _=>⟨Aog,λa=>?_⟩) λh=>F3 KK λ_=>λ_=>⟨Aof,λa=>?_⟩
 .rcases b a with h4|h4
  .show MM x.Op _=0\/MM x.Op _=1;rw[h4];exact VY
  .simp at h;omega
 .rcases b a with h4|h4
  .rw[h4]at h;simp at h
  .exact Afk h4
def Ani {x}{t}(b:t=true->x.Op≠24)(hB:Q33 false (ev x.B))(c:x.Op=24->Q33 false (ev x.C)):Q33 t (JR ev x):=by
 unfold JR;refine F3 KK λ_=>F3 (λh=>?_) λh=>F3 (λ_=>F2) λ_=>F3 KK λ_=>F2
 have a:=ArD h;cases t with
 | true=>exact absurd a (b rfl)
 | false=>exact F3 (λ_=>hB) λ_=>c a
def Al2 (a:BJ e)(n):(BS e n).Queue.length<=16:=by
 unfold BS
 by_cases h:(n-1).toNat<e.S.Chans.length
 .exact(a.fit.q _ (Av h)).1
 .rw[List.getD,AsI (show e.S.Chans.length<=(n-1).toNat by omega)];exact Arv _
def ApH {x}{t}(a:BJ e)(b:t=true->x.Op≠25):Q33 t (Mp e ev x):=by
 have c:=Al2 a (CW e ev x.A).1;unfold Mp;refine F3 KK λ_=>?_
 unfold Aoh;refine GZ (λh=>?_) λ_=>GZ (λ_=>F2) λ_=>GZ (λ_=>F2) λ_=>GZ (λ_=>F2) λ_=>F2
 refine P6 (by unfold B33;omega) ?_;cases t with
 | true=>exact absurd h (b rfl)
 | false=>rfl
def ApG {x}{t}:Q33 t (Mk e ev x):=by
 unfold Mk;exact F3 KK λ_=>F3 (λ_=>AdZ dZ) λ_=>F3 KK λ_=>F2
def ApI {x}{t}:Q33 t (Qh e ev x):=by
 unfold Qh;exact F3 KK λ_=>F2
def AkJ {x}{t}(a:BJ e)(c:t=true->x.Op≠37):Q33 t (GJ e ev x):=by
 unfold GJ;refine F3 KK λ_=>F3 (λ_=>AdZ dZ) λh2=>F3 (λh=>?_) λ_=>F2
 simp only[ArJ,ArV]at h2;have hp:=DN (a.proc (p:=DB e (ev x.A).1) (Av (d:=default) (show(ev x.A).1.toNat<e.S.Procs.length by omega)));have f:=(IK a.may).locs _ hp.1.1 hp.1.2;have b:=hp.2.1;refine P6 (by unfold B33;omega) ?_;cases t with
 | true=>exact absurd (ArD h) (c rfl)
 | false=>rfl
def ApF {x}{k}(a:BJ e)(hv:x.Op=2->AeA e.M k x.V):Q33 false (X5 e ev x):=by
 unfold X5;refine F3 KK λh=>?_
 have hs:=QR a hv (by simpa using h);refine F3 (λh1=>?_) λh1=>?_
 .have:=hs.glob (ArD h1);exact P6 (W9 a.globals.2 oM) rfl
 .have h0:0<=(B9 e ev x).1:=by have:=ArP h1;omega
  have:=hs.own h0;have hp:=DN (a.proc (p:=DB e (B9 e ev x).1) (Av (d:=default) (show(B9 e ev x).1.toNat<e.S.Procs.length by omega)));exact P6 (W9 hp.2.2.2.1 oM) rfl
def Zj {x}{k}(b:BJ e)(f:TI e.M k x)(hB:2<=Ba x.Op->Q33 false (ev x.B))(i:3<=Ba x.Op->Q33 false (ev x.C))(s:0<=e.S.Last/\e.S.Last<16):Q33 (Lq x.Op) (Cu e ev x):=by
 have g:=b.pid;have j:=b.fit.p;have tt:∀{o:Int},Lq o=true->(13<=o/\o<=18)\/o=4\/o=22\/o=23\/(26<=o/\o<=30)\/o=34\/o=35\/o=36\/o=38:=λh=>by
  simpa only[Lq,Asx,Ary]using h
 unfold Cu;refine GZ (λh=>P6 (Y8 (f.num h)) (by rw[h]<;>rfl)) λn1=>GZ (λh=>?_) λn2=>GZ (λh=>?_) λt=>GZ (λh=>?_) λu=>GZ (λ_=>ApG) λv =>
  GZ (λh=>P6 (by unfold B33;omega) (by rw[h]<;>rfl)) λn6=>GZ (λh=>P6 (by unfold B33;omega) (by rw[h];rfl)) λw=>GZ (λh=>P6 (by unfold B33;omega) (by rw[h];rfl)) λy=>GZ (λ_=>F2) λz=>GZ (λ_=>F2) λl=>GZ (λ_=>ApI) λm=>GZ (λh=>?_) λn=>GZ (λ_=>AdZ dZ) λq=>?_
 .rw[show Lq x.Op=false by rw[h]<;>rfl];exact ApF b λr=>Jv (f.var r)
 .refine Ani (λa c=>by rw[c]at a;cases a) (hB ?_) λd=>i (by rw[d];decide)
  rcases h with h|h|h<;>rw[h]<;>decide
 .exact ApH b λa c=>by rw[c]at a;cases a
 .exact AkJ b λa c=>by rw[c]at a;cases a
 .refine ApE λa=>?_
  have:=tt a;omega
end
def BJ.last {e}(h:BJ e):0<=e.S.Last/\e.S.Last<16:=by
 have h:=h.fits;unfold Dz Jc at h;simp only[Arr,Ary]at h;exact⟨h.1.1.1.1.1.1.2,h.1.1.1.1.1.2⟩
def LZ {e}(d:BJ e):∀(n:Nat)(x:Int),0<=x->x<e.M.Exprs.length->x<n->Q33 (Lq (As e.M x).Op) (Qd e n x)
 | 0,x,h0,_,h2=>oM
 | n+1,x,h0,h1,h2=>by
  have f:((x.toNat:Nat):Int)=x:=oM
  have a:TI e.M x (As e.M x):=Zi (by have:=d.expr x.toNat oM;rwa [f]at this);exact Zj d a (λh=>VK (LZ d n _ (a.b h).1 (by have:=a.b h;omega) (by have:=a.b h;omega))) (λh=>VK (LZ d n _ (a.c h).1 (by have:=a.c h;omega) (by have:=a.c h;omega))) d.last
def Ah5 {e}(g:AS e.M)(x):Q33 (Lq (As e.M x).Op) (Bc e x):=by
 unfold Bc;refine F3 KK λh=>?_
 obtain⟨d,h0,h1⟩:=MZ (x:=x) g (by simpa using h);have f:((x.toNat:Nat):Int)=x:=oM
 have a:TI e.M x (As e.M x):=Zi (by have:=d.expr x.toNat oM;rwa [f]at this);exact Zj d a (λh=>VK (LZ d _ _ (a.b h).1 (by have:=a.b h;omega) (by have:=a.b h;omega))) (λh=>VK (LZ d _ _ (a.c h).1 (by have:=a.c h;omega) (by have:=a.c h;omega))) d.last
def H3 (t:D.Type)(v:Int):Int:=F6 t.Bits t.Signed v
def setG (m:D.Model)(s:D.State)(k v:Int):D.State:={s with Globals:=s.Globals.set k.toNat (H3 (m.Globals.getD k.toNat default) v)}
def AaA (m:D.Model)(p:D.Process)(k v:Int):D.Process:={p with Frame:=p.Frame.set k.toNat (H3 ((AY m p.Type_).Frame.getD k.toNat default) v)}
def setO (m:D.Model)(s:D.State)(who k v:Int):D.State:={s with Procs:=s.Procs.set who.toNat (AaA m (s.Procs.getD who.toNat default) k v)}
def JD (m:D.Model)(s:D.State)(who k v:Int):D.State:=bif decide (who<0)then setG m s k v else setO m s who k v
def Bm (e:D.Env)(x v:Int):D.State×Int :=
 bif decide (C7 e x≠0)then(default,C7 e x)
 else bif decide ((B9 e (Gh e) (As e.M x)).2.2≠0)then(default,(B9 e (Gh e) (As e.M x)).2.2)
 else(JD e.M e.S (B9 e (Gh e) (As e.M x)).1 (B9 e (Gh e) (As e.M x)).2.1 v,0)
def GM {α:Type}{l:List α}{i}{a x}(h:x∈l.set i a):x∈l\/x=a:=List.mem_or_eq_of_mem_set h
def Fit.setG {s:D.State}(h:Fit s)(m:D.Model)(k v:Int):Fit (setG m s k v):=⟨by show(List.set _ _ _).length<=_;rw[Asn];exact h.g,h.c,h.q,h.p,h.f⟩
def Fit.setO {s:D.State}(h:Fit s)(m:D.Model)(who k v:Int)(a:who.toNat<s.Procs.length):Fit (setO m s who k v):=by
 refine⟨h.g,h.c,h.q,by show(List.set _ _ _).length<=_;rw[Asn];exact h.p,λp hp=>?_⟩;rcases GM hp with hp|rfl
 .exact h.f p hp
 .show(List.set _ _ _).length<=_;rw[Asn];exact h.f _ (Av (d:=default) a)
def Qc:Fit (default):=⟨dZ,dZ,λc a=>(by cases a),dZ,λp hp=>(by cases hp)⟩
section
variable {e : D.Env} {x:Int}
def Aeo (b:BJ e)(h0:0<=x)(h1:x<e.M.Exprs.length):TI e.M x (As e.M x):=by
 have a:((x.toNat:Nat):Int)=x:=oM
 exact Zi (by have:=b.expr x.toNat oM;rwa [a]at this)
def LC (a:BJ e)(h0:0<=x)(h1:x<e.M.Exprs.length){ev}(h:(B9 e ev (As e.M x)).2.2=0):Tr e (B9 e ev (As e.M x)).1 (B9 e ev (As e.M x)).2.1 :=
 QR a (λb=>Jv ((Aeo a h0 h1).var b)) h
def Aan (b:AS e.M)(v):Fit (Bm e x v).1:=by
 unfold Bm;cases c:decide (C7 e x≠0)with
 | true=>exact Qc
 | false =>
  obtain⟨a,h0,h1⟩:=MZ (x:=x) b (by simpa using c);rw[Arq];cases d:decide ((B9 e (Gh e) (As e.M x)).2.2≠0)with
  | true=>exact Qc
  | false =>
   rw[Arq];have hs:=LC a h0 h1 (ev:=Gh e) (by simpa using d);show Fit (JD _ _ _ _ _);unfold JD;cases f:decide ((B9 e (Gh e) (As e.M x)).1<0)with
   | true=>exact a.fit.setG _ _ _
   | false =>
    have g:0<=(B9 e (Gh e) (As e.M x)).1:=by have:=ArP f;omega
    exact a.fit.setO _ _ _ _ (by have:=hs.own g;omega)
end
structure Pn where
 pid:Int
 esc:Int
 way:Int
deriving DecidableEq
instance : Inhabited Pn:=⟨⟨0,0,0⟩⟩
structure Ab where
 is:Bool
 err:Int
 wth:List Pn
instance : Inhabited Ab:=⟨⟨false,0,[]⟩⟩
structure Wy where
 Esc:Int
 Way:Int
 With:Int
 WithEsc:Int
 WithWay:Int
 Err:Int
deriving DecidableEq
instance : Inhabited Wy:=⟨⟨0,0,0,0,0,0⟩⟩
section
variable (e : D.Env)
def H4:Int:=bif decide (Co e.M e.S≠0)then Co e.M e.S else bif decide (e.Pid<0)||decide ((e.S.Procs.length:Int)<=e.Pid)then 42 else 0
def CU:D.Proc:=AY e.M (DB e e.Pid).Type_
def CA:D.Loc:=(CU e).Locs.getD (DB e e.Pid).Loc.toNat default
def CJ (x:Int):Bool:=decide (0<=x)&&decide ((As e.M x).Op=39)
def SO:Nat->List (List D.Trans)->List (Int×List D.Trans)
 | _,[]=>[]
 | k,w::r=>((k:Int),w)::SO (k+1) r
def Fb (l:D.Loc):List (Int×List D.Trans):=SO 0 l.Esc++[(-1,l.Out)]
def IP (ev:Evl):List Int->List Int->List Int×Int
 | out,[]=>(out,0)
 | out,x::l=>bif decide ((ev x).2≠0)then([],(ev x).2)else IP ev (out++[(ev x).1]) l
def BC (l:List Int):List Int×Int:=IP (Bc e) [] l
def Hr (f:List D.Type)(l:List Int):List Int:=(List.range l.length).map λi=>H3 (f.getD i default) (l.getD i 0)
def Bh (c:Int):List D.Type:=(B8 e.M (BS e c).Shape).Fields
def AC (s:D.Stmt):Int×List Int×Int :=
 bif decide ((AK e s.A).2≠0)then(0,[],(AK e s.A).2)
 else bif decide ((Bh e (AK e s.A).1).length≠s.Args.length)then(0,[],49)
 else bif decide ((BC e s.Args).2≠0)then(0,[],(BC e s.Args).2)
 else((AK e s.A).1,Hr (Bh e (AK e s.A).1) (BC e s.Args).1,0)
def B7 (s:D.Stmt):List Int×Int :=
 bif decide (Dn (Bc e) s.Args s.Match s.Args.length≠0)then([],Dn (Bc e) s.Args s.Match s.Args.length)else(C8 (Bc e) s.Args s.Match,0)
def Bg (s:D.Stmt):Int×Int×Int :=
 bif decide ((AK e s.A).2≠0)then(0,-1,(AK e s.A).2)
 else bif decide ((Bh e (AK e s.A).1).length≠s.Args.length)then(0,-1,49)
 else bif decide ((B7 e s).2≠0)then(0,-1,(B7 e s).2)
 else((AK e s.A).1,F7 (BS e (AK e s.A).1) (B7 e s).1 s.Match (decide (s.N.tmod 2=1)),0)
def Fy (s:D.Stmt)(c:Int)(m:List Int):Bool :=
 bif decide (s.Kind≠6)||(decide (1<s.N)||decide (s.Args.length≠m.length))then false
 else bif decide ((AK e s.A).2≠0)||decide ((AK e s.A).1≠c)then false
 else bif decide ((B7 e s).2≠0)then false else decide (F7 ⟨0,[m]⟩ (B7 e s).1 s.Match false=0)
def I1:Ab:=⟨decide (e.S.Procs.length<16),0,[]⟩
def FB (mt:Int->List Int->List Pn)(s:D.Stmt)(self:Bool):Ab :=
 bif decide ((AK e s.A).2≠0)then⟨true,(AK e s.A).2,[]⟩
 else bif decide ((Bh e (AK e s.A).1).length≠s.Args.length)then⟨true,49,[]⟩
 else bif decide (0<(B8 e.M (BS e (AK e s.A).1).Shape).Room)then⟨decide (((BS e (AK e s.A).1).Queue.length:Int)<(B8 e.M (BS e (AK e s.A).1).Shape).Room),0,[]⟩
 else bif self then⟨false,0,[]⟩
 else bif decide ((AC e s).2.2≠0)then⟨true,(AC e s).2.2,[]⟩
 else⟨decide (0<(mt (AK e s.A).1 (AC e s).2.1).length),0,mt (AK e s.A).1 (AC e s).2.1⟩
def Cg (mt:Int->List Int->List Pn)(s:D.Stmt)(self:Bool):Ab :=
 if s.Kind=1 then(bif CJ e s.A then I1 e else⟨decide ((Bc e s.A).1≠0)||decide ((Bc e s.A).2≠0),(Bc e s.A).2,[]⟩)
 else if s.Kind=2 then(bif CJ e s.B then I1 e else⟨true,0,[]⟩)
 else if s.Kind=9 then⟨decide (e.S.Chans.length<32),0,[]⟩
 else if s.Kind=5 then FB e mt s self
 else if s.Kind=6 then⟨decide (0<=(Bg e s).2.1)||decide ((Bg e s).2.2≠0),(Bg e s).2.2,[]⟩
 else if s.Kind=7 then⟨false,0,[]⟩else⟨true,0,[]⟩
def Ez (mt:Int->List Int->List Pn)(ways:List D.Trans)(self:Bool):Nat->Bool
 | 0=>false
 | n+1=>Ez mt ways self n||(Cg e mt (ways.getD n default).S self).is
def Ek (mt:Int->List Int->List Pn)(ways:List D.Trans)(self:Bool)(i:Nat):Ab :=
 let x:=Cg e mt (ways.getD i default).S self
 bif decide ((ways.getD i default).S.Kind=7)&&!(Ez e mt ways self ways.length)then{x with is:=true}else x
def Dv (mt:Int->List Int->List Pn)(ways:List D.Trans)(self:Bool):List Ab:=(List.range ways.length).map (Ek e mt ways self)
def Hp:Int->List Int->List Pn:=λ_ _=>[]
def isSome (l:List Ab):Bool:=l.any Ab.is
def DS (c:Int)(m:List Int)(i:Int):Nat->List D.Trans->List Pn
 | _,[]=>[]
 | k,t::r=>(bif Fy e t.S c m then[⟨e.Pid,i,k⟩]else[])++DS c m i (k+1) r
def HU (c:Int)(m:List Int):List (Int×List D.Trans)->List Pn
 | []=>[]
 | (i,ws)::r=>bif decide (0<(DS e c m i 0 ws).length)||isSome (Dv e Hp ws true)then DS e c m i 0 ws else HU c m r
def Be:Bool×Int:=bif decide ((CU e).Provided<0)then(true,0)else(decide ((Bc e (CU e).Provided).1≠0),(Bc e (CU e).Provided).2)
def ER (c:Int)(m:List Int):List Pn:=bif !(Be e).1||decide ((Be e).2≠0)then[]else HU e c m (Fb (CA e))
def BQ (q:Int):D.Env:={e with Pid:=q}
def CP (c:Int)(m:List Int):Nat->List Pn
 | 0=>[]
 | n+1=>CP c m n++bif decide ((n:Int)≠e.Pid)then ER (BQ e n) c m else[]
def B0 (c:Int)(m:List Int):List Pn:=CP e c m e.S.Procs.length
def I9 (err:Int):Wy:=⟨-1,-1,-1,-1,-1,err⟩
def FO (i:Int)(k:Nat)(err:Int)(p:Pn):Wy:=⟨i,k,p.pid,p.esc,p.way,err⟩
def FV (i:Int)(k:Nat)(x:Ab):List Wy:=(bif x.is&&decide (x.wth.length=0)then[⟨i,k,-1,-1,-1,x.err⟩]else[])++x.wth.map (FO i k x.err)
def C6 (i:Int):Nat->List Ab->List Wy
 | _,[]=>[]
 | k,x::r=>FV i k x++C6 i (k+1) r
def Ff:List (Int×List D.Trans)->List Wy
 | []=>[]
 | (i,ws)::r=>bif decide (0<(C6 i 0 (Dv e (B0 e) ws false)).length)then C6 i 0 (Dv e (B0 e) ws false)else Ff r
def A5:List Wy :=
 bif decide ((DB e e.Pid).Loc=(CU e).Final)then(bif decide (e.Pid=(e.S.Procs.length:Int)-1)then[I9 0]else[])
 else bif decide ((Be e).2≠0)then[I9 (Be e).2]
 else bif !(Be e).1 then[]else Ff e (Fb (CA e))
def FP:List Wy×Int:=bif decide (H4 e≠0)then([],H4 e)else(A5 e,0)
end
def RD (y x:VV):Prop:=∀(w:World)(E:A2)(v:Value),V w E none y v->∀B,V w ⟨λ_=>False,B,0,[]⟩ none x v
def Kx:List VV->List VV->Prop
 | [],[]=>True
 | y::ys,x::xs=>RD y x/\Kx ys xs
 | _,_=>False
def IV:∀{ys xs},Kx ys xs->ys.length=xs.length
 | [],[],_=>rfl
 | y::ys,x::xs,h=>by simp[IV h.2]
 | [],_::_,h=>h.elim
 | _::_,[],h=>h.elim
def HJ:∀{ys xs},Kx ys xs->∀(j:Nat) x,xs[j]?=some x->∃y,ys[j]?=some y/\RD y x
 | y::ys,x::xs,h,0,z,hz=>by simp only[ArL,Ars]at hz;subst hz;exact⟨y,rfl,h.1⟩
 | y::ys,x::xs,h,j+1,z,hz=>by simpa using HJ h.2 j z (by simpa using hz)
 | [],_::_,h,_,_,_=>h.elim
 | _,[],_,_,_,hz=>by simp at hz
def Qv {u}:RD (.sc u) (.sc u):=λw E v h B=>by
 obtain rfl:=h.sc_inv;exact .sc
def Qu {b}{n s}{f l}(c:∀i,i<n->Kx (f i) (l i)):RD (.sl b n s f) (.sl true n s l):=λw E v h B=>by
 obtain⟨a,cap,rfl,h1,h2,h3⟩:=V.sl_inv h;refine Atw h1 h2 λhp=>?_
 obtain⟨g,off,rfl,m,_,o,u,p,hv⟩:=h3 hp;refine⟨g,off,rfl,m,λh=>h,λi hi=>by rw[<- IV (c i hi)];exact o i hi,u,λi j x hi d=>?_,λi j x hi d=>?_⟩
 .obtain⟨y,e,_⟩:=HJ (c i hi) j x d;exact p i j y hi e
 .obtain⟨y,e,k⟩:=HJ (c i hi) j x d;exact k _ _ _ (hv i j y hi e) _
def Xb {ys xs}(b:Kx ys xs):RD (.agg ys) (.agg xs):=λw E v h B=>by
 obtain⟨vs,rfl,h1,h2⟩:=h.agg_inv;refine .agg (h1.trans (IV b)) λj x c=>?_
 obtain⟨y,d,a⟩:=HJ b j x c;exact a _ _ _ (h2 j y d) _
def Ts (r:VV):Prop:=∀(w:World)(E E':A2)(m m':Option Phi)(v:Value),V w E m r v->V w E' m' r v
def KN {u}:Ts (.sc u):=λw E E' m m' v h=>by
 obtain rfl:=h.sc_inv;exact .sc
def LI {xs}(h:∀x∈xs,Ts x):Ts (.tup xs):=λw E E' m m' v hv=>by
 cases hv with
 | tup h1 h2=>exact .tup h1 λj x a=>h x (Asb a) _ _ _ _ _ _ (h2 j x a)
def Ai.thaw {P}{f}{xs ys}{r}(h:Ai P f [] xs [] r)(c:Ts r)(a:Kx ys xs):Ai P f [] ys [] r:=by
 refine Ai.hand h.callable λw E vs l d hB m hs=>?_
 refine(h.start d hB ⟨hs.1.trans (IV a),λj x g=>?_⟩).mono ?_
 .obtain⟨y,i,k⟩:=HJ a j x g;exact k _ _ _ (hs.2 j y i) _
 .rintro e w' ⟨v,rfl,b,hv⟩;exact⟨v,rfl,c _ _ _ _ _ _ hv,b⟩
def Alc:Value->Value->Bool
 | .int k a,.int l b=>decide (k=l)&&decide (a=b)
 | .bool a,.bool b=>a==b
 | .string a,.string b=>decide (a=b)
 | _,_=>false
def Alb {u v}(h:Alc u v):u=v:=by
 unfold Alc at h;split at h
 .simp only[Arr,Ary]at h;rw[h.1,h.2]
 .simp only[beq_iff_eq]at h;rw[h]
 .simp only[Ary]at h;rw[h]
 .cases h
section
variable {P : Program} {w:World} {E:A2} {φ:Phi} {hs hs' hs1:List Ob} {xs:List VV} {r:VV} {f:FuncId}
def Aee (h:HRel E (BT hs) φ w)(hφ:∀id,φ id≠none↔id<hs.length)(j:∀k,E.fz k->k<w.heap.size)(sz)(g) :
  HRel E (BT (hs++[.arr true 0 0 sz g])) (addP φ hs.length [Pl.arr 0 0 none]) w/\Ext w φ w (addP φ hs.length [Pl.arr 0 0 none]) /\
   (∀id,addP φ hs.length [Pl.arr 0 0 none] id≠none↔id<(hs++[Ob.arr true 0 0 sz g]).length)/\addP φ hs.length [Pl.arr 0 0 none] hs.length=some (.arr 0 0 none):=by
 have c:φ hs.length=none:=ArW λl=>by have:=(hφ _).1 l;omega
 have d:Room w [Pl.arr 0 0 none] w:=Room.one (Below.refl _ _) λk hk=>by obtain⟨_,m⟩:=hk;cases m
 have b:∀i,i<[Ob.arr true 0 0 sz g].length->φ (hs.length+i)=none:=λi hi=>by
  simp only[Asc,AsB,Ar4,Nat.lt_one_iff]at hi;subst hi;exact c
 have a:E7 w E φ hs.length [Ob.arr true 0 0 sz g] [Pl.arr 0 0 none] w:=E7.one d ⟨rfl,rfl,rfl⟩;have e:addP φ hs.length [Pl.arr 0 0 none] hs.length=some (.arr 0 0 none):=Fv (i:=0) rfl;refine⟨h.news j a b (λk hk=>?_) λi o n=>?_,a.ext b,λid=>?_,e⟩
 .have:=(hφ k).1 hk;show BT (hs++_) k=BT hs k;simp[BT,ArM this]
 .show BT (hs++_) (hs.length+i)=o;unfold BT;rw[ArN,ArZ oM,show hs.length+i-hs.length=i by omega,n];rfl
 .simp only[ArA,Asc,AsB]
  by_cases p:id=hs.length
  .subst p;rw[e];simp
  .rw[ED (by simp;omega)];rw[hφ id];omega
def Ai.conv {r2}{hs2}(h:Ai P f hs xs hs1 r)
  (c:∀(w:World)(E:A2) (φ:Phi) (v:Value),HRel E (BT hs1) φ w->(∀id,φ id≠none↔id<hs1.length)->(∀k,E.fz k->k<w.heap.size)->V w (E.up φ) (some φ) r v ->
   ∃φ',HRel E (BT hs2) φ' w/\Ext w φ w φ'/\(∀id,φ' id≠none↔id<hs2.length)/\V w (E.up φ') (some φ') r2 v):Ai P f hs xs hs2 r2:=by
 refine⟨h.callable,λw E φ vs b d hφ a=>(h.call w E φ vs b d hφ a).mono ?_⟩;rintro e w' ⟨v,φ',rfl,h1,h2,h3,h4⟩;obtain⟨φ2,k1,k2,g,i⟩:=c w' E φ' v h1 h3 (λk hk=>ArQ (b.lt k hk) h2.size) h4;exact⟨v,φ2,rfl,k1,h2.trans (AsU k2),g,i⟩
def Ai.ownR {ys}(h:Ai P f hs xs hs1 (.tup ys))(j)(hj:ys[j]?=some .nl)(sz)(g):Ai P f hs xs (hs1++[.arr true 0 0 sz g]) (.tup (ys.set j (.ow hs1.length 0 0))):=by
 refine h.conv λw E φ v c hφ d hv=>?_
 obtain⟨h1,h2,h3,h4⟩:=Aee c hφ d sz g;refine⟨_,h1,h2,h3,?_⟩;cases hv with
 | tup k1 k2 =>
  refine .tup (by simp[k1]) λi x a=>?_
  rw[Ato]at a;split at a
  .rename_i b;subst b;split at a
   .simp only[Ars]at a;subst a;rw[(k2 j _ hj).nl_inv];exact .ow h4 (Arx _) (hd0:=none) ⟨rfl,rfl⟩ λ_=>⟨rfl,Arx _⟩
   .cases a
  .exact(k2 i x a).ext h2
def Fr.less {b a}{w w'}{φ φ'}(h:Fr b w φ w' φ')(c:a<=b):Fr a w φ w' φ' :=
 ⟨h.os,h.tape,h.output,h.size,h.block,h.new,λid p hi e=>h.kind id p (ArQ hi c) e⟩
def Ai.ownB {i j}{cs}(hi:hs[i]?=some (.box cs))(hj:cs[j]?=some .nl)(sz)(g)
  (h:Ai P f (hs.set i (.box (cs.set j (.ow hs.length 0 0)))++[.arr true 0 0 sz g]) xs hs' r):Ai P f hs xs hs' r:=by
 refine⟨h.callable,λw E φ vs s u hφ l=>?_⟩;obtain⟨h1,h2,h3,h4⟩:=Aee u hφ s.lt sz g;have m:i<hs.length:=(ArB.1 hi).1;refine(h.call w E _ vs (s.ext h2) ⟨h1.sub,λid p e=>?_,h1.inj,h1.free⟩ (λid=>by rw[h3 id];simp) ⟨l.1,λk x a=>(l.2 k x a).ext h2⟩).mono ?_
 .have d:=h1.ob id p e;show ObV w E _ (BT (hs.set i _++_) id) p
  by_cases t:id=i
  .subst t;have n:BT (hs++[Ob.arr true 0 0 sz g]) id=.box cs:=by simp[BT,ArM m,hi]
   have y:BT (hs.set id (.box (cs.set j (.ow hs.length 0 0)))++[Ob.arr true 0 0 sz g]) id=.box (cs.set j (.ow hs.length 0 0)):=by
    simp[BT,ArM,m]
   rw[n]at d;rw[y];cases p with
   | arr=>exact d.elim
   | box b =>
    obtain⟨c,ty,k1,k2⟩:=d;refine⟨c,ty,k1,by simp[k2.1],λk x a=>?_⟩;rw[Ato]at a;split at a
    .rename_i o;subst o;split at a
     .simp only[Ars]at a;subst a;rw[(k2.2 j _ hj).nl_inv];exact .ow h4 (Arx _) (hd0:=none) ⟨rfl,rfl⟩ λ_=>⟨rfl,Arx _⟩
     .cases a
    .exact k2.2 k x a
  .have n:BT (hs.set i (.box (cs.set j (.ow hs.length 0 0)))++[Ob.arr true 0 0 sz g]) id=BT (hs++[Ob.arr true 0 0 sz g]) id:=by
    rcases Ar5 id hs.length with q|q
    .simp[BT,ArM,q,List.getElem_set_ne (Ne.symm t)]
    .simp[BT,ArZ,q]
   rw[n];exact d
 .rintro e w' ⟨v,φ',rfl,k1,k2,z,A⟩;refine⟨v,φ',rfl,k1,(AsU h2).trans (k2.less sM),z,A⟩
end
def Hf (x:Pn):List VV:=[Aa x.pid,Aa x.esc,Aa x.way]
def DA (l:List Pn):Nat->List VV:=λi=>Hf (l.getD i default)
def BD (fz:Bool)(l:List Pn):VV:=.sl fz l.length 3 λi=>Hf (l.getD i default)
def A6 (x:Ab):List VV:=[Ad x.is,Aa x.err,BD true x.wth]
def Ep (l:List Ab):Nat->List VV:=λi=>A6 (l.getD i default)
def BG (fz:Bool)(l:List Ab):VV:=.sl fz l.length 3 λi=>A6 (l.getD i default)
def AW (x:Wy):List VV:=[Aa x.Esc,Aa x.Way,Aa x.With,Aa x.WithEsc,Aa x.WithWay,Aa x.Err]
def Fa (l:List Wy):Nat->List VV:=λi=>AW (l.getD i default)
def AZ (fz:Bool)(l:List Wy):VV:=.sl fz l.length 6 λi=>AW (l.getD i default)
def Bq (x:D.Env):List VV:=[AE true x.M.Globals,Ac true x.M.Init,A1 true x.M.Shapes,Ac true x.M.Chans,Bb true x.M.Procs,Aa x.M.Claim,Bf true x.M.Exprs,Ac true x.S.Globals,AG false x.S.Chans,Aw false x.S.Procs,Aa x.S.Last,Aa x.S.Alone,Aa x.S.Claim,Aa x.Pid,Ad x.Timeout,AM true x.Able]
def Aoy:Shp:={α:=List Pn,enc:=λy=>([],BD true y)}
def AoA:Shp:={α:=Ab,enc:=λy=>([],.agg (A6 y))}
def AjU:Shp:={α:=List Ab,enc:=λy=>([],BG true y)}
def Aov:Shp:={α:=Wy,enc:=λy=>([],.agg (AW y))}
def AjM:Shp:={α:=List Wy,enc:=λy=>([],AZ true y)}
def Apc:Shp:={α:=D.Loc,enc:=λy=>([],.agg (A4 y))}
def AmP:Shp:={α:=D.Proc,enc:=λy=>([],.agg (A9 y))}
def AjO:Shp:={α:=D.Trans,enc:=λy=>([],.agg (DK y))}
def AjT:Shp:={α:=Bool×Int,enc:=λy=>([],.tup [Ad y.1,Aa y.2])}
def AjQ:Shp:={α:=Int×List Int×Int,enc:=λy=>([],.tup [Aa y.1,Ac true y.2.1,Aa y.2.2])}
def Aoz:Shp:={α:=List Int×Int,enc:=λy=>([],.tup [Ac true y.1,Aa y.2])}
def Aqx:Shp:={α:=List Wy×Int,enc:=λy=>([],.tup [AZ true y.1,Aa y.2])}
def Apm:Shp:={α:=List Int×Int,enc:=λy=>([.arr true 0 y.1.length 1 (AD y.1)],.tup [.ow 0 0 y.1.length,Aa y.2])}
def CZ (f:FuncId):Shp :=
 bif Nat.beq f 72||Nat.beq f 120||Nat.beq f 245 then Vx
 else bif Nat.beq f 76 then Apc
 else bif Nat.beq f 79 then AmP
 else bif Nat.beq f 75 then AjO
 else bif Nat.beq f 121||Nat.beq f 239||Nat.beq f 240||Nat.beq f 73||Nat.beq f 241 then XF
 else bif Nat.beq f 124 then Apm
 else bif Nat.beq f 172 then AjQ
 else bif Nat.beq f 211 then Aoz
 else bif Nat.beq f 175 then RV
 else bif Nat.beq f 231||Nat.beq f 213 then Aoy
 else bif Nat.beq f 81 then AjT
 else bif Nat.beq f 177||Nat.beq f 129||Nat.beq f 178 then AoA
 else bif Nat.beq f 84 then AjU
 else bif Nat.beq f 80 then Aov
 else bif Nat.beq f 52 then AjM
 else bif Nat.beq f 78 then Aqx
 else DR f
def hsR (e:D.Env)(c:Int)(m:List Int)(out:List Pn):List Ob:=[.box (Af e),.box [Aa c],.box [Ac true m],.box [.ow 4 0 out.length],.arr true 0 out.length 3 (DA out)]
def Aqa:VV:=.fn (.func 238) [.bp 0 0,.bp 1 0,.bp 2 0,.bp 3 0]
def shR (e:D.Env)(c:Int)(m:List Int)(f:FuncId):Shp :=
 bif Nat.beq f 238 then{α:=List Pn×Bool,enc:=λy=>(hsR e c m y.1,Ad y.2),lend:=true}
 else bif Nat.beq f 82 then{α:=List Pn,enc:=λy=>(hsR e c m y,.tup []),lend:=true}
 else CZ f
def hsW (e:D.Env)(out:List Wy):List Ob:=[.box (Af e),.box [.ow 2 0 out.length],.arr true 0 out.length 6 (Fa out)]
def Ap9:VV:=.fn (.func 83) [.bp 0 0,.bp 1 0]
def shW (e:D.Env)(f:FuncId):Shp :=
 bif Nat.beq f 83 then{α:=List Wy×Bool,enc:=λy=>(hsW e y.1,Ad y.2),lend:=true}
 else bif Nat.beq f 82 then{α:=List Wy,enc:=λy=>(hsW e y,.tup []),lend:=true}
 else CZ f
def Ta:Ann:={keep:=fun
  | [0,1,0,1,1]=>[2,6,11,12,13]
  | _=>[]}
def S9:Ann:={keep:=fun
  | [0,1,0,1,1,1,1,1,1,1]=>[7,9,10,53,54,55]
  | _=>[]}
def J9:Ann:={keep:=fun
  | [0,1,0,1,1]=>[2,3,6,16,17,18]
  | _=>[]}
def M3:Ann:={keep:=fun
  | [0,1,0,1,1]=>[1,2,3,7,13,14]
  | _=>[]}
def G6:Ann:={cut:=(λ| [1,1,0,0,1,1,0,0,1,0,1,1,1]=>true | _=>false),keep:=fun
  | [0,1,0,1,1,1]=>[1,2,3,7,8,16,17,18]
  | [0,1,0,1,1,1,1]=>[7,8,40,41,42]
  | [1,1,0,0,1,1,0,0,1,0,1,1,1]=>[1,2,3,7,8,9,16,17,18]
  | _=>[]}
def Pq:Ann:={keep:=fun
  | [0,1,0,1]=>[0,1,7,8]
  | _=>[]}
def Pp:Ann:={keep:=fun
  | [0,1,0,1]=>[0,3,7,8]
  | _=>[]}
def K8:Ann:={base:=5,keep:=fun
  | [0,1,0,1]=>[1,2,7,8,9]
  | _=>[]}
def K7:Ann:={base:=3,keep:=fun
  | [0,1,0,1]=>[1,2,7,8,9]
  | _=>[]}
def S8:Ann:={base:=5,keep:=fun
  | [0,1,0,1]=>[0,1,2,3,4,5,11,12,13]
  | _=>[]}
def Ib:Ann:={base:=3,keep:=fun
  | [0,1,0,1]=>[0,3,14,15,16]
  | [0,1,1,1,1,0,0,1,1,0,0,1,0,1]=>[0,3,9,14,15,16,39,40,41]
  | _=>[]}
def Vn (e:D.Env)(l out:List Int)(k:Int):St:=Aq [(2,.bp 0 0),(6,.ow 1 0 out.length),(11,Ac true l),(12,Aa l.length),(13,Aa k)] [.box (Bq e),.arr true 0 out.length 1 (AD out)]
def RO (c:Int)(f:List D.Type)(l:List Int)(k:Int):St:=Aq [(7,Aa c),(9,AE true f),(10,.ow 0 0 l.length),(53,.ow 0 0 l.length),(54,Aa l.length),(55,Aa k)] [.arr true 0 l.length 1 (AD l)]
def RM (e:D.Env)(s:D.Stmt)(want:List Int)(k:Int):St:=Aq [(2,.bp 0 0),(3,.bp 1 0),(6,.ow 2 0 want.length),(16,Ac true s.Args),(17,Aa s.Args.length),(18,Aa k)] [.box (Af e),.box (An s),.arr true 0 want.length 1 (AD want)]
def Ny (e:D.Env)(c:Int)(m:List Int)(out:List Pn)(k:Int):St:=Aq [(1,Aa c),(2,Ac true m),(3,.bp 0 0),(7,.ow 1 0 out.length),(13,Aa e.S.Procs.length),(14,Aa k)] [.box (Af e),.arr true 0 out.length 3 (DA out)]
def Vm (e:D.Env)(ws:List D.Trans)(self:Bool)(n:Nat)(F:Nat->List VV)(some:Bool)(k:Int):St:=Aq [(1,Ao true ws),(2,Ad self),(3,.bp 0 0),(7,.ow 1 0 n),(8,Ad some),(16,Ao true ws),(17,Aa ws.length),(18,Aa k)] [.box (Af e),.arr true 0 n 3 F]
def Vl (e:D.Env)(ws:List D.Trans)(self:Bool)(l:List Ab)(some:Bool)(i k:Int):St:=Aq [(1,Ao true ws),(2,Ad self),(3,.bp 0 0),(7,.ow 1 0 l.length),(8,Ad some),(9,Aa i),(16,Ao true ws),(17,Aa ws.length),(18,Aa k)] [.box (Af e),.arr true 0 l.length 3 (Ep l)]
def Nz (ws:List D.Trans)(l:List Ab)(some:Bool)(k:Int):St:=Aq [(7,.ow 0 0 l.length),(8,Ad some),(40,Ao true ws),(41,Aa ws.length),(42,Aa k)] [.arr true 0 l.length 3 (Ep l)]
def Qx (l:List Ab)(k:Int):St:=Aq [(0,BG true l),(1,.fn (.func 241) []),(7,Aa l.length),(8,Aa k)] []
def Qw (l:List Wy)(w:Wy)(k:Int):St:=Aq [(0,AZ true l),(3,.bp 0 0),(7,Aa l.length),(8,Aa k)] [.box (AW w)]
def Lt (e:D.Env)(c:Int)(m:List Int)(out:List Pn)(l:D.Loc)(k:Int):St:=Aq [(1,Aqa),(2,.bp 5 0),(7,BA true l.Esc),(8,Aa l.Esc.length),(9,Aa k)] (hsR e c m out++[.box (A4 l)])
def Ls (e:D.Env)(out:List Wy)(l:D.Loc)(k:Int):St:=Aq [(1,Ap9),(2,.bp 3 0),(7,BA true l.Esc),(8,Aa l.Esc.length),(9,Aa k)] (hsW e out++[.box (A4 l)])
def RN (e:D.Env)(c:Int)(m:List Int)(out:List Pn)(i:Int)(ws:List D.Trans)(k:Int):St:=Aq [(0,Aa i),(1,Ao true ws),(2,.bp 0 0),(3,.bp 1 0),(4,.bp 2 0),(5,.bp 3 0),(11,Ao true ws),(12,Aa ws.length),(13,Aa k)] (hsR e c m out)
def Jz (e:D.Env)(out:List Wy)(i:Int)(l:List Ab)(k:Int):St:=Aq [(0,Aa i),(3,.bp 1 0),(14,BG true l),(15,Aa l.length),(16,Aa k)] (hsW e out)
def Nw (e:D.Env)(out:List Wy)(i:Int)(l:List Ab)(k:Int)(w:Wy)(ps:List Pn)(j:Int):St:=Aq [(0,Aa i),(3,.bp 1 0),(9,.bp 3 0),(14,BG true l),(15,Aa l.length),(16,Aa k),(39,BD true ps),(40,Aa ps.length),(41,Aa j)] (hsW e out++[.box (AW w)])
def Amt (r)(e):(fc CZ AV f72 [] (Aa r)).goal (St.init [] [.agg (Af e)]) =
  ∃(y:_),VC 20 [VV.agg (Ag e.M),VV.agg (Ae e.S)] (Aa y)/\BB (y != 0) (LQ (Aa y) (Aa r)) (BB (bif decide (e.Pid<0)then true else decide (e.Pid>=(↑e.S.Procs.length))) (LQ (Aa 42) (Aa r)) (LQ (Aa 0) (Aa r))):=kR
def AiR (l)(e){z1}(a:z1=e.S.Procs.getD e.Pid.toNat default):(fc CZ AV f76 [] (.agg (A4 l))).goal (St.init [] [.agg (Af e)]) =
  (inX e.Pid e.S.Procs.length/\inX z1.Type_ e.M.Procs.length/\inX z1.Loc (e.M.Procs.getD z1.Type_.toNat default).Locs.length/\LQ (.agg (A4 ((e.M.Procs.getD z1.Type_.toNat default).Locs.getD z1.Loc.toNat default))) (.agg (A4 l))):=by subst a;kernel_rfl
def AeN (p)(e):(fc CZ AV f79 [] (.agg (A9 p))).goal (St.init [] [.agg (Af e)]) =
  (inX e.Pid e.S.Procs.length/\inX (e.S.Procs.getD e.Pid.toNat default).Type_ e.M.Procs.length/\LQ (VV.agg (A9 (e.M.Procs.getD (e.S.Procs.getD e.Pid.toNat default).Type_.toNat default))) (VV.agg (A9 p))):=kR
def AeI (b)(m)(x):(fc CZ AV f121 [] (Ad b)).goal (St.init [] [.agg (Ag m),Aa x]) =
  (((true&&decide (x>=0)==true)->inX x m.Exprs.length)/\LQ (Ad (bif decide (x>=0)then(m.Exprs.getD x.toNat default).Op==39 else false)) (Ad b)):=kR
def AiT (hs')(r)(e)(l):(BO prog tb CZ Ta false f124 hs' (r)).goal (St.init [] [.agg (Bq e),Ac true l]) =
  Au (BO prog tb CZ Ta false f124 hs' r) [1,1,0,1,0] (Aq [(2,VV.bp 0 0),(6,VV.nl),(11,Ac true l),(12,Aa (↑l.length)),(13,Aa 0)] [Ob.box (Bq e)]):=kR
def AiQ (r:Int×List Int×Int)(e)(s){b}(d:b=[Aa r.fst,Ac true r.snd.fst,Aa r.snd.snd]){c}(f:c=λ(y:Int×Int)=>e.S.Chans.getD (i64.wrap (y.fst-(1:Int))).toNat default):(fc CZ S9 f172 [] (.tup [Aa r.1,Ac true r.2.1,Aa r.2.2])).goal (St.init [] [.agg (Bq e),.agg (An s)]) =
  ∃(y:_),VC 205 [.agg (Bq e),Aa s.A] (vII y)/\BB (y.snd != 0) (LQ (.tup [Aa 0,.nl,Aa y.snd]) (.tup b)) (inX (i64.wrap (y.fst-(1))) e.S.Chans.length/\inX (c y).Shape e.M.Shapes.length/\BB ((↑(e.M.Shapes.getD (c y).Shape.toNat default).Fields.length) != (↑s.Args.length:Int)) (LQ (.tup [Aa 0,.nl,Aa 49]) (.tup b)) (∃(a:List Int×Int),Ai prog 124 [] [.agg (Bq e),Ac true s.Args] [.arr true 0 a.fst.length 1 (AD a.fst)] (.tup [.ow 0 0 a.fst.length,Aa a.snd])/\BB (a.snd != 0) (LQ (.tup [Aa 0,.nl,Aa a.snd]) (.tup b)) (Au (fc CZ S9 f172 [] (.tup b)) [1,1,1,1,1,1,1,0,1,0] (RO y.fst (e.M.Shapes.getD (c y).Shape.toNat default).Fields a.fst (0))))):=by subst d f;kernel_rfl
def ZL (r:List Int×Int)(e)(s){z1}(a:z1=(↑s.Args.length:Int)){b}(c:b=fc CZ J9 f211 [] (VV.tup [Ac true r.fst,Aa r.snd])):(fc CZ J9 f211 [] (.tup [Ac true r.1,Aa r.2])).goal (St.init [] [.agg (Af e),.agg (An s)]) =
  (((0)<=z1/\z1<=z1/\z1*(↑8)<=140737488355328)/\Au b [1,1,0,1,0] (Aq [(2,.bp 0 0),(3,.bp 1 0),(6,.ow 2 0 z1.toNat),(16,Ac true s.Args),(17,Aa z1),(18,Aa 0)] [.box (Af e),.box (An s),.arr true 0 z1.toNat 1 λ(_)=>(b.T 2).zero])):=by subst a c;kernel_rfl
def Z2 (r)(e)(s){b}(d:b=λ(y:Int×Int)=>i64.wrap (y.fst-(1:Int))):(fc CZ AV f175 [] (.tup [Aa r.1,Aa r.2.1,Aa r.2.2])).goal (St.init [] [.agg (Af e),.agg (An s)]) =
  ∃(y:_),VC 205 [.agg (Af e),Aa s.A] (vII y)/\BB (y.snd != 0) (LQ (.tup [Aa 0,Aa (-1),Aa y.snd]) (Kt r)) (inX (b y) e.S.Chans.length/\inX (e.S.Chans.getD (b y).toNat default).Shape e.M.Shapes.length/\BB ((↑(e.M.Shapes.getD (e.S.Chans.getD (b y).toNat default).Shape.toNat default).Fields.length) != (↑s.Args.length:Int)) (LQ (.tup [Aa 0,Aa (-1),Aa 49]) (Kt r)) (∃(a:List Int×Int),VC 211 [.agg (Af e),.agg (An s)] (.tup [Ac true a.fst,Aa a.snd])/\BB (a.snd != 0) (LQ (.tup [Aa 0,Aa (-1),Aa a.snd]) (Kt r)) (inX (b y) e.S.Chans.length/\(2)≠(0:Int)/\∃(c:_),VC 182 [.agg (Am (e.S.Chans.getD (b y).toNat default)),Ac true a.fst,Ac true s.Match,Ad (s.N.tmod (2:Int)==1)] (Aa c)/\LQ (.tup [Aa y.fst,Aa c,Aa 0]) (Kt r)))):=by subst d;kernel_rfl
def ZM (b)(e)(s)(c)(m):(fc CZ AV f239 [] (Ad b)).goal (St.init [] [.agg (Af e),.agg (An s),Aa c,Ac true m]) =
  BB (bif bif s.Kind != 6 then true else decide (s.N > 1)then true else(↑s.Args.length) != (↑m.length:Int)) (LQ (Ad false) (Ad b)) (∃(y:_),VC 205 [VV.agg (Af e),Aa s.A] (vII y)/\BB (bif y.snd != 0 then true else y.fst != c) (LQ (Ad false) (Ad b)) (∃(y:List Int×Int),VC 211 [VV.agg (Af e),VV.agg (An s)] (VV.tup [Ac true y.fst,Aa y.snd])/\∃(a:_),((true&&(y.snd==0)==true)->VC 182 [VV.agg [Aa 0,VV.sl true 1 1 λ(i)=>List.take 1 (List.drop (i*1) [Ac true m])],Ac true y.fst,Ac true s.Match,Ad false] (Aa a))/\LQ (Ad (bif y.snd==0 then a==0 else false)) (Ad b))):=kR
def ZU (r)(e)(c)(m):(fc CZ M3 f213 [] (BD true r)).goal (St.init [] [.agg (Af e),Aa c,Ac true m]) =
  Au (fc CZ M3 f213 [] (BD true r)) [1,1,0,1,0] (Aq [(1,Aa c),(2,Ac true m),(3,VV.bp 0 0),(7,VV.nl),(13,Aa (↑e.S.Procs.length)),(14,Aa 0)] [Ob.box (Af e)]):=kR
def AeM (r:Bool×Int)(e):(fc CZ AV f81 [] (.tup [Ad r.1,Aa r.2])).goal (St.init [] [.agg (Af e)]) =
  ∃(y:_),VC 79 [VV.agg (Af e)] (VV.agg (A9 y))/\BB (decide (y.Provided<0)) (LQ (VV.tup [Ad true,Aa 0]) (VV.tup [Ad r.fst,Aa r.snd])) (∃(a:_),VC 53 [VV.agg (Af e),Aa y.Provided] (vII a)/\LQ (VV.tup [Ad (a.fst != 0),Aa a.snd]) (VV.tup [Ad r.fst,Aa r.snd])):=kR
def AeJ (r)(e):(fc CZ AV f177 [] (.agg (A6 r))).goal (St.init [] [.agg (Af e)]) =
  LQ (VV.agg [Ad (decide ((↑e.S.Procs.length:Int)<16)),Aa 0,VV.nl]) (VV.agg (A6 r)):=kR
def AeE (r)(e)(s)(self){a}(b:a=VV.agg (A6 r)){c}(d:c=∃(y:Ab),VC 177 [VV.agg (Af e)] (VV.agg (A6 y))/\LQ (VV.agg (A6 y)) a){f}(g:f=LQ (VV.agg [Ad true,Aa 0,VV.nl]) a):(fc CZ AV f129 [] (.agg (A6 r))).goal (St.init [] [.agg (Af e),.agg (An s),Ad self]) =
  BB (s.Kind==1) (∃(y:_),VC 121 [.agg (Ag e.M),Aa s.A] (Ad y)/\BB y c (∃(y:_),VC 53 [.agg (Af e),Aa s.A] (vII y)/\LQ (.agg [Ad (bif y.fst != 0 then true else y.snd != 0),Aa y.snd,.nl]) a)) (BB (s.Kind==2) (∃(y:_),VC 121 [.agg (Ag e.M),Aa s.B] (Ad y)/\BB y c f) (BB (s.Kind==9) (LQ (.agg [Ad (decide ((↑e.S.Chans.length:Int)<32)),Aa 0,.nl]) a) (BB (s.Kind==5) (∃(y:_),VC 178 [.agg (Af e),.agg (An s),Ad self] (.agg (A6 y))/\LQ (.agg (A6 y)) a) (BB (s.Kind==6) (∃(y:_),VC 175 [.agg (Af e),.agg (An s)] (Kt y)/\LQ (.agg [Ad (bif decide (y.snd.fst>=0)then true else y.snd.snd != 0),Aa y.snd.snd,.nl]) a) (BB (s.Kind==7) (LQ (.agg [Ad false,Aa 0,.nl]) a) f))))):=by subst b d g;kernel_rfl
def ZQ (r)(e)(s)(self){d}(g:d=λ(y:Int×Int)=>e.S.Chans.getD (i64.wrap (y.fst-(1:Int))).toNat default){b}(h:b=VV.agg (A6 r)){f}(i:f=λ(y:Int×Int)=>e.M.Shapes.getD (d y).Shape.toNat default):(fc CZ AV f178 [] (.agg (A6 r))).goal (St.init [] [.agg (Af e),.agg (An s),Ad self]) =
  ∃(y:_),VC 205 [.agg (Af e),Aa s.A] (vII y)/\BB (y.snd != 0) (LQ (.agg [Ad true,Aa y.snd,.nl]) b) (inX (i64.wrap (y.fst-(1))) e.S.Chans.length/\inX (d y).Shape e.M.Shapes.length/\BB ((↑(f y).Fields.length) != (↑s.Args.length:Int)) (LQ (.agg [Ad true,Aa 49,.nl]) b) (BB (decide ((f y).Room > 0)) (LQ (.agg [Ad (decide ((↑(d y).Queue.length)<(f y).Room)),Aa 0,.nl]) b) (BB self (LQ (.agg [Ad false,Aa 0,.nl]) b) (∃(a:Int×List Int×Int),VC 172 [.agg (Af e),.agg (An s)] (.tup [Aa a.fst,Ac true a.snd.fst,Aa a.snd.snd])/\BB (a.snd.snd != 0) (LQ (.agg [Ad true,Aa a.snd.snd,.nl]) b) (∃(c:_),VC 213 [.agg (Af e),Aa y.fst,Ac true a.snd.fst] (BD true c)/\LQ (.agg [Ad (decide ((↑c.length:Int) > 0)),Aa 0,BD true c]) b))))):=by subst g h i;kernel_rfl
def AiS (r)(e)(ws)(self){z1}(a:z1=(↑ws.length:Int)){b}(c:b=fc CZ G6 f84 [] (BG true r)):(fc CZ G6 f84 [] (BG true r)).goal (St.init [] [.agg (Af e),Ao true ws,Ad self]) =
  (((0)<=z1/\z1<=z1/\z1*(↑40)<=140737488355328)/\Au b [1,1,1,0,1,0] (Aq [(1,Ao true ws),(2,Ad self),(3,.bp 0 0),(7,.ow 1 0 z1.toNat),(8,Ad false),(16,Ao true ws),(17,Aa z1),(18,Aa 0)] [.box (Af e),.arr true 0 z1.toNat 3 λ(_)=>(b.T 171).zero])):=by subst a c;kernel_rfl
def AeQ (r)(err):(fc CZ AV f80 [] (.agg (AW r))).goal (St.init [] [Aa err]) =
  LQ (VV.agg [Aa (-1),Aa (-1),Aa (-1),Aa (-1),Aa (-1),Aa err]) (VV.agg (AW r)):=kR
def Ae5 (r:List Wy×Int)(e):(fc CZ AV f78 [] (.tup [AZ true r.1,Aa r.2])).goal (St.init [] [.agg (Af e)]) =
  ∃(y:_),VC 72 [VV.agg (Af e)] (Aa y)/\BB (y != 0) (LQ (VV.tup [VV.nl,Aa y]) (VV.tup [AZ true r.fst,Aa r.snd])) (∃(y:_),VC 52 [VV.agg (Af e)] (AZ true y)/\LQ (VV.tup [AZ true y,Aa 0]) (VV.tup [AZ true r.fst,Aa r.snd])):=kR
def AiN (t)(l)(esc i):(fc CZ AV f75 [] (.agg (DK t))).goal (St.init [] [.agg (A4 l),Aa esc,Aa i]) =
  BB (decide (esc<0)) (inX i l.Out.length/\LQ (VV.agg (DK (l.Out.getD i.toNat default))) (VV.agg (DK t))) (inX esc l.Esc.length/\inX i (l.Esc.getD esc.toNat []).length/\LQ (VV.agg (DK ((l.Esc.getD esc.toNat []).getD i.toNat default))) (VV.agg (DK t))):=kR
def Z5 (b)(l):(fc CZ AV f240 [] (Ad b)).goal (St.init [] [BG true l,.fn (.func 241) []]) =
  ∃(y:_),VC 245 [BG true l,VV.fn (Fn.func (nat_lit 241)) []] (Aa y)/\LQ (Ad (decide (y>=0))) (Ad b):=kR
def AeW (r)(l):(fc CZ Pq f245 [] (Aa r)).goal (St.init [] [BG true l,.fn (.func 241) []]) =
  Au (fc CZ Pq f245 [] (Aa r)) [1,0,1,0] (Qx l (0)):=kR
def AeU (b)(x):(fc CZ AV f241 [] (Ad b)).goal (St.init [] [.agg (A6 x)]) =
  LQ (Ad x.is) (Ad b):=kR
def Z4 (b)(l)(w):(fc CZ AV f73 [] (Ad b)).goal (St.init [] [AZ true l,.agg (AW w)]) =
  ∃(y:_),VC 120 [AZ true l,VV.agg (AW w)] (Aa y)/\LQ (Ad (decide (y>=0))) (Ad b):=kR
def AeV (r)(l)(w):(fc CZ Pp f120 [] (Aa r)).goal (St.init [] [AZ true l,.agg (AW w)]) =
  Au (fc CZ Pp f120 [] (Aa r)) [1,0,1,0] (Qw l w (0)):=kR
def AeK (r)(e)(c)(m):(BO prog tb (shR e c m) AV true f231 [] (BD true r)).goal (St.init [] [.agg (Af e),Aa c,Ac true m]) =
  ∃(y:Bool×Int),VC 81 [VV.agg (Af e)] (VV.tup [Ad y.fst,Aa y.snd])/\BB (bif !y.fst then true else y.snd != 0) (LQ VV.nl (BD true r)) (∃(y:_),VC 76 [VV.agg (Af e)] (VV.agg (A4 y))/\∃(a:_),Ai prog 82 [Ob.box (Af e),Ob.box [Aa c],Ob.box [Ac true m],Ob.box [VV.nl]] [VV.agg (A4 y),VV.fn (Fn.func (nat_lit 238)) [VV.bp 0 0,VV.bp 1 0,VV.bp 2 0,VV.bp 3 0]] (hsR e c m a) (VV.tup [])/\LQ (BD true a) (BD true r)):=kR
def WK (r out)(e)(c)(m)(l):(BO prog tb (shR e c m) K8 true f82 (hsR e c m r) (.tup [])).goal (St.init (hsR e c m out) [.agg (A4 l),Aqa]) =
  Au (fc (shR e c m) K8 f82 (hsR e c m r) (VV.tup [])) [1,0,1,0] (Lt e c m out l (0)):=kR
def WJ (r out)(e)(l):(BO prog tb (shW e) K7 true f82 (hsW e r) (.tup [])).goal (St.init (hsW e out) [.agg (A4 l),Ap9]) =
  Au (fc (shW e) K7 f82 (hsW e r) (VV.tup [])) [1,0,1,0] (Ls e out l (0)):=kR
def AiO (r out)(b)(e)(c)(m)(i)(ws):(fc CZ S8 f238 (hsR e c m r) (Ad b)).goal (St.init (hsR e c m out) [Aa i,Ao true ws,.bp 0 0,.bp 1 0,.bp 2 0,.bp 3 0]) =
  Au (fc CZ S8 f238 (hsR e c m r) (Ad b)) [1,0,1,0] (RN e c m out i ws (0)):=kR
def AiP (r out)(b)(e)(i)(ws):(fc CZ Ib f83 (hsW e r) (Ad b)).goal (St.init (hsW e out) [Aa i,Ao true ws,.bp 0 0,.bp 1 0]) =
  ∃(y:_),VC 84 [VV.agg (Af e),Ao true ws,Ad false] (BG true y)/\Au (fc CZ Ib f83 (hsW e r) (Ad b)) [1,0,1,0] (Jz e out i y (0)):=kR
def ZT (r)(e){b}(c:b=AZ true r):(BO prog tb (shW e) AV true f52 [] (AZ true r)).goal (St.init [] [.agg (Af e)]) =
  (inX e.Pid e.S.Procs.length/\∃(y:_),VC 79 [.agg (Af e)] (.agg (A9 y))/\BB ((e.S.Procs.getD e.Pid.toNat default).Loc==y.Final) (BB (e.Pid==i64.wrap ((↑e.S.Procs.length)-(1))) (∃(y:_),VC 80 [Aa 0] (.agg (AW y))/\LQ (.sl true 1 6 λ(i)=>List.take 6 (List.drop (i*6) (AW y))) b) (LQ .nl b)) (∃(y:Bool×Int),VC 81 [.agg (Af e)] (.tup [Ad y.fst,Aa y.snd])/\BB (y.snd != 0) (∃(a:_),VC 80 [Aa y.snd] (.agg (AW a))/\LQ (.sl true 1 6 λ(i)=>List.take 6 (List.drop (i*6) (AW a))) b) (BB (!y.fst) (LQ .nl b) (∃(y:_),VC 76 [.agg (Af e)] (.agg (A4 y))/\∃(a:_),Ai prog 82 [.box (Af e),.box [.nl]] [.agg (A4 y),.fn (Fn.func (nat_lit 83)) [.bp 0 0,.bp 1 0]] (hsW e a) (.tup [])/\LQ (AZ true a) b)))):=by subst c;kernel_rfl
def Ae3 (hs')(r)(e)(l out)(k)(J):((BO prog tb CZ Ta false f124 hs' (r)).loop [1,1,0,1,0] J).goal (Vn e l out k) =
  BB (decide (k<(↑l.length))) (inX k l.length/\∃(y:_),VC 53 [VV.agg (Bq e),Aa (l.getD k.toNat 0)] (vII y)/\BB (y.snd != 0) (leO [] hs'/\(VV.tup [VV.nl,Aa y.snd]).le r) ((out.length+1)*8<=140737488355328/\J (Aq [(2,VV.bp 0 0),(6,VV.ow 1 0 (out.length+1)),(11,Ac true l),(12,Aa (↑l.length)),(13,Aa (i64.wrap (k+(1))))] [Ob.box (Bq e),Ob.arr true 0 (out.length+1) 1 λ(i)=>bif i.blt out.length then[Aa (out.getD i 0)]else(λ(i)=>List.take 1 (List.drop (i*1) [Aa y.fst])) (i-out.length)]))) (leO [Ob.arr true 0 out.length 1 (AD out)] hs'/\(VV.tup [VV.ow 0 0 out.length,Aa 0]).le r):=kR
def AeS (r:Int×List Int×Int)(c)(f)(l)(k)(J):((fc CZ S9 f172 [] (.tup [Aa r.1,Ac true r.2.1,Aa r.2.2])).loop [1,1,1,1,1,1,1,0,1,0] J).goal (RO c f l k) =
  BB (decide (k<(↑l.length))) (inX k l.length/\inX k f.length/\∃(y:_),VC 204 [VV.agg (Bp (f.getD k.toNat default)),Aa (l.getD k.toNat 0)] (Aa y)/\inX k l.length/\J (Aq [(7,Aa c),(9,AE true f),(10,VV.ow 0 0 l.length),(53,VV.ow 0 0 l.length),(54,Aa (↑l.length)),(55,Aa (i64.wrap (k+(1))))] [Ob.arr true 0 l.length 1 λ(j)=>bif j.beq k.toNat then[Aa y]else[Aa (l.getD j 0)]])) (LQ (VV.tup [Aa c,Ac true l,Aa 0]) (VV.tup [Aa r.fst,Ac true r.snd.fst,Aa r.snd.snd])):=kR
def WC (r:List Int×Int)(e)(s)(want)(k)(J):((fc CZ J9 f211 [] (.tup [Ac true r.1,Aa r.2])).loop [1,1,0,1,0] J).goal (RM e s want k) =
  BB (decide (k<(↑s.Args.length))) (inX k s.Args.length/\inX k s.Match.length/\BB (s.Match.getD k.toNat 0 != 1) (J (RM e s want (i64.wrap (k+(1))))) (∃(y:_),VC 53 [VV.agg (Af e),Aa (s.Args.getD k.toNat 0)] (vII y)/\BB (y.snd != 0) (LQ (VV.tup [VV.nl,Aa y.snd]) (VV.tup [Ac true r.fst,Aa r.snd])) (inX k want.length/\J (Aq [(2,VV.bp 0 0),(3,VV.bp 1 0),(6,VV.ow 2 0 want.length),(16,Ac true s.Args),(17,Aa (↑s.Args.length)),(18,Aa (i64.wrap (k+(1))))] [Ob.box (Af e),Ob.box (An s),Ob.arr true 0 want.length 1 λ(j)=>bif j.beq k.toNat then[Aa y.fst]else[Aa (want.getD j 0)]])))) (LQ (VV.tup [Ac true want,Aa 0]) (VV.tup [Ac true r.fst,Aa r.snd])):=kR
def WI (r)(e)(c)(m)(out)(k)(J):((fc CZ M3 f213 [] (BD true r)).loop [1,1,0,1,0] J).goal (Ny e c m out k) =
  BB (decide (k<(↑e.S.Procs.length))) (BB (k != e.Pid) (∃(y:_),VC 231 [VV.agg [AE true e.M.Globals,Ac true e.M.Init,A1 true e.M.Shapes,Ac true e.M.Chans,Bb true e.M.Procs,Aa e.M.Claim,Bf true e.M.Exprs,Ac true e.S.Globals,AG true e.S.Chans,Aw true e.S.Procs,Aa e.S.Last,Aa e.S.Alone,Aa e.S.Claim,Aa k,Ad e.Timeout,AM true e.Able],Aa c,Ac true m] (BD true y)/\(out.length+y.length)*24<=140737488355328/\(∀(i),i<y.length->(DA y i).all VV.mem1)/\J (Aq [(1,Aa c),(2,Ac true m),(3,VV.bp 0 0),(7,VV.ow 1 0 (out.length+y.length)),(13,Aa (↑e.S.Procs.length)),(14,Aa (i64.wrap (k+(1))))] [Ob.box (Af e),Ob.arr true 0 (out.length+y.length) 3 λ(i)=>bif i.blt out.length then DA out i else DA y (i-out.length)])) (J (Ny e c m out (i64.wrap (k+(1)))))) (LQ (BD true out) (BD true r)):=kR
def Ae2 (r)(e)(ws)(self)(n)(F)(some)(k)(J){a}(b:a=fc CZ G6 f84 [] (BG true r)):((fc CZ G6 f84 [] (BG true r)).loop [1,1,1,0,1,0] J).goal (Vm e ws self n F some k) =
  BB (decide (k<(↑ws.length))) (inX k ws.length/\∃(y:_),VC 129 [.agg (Af e),.agg (An (ws.getD k.toNat default).S),Ad self] (.agg (A6 y))/\inX k n/\Au (a.loop [1,1,1,0,1,0] J) [1,1,0,0,1,1] (Aq [(1,Ao true ws),(2,Ad self),(3,.bp 0 0),(7,.ow 1 0 n),(8,Ad some),(9,Aa k),(16,Ao true ws),(17,Aa (↑ws.length)),(18,Aa k)] [.box (Af e),.arr true 0 n 3 λ(j)=>bif j.beq k.toNat then A6 y else F j])) (Au a [1,1,1,1,0,1,0] (Aq [(7,.ow 0 0 n),(8,Ad some),(40,Ao true ws),(41,Aa (↑ws.length)),(42,Aa 0)] [.arr true 0 n 3 F])):=by subst b;kernel_rfl
def Ae0 (r)(e)(ws)(self)(l)(some)(i k)(J):(((fc CZ G6 f84 [] (BG true r)).loop [1,1,1,0,1,0] J).cut [1,1,0,0,1,1]).goal (Vl e ws self l some i k) =
  (((true&&some==false)->inX i l.length)/\J (Aq [(1,Ao true ws),(2,Ad self),(3,VV.bp 0 0),(7,VV.ow 1 0 l.length),(8,Ad (bif some then true else(l.getD i.toNat default).is)),(16,Ao true ws),(17,Aa (↑ws.length)),(18,Aa (i64.wrap (k+(1))))] [Ob.box (Af e),Ob.arr true 0 l.length 3 (Ep l)])):=kR
def Ae1 (r)(ws)(l)(some)(k)(J):((fc CZ G6 f84 [] (BG true r)).loop [1,1,1,1,0,1,0] J).goal (Nz ws l some k) =
  BB (decide (k<(↑ws.length))) (inX k ws.length/\BB (bif(ws.getD k.toNat default).S.Kind==7 then !some else false) (inX k l.length/\J (Aq [(7,VV.ow 0 0 l.length),(8,Ad some),(40,Ao true ws),(41,Aa (↑ws.length)),(42,Aa (i64.wrap (k+(1))))] [Ob.arr true 0 l.length 3 λ(j)=>bif j.beq k.toNat then[Ad true,Aa (l.getD k.toNat default).err,BD true (l.getD k.toNat default).wth]else A6 (l.getD j default)])) (J (Nz ws l some (i64.wrap (k+(1)))))) (LQ (BG true l) (BG true r)):=kR
def Z0 (r)(l)(k)(J):((fc CZ Pq f245 [] (Aa r)).loop [1,0,1,0] J).goal (Qx l k) =
  BB (decide (k<(↑l.length))) (inX k l.length/\∃(y:_),VC 241 [VV.agg (A6 (l.getD k.toNat default))] (Ad y)/\BB y (LQ (Aa k) (Aa r)) (J (Qx l (i64.wrap (k+(1)))))) (LQ (Aa (-1)) (Aa r)):=kR
def ZY (r)(l)(w)(k)(J){z1}(a:z1=l.getD k.toNat default):((fc CZ Pp f120 [] (Aa r)).loop [1,0,1,0] J).goal (Qw l w k) =
  BB (decide (k<(↑l.length))) (inX k l.length/\BB (w.Esc==z1.Esc&&(w.Way==z1.Way&&(w.With==z1.With&&(w.WithEsc==z1.WithEsc&&(w.WithWay==z1.WithWay&&(w.Err==z1.Err&&true)))))) (LQ (Aa k) (Aa r)) (J (Qw l w (i64.wrap (k+(1)))))) (LQ (Aa (-1)) (Aa r)):=by subst a;kernel_rfl
def U7 (r)(e)(c)(m)(out)(l)(k)(J):((BO prog tb (shR e c m) K8 true f82 (hsR e c m r) (.tup [])).loop [1,0,1,0] J).goal (Lt e c m out l k) =
  BB (decide (k<(↑l.Esc.length))) (inX k l.Esc.length/\∃(y:List Pn×Bool),Ai prog 238 (hsR e c m out) [Aa k,Ao true (l.Esc.getD k.toNat []),VV.bp 0 0,VV.bp 1 0,VV.bp 2 0,VV.bp 3 0] (hsR e c m y.fst) (Ad y.snd)/\BB y.snd (leO (hsR e c m y.fst) (hsR e c m r)/\(VV.tup []).le (VV.tup [])) (J (Lt e c m y.fst l (i64.wrap (k+(1)))))) (∃(y:List Pn×Bool),Ai prog 238 (hsR e c m out) [Aa (-1),Ao true l.Out,VV.bp 0 0,VV.bp 1 0,VV.bp 2 0,VV.bp 3 0] (hsR e c m y.fst) (Ad y.snd)/\leO (hsR e c m y.fst) (hsR e c m r)/\(VV.tup []).le (VV.tup [])):=kR
def U5 (r)(e)(out)(l)(k)(J):((BO prog tb (shW e) K7 true f82 (hsW e r) (.tup [])).loop [1,0,1,0] J).goal (Ls e out l k) =
  BB (decide (k<(↑l.Esc.length))) (inX k l.Esc.length/\∃(y:List Wy×Bool),Ai prog 83 (hsW e out) [Aa k,Ao true (l.Esc.getD k.toNat []),VV.bp 0 0,VV.bp 1 0] (hsW e y.fst) (Ad y.snd)/\BB y.snd (leO (hsW e y.fst) (hsW e r)/\(VV.tup []).le (VV.tup [])) (J (Ls e y.fst l (i64.wrap (k+(1)))))) (∃(y:List Wy×Bool),Ai prog 83 (hsW e out) [Aa (-1),Ao true l.Out,VV.bp 0 0,VV.bp 1 0] (hsW e y.fst) (Ad y.snd)/\leO (hsW e y.fst) (hsW e r)/\(VV.tup []).le (VV.tup [])):=kR
def AeL (r)(b)(e)(c)(m)(out)(i)(ws)(k)(J){d}(f:d=(true&&decide ((↑out.length:Int) > 0)==false)):((fc CZ S8 f238 (hsR e c m r) (Ad b)).loop [1,0,1,0] J).goal (RN e c m out i ws k) =
  BB (decide (k<(↑ws.length))) (inX k ws.length/\∃(y:_),VC 239 [.agg (Af e),.agg (An (ws.getD k.toNat default).S),Aa c,Ac true m] (Ad y)/\BB y ((out.length+1)*24<=140737488355328/\J (Aq [(0,Aa i),(1,Ao true ws),(2,.bp 0 0),(3,.bp 1 0),(4,.bp 2 0),(5,.bp 3 0),(11,Ao true ws),(12,Aa (↑ws.length)),(13,Aa (i64.wrap (k+(1))))] [.box (Af e),.box [Aa c],.box [Ac true m],.box [.ow 4 0 (out.length+1)],.arr true 0 (out.length+1) 3 λ(i_1)=>bif i_1.blt out.length then Hf (out.getD i_1 default)else(λ(i_2)=>List.take 3 (List.drop (i_2*3) [Aa e.Pid,Aa i,Aa k])) (i_1-out.length)])) (J (RN e c m out i ws (i64.wrap (k+(1)))))) (∃(y:_),(d->VC 84 [.agg (Af e),Ao true ws,Ad true] (BG true y))/\∃(a:_),(d->VC 240 [BG true y,.fn (Fn.func (nat_lit 241)) []] (Ad a))/\leO (hsR e c m out) (hsR e c m r)/\(Ad (bif decide ((↑out.length:Int) > 0)then true else a)).le (Ad b)):=by subst f;kernel_rfl
def AeP (r)(b)(e)(out)(i)(l)(k)(J){c}(d:c=[(0,Aa i),(3,VV.bp 1 0),(9,VV.bp 3 0),(14,BG true l),(15,Aa (↑l.length:Int)),(16,Aa k),(39,BD true (l.getD k.toNat default).wth),(40,Aa (↑(l.getD k.toNat default).wth.length:Int)),(41,Aa 0)]){a}(f:a=[Aa i,Aa k,Aa (-1),Aa (-1),Aa (-1),Aa (l.getD k.toNat default).err]){g}(h:g=(fc CZ Ib f83 (hsW e r) (Ad b)).loop [1,0,1,0] J):((fc CZ Ib f83 (hsW e r) (Ad b)).loop [1,0,1,0] J).goal (Jz e out i l k) =
  BB (decide (k<(↑l.length))) (inX k l.length/\BB (bif(l.getD k.toNat default).is then(↑(l.getD k.toNat default).wth.length:Int)==0 else false) ((out.length+1)*48<=140737488355328/\Au g [1,1,0,0,1,1,1,1,0] (Aq c [.box (Af e),.box [.ow 2 0 (out.length+1)],.arr true 0 (out.length+1) 6 λ(i_1)=>bif i_1.blt out.length then AW (out.getD i_1 default)else(λ(i_2)=>List.take 6 (List.drop (i_2*6) a)) (i_1-out.length),.box a])) (Au g [1,1,0,0,1,1,1,1,0] (Aq c [.box (Af e),.box [.ow 2 0 out.length],.arr true 0 out.length 6 (Fa out),.box a]))) (leO (hsW e out) (hsW e r)/\(Ad (decide ((↑out.length:Int) > 0))).le (Ad b)):=by subst d f h;kernel_rfl
def AeO (r)(b)(e)(out)(i)(l)(k)(w)(ps)(j)(J J2){a}(c:a=[Aa w.Esc,Aa w.Way,Aa (ps.getD j.toNat default).pid,Aa (ps.getD j.toNat default).esc,Aa (ps.getD j.toNat default).way,Aa w.Err]):(((fc CZ Ib f83 (hsW e r) (Ad b)).loop [1,0,1,0] J).loop [1,1,0,0,1,1,1,1,0] J2).goal (Nw e out i l k w ps j) =
  BB (decide (j<(↑ps.length))) (inX j ps.length/\(out.length+1)*48<=140737488355328/\J2 (Aq [(0,Aa i),(3,.bp 1 0),(9,.bp 3 0),(14,BG true l),(15,Aa (↑l.length)),(16,Aa k),(39,BD true ps),(40,Aa (↑ps.length)),(41,Aa (i64.wrap (j+(1))))] [.box (Af e),.box [.ow 2 0 (out.length+1)],.arr true 0 (out.length+1) 6 λ(i)=>bif i.blt out.length then AW (out.getD i default)else(λ(i)=>List.take 6 (List.drop (i*6) a)) (i-out.length),.box a])) (J (Jz e out i l (i64.wrap (k+(1))))):=by subst c;kernel_rfl
end Go.Proofs.YtboifkdeeigcaaaGreatDoor
namespace Go.Proofs.YtboifkdeeigcaaaGreatDoor
open Go.RowKit Go.Proofs.Tryz
open IntKind(i64)
structure Ci (e:D.Env):Prop where
 ok:BJ e
 p0:0<=e.Pid
section
variable {e : D.Env}
def Ah4 (b:AS e.M)(h:H4 e=0):Ci e:=by
 unfold H4 at h;cases a:decide (Co e.M e.S≠0)with
 | true=>grind
 | false =>
  rw[a,Arq]at h;obtain⟨h1,h2⟩:=M1 (show Co e.M e.S=0 by simpa using a);cases c:(decide (e.Pid<0)||decide ((e.S.Procs.length:Int)<=e.Pid))with
  | true=>grind
  | false =>
   simp only[ArJ,ArV]at c;exact⟨⟨h2,h1,b,oM,oM⟩,oM⟩
def Ci.small (h:Ci e):BX e.S:=h.ok.fit.small
def Ci.lt (h:Ci e):e.Pid.toNat<e.S.Procs.length:=by have:=h.ok.pid;have:=h.p0;omega
def Ci.mem (h:Ci e):DB e e.Pid∈e.S.Procs:=Av h.lt
def Ci.facts (h:Ci e):(0<=(DB e e.Pid).Type_/\(DB e e.Pid).Type_<e.M.Procs.length)/\0<=(DB e e.Pid).Loc/\(DB e e.Pid).Loc<(CU e).Locs.length :=
 let hp:=DN (h.ok.proc h.mem);⟨hp.1,hp.2.1⟩
def Ci.wproc (h:Ci e):Hk (CU e):=h.ok.wf.Procs.2 _ (Av (by have:=h.facts.1;omega))
def Ci.wloc (h:Ci e):Rm (CA e):=h.wproc.Locs.2 _ (Av (by have:=h.facts.2;omega))
def WO (a:AS e.M)(hs:BX e.S):Ai prog 72 [] [.agg (Af e)] [] (Aa (H4 e)):=by
 refine Ay func72 (Amt _ e) ⟨_,E0 a hs (λh=>(IK h).clp),λh=>BY (ct (by simpa using h) rfl),λh=>⟨λh1=>BY (cf (by simpa using h) (ct ?_ rfl)),λh1=>BY (cf (by simpa using h) (cf ?_ rfl))⟩⟩
 .grind
 grind
def Ll (h:Ci e):Ai prog 76 [] [.agg (Af e)] [] (.agg (A4 (CA e))) :=
 Ay func76 (AiR _ e rfl) ⟨⟨h.p0,h.ok.pid.2⟩,h.facts.1,h.facts.2,trivial,lR⟩
def Re (h:Ci e):Ai prog 79 [] [.agg (Af e)] [] (.agg (A9 (CU e))) :=
 Ay func79 (AeN _ e) ⟨⟨h.p0,h.ok.pid.2⟩,h.facts.1,trivial,lR⟩
def Jt {x:Int}(h:0<=x->x<e.M.Exprs.length):Ai prog 121 [] [.agg (Ag e.M),Aa x] [] (Ad (CJ e x)):=by
 refine Ay func121 (AeI _ e.M x) ⟨λa=>?_,AB ?_⟩
 .grind
 .unfold CJ As;rw[A8,ieq]
def Rb:Ai prog 177 [] [.agg (Af e)] [] (.agg (A6 (I1 e))):=by
 refine Ay func177 (AeJ _ e) ⟨trivial,Asi ⟨Asw ?_,lR,Ar2,trivial⟩⟩;have:decide ((e.S.Procs.length:Int)<16)=decide (e.S.Procs.length<16):=gD
 rw[this]<;>rfl
def Rf {err}:Ai prog 80 [] [Aa err] [] (.agg (AW (I9 err))) :=
 Ay func80 (AeQ _ err) ⟨trivial,lR⟩
def AeD {l}{esc i}(h1:esc<0->0<=i/\i<l.Out.length)(h2:0<=esc->esc<l.Esc.length/\0<=i/\i<(l.Esc.getD esc.toNat []).length) :
  Ai prog 75 [] [.agg (A4 l),Aa esc,Aa i] [] (.agg (DK ((bif decide (esc<0)then l.Out else l.Esc.getD esc.toNat []).getD i.toNat default))):=by
 refine Ay func75 (AiN _ l esc i) ⟨λh=>⟨h1 (by simpa using h),trivial,?_⟩,λh=>?_⟩
 .rw[h,Art];exact lR
 .have h0:0<=esc:=by simpa using h
  refine⟨⟨h0,(h2 h0).1⟩,(h2 h0).2,trivial,?_⟩;rw[h,Arq];exact lR
def Ma {ev}{out}{x}{l}:IP ev out (x::l)=bif decide ((ev x).2≠0)then([],(ev x).2)else IP ev (out++[(ev x).1]) l:=rfl
def WP {l}{hs'}{r}(c:∀x∈l,Ai prog 53 [] [.agg (Bq e),Aa x] [] (vII (Bc e x)))(q:l.length<=1048576)
  (h1:∀er,BC e l=([],er)->er≠0->leO [] hs'/\VV.le (.tup [.nl,Aa er]) r) (h2:∀out,BC e l=(out,0)->leO [.arr true 0 out.length 1 (AD out)] hs'/\VV.le (.tup [.ow 0 0 out.length,Aa 0]) r) :
  Ai prog 124 [] [.agg (Bq e),Ac true l] hs' r:=by
 refine Ay func124 (AiT hs' r e l) ?_;refine Au.own 1 6 1 (AD []) rfl ?_;change Au _ _ (Vn e l [] 0);refine Az (λg st=>∃(k:Nat)(out:List Int),k<=l.length/\g=l.length-k/\out.length<=k/\IP (Bc e) out (l.drop k)=BC e l/\st=Vn e l out k) ⟨_,Up.of ⟨0,[],Arv _,rfl,Arv _,rfl,rfl⟩⟩ ?_;rintro g st ⟨k,out,hk,rfl,s,h,rfl⟩;refine ArC (Ae3 hs' r e l out k _) ⟨λj=>?_,λm=>?_⟩
 .have a:k<l.length:=by have:=AQ j;omega
  have o:(k:Int).toNat=k:=oM
  rw[o];rw[Br (d:=0) a,Ma]at h;refine⟨⟨oM,oM⟩,Bc e (l.getD k 0),c _ (Av a),λp=>?_,λp=>⟨oM,l.length-(k+1),oM,Up.mk (hs':=[.box (Bq e),.arr true 0 (out.length+1) 1 (AD (out++[(Bc e (l.getD k 0)).1]))]) (AH _) ⟨Ob.le_refl _,ArT λi hi=>AO (Bu (f:=λn=>[Aa n]) (d:=0) (l:=out) (r:=[(Bc e (l.getD k 0)).1]) (F:=λi=>[.sc (.int .i64 (out.getD i 0))]) (λ_ _=>rfl) Fs (by simp;omega)),trivial⟩ ⟨k+1,out++[(Bc e (l.getD k 0)).1],oM,rfl,by simp;omega,?_,?_⟩⟩⟩
  .grind
  .grind
  .rw[Aj oM];unfold Vn;simp_all
 .have b:l.length<=k:=by have:=AP m;omega
  rw[ArU b]at h;exact h2 out h.symm
def OG {l}(a:∀x∈l,Ai prog 53 [] [.agg (Bq e),Aa x] [] (vII (Bc e x)))(f:l.length<=1048576) :
  Ai prog 124 [] [.agg (Bq e),Ac true l] [.arr true 0 (BC e l).1.length 1 (AD (BC e l).1)] (.tup [.ow 0 0 (BC e l).1.length,Aa (BC e l).2]):=by
 rcases c:BC e l with⟨out,er⟩
 by_cases g:er=0
 .subst g;refine WP a f (λer' h i=>?_) λout' h=>?_
  .grind
  .rw[c]at h;obtain rfl:out=out':=congrArg Prod.fst h;exact⟨⟨Ob.le_refl _,trivial⟩,lR⟩
 .have b:out=[]:=by
   have d:∀(l:List Int)(o:List Int),(IP (Bc e) o l).2≠0->(IP (Bc e) o l).1=[]:=by
    intro l
    induction l with
    | nil=>intro o h;exact absurd rfl h
    | cons x l ih =>
     intro o h;rw[Ma]at h |-;grind
   have:=d l [] (by have:IP (Bc e) [] l=(out,er):=c;rw[this];exact g);have j:IP (Bc e) [] l=(out,er):=c;rw[j]at this;exact this
  subst b;have h:=WP (hs':=[]) (r:=.tup [.nl,Aa er]) a f (λer' h i=>?_) λout' h=>?_
  .exact h.ownR 0 rfl 1 (AD [])
  .rw[c]at h;obtain rfl:er=er':=congrArg Prod.snd h;exact⟨trivial,lR⟩
  grind
end
def Bs {x}(a:x.mem):RD x x:=λ_ E _ h B =>
 (h.mem (E':=⟨E.fz,B,0,[]⟩) (m':=none) a rfl).less (λ_ h=>h.elim) λ_ h=>h
def IU:∀{l},l.all VV.mem->Kx l l
 | [],_=>trivial
 | x::l,h=>by
  simp only[Ati,Arr]at h;exact⟨Bs h.1,IU h.2⟩
def Nu {e}:RD (.agg (Bq e)) (.agg (Af e)) :=
 Xb ⟨Bs rfl,Bs rfl,Bs rfl,Bs rfl,Bs rfl,Bs rfl,Bs rfl,Bs rfl,Qu λ_ _=>IU rfl,Qu λ_ _=>IU rfl,Bs rfl,Bs rfl,Bs rfl,Bs rfl,Bs rfl,Bs rfl,trivial⟩
theorem AnM {e}:leS (.agg (Af e)) (.agg (Bq e)):=by
 refine Wb rfl λj x y a b=>?_
 rcases Ar5 j 16 with hj|hj
 .rcases(show j=0\/j=1\/j=2\/j=3\/j=4\/j=5\/j=6\/j=7\/j=8\/j=9\/j=10\/j=11\/j=12\/j=13\/j=14\/j=15 by omega)with rfl|rfl|rfl|rfl|rfl|rfl|rfl|rfl|rfl|rfl|rfl|rfl|rfl|rfl|rfl|rfl <;>
   (obtain rfl:=ArS a;obtain rfl:=ArS b;first | exact Dd _ | exact IM)
 .rw[AsI (by show(16:Nat)<=j;exact hj)]at a;cases a
section
variable {e : D.Env}
def SP (b:AS e.M)(hs:BX e.S)(x):Ai prog 53 [] [.agg (Bq e),Aa x] [] (vII (Bc e x)) :=
 (H5 b hs x).thaw (LI λx a=>by
  simp only[Asg,List.not_mem_nil,or_false]at a;rcases a with rfl|rfl<;>exact KN) ⟨Nu,Qv,trivial⟩
def Ap7 (b:AS e.M)(hs:BX e.S)(x):Ai prog 205 [] [.agg (Bq e),Aa x] [] (vII (AK e x)) :=
 (JZ b hs x).thaw (LI λx a=>by
  simp only[Asg,List.not_mem_nil,or_false]at a;rcases a with rfl|rfl<;>exact KN) ⟨Nu,Qv,trivial⟩
def KX (t)(v):Ai prog 204 [] [.agg (Bp t),Aa v] [] (Aa (H3 t v)):=by
 refine Ai.hand ⟨_,func204,rfl,kR⟩ λw E vs h i hB _ c=>?_
 obtain⟨j,us1,rfl,d,c⟩:=c.cons_inv;obtain⟨k,us2,rfl,f,c⟩:=c.cons_inv;obtain rfl:=c.nil_inv;obtain⟨a,b,rfl,va,vb⟩:=d.agg2_inv;rw[va.sc_inv,vb.sc_inv,f.sc_inv];refine(Arh t.Bits v t.Signed w).mono ?_;rintro r w' ⟨rfl,g⟩;exact⟨_,rfl,.sc,g⟩
structure AiJ (e:D.Env) (n:Int):Prop where
 ok:BJ e
 lo:1<=n
 hi:n<=e.S.Chans.length
 le:e.S.Chans.length<=32
 sh:0<=(BS e n).Shape/\(BS e n).Shape<e.M.Shapes.length
 q:(BS e n).Queue.length<=16
theorem Fk (g:AS e.M){x}(h:(AK e x).2=0):AiJ e (AK e x).1:=by
 unfold AK at h |-;cases c:decide (C7 e x≠0)with
 | true=>grind
 | false =>
  rw[c,Arq]at h;rw[Arq];obtain⟨b,_,_⟩:=MZ (x:=x) g (by simpa using c);have d:=Q9 b (a:=x) (by simpa using h);generalize(CW e (Qd e e.M.Exprs.length) x).1=n at d |-;have f:BS e n∈e.S.Chans:=Av oM;exact⟨b,d.1,d.2.1,d.2.2,(EW (b.chan f)).1,(b.fit.q _ f).1⟩
def Gx {a b:Nat}:((a) != (b:Int))=decide (a≠b):=gD
def AqW {a c}{l}{r}(h:(a,l,c)=r):leO [] []/\VV.le (.tup [.sc (.int .i64 a),Ac true l,.sc (.int .i64 c)]) (.tup [.sc (.int .i64 r.1),Ac true r.2.1,.sc (.int .i64 r.2.2)]):=by
 subst h;exact⟨trivial,lR⟩
def Aco {a c}{r}(h:(a,[],c)=r):leO [] []/\VV.le (.tup [.sc (.int .i64 a),.nl,.sc (.int .i64 c)]) (.tup [.sc (.int .i64 r.1),Ac true r.2.1,.sc (.int .i64 r.2.2)]):=by
 subst h;exact⟨trivial,Aso ⟨lR,Ar2,lR,trivial⟩⟩
def Jq {l}(h:(BC e l).2=0):(BC e l).1.length=l.length:=by
 have a:∀(l o:List Int),(IP (Bc e) o l).2=0->(IP (Bc e) o l).1.length=o.length+l.length:=by
  intro l
  induction l with
  | nil=>intro o _;rfl
  | cons x l ih =>
   intro o h;rw[Ma]at h |-;grind
 have:=a l [] h;simpa[BC]using this
def KY (f:List D.Type)(l:List Int)(k:Nat):List Int:=(List.range l.length).map λi=>if i<k then H3 (f.getD i default) (l.getD i 0)else l.getD i 0
theorem LX {f}{l}{k}:(KY f l k).length=l.length:=by simp[KY]
def LY {f}{l}{k i}(hi:i<l.length):(KY f l k).getD i 0=if i<k then H3 (f.getD i default) (l.getD i 0)else l.getD i 0:=by simp[KY,List.getD,hi]
def AcJ {f}{l}:KY f l 0=l:=by
 apply List.ext_getElem (by simp[KY]);intro i h1 h2;simp[KY,List.getD,h2]
theorem AhZ {f}{l}:KY f l l.length=Hr f l:=by
 unfold KY Hr;simp_all
def Rg {s}(p:AS e.M)(hs:BX e.S)(w:s.Args.length<=1048576) :
  Ai prog 172 [] [.agg (Bq e),.agg (An s)] [] (.tup [Aa (AC e s).1,Ac true (AC e s).2.1,Aa (AC e s).2.2]):=by
 have a:AC e s=bif decide ((AK e s.A).2≠0)then(0,[],(AK e s.A).2)
  else bif decide ((Bh e (AK e s.A).1).length≠s.Args.length)then(0,[],49)
  else bif decide ((BC e s.Args).2≠0)then(0,[],(BC e s.Args).2)
  else((AK e s.A).1,Hr (Bh e (AK e s.A).1) (BC e s.Args).1,0):=rfl
 generalize AC e s=r at a;refine Ay func172 (AiQ r e s rfl rfl) ⟨AK e s.A,Ap7 p hs s.A,λh=>Aco ?_,λh=>?_⟩
 .grind
 have h0:(AK e s.A).2=0:=by simpa using h
 rw[h0]at a;have d:=Fk p h0;generalize(AK e s.A).1=n at d a |-;have h1:=d.lo;have h2:=d.hi;have h3:=d.le;rw[AT oM oM];refine⟨oM,d.sh,λb=>Aco ?_,λb=>⟨BC e s.Args,OG (λx _=>SP p hs x) w,λq=>Aco ?_,λq=>?_⟩⟩
 .rw[Gx]at b;rw[a];have:decide ((Bh e n).length≠s.Args.length)=true:=b;rw[this]<;>rfl
 .rw[Gx]at b;rw[a,show decide ((Bh e n).length≠s.Args.length)=false from b,show decide ((BC e s.Args).2≠0)=true by simpa using q]<;>rfl
 rw[Gx]at b;have j:(BC e s.Args).2=0:=by simpa using q
 have m:=Jq j;rw[show decide ((Bh e n).length≠s.Args.length)=false from b,j]at a;have t:(Bh e n).length=s.Args.length:=Classical.not_not.1 (ArP b);change Au _ _ (Aq [(7,Aa n),(9,AE true (Bh e n)),(10,.ow 0 0 (BC e s.Args).1.length),(53,.ow 0 0 (BC e s.Args).1.length),(54,Aa (BC e s.Args).1.length),(55,Aa 0)] [.arr true 0 (BC e s.Args).1.length 1 (AD (BC e s.Args).1)]);generalize Bh e n=f at a t |-;generalize(BC e s.Args).1=l at a m |-;change r=(n,Hr f l,0)at a;refine Az (λg st=>∃k:Nat,k<=l.length/\g=l.length-k/\st=RO n f (KY f l k) k) ⟨_,Up.of ⟨0,Arv _,rfl,by unfold RO;rw[AcJ]<;>rfl⟩⟩ ?_;rintro g st ⟨k,hk,rfl,rfl⟩;refine ArC (AeS r n f _ k _) ⟨λo=>?_,λy=>AqW ?_⟩
 .rw[LX]at o;have c:k<l.length:=by have:=AQ o;omega
  have u:(k:Int).toNat=k:=oM
  rw[u,LX,LY c,ArG (Atu _)];refine⟨oM,oM,H3 (f.getD k default) (l.getD k 0),KX _ _,oM,l.length-(k+1),oM,Up.mk (hs':=[.arr true 0 l.length 1 (AD (KY f l (k+1)))]) (AH _) ⟨ArT λi hi=>AO ?_,trivial⟩ ⟨k+1,oM,rfl,?_⟩⟩
  .by_cases v:i=k
   .subst v;simp only[Asz,Art];unfold AD;rw[LY c,ArY (Asq _)]<;>rfl
   .have z:Nat.beq i k=false:=by grind[Aru]
    simp only[z,Arq];unfold AD;rw[LY hi,LY hi]
    by_cases h:i<k
    .grind
    .rw[ArG h,ArG oM]<;>rfl
  .rw[Aj oM];unfold RO;rw[LX]<;>rfl
 grind[LX,AP,AhZ]
def AeR {s}(a:AS e.M)(hs:BX e.S)(b:s.Args.length<=1048576) :
  Ai prog 172 [] [.agg (Af e),.agg (An s)] [] (.tup [Aa (AC e s).1,Ac true (AC e s).2.1,Aa (AC e s).2.2]) :=
 (Rg a hs b).frz rfl λj x y c d=>by grind[ArS,AnM,Dd]
end
def AqX {c}{l}{r}(h:(l,c)=r):leO [] []/\VV.le (.tup [Ac true l,.sc (.int .i64 c)]) (.tup [Ac true r.1,.sc (.int .i64 r.2)]):=by
 subst h;exact⟨trivial,lR⟩
def ApU {c}{r}(h:([],c)=r):leO [] []/\VV.le (.tup [.nl,.sc (.int .i64 c)]) (.tup [Ac true r.1,.sc (.int .i64 r.2)]):=by
 subst h;exact⟨trivial,Aso ⟨Ar2,lR,trivial⟩⟩
section
variable {e : D.Env}
def PK {s}(p:AS e.M)(hs:BX e.S)(v:s.Args.length<=1048576)(w:s.Match.length=s.Args.length) :
  Ai prog 211 [] [.agg (Af e),.agg (An s)] [] (.tup [Ac true (B7 e s).1,Aa (B7 e s).2]):=by
 have b:B7 e s=bif decide (Dn (Bc e) s.Args s.Match s.Args.length≠0)then([],Dn (Bc e) s.Args s.Match s.Args.length)else(C8 (Bc e) s.Args s.Match,0):=rfl
 generalize B7 e s=r at b;generalize f:Bc e=ev at b;have q:∀x,Ai prog 53 [] [.agg (Af e),Aa x] [] (vII (ev x)):=λx=>by rw[<- f];exact H5 p hs x
 refine Ay func211 (ZL r e s rfl rfl) ⟨⟨oM,oM,oM⟩,?_⟩;refine Az (λgg st=>∃k:Nat,k<=s.Args.length/\gg=s.Args.length-k/\(∀i,i<k->(Dr ev (s.Args.getD i 0) (s.Match.getD i 0)).2=0)/\st=RM e s (Cx ev s.Args s.Match k) k)
  ⟨s.Args.length,Up.mk (l':=[(2,.bp 0 0),(3,.bp 1 0),(6,.ow 2 0 (Cx ev s.Args s.Match 0).length),(16,Ac true s.Args),(17,Aa s.Args.length),(18,Aa ((0:Nat):Int))])
   (hs':=[.box (Af e),.box (An s),.arr true 0 (Cx ev s.Args s.Match 0).length 1 (AD (Cx ev s.Args s.Match 0))]) ?_ ?_ ⟨0,Arv _,rfl,λi hi=>oM,rfl⟩⟩ ?_
 .rw[C2];exact AH _
 .rw[C2];refine⟨Ob.le_refl _,Ob.le_refl _,ArT λi hi=>AO ?_,trivial⟩;have c:AD (Cx ev s.Args s.Match 0) i=[Aa 0]:=by
   unfold AD;rw[Gl oM,ArG (Asm _)]
  refine Eq.trans ?_ c.symm;rfl
 .rintro gg st ⟨k,hk,rfl,m,rfl⟩;refine ArC (WC r e s _ k _) ⟨λg=>?_,λh=>AqX ?_⟩
  .have n:k<s.Args.length:=by have:=AQ g;omega
   have j:(k:Int).toNat=k:=oM
   rw[j];refine⟨oM,oM,λl=>?_,λl=>⟨ev (s.Args.getD k 0),q _,λc=>ApU ?_,λc=>⟨by rw[C2];omega,?_⟩⟩⟩
   .rw[AU]at l;have h1:=ArD l;have hv:Dr ev (s.Args.getD k 0) (s.Match.getD k 0)=(0,0):=by unfold Dr;grind
    have t:Cx ev s.Args s.Match k=Cx ev s.Args s.Match (k+1):=by
     unfold Cx;grind
    rw[t,Aj oM];exact⟨s.Args.length-(k+1),oM,Up.of gD⟩
   .have a:decide (s.Match.getD k 0=1)=true:=gD
    have hv:Dr ev (s.Args.getD k 0) (s.Match.getD k 0)=ev (s.Args.getD k 0):=by unfold Dr;rw[a]<;>rfl
    have u:(Dr ev (s.Args.getD k 0) (s.Match.getD k 0)).2≠0:=by rw[hv];simpa using c
    have o:Dn ev s.Args s.Match s.Args.length=(ev (s.Args.getD k 0)).2:=by
     unfold Dn;grind[On]
    grind
   .have a:decide (s.Match.getD k 0=1)=true:=gD
    have hv:Dr ev (s.Args.getD k 0) (s.Match.getD k 0)=ev (s.Args.getD k 0):=by unfold Dr;rw[a]<;>rfl
    have h2:(ev (s.Args.getD k 0)).2=0:=by simpa using c
    rw[Aj oM];refine⟨s.Args.length-(k+1),oM,Up.mk (l':=[(2,.bp 0 0),(3,.bp 1 0),(6,.ow 2 0 (Cx ev s.Args s.Match (k+1)).length),(16,Ac true s.Args),(17,Aa s.Args.length),(18,Aa ((k+1:Nat):Int))])
     (hs':=[.box (Af e),.box (An s),.arr true 0 (Cx ev s.Args s.Match (k+1)).length 1 (AD (Cx ev s.Args s.Match (k+1)))]) ?_ ?_ ⟨k+1,oM,rfl,BV m (by rw[hv];exact h2),rfl⟩⟩
    .grind[C2,AH]
    .rw[C2,C2];refine⟨Ob.le_refl _,Ob.le_refl _,ArT λi hi=>AO ?_,trivial⟩;show(bif i.beq k then[Aa (ev (s.Args.getD k 0)).1]else[Aa ((Cx ev s.Args s.Match k).getD i 0)])=[Aa ((Cx ev s.Args s.Match (k+1)).getD i 0)];rw[Gl hi,Gl hi];cases b:i.beq k with
     | true =>
      simp_all
     | false =>
      have:i≠k:=Nat.ne_of_beq_eq_false b;rw[Arq]
      by_cases d:i<k
      .grind
      .rw[ArG d,ArG oM]
  .obtain rfl:k=s.Args.length:=by have:=AP h;omega
   have o:Dn ev s.Args s.Match s.Args.length=0:=Je m;rw[b,o,Rq]<;>rfl
def Za {c}{l mt}{any}(d:Len c.Queue.length)(f:Len mt.length):Ai prog 182 [] [.agg (Am c),Ac true l,Ac true mt,Ad any] [] (Aa (F7 c l mt any)) :=
 (UP d f).frz rfl λj x y a b=>by
  match j,a,b with
  | 0,a,b=>grind[ArS,Dd]
  | 1,a,b=>obtain rfl:=ArS a;obtain rfl:=ArS b;exact IM
  | 2,a,b=>grind[ArS,Dd]
  | 3,a,b=>grind[ArS,Dd]
  | j+4,a,_=>simp at a
def PM {s}(f:AS e.M)(hs:BX e.S)(i:s.Args.length<=1048576)(j:s.Match.length=s.Args.length) :
  Ai prog 175 [] [.agg (Af e),.agg (An s)] [] (Kt (Bg e s)):=by
 have b:Bg e s=bif decide ((AK e s.A).2≠0)then(0,-1,(AK e s.A).2)
  else bif decide ((Bh e (AK e s.A).1).length≠s.Args.length)then(0,-1,49)
  else bif decide ((B7 e s).2≠0)then(0,-1,(B7 e s).2)
  else((AK e s.A).1,F7 (BS e (AK e s.A).1) (B7 e s).1 s.Match (decide (s.N.tmod 2=1)),0):=rfl
 generalize Bg e s=r at b;refine Ay func175 (Z2 r e s rfl) ⟨AK e s.A,JZ f hs s.A,λh=>Gi ?_,λh=>?_⟩
 .grind
 have h0:(AK e s.A).2=0:=by simpa using h
 rw[h0]at b;have d:=Fk f h0;generalize(AK e s.A).1=n at d b |-;have h1:=d.lo;have h2:=d.hi;have h3:=d.le;have h4:=d.q;rw[AT oM oM];refine⟨oM,d.sh,λa=>Gi ?_,λa=>⟨B7 e s,PK f hs i j,λg=>Gi ?_,λg=>⟨oM,dZ,F7 (BS e n) (B7 e s).1 s.Match (s.N.tmod 2==1),Za (c:=BS e n) (by unfold Len;omega) (by unfold Len;omega),Gi ?_⟩⟩⟩
 .rw[Gx]at a;rw[b,show decide ((Bh e n).length≠s.Args.length)=true from a]<;>rfl
 .rw[Gx]at a;rw[b,show decide ((Bh e n).length≠s.Args.length)=false from a,show decide ((B7 e s).2≠0)=true by simpa using g]<;>rfl
 .rw[Gx]at a;rw[b,show decide ((Bh e n).length≠s.Args.length)=false from a,show decide ((B7 e s).2≠0)=false by simpa using g,ieq]<;>rfl
def Ams {s}(b:AS e.M)(hs:BX e.S)(c:s.Args.length<=1048576)(d:s.Match.length=s.Args.length) :
  Ai prog 175 [] [.agg (Bq e),.agg (An s)] [] (Kt (Bg e s)) :=
 (PM b hs c d).thaw (LI λx a=>by
  simp only[Asg,List.not_mem_nil,or_false]at a;rcases a with rfl|rfl|rfl<;>exact KN) ⟨Nu,Xb ⟨Bs rfl,Bs rfl,Bs rfl,Bs rfl,Bs rfl,Bs rfl,Bs rfl,trivial⟩,trivial⟩
def WD {s}{c}{m}(d:AS e.M)(hs:BX e.S)(f:s.Args.length<=1048576)(g:s.Kind=6->s.Match.length=s.Args.length) :
  Ai prog 239 [] [.agg (Af e),.agg (An s),Aa c,Ac true m] [] (Ad (Fy e s c m)):=by
 have j:Fy e s c m=bif decide (s.Kind≠6)||(decide (1<s.N)||decide (s.Args.length≠m.length))then false
  else bif decide ((AK e s.A).2≠0)||decide ((AK e s.A).1≠c)then false
  else bif decide ((B7 e s).2≠0)then false else decide (F7 ⟨0,[m]⟩ (B7 e s).1 s.Match false=0):=rfl
 generalize Fy e s c m=b at j;have k:(bif bif s.Kind != (6:Int)then true else decide (s.N > (1:Int))then true else(s.Args.length:Int) != (m.length:Int))=(decide (s.Kind≠6)||(decide (1<s.N)||decide (s.Args.length≠m.length))):=gD
 refine Ay func239 (ZM b e s c m) ⟨λh=>AB ?_,λh=>⟨AK e s.A,JZ d hs s.A,λh2=>AB ?_,λh2=>?_⟩⟩
 .grind
 .grind
 .rw[k]at h;rw[Bj,AU,AU]at h2;have hk:s.Kind=6:=gD
  have a:=g hk;refine⟨B7 e s,PK d hs f a,F7 ⟨0,[m]⟩ (B7 e s).1 s.Match false,λ_=>?_,AB ?_⟩
  .have n:=Za (c:=⟨0,[m]⟩) (l:=(B7 e s).1) (mt:=s.Match) (any:=false) (by unfold Len;simp) (by unfold Len;omega);refine n.le trivial ⟨Asi ⟨lR,Asy (.inl rfl) λi hi=>AO ?_,trivial⟩,lR,lR,lR,trivial⟩ trivial lR;grind
  grind
def Rc (h:Ci e):Ai prog 81 [] [.agg (Af e)] [] (.tup [Ad (Be e).1,Aa (Be e).2]):=by
 have a:Be e=bif decide ((CU e).Provided<0)then(true,0)else(decide ((Bc e (CU e).Provided).1≠0),(Bc e (CU e).Provided).2):=rfl
 generalize Be e=r at a;refine Ay func81 (AeM r e) ⟨CU e,Re h,λh1=>⟨trivial,?_⟩,λh1=>⟨Bc e (CU e).Provided,H5 h.ok.wf h.small _,trivial,?_⟩⟩
 .rw[a,h1];exact lR
 simp_all[AU,VV.le_refl]
end
def PQ {n}:∀{ws} {many k many'},HD n many k ws=some many'->∀w∈ws,w.length<=1024/\∀t∈w,inP n t.To
 | [],_,_,_,_,w,a=>by cases a
 | v::r,many,k,many',h,w,a=>by
  unfold HD at h;cases g:(decide (0<k)&&decide (v.length=0))with
  | true=>grind
  | false =>
  cases b:decide (1024<many+v.length)with
  | true=>grind
  | false =>
  cases c:CL v.length (λi=>inP n (v.getD i default).To)with
  | false=>grind
  | true =>
   rw[g,b,c,Arq,Arq,Art]at h;rcases Asg.1 a with rfl|a
   .have:=ArP b;exact⟨oM,(CR (d:=default) (f:=λt:D.Trans=>inP n t.To)).1 c⟩
   .exact PQ h w a
def SB {n}{final}:∀{ls}{many i},IJ n final many i ls->∀l∈ls,∀w∈B4 l,w.length<=1024/\∀t∈w,inP n t.To
 | [],_,_,_,l,a,_,_=>by cases a
 | v::r,many,i,h,l,a,w,hw=>by
  unfold IJ at h;cases c:O6 final i v with
  | true=>grind
  | false =>
   rw[c,Arq]at h;cases b:HD n many 0 (B4 v)with
   | none=>rw[b]at h;cases h
   | some many' =>
    rw[b]at h;rcases Asg.1 a with rfl|a
    .exact PQ b w hw
    .exact SB h l a w hw
def SI {p}(h:FG p):∀l∈p.Locs,∀w∈B4 l,w.length<=1024/\∀t∈w,inP p.Locs.length t.To:=by
 unfold FG at h;simp only[Arr]at h;exact SB h.2
def AkR {m}(h:Hq m)(i)(hi:i<m.Procs.length):DO m i:=by
 obtain⟨_,_,h3⟩:=Dj h;exact Ge (f:=λi:Nat=>DO m i) (by unfold JN at h3;omega) i hi
def Ai0 {m}(h:Hq m){i}(hi:i<m.Procs.length){l}(a:l∈(m.Procs.getD i default).Locs){w}(b:w∈B4 l){t}(c:t∈w):Mt m i t.S:=by
 have h1:=AkR h i hi;unfold DO at h1;simp only[Arr]at h1;have h2:=(CR (d:=default) (f:=λl:D.Loc=>V5 m i l)).1 h1.1 l a;unfold V5 at h2;have h3:=(CR (d:=[]) (f:=λw=>Kv m i w)).1 h2 w b;unfold Kv at h3;exact(CR (d:=default) (f:=λt:D.Trans=>Mt m i t.S)).1 h3 t c
structure DW (m:D.Model) (s:D.Stmt):Prop where
 st:AF m s=true
 wf:Qs s
def DW.args {m}{s}(h:DW m s):s.Args.length<=1048576:=h.wf.Args.1
def DW.k1 {m}{s}(h:DW m s)(hk:s.Kind=1):0<=s.A/\s.A<m.Exprs.length:=by
 have:=h.st;unfold AF at this;rw[ArY (.inl hk)]at this;simp only[Arr]at this;exact CB.1 this.1.1
def DW.k2 {m}{s}(h:DW m s)(hk:s.Kind=2):0<=s.B/\s.B<m.Exprs.length:=by
 have:=h.st;unfold AF at this;rw[ArG oM,ArY hk]at this;simp only[Arr]at this;exact CB.1 this.1.2
def DW.k6 {m}{s}(h:DW m s)(hk:s.Kind=6):s.Match.length=s.Args.length:=by
 have:=h.st;unfold AF at this;rw[ArG oM,ArG oM,ArG oM,ArG oM,ArY hk]at this;simp only[Arr]at this;have:=this.1.1.1.2;unfold Gp Cl at this;grind
structure ZJ (m:D.Model) (n:Nat) (ws:List D.Trans):Prop where
 len:ws.length<=1024
 st:∀t∈ws,DW m t.S
 to:∀t∈ws,inP n t.To=true
section
variable {e : D.Env}
def Ci.ws (h:Ci e){ws}(a:ws∈B4 (CA e)):ZJ e.M (CU e).Locs.length ws:=by
 have f:=h.facts;have hi:(DB e e.Pid).Type_.toNat<e.M.Procs.length:=oM
 have d:CA e∈(CU e).Locs:=Av oM;have hg:=SI (E4 (Dj h.ok.may).2.1 _ hi).2 _ d _ a;refine⟨hg.1,λt c=>⟨?_,?_⟩,hg.2⟩
 .have:=Ai0 h.ok.may hi d a c;unfold Mt at this;grind
 .have b:=h.wloc;rcases Asg.1 a with rfl|a
  .exact(b.Out.2 t c).S
  .exact((b.Esc.2 _ a).2 t c).S
def AoE {b}{er}{l}{r}(h:(⟨b,er,l⟩:Ab)=r):leO [] []/\VV.le (.agg [.sc (.bool b),.sc (.int .i64 er),BD true l]) (.agg (A6 r)):=by
 subst h;exact⟨trivial,lR⟩
def Dq {b}{er}{r}(h:(⟨b,er,[]⟩:Ab)=r):leO [] []/\VV.le (.agg [.sc (.bool b),.sc (.int .i64 er),.nl]) (.agg (A6 r)):=by
 subst h;exact⟨trivial,Asi ⟨lR,lR,Ar2,trivial⟩⟩
abbrev MtS (e:D.Env)(mt:Int->List Int->List Pn):Prop:=∀c m,Ai prog 213 [] [.agg (Af e),Aa c,Ac true m] [] (BD true (mt c m))
def WE {s}{self}{mt}(h:Ci e)(hs:DW e.M s)(i:self=false->MtS e mt) :
  Ai prog 178 [] [.agg (Af e),.agg (An s),Ad self] [] (.agg (A6 (FB e mt s self))):=by
 have j:=h.ok.wf;have d:=h.small;have c:FB e mt s self=bif decide ((AK e s.A).2≠0)then⟨true,(AK e s.A).2,[]⟩
  else bif decide ((Bh e (AK e s.A).1).length≠s.Args.length)then⟨true,49,[]⟩
  else bif decide (0<(B8 e.M (BS e (AK e s.A).1).Shape).Room)then⟨decide (((BS e (AK e s.A).1).Queue.length:Int)<(B8 e.M (BS e (AK e s.A).1).Shape).Room),0,[]⟩
  else bif self then⟨false,0,[]⟩
  else bif decide ((AC e s).2.2≠0)then⟨true,(AC e s).2.2,[]⟩
  else⟨decide (0<(mt (AK e s.A).1 (AC e s).2.1).length),0,mt (AK e s.A).1 (AC e s).2.1⟩:=rfl
 generalize FB e mt s self=r at c;refine Ay func178 (ZQ r e s self rfl rfl rfl) ⟨AK e s.A,JZ j d s.A,λh1=>Dq ?_,λh1=>?_⟩
 .grind
 have h0:(AK e s.A).2=0:=by simpa using h1
 rw[h0]at c;have f:=Fk j h0;generalize(AK e s.A).1=n at f c |-;have h2:=f.lo;have h3:=f.hi;have h4:=f.le;rw[AT oM oM];refine⟨oM,f.sh,λb=>Dq ?_,λb=>⟨λg=>Dq ?_,λg=>⟨λa=>Dq ?_,λa=>⟨AC e s,AeR j d hs.args,λk=>Dq ?_,λk=>⟨mt n (AC e s).2.1,i a _ _,AoE ?_⟩⟩⟩⟩⟩
 .rw[Gx]at b;rw[c,show decide ((Bh e n).length≠s.Args.length)=true from b]<;>rfl
 .rw[Gx]at b;rw[c,show decide ((Bh e n).length≠s.Args.length)=false from b,show decide (0<(B8 e.M (BS e n).Shape).Room)=true from g]<;>rfl
 .rw[Gx]at b;rw[c,show decide ((Bh e n).length≠s.Args.length)=false from b,show decide (0<(B8 e.M (BS e n).Shape).Room)=false from g,a]<;>rfl
 .rw[Gx]at b;rw[c,show decide ((Bh e n).length≠s.Args.length)=false from b,show decide (0<(B8 e.M (BS e n).Shape).Room)=false from g,a,show decide ((AC e s).2.2≠0)=true by simpa using k]<;>rfl
 .rw[Gx]at b;rw[c,show decide ((Bh e n).length≠s.Args.length)=false from b,show decide (0<(B8 e.M (BS e n).Shape).Room)=false from g,a,show decide ((AC e s).2.2≠0)=false by simpa using k];simp_all
def ZN {s}{self}{mt}(h:Ci e)(hs:DW e.M s)(c:self=false->MtS e mt) :
  Ai prog 129 [] [.agg (Af e),.agg (An s),Ad self] [] (.agg (A6 (Cg e mt s self))):=by
 have f:=h.ok.wf;have b:=h.small;have g:Cg e mt s self=if s.Kind=1 then(bif CJ e s.A then I1 e else⟨decide ((Bc e s.A).1≠0)||decide ((Bc e s.A).2≠0),(Bc e s.A).2,[]⟩)
  else if s.Kind=2 then(bif CJ e s.B then I1 e else⟨true,0,[]⟩)
  else if s.Kind=9 then⟨decide (e.S.Chans.length<32),0,[]⟩
  else if s.Kind=5 then FB e mt s self
  else if s.Kind=6 then⟨decide (0<=(Bg e s).2.1)||decide ((Bg e s).2.2≠0),(Bg e s).2.2,[]⟩
  else if s.Kind=7 then⟨false,0,[]⟩else⟨true,0,[]⟩:=rfl
 generalize Cg e mt s self=r at g;have lf:∀{a:Ab},a=r->leO [] []/\VV.le (.agg (A6 a)) (.agg (A6 r)):=λh=>by subst h;exact⟨trivial,lR⟩
 refine Ay func129 (AeE r e s self rfl rfl rfl) ⟨λk1=>⟨CJ e s.A,Jt λ_=>(hs.k1 (by simpa using k1)).2,λd=>⟨I1 e,Rb,lf ?_⟩,λd=>⟨Bc e s.A,H5 f b _,Dq ?_⟩⟩,
  λk1=>⟨λk2=>⟨CJ e s.B,Jt λ_=>(hs.k2 (by simpa using k2)).2,λd=>⟨I1 e,Rb,lf ?_⟩,λd=>Dq ?_⟩,
  λk2=>⟨λi=>Dq ?_,λi=>⟨λj=>⟨FB e mt s self,WE h hs c,lf ?_⟩,λj=>⟨λk6=>⟨Bg e s,PM f b hs.args (hs.k6 (by simpa using k6)),Dq ?_⟩,λk6=>⟨λk=>Dq ?_,λk=>Dq ?_⟩⟩⟩⟩⟩⟩
 .grind
 .grind
 .grind
 .grind
 .rw[g,ArG (by simpa using k1),ArG (by simpa using k2),ArY (by simpa using i)];have:decide ((e.S.Chans.length:Int)<32)=decide (e.S.Chans.length<32):=gD
  rw[this]
 .grind
 .grind
 .grind
 grind
end
section
variable {e : D.Env} {mt:Int->List Int->List Pn} {ws:List D.Trans} {self:Bool}
def Qn (e:D.Env)(mt:Int->List Int->List Pn)(ws:List D.Trans)(self:Bool)(k:Nat):List Ab:=(List.range ws.length).map λi=>if i<k then Cg e mt (ws.getD i default).S self else default
def H8 (e:D.Env)(mt:Int->List Int->List Pn)(ws:List D.Trans)(self:Bool)(k:Nat):List Ab:=(List.range ws.length).map λi=>if i<k then Ek e mt ws self i else Cg e mt (ws.getD i default).S self
def SW {k}:(Qn e mt ws self k).length=ws.length:=by simp[Qn]
theorem H7 {k}:(H8 e mt ws self k).length=ws.length:=by simp[H8]
def Ow {k i}(hi:i<ws.length):(Qn e mt ws self k).getD i default=if i<k then Cg e mt (ws.getD i default).S self else default:=by simp[Qn,List.getD,hi]
def Jf {k i}(hi:i<ws.length):(H8 e mt ws self k).getD i default=if i<k then Ek e mt ws self i else Cg e mt (ws.getD i default).S self:=by simp[H8,List.getD,hi]
theorem Zu:H8 e mt ws self ws.length=Dv e mt ws self:=by
 unfold H8 Dv;simp_all
def Ama:Qn e mt ws self ws.length=H8 e mt ws self 0:=by
 unfold H8 Qn;simp_all
def SY:(Dv e mt ws self).length=ws.length:=by simp[Dv]
def Ac8 {i k:Nat}(h:i≠k):Nat.beq i k=false:=by grind[Aru]
def TM {n}(h:Ci e)(o:ZJ e.M n ws)(m:self=false->MtS e mt) :
  Ai prog 84 [] [.agg (Af e),Ao true ws,Ad self] [] (BG true (Dv e mt ws self)):=by
 have p:=o.len;refine Ay func84 (AiS _ e ws self rfl rfl) ⟨⟨oM,oM,oM⟩,?_⟩;refine Az (λg st=>∃k:Nat,k<=ws.length/\g=ws.length-k/\st=Vm e ws self ws.length (Ep (Qn e mt ws self k)) (Ez e mt ws self k) k)
  ⟨ws.length,Up.mk (l':=[(1,Ao true ws),(2,Ad self),(3,.bp 0 0),(7,.ow 1 0 ws.length),(8,Ad false),(16,Ao true ws),(17,Aa ws.length),(18,Aa ((0:Nat):Int))]) (hs':=[.box (Af e),.arr true 0 ws.length 3 (Ep (Qn e mt ws self 0))]) (AH _) ⟨Ob.le_refl _,ArT λi hi=>?_,trivial⟩ ⟨0,Arv _,rfl,rfl⟩⟩ ?_
 .have q:Ep (Qn e mt ws self 0) i=A6 default:=by
   unfold Ep;rw[Ow oM,ArG (Asm _)]
  rw[q];exact⟨lR,lR,Ar2,trivial⟩
 rintro g st ⟨k,hk,rfl,rfl⟩;refine ArC (Ae2 _ e ws self _ _ _ k _ rfl) ⟨λd=>?_,λj=>?_⟩
 .have a:k<ws.length:=by have:=AQ d;omega
  have b:(k:Int).toNat=k:=oM
  rw[b];refine⟨⟨oM,oM⟩,Cg e mt (ws.getD k default).S self,ZN h (o.st _ (Av a)) m,⟨oM,oM⟩,?_⟩;refine Au.le (hs':=[.box (Af e),.arr true 0 ws.length 3 (Ep (Qn e mt ws self (k+1)))]) (AH _) ⟨Ob.le_refl _,ArT λi hi=>AO ?_,trivial⟩ ?_
  .unfold Ep;rw[Ow hi,Ow hi]
   by_cases c:i=k
   .simp_all
   .rw[Ac8 c,Arq];grind
  .have r:Aq [(1,Ao true ws),(2,Ad self),(3,.bp 0 0),(7,.ow 1 0 ws.length),(8,Ad (Ez e mt ws self k)),(9,Aa k),(16,Ao true ws),(17,Aa ws.length),(18,Aa k)] [.box (Af e),.arr true 0 ws.length 3 (Ep (Qn e mt ws self (k+1)))]=Vl e ws self (Qn e mt ws self (k+1)) (Ez e mt ws self k) k k:=by
    unfold Vl;rw[SW]
   refine Eq.mpr (congrArg (Au _ _) r) ?_;refine Dm Ak Al kR (Ae0 _ e ws self _ _ k k _) ⟨λ_=>by rw[SW];omega,ws.length-(k+1),oM,Up.of ⟨k+1,a,rfl,?_⟩⟩;rw[Aj oM,b,Ow a,ArY (Asq _),SW];have:Ez e mt ws self (k+1)=bif Ez e mt ws self k then true else(Cg e mt (ws.getD k default).S self).is:=by
    rw[Bj]<;>rfl
   unfold Vm;rw[this]<;>rfl
 .obtain rfl:k=ws.length:=by have:=AP j;omega
  generalize f:Ez e mt ws self ws.length=some;refine Az (λg st=>∃k:Nat,k<=ws.length/\g=ws.length-k/\st=Nz ws (H8 e mt ws self k) some k) ⟨ws.length,Up.of ⟨0,Arv _,rfl,by unfold Nz;rw[H7,Ama]<;>rfl⟩⟩ ?_;rintro g st ⟨k,hk,rfl,rfl⟩;refine ArC (Ae1 _ ws _ some k _) ⟨λd=>?_,λj=>⟨trivial,?_⟩⟩
  .have a:k<ws.length:=by have:=AQ d;omega
   have b:(k:Int).toNat=k:=oM
   rw[b];have ek:(bif(ws.getD k default).S.Kind==(7:Int)then !some else false)=(decide ((ws.getD k default).S.Kind=7)&&!(Ez e mt ws self ws.length)):=by rw[A8,ieq,f]
   have ea:Ek e mt ws self k=bif decide ((ws.getD k default).S.Kind=7)&&!(Ez e mt ws self ws.length)then{Cg e mt (ws.getD k default).S self with is:=true}else Cg e mt (ws.getD k default).S self:=rfl
   refine⟨⟨oM,oM⟩,λl=>⟨by rw[H7];omega,ws.length-(k+1),oM,Up.mk (hs':=[.arr true 0 (H8 e mt ws self k).length 3 (Ep (H8 e mt ws self (k+1)))]) (AH _) ⟨ArT λi hi=>AO ?_,trivial⟩ ⟨k+1,a,rfl,?_⟩⟩,λl=>⟨ws.length-(k+1),oM,Up.of ⟨k+1,a,rfl,?_⟩⟩⟩
   .rw[ek]at l;rw[H7]at hi;rw[Jf a,ArG (Atu _)];unfold Ep;rw[Jf hi,Jf hi]
    by_cases c:i=k
    .subst c;rw[ArY (Asq _),Asz,Art,ea,l,Art]<;>rfl
    .rw[Ac8 c,Arq];grind
   .rw[Aj oM];unfold Nz;grind[H7]
   .rw[ek]at l;have em:H8 e mt ws self k=H8 e mt ws self (k+1):=by
     unfold H8;grind
    grind[Aj]
  grind[AP,Zu,VV.le_refl]
end
def Y5:Nat->List Ab->Int
 | _,[]=>-1
 | k,x::r=>bif x.is then(k:Int)else Y5 (k+1) r
def UL {k}{x}{r}:Y5 k (x::r)=bif x.is then(k:Int)else Y5 (k+1) r:=rfl
def UK:∀{l}{k},decide (Y5 k l>=0)=isSome l
 | [],k=>by simp[Y5,isSome]
 | x::r,k=>by
  have ih:=UK (l:=r) (k:=k+1);unfold isSome at *;rw[Ata,UL];grind
abbrev AoG:VV:=.fn (.func 241) []
def ZW {x}:Ai prog 241 [] [.agg (A6 x)] [] (Ad x.is) :=
 Ay func241 (AeU _ x) (AB rfl)
def ZZ {l}(n:l.length<=1048576):Ai prog 245 [] [BG true l,AoG] [] (Aa (Y5 0 l)):=by
 refine Ay func245 (AeW _ l) ?_;refine AA l.length (λk=>Qx l k) (λk=>Y5 0 l=Y5 k (l.drop k)) rfl ?_;intro k hk i J next
 refine ArC (Z0 _ l k J) ⟨λf=>?_,λg=>BY ?_⟩
 .have a:k<l.length:=by have:=AQ f;omega
  have h:(k:Int).toNat=k:=oM
  rw[h];rw[Br (d:=default) a,UL]at i;refine⟨oM,(l.getD k default).is,ZW,λj=>BY ?_,λj=>next _ a ?_ (Up.of ?_)⟩
  .grind
  .grind
  grind[Aj]
 .have b:l.length<=k:=by have:=AP g;omega
  rw[i,ArU b]<;>rfl
def WN {l}(a:l.length<=1048576):Ai prog 240 [] [BG true l,AoG] [] (Ad (isSome l)) :=
 Ay func240 (Z5 _ l) ⟨_,ZZ a,AB UK⟩
section
variable {e : D.Env} {c:Int} {m:List Int}
def Ui {i}:∀{ws}{k},(DS e c m i k ws).length<=ws.length
 | [],_=>Arx _
 | t::r,k=>by
  have:=Ui (i:=i) (ws:=r) (k:=k+1);unfold DS;cases Fy e t.S c m<;>simp<;>omega
def R7 {i}{k}{t}{r}:DS e c m i k (t::r)=(bif Fy e t.S c m then[⟨e.Pid,i,k⟩]else[])++DS e c m i (k+1) r:=rfl
def Akl {out}{x}{G:Nat->List VV}(a:G 0=Hf x){i}(hi:i<out.length+1):(bif i.blt out.length then DA out i else G (i-out.length))=DA (out++[x]) i :=
 Bu (f:=Hf) (d:=default) (l:=out) (r:=[x]) (F:=DA out) (λ_ _=>rfl) gD (by simp;omega)
def TJ {n}{i}{ws}(h:Ci e)(l:ZJ e.M n ws) :
  Ai prog 238 (hsR e c m []) [Aa i,Ao true ws,.bp 0 0,.bp 1 0,.bp 2 0,.bp 3 0] (hsR e c m (DS e c m i 0 ws)) (Ad (decide (0<(DS e c m i 0 ws).length)||isSome (Dv e Hp ws true))):=by
 have s:=l.len;generalize t:DS e c m i 0 ws=r;refine Ay func238 (AiO r [] _ e c m i ws) ?_;refine Az (λg st=>∃(k:Nat)(out:List Pn),k<=ws.length/\g=ws.length-k/\out.length<=k/\out++DS e c m i k (ws.drop k)=r/\st=RN e c m out i ws k) ⟨ws.length,Up.of ⟨0,[],Arv _,rfl,Arv _,t,rfl⟩⟩ ?_;rintro g st ⟨k,out,hk,rfl,v,b,rfl⟩;refine ArC (AeL r _ e c m out i ws k _ rfl) ⟨λo=>?_,λp=>?_⟩
 .have a:k<ws.length:=by have:=AQ o;omega
  have q:(k:Int).toNat=k:=oM
  rw[q];rw[Br (d:=default) a,R7]at b;have hs:=l.st _ (Av (d:=default) a);refine⟨⟨oM,oM⟩,Fy e (ws.getD k default).S c m,WD h.ok.wf h.small hs.args hs.k6,λu=>⟨oM,ws.length-(k+1),oM,
   Up.mk (hs':=[.box (Af e),.box [Aa c],.box [Ac true m],.box [.ow 4 0 (out.length+1)],.arr true 0 (out.length+1) 3 (DA (out++[Pn.mk e.Pid i k]))]) (AH _) ⟨Ob.le_refl _,Ob.le_refl _,Ob.le_refl _,Ob.le_refl _,ArT λj hj=>AO (Akl (x:=Pn.mk e.Pid i k) (G:=λj=>List.take 3 (List.drop (j*3) (Hf (Pn.mk e.Pid i k)))) rfl hj),trivial⟩ ⟨k+1,out++[Pn.mk e.Pid i k],a,rfl,by simp;omega,?_,?_⟩⟩,λu=>⟨ws.length-(k+1),oM,Up.of ⟨k+1,out,a,rfl,oM,?_,?_⟩⟩⟩
  .grind
  .rw[Aj oM];unfold RN hsR;grind
  .grind
  grind[Aj]
 .have f:ws.length<=k:=by have:=AP p;omega
  rw[ArU f]at b;have b:out=r:=by simpa[DS]using b
  subst b;refine⟨Dv e Hp ws true,λ_=>TM h l (λh=>by cases h),isSome (Dv e Hp ws true),λ_=>WN (by rw[SY];omega),⟨Ob.le_refl _,Ob.le_refl _,Ob.le_refl _,Ob.le_refl _,Ob.le_refl _,trivial⟩,Asw ?_⟩;grind
def JK {i}{ws}{r}:HU e c m ((i,ws)::r)=bif decide (0<(DS e c m i 0 ws).length)||isSome (Dv e Hp ws true)then DS e c m i 0 ws else HU e c m r:=rfl
def U6 {n}{l}(h:Ci e)(t:l.Esc.length<=1048576)(q:∀ws∈B4 l,ZJ e.M n ws) :
  Ai prog 82 (hsR e c m []) [.agg (A4 l),Aqa] (hsR e c m (HU e c m (Fb l))) (.tup []):=by
 generalize s:HU e c m (Fb l)=r;refine Ay func82 (WK r [] e c m l) ?_;refine Az (λg st=>∃k:Nat,k<=l.Esc.length/\g=l.Esc.length-k/\HU e c m (SO k (l.Esc.drop k)++[(-1,l.Out)])=r/\st=Lt e c m [] l k) ⟨l.Esc.length,Up.of ⟨0,Arv _,rfl,s,rfl⟩⟩ ?_;rintro g st ⟨k,hk,rfl,b,rfl⟩;refine ArC (U7 r e c m [] l k _) ⟨λj=>?_,λo=>?_⟩
 .have a:k<l.Esc.length:=by have:=AQ j;omega
  have p:(k:Int).toNat=k:=oM
  rw[p];rw[Br (d:=[]) a]at b;unfold SO at b;rw[AsM,JK]at b;refine⟨⟨oM,oM⟩,(DS e c m k 0 (l.Esc.getD k []),decide (0<(DS e c m k 0 (l.Esc.getD k [])).length)||isSome (Dv e Hp (l.Esc.getD k []) true)),TJ h (q _ (ArI _ (Av a))),λf=>?_,λf=>⟨l.Esc.length-(k+1),oM,Up.of ⟨k+1,a,rfl,?_,?_⟩⟩⟩
  .have f:(decide (0<(DS e c m k 0 (l.Esc.getD k [])).length)||isSome (Dv e Hp (l.Esc.getD k []) true))=true:=f;rw[f,Art]at b;subst b;exact⟨⟨Ob.le_refl _,Ob.le_refl _,Ob.le_refl _,Ob.le_refl _,Ob.le_refl _,trivial⟩,lR⟩
  .grind
  grind[ArJ,Asa,ArP,Aj]
 .have i:l.Esc.length<=k:=by have:=AP o;omega
  rw[ArU i]at b;refine⟨(DS e c m (-1) 0 l.Out,decide (0<(DS e c m (-1) 0 l.Out).length)||isSome (Dv e Hp l.Out true)),TJ h (q _ (Arw ..)),?_,lR⟩;have h0:DS e c m (-1) 0 l.Out=r:=by
   rw[<- b];show _=HU e c m ([]++[(-1,l.Out)]);rw[AsZ,JK];cases f:(decide (0<(DS e c m (-1) 0 l.Out).length)||isSome (Dv e Hp l.Out true))with
   | true=>rfl
   | false =>
    rw[ArJ]at f;exact Asa gD
  subst h0;exact⟨Ob.le_refl _,Ob.le_refl _,Ob.le_refl _,Ob.le_refl _,Ob.le_refl _,trivial⟩
def Ug {N}:∀{ls},(∀p∈ls,p.2.length<=N)->(HU e c m ls).length<=N
 | [],_=>Arv _
 | (i,ws)::r,h=>by
  have h1:=h _ (Arw ..);have h2:=Ug (ls:=r) λp hp=>h p (ArI _ hp)
  have h3:=Ui (e:=e) (c:=c) (m:=m) (i:=i) (ws:=ws) (k:=0);rw[JK];grind
def Ux:∀{r} {k} {p},p∈SO k r->p.2∈r
 | [],_,_,h=>by cases h
 | w::r,k,p,h=>by
  rcases Asg.1 h with rfl|h
  .exact Arw ..
  .exact ArI _ (Ux h)
def Acm {l}{p}(h:p∈Fb l):p.2∈B4 l:=by
 rcases ArX.1 h with h|h
 .exact ArI _ (Ux h)
 .rw[Ar0.1 h];exact Arw ..
def OT (h:Ci e):(ER e c m).length<=1024:=by
 unfold ER;cases(!(Be e).1||decide ((Be e).2≠0))with
 | true=>exact Arv _
 | false=>exact Ug λp hp=>(h.ws (Acm hp)).len
def ZS (h:Ci e):Ai prog 231 [] [.agg (Af e),Aa c,Ac true m] [] (BD true (ER e c m)):=by
 have a:ER e c m=bif !(Be e).1||decide ((Be e).2≠0)then[]else HU e c m (Fb (CA e)):=rfl
 generalize ER e c m=r at a;refine Ay func231 (AeK r e c m) ⟨Be e,Rc h,λh1=>?_,λh1=>⟨CA e,Ll h,r,?_,trivial,lR⟩⟩
 .rw[Bj,AU]at h1;rw[h1,Art]at a;rw[a];exact⟨trivial,Ar2⟩
 .rw[Bj,AU]at h1;rw[h1,Arq]at a;rw[a];exact Ai.ownB (i:=3) (j:=0) (cs:=[.nl]) rfl rfl 3 (DA []) (U6 h h.wloc.Esc.1 λws b=>h.ws b)
def Ci.at (h:Ci e){k}(hk:k<e.S.Procs.length):Ci (BQ e k):=⟨⟨h.ok.fits,h.ok.may,h.ok.wf,by show -1<=(k:Int);omega,by show(k:Int)<_;exact Int.ofNat_lt.2 hk⟩,by show 0<=(k:Int);omega⟩
def JP (h:Ci e):∀{n},n<=e.S.Procs.length->(CP e c m n).length<=n*1024
 | 0,_=>Arv _
 | n+1,hn=>by
  have h1:=JP h (n:=n) oM;have h2:=OT (c:=c) (m:=m) (h.at (k:=n) oM);unfold CP;grind
def WH (h:Ci e):MtS e (B0 e):=by
 intro c m;have hp:=h.ok.fit.p;refine Ay func213 (ZU _ e c m) ?_;refine Au.own 3 7 3 (DA []) rfl ?_;refine Az (λg st=>∃k:Nat,k<=e.S.Procs.length/\g=e.S.Procs.length-k/\st=Ny e c m (CP e c m k) k) ⟨e.S.Procs.length,Up.of ⟨0,Arv _,rfl,rfl⟩⟩ ?_;rintro g st ⟨k,hk,rfl,rfl⟩;have o:=JP (c:=c) (m:=m) h hk;refine ArC (WI _ e c m _ k _) ⟨λj=>?_,λn=>⟨trivial,?_⟩⟩
 .have a:k<e.S.Procs.length:=by have:=AQ j;omega
  have s:=OT (c:=c) (m:=m) (h.at a);refine⟨λb=>⟨ER (BQ e k) c m,ZS (h.at a),oM,λi _=>rfl,e.S.Procs.length-(k+1),oM,
   Up.mk (hs':=[.box (Af e),.arr true 0 ((CP e c m k).length+(ER (BQ e k) c m).length) 3 (DA (CP e c m k++ER (BQ e k) c m))]) (AH _) ⟨Ob.le_refl _,ArT λi hi=>AO ?_,trivial⟩ ⟨k+1,a,rfl,?_⟩⟩,λb=>⟨e.S.Procs.length-(k+1),oM,Up.of ⟨k+1,a,rfl,?_⟩⟩⟩
  .exact Bu (f:=Hf) (d:=default) (l:=CP e c m k) (r:=ER (BQ e k) c m) (F:=DA (CP e c m k)) (λ_ _=>rfl) (λ_ _=>rfl) (by simpa using hi)
  .rw[AU]at b;have q:CP e c m (k+1)=CP e c m k++ER (BQ e k) c m:=by
    show CP e c m k++(bif decide ((k:Int)≠e.Pid)then _ else _)=_;rw[b,Art]
   rw[Aj oM,q];unfold Ny;grind
  .rw[AU]at b;have q:CP e c m (k+1)=CP e c m k:=by
    show CP e c m k++(bif decide ((k:Int)≠e.Pid)then _ else _)=_;grind
   grind[Aj]
 .obtain rfl:k=e.S.Procs.length:=by have:=AP n;omega
  exact lR
end
section
variable {e : D.Env}
theorem Acn (h:Ci e){c}{m}:(B0 e c m).length<=16384:=by
 have h1:=JP (c:=c) (m:=m) h (Arx _);have h2:=h.ok.fit.p;have h3:e.S.Procs.length*1024<=16*1024:=ArO _ h2;exact Ar9 h1 h3
theorem Afx (h:Ci e){s}{self}:(Cg e (B0 e) s self).wth.length<=16384:=by
 have a:([]:List Pn).length<=16384:=Arv _;unfold Cg;split
 .cases CJ e s.A<;>exact a
 split
 .cases CJ e s.B<;>exact a
 split
 .exact a
 split
 .unfold FB;grind[Acn]
 grind
theorem Ait {mt}{ws}{self}{i}:(Ek e mt ws self i).wth=(Cg e mt (ws.getD i default).S self).wth:=by
 unfold Ek;grind
def SX (h:Ci e){ws}{self}:∀x∈Dv e (B0 e) ws self,x.wth.length<=16384:=by
 intro x a;unfold Dv at a;grind[AsD,Ait,Afx]
def OJ {i}{k}{x}{r}:C6 i k (x::r)=FV i k x++C6 i (k+1) r:=rfl
def AaW {out}{x}{G:Nat->List VV}(a:G 0=AW x){i}(hi:i<out.length+1):(bif i.blt out.length then Fa out i else G (i-out.length))=Fa (out++[x]) i :=
 Bu (f:=AW) (d:=default) (l:=out) (r:=[x]) (F:=Fa out) (λ_ _=>rfl) gD (by simp;omega)
def TL {n}{i}{ws}(h:Ci e)(P:ZJ e.M n ws) :
  Ai prog 83 (hsW e []) [Aa i,Ao true ws,.bp 0 0,.bp 1 0] (hsW e (C6 i 0 (Dv e (B0 e) ws false))) (Ad (decide (0<(C6 i 0 (Dv e (B0 e) ws false)).length))):=by
 have R:(Dv e (B0 e) ws false).length<=1024:=by rw[SY];exact P.len
 have l:=SX h (ws:=ws) (self:=false);have m:=TM h P (self:=false) (λ_=>WH h);generalize Dv e (B0 e) ws false=L at R l m;generalize S:C6 i 0 L=r;refine Ay func83 (AiP r [] _ e i ws) ⟨L,m,?_⟩;refine Az (λg st=>∃(k:Nat)(out:List Wy),k<=L.length/\g=L.length-k/\out.length<=k*16385/\out++C6 i k (L.drop k)=r/\st=Jz e out i L k) ⟨L.length,Up.of ⟨0,[],Arv _,rfl,Arv _,S,rfl⟩⟩ ?_;rintro g st ⟨k,out,hk,rfl,T,f,rfl⟩;refine ArC (AeP r _ e out i L k _ rfl rfl rfl) ⟨λE=>?_,λF=>?_⟩
 .have b:k<L.length:=by have:=AQ E;omega
  have H:(k:Int).toNat=k:=oM
  rw[H];rw[Br (d:=default) b,OJ]at f;have U:=l _ (Av (d:=default) b);generalize L.getD k default=x at f U |-;have V:k*16385<=1024*16385:=ArO _ oM;have u:∀(J:St->Prop)(out1:List Wy),out1.length<=k*16385+1->out1++(x.wth.map (FO i k x.err)++C6 i (k+1) (L.drop (k+1)))=r ->
    (∀a,Up (λst=>∃out2:List Wy,out2.length<=(k+1)*16385/\out2++C6 i (k+1) (L.drop (k+1))=r/\st=Jz e out2 i L ((k+1:Nat):Int)) a->J a) ->
    Au ((BO prog tb CZ Ib true f83 (hsW e r) (Ad (decide (0<r.length)))).loop [1,0,1,0] J) [1,1,0,0,1,1,1,1,0] (Nw e out1 i L k ⟨i,k,-1,-1,-1,x.err⟩ x.wth 0):=by
   intro J out1 I K hJ;refine Az (λg st=>∃(j:Nat)(w:Wy)(o:List Wy),j<=x.wth.length/\g=x.wth.length-j/\o.length<=k*16385+1+j/\o++((x.wth.drop j).map (FO i k x.err)++C6 i (k+1) (L.drop (k+1)))=r/\(w.Esc=i/\w.Way=k/\w.Err=x.err)/\st=Nw e o i L k w x.wth j)
    ⟨x.wth.length,Up.of ⟨0,_,out1,Arv _,rfl,I,K,⟨rfl,rfl,rfl⟩,rfl⟩⟩ ?_
   rintro g st ⟨j,w,o,hj,rfl,W,v,⟨X,Y,Z⟩,rfl⟩;refine ArC (AeO r _ e o i L k w x.wth j _ _ rfl) ⟨λy=>?_,λz=>?_⟩
   .have c:j<x.wth.length:=by have:=AQ y;omega
    have A:(j:Int).toNat=j:=oM
    rw[A];rw[Br (d:=default) c,Ask,AsM]at v;generalize x.wth.getD j default=p at v |-;rw[X,Y,Z];refine⟨⟨oM,oM⟩,oM,x.wth.length-(j+1),oM,Up.mk (hs':=[.box (Af e),.box [.ow 2 0 (o.length+1)],.arr true 0 (o.length+1) 6 (Fa (o++[FO i k x.err p])),.box (AW (FO i k x.err p))]) (AH _)
     ⟨Ob.le_refl _,Ob.le_refl _,ArT λt N=>AO (AaW (x:=FO i k x.err p) (G:=λt=>List.take 6 (List.drop (t*6) (AW (FO i k x.err p)))) rfl N),Ob.le_refl _,trivial⟩ ⟨j+1,FO i k x.err p,o++[FO i k x.err p],c,rfl,by simp;omega,gD,⟨rfl,rfl,rfl⟩,?_⟩⟩
    rw[Aj oM];unfold Nw hsW;grind
   .have O:x.wth.length<=j:=by have:=AP z;omega
    grind[ArU,AsL,AsZ,Up.of,Aj]
  have next:∀a,Up (λst=>∃out2:List Wy,out2.length<=(k+1)*16385/\out2++C6 i (k+1) (L.drop (k+1))=r/\st=Jz e out2 i L ((k+1:Nat):Int)) a ->
    ∃Q,Q<L.length-k/\Up (λst=>∃(k:Nat)(out:List Wy),k<=L.length/\Q=L.length-k/\out.length<=k*16385/\out++C6 i k (L.drop k)=r/\st=Jz e out i L k) a:=by
   rintro a ⟨s',hc,out2,h1,h2,h3⟩;exact⟨L.length-(k+1),oM,s',hc,k+1,out2,b,rfl,h1,h2,h3⟩
  have ez:((x.wth.length:Int)==0)=decide (x.wth.length=0):=gD
  refine⟨⟨oM,oM⟩,λB=>⟨oM,?_⟩,λB=>?_⟩
  .rw[A8,ez]at B;have q:FV i k x=Wy.mk i k (-1) (-1) (-1) x.err::x.wth.map (FO i k x.err):=by unfold FV;rw[B]<;>rfl
   rw[q]at f;refine Au.le (hs':=[.box (Af e),.box [.ow 2 0 (out.length+1)],.arr true 0 (out.length+1) 6 (Fa (out++[Wy.mk i k (-1) (-1) (-1) x.err])),.box (AW (Wy.mk i k (-1) (-1) (-1) x.err))]) (AH _)
     ⟨Ob.le_refl _,Ob.le_refl _,ArT λt N=>AO (AaW (x:=Wy.mk i k (-1) (-1) (-1) x.err) (G:=λt=>List.take 6 (List.drop (t*6) (AW (Wy.mk i k (-1) (-1) (-1) x.err)))) rfl N),Ob.le_refl _,trivial⟩ ?_
   have s:=u _ (out++[Wy.mk i k (-1) (-1) (-1) x.err]) (by simp;omega) (by rw[Asf];exact f) next
   unfold Nw hsW at s;rw[ArA]at s;exact s
  .rw[A8,ez]at B;have q:FV i k x=x.wth.map (FO i k x.err):=by unfold FV;rw[B]<;>rfl
   rw[q]at f;exact u _ out (Nat.le_succ_of_le T) f next
 .have C:L.length<=k:=by have:=AP F;omega
  rw[ArU C]at f;have f:out=r:=by simpa[C6]using f
  subst f;refine⟨⟨Ob.le_refl _,Ob.le_refl _,Ob.le_refl _,trivial⟩,Asw ?_⟩;simp_all
def MK {i}{ws}{r}:Ff e ((i,ws)::r)=bif decide (0<(C6 i 0 (Dv e (B0 e) ws false)).length)then C6 i 0 (Dv e (B0 e) ws false)else Ff e r:=rfl
def U4 {n}{l}(h:Ci e)(q:l.Esc.length<=1048576)(o:∀ws∈B4 l,ZJ e.M n ws) :
  Ai prog 82 (hsW e []) [.agg (A4 l),Ap9] (hsW e (Ff e (Fb l))) (.tup []):=by
 generalize p:Ff e (Fb l)=r;refine Ay func82 (WJ r [] e l) ?_;refine Az (λg st=>∃k:Nat,k<=l.Esc.length/\g=l.Esc.length-k/\Ff e (SO k (l.Esc.drop k)++[(-1,l.Out)])=r/\st=Ls e [] l k) ⟨l.Esc.length,Up.of ⟨0,Arv _,rfl,p,rfl⟩⟩ ?_;rintro g st ⟨k,hk,rfl,b,rfl⟩;refine ArC (U5 r e [] l k _) ⟨λi=>?_,λj=>?_⟩
 .have a:k<l.Esc.length:=by have:=AQ i;omega
  have m:(k:Int).toNat=k:=oM
  rw[m];rw[Br (d:=[]) a]at b;unfold SO at b;rw[AsM,MK]at b;refine⟨⟨oM,oM⟩,(C6 k 0 (Dv e (B0 e) (l.Esc.getD k []) false),decide (0<(C6 k 0 (Dv e (B0 e) (l.Esc.getD k []) false)).length)),TL h (o _ (ArI _ (Av a))),λc=>?_,λc=>⟨l.Esc.length-(k+1),oM,Up.of ⟨k+1,a,rfl,?_,?_⟩⟩⟩
  .have c:decide (0<(C6 k 0 (Dv e (B0 e) (l.Esc.getD k []) false)).length)=true:=c;rw[c,Art]at b;subst b;exact⟨⟨Ob.le_refl _,Ob.le_refl _,Ob.le_refl _,trivial⟩,lR⟩
  .grind
  grind[Asa,ArP,Aj]
 .have f:l.Esc.length<=k:=by have:=AP j;omega
  rw[ArU f]at b;refine⟨(C6 (-1) 0 (Dv e (B0 e) l.Out false),decide (0<(C6 (-1) 0 (Dv e (B0 e) l.Out false)).length)),TL h (o _ (Arw ..)),?_,lR⟩;have h0:C6 (-1) 0 (Dv e (B0 e) l.Out false)=r:=by
   rw[<- b];show _=Ff e ([]++[(-1,l.Out)]);rw[AsZ,MK];cases c:decide (0<(C6 (-1) 0 (Dv e (B0 e) l.Out false)).length)with
   | true=>rfl
   | false=>exact Asa gD
  subst h0;exact⟨Ob.le_refl _,Ob.le_refl _,Ob.le_refl _,trivial⟩
def V9 {w}{r}(h:[w]=r):leO [] []/\VV.le (.sl true 1 6 λi=>List.take 6 (List.drop (i*6) (AW w))) (AZ true r):=by
 subst h;refine⟨trivial,Asy (.inl rfl) λi hi=>AO ?_⟩;obtain rfl:i=0:=oM
 rfl
def Kn (h:Ci e):Ai prog 52 [] [.agg (Af e)] [] (AZ true (A5 e)):=by
 have hp:=h.ok.fit.p;have a:A5 e=bif decide ((DB e e.Pid).Loc=(CU e).Final)then(bif decide (e.Pid=(e.S.Procs.length:Int)-1)then[I9 0]else[])
  else bif decide ((Be e).2≠0)then[I9 (Be e).2]
  else bif !(Be e).1 then[]else Ff e (Fb (CA e)):=rfl
 generalize A5 e=r at a;refine Ay func52 (ZT r e rfl) ⟨⟨h.p0,h.ok.pid.2⟩,CU e,Re h,λh1=>⟨λh2=>⟨I9 0,Rf,V9 ?_⟩,λh2=>?_⟩,
  λh1=>⟨Be e,Rc h,λh2=>⟨I9 (Be e).2,Rf,V9 ?_⟩,λh2=>⟨λh3=>?_,λh3=>⟨CA e,Ll h,Ff e (Fb (CA e)),?_,?_⟩⟩⟩⟩
 .rw[ieq]at h1;rw[AT oM oM,ieq]at h2;rw[a,show decide ((DB e e.Pid).Loc=(CU e).Final)=true from h1,h2]<;>rfl
 .rw[ieq]at h1;rw[AT oM oM,ieq]at h2;rw[a,show decide ((DB e e.Pid).Loc=(CU e).Final)=true from h1,h2];exact⟨trivial,Ar2⟩
 .rw[ieq]at h1;rw[AU]at h2;rw[a,show decide ((DB e e.Pid).Loc=(CU e).Final)=false from h1,h2]<;>rfl
 .rw[ieq]at h1;rw[AU]at h2;rw[a,show decide ((DB e e.Pid).Loc=(CU e).Final)=false from h1,h2,h3];exact⟨trivial,Ar2⟩
 .exact Ai.ownB (i:=1) (j:=0) (cs:=[.nl]) rfl rfl 6 (Fa []) (U4 h h.wloc.Esc.1 λws b=>h.ws b)
 .rw[ieq]at h1;rw[AU]at h2;rw[a,show decide ((DB e e.Pid).Loc=(CU e).Final)=false from h1,h2,h3];exact⟨trivial,lR⟩
def Rh (b:AS e.M)(hs:BX e.S):Ai prog 78 [] [.agg (Af e)] [] (.tup [AZ true (FP e).1,Aa (FP e).2]):=by
 have a:FP e=bif decide (H4 e≠0)then([],H4 e)else(A5 e,0):=rfl
 generalize FP e=r at a;refine Ay func78 (Ae5 r e) ⟨H4 e,WO b hs,λh1=>?_,λh1=>⟨A5 e,Kn (Ah4 b (by simpa using h1)),?_⟩⟩
 .rw[AU]at h1;rw[a,h1];exact⟨trivial,Aso ⟨Ar2,lR,trivial⟩⟩
 .rw[AU]at h1;rw[a,h1];exact⟨trivial,lR⟩
def Y4 (w:Wy):Nat->List Wy->Int
 | _,[]=>-1
 | k,x::r=>bif decide (w=x)then(k:Int)else Y4 w (k+1) r
def UJ {w x}{k}{r}:Y4 w k (x::r)=bif decide (w=x)then(k:Int)else Y4 w (k+1) r:=rfl
def Y3 {w}:∀{l}{k},decide (Y4 w k l>=0)=decide (w∈l)
 | [],k=>by simp[Y4]
 | x::r,k=>by
  have ih:=Y3 (w:=w) (l:=r) (k:=k+1);rw[UJ];grind
def Aqi {w x:Wy}:(w.Esc==x.Esc&&(w.Way==x.Way&&(w.With==x.With&&(w.WithEsc==x.WithEsc&&(w.WithWay==x.WithWay&&(w.Err==x.Err&&true))))))=decide (w=x):=by
 obtain⟨a,b,c,d,f,g⟩:=w;obtain⟨b1,b2,b3,b4,h,i⟩:=x;rw[Ase];simp
def ZX {l}{w}(j:l.length<=1099511627776):Ai prog 120 [] [AZ true l,.agg (AW w)] [] (Aa (Y4 w 0 l)):=by
 refine Ay func120 (AeV _ l w) ?_;refine AA l.length (λk=>Qw l w k) (λk=>Y4 w 0 l=Y4 w k (l.drop k)) rfl ?_;intro k hk h J next
 refine ArC (ZY _ l w k J rfl) ⟨λc=>?_,λf=>BY ?_⟩
 .have a:k<l.length:=by have:=AQ c;omega
  have g:(k:Int).toNat=k:=oM
  rw[g,Aqi];rw[Br (d:=default) a,UJ]at h;refine⟨oM,λi=>BY ?_,λi=>next _ a ?_ (Up.of ?_)⟩
  .grind
  .grind
  grind[Aj]
 .have b:l.length<=k:=by have:=AP f;omega
  rw[h,ArU b]<;>rfl
def WM {l}{w}(a:l.length<=1099511627776):Ai prog 73 [] [AZ true l,.agg (AW w)] [] (Ad (decide (w∈l))) :=
 Ay func73 (Z4 _ l w) ⟨_,ZX a,AB Y3⟩
end
def AtL (w:World)(n:Nat)(R:Nat->Nat->Nat->Prop)(v:Value):Prop :=
 ∃ao cap,v=.slice ao n cap/\n<=cap/\cap<=maxLen/\(0<n->∃b off,ao=some ⟨b,off,none⟩/\b<w.heap.size/\∀i,i<n->R b off i)
def AtI (w:World)(xs:List Int)(v:Value):Prop:=AtL w xs.length (λb off i=>w.cell? ⟨b,off+i,none⟩=some (.int .i64 (xs.getD i 0))) v
section
variable {w : World} {E:A2} {m:Option Phi} {v:Value} {fz:Bool}
def Arc {xs}(h:V w E m (Ac fz xs) v):AtI w xs v:=by
 obtain⟨ao,cap,rfl,h1,h2,h3⟩:=V.sl_inv h;refine⟨ao,cap,rfl,h1,h2,λhp=>?_⟩;obtain⟨b,off,rfl,c,_,_,u,d,hv⟩:=h3 hp;refine⟨b,off,rfl,c,λi hi=>?_⟩;have a:=d i 0 _ hi rfl;have e:=(hv i 0 _ hi rfl).sc_inv;rw[e]at a;simpa using a
end
set_option maxHeartbeats 1000000 in
def Wo {w}{ao}{cap}{xs:List Int}(h1:xs.length<=cap)(h2:cap<=maxLen)(q:xs.length*8<=140737488355328)(h3:0<xs.length->∃a,ao=some a/\∀i,i<xs.length->w.cell? (a.add i)=some (.int .i64 (xs.getD i 0))) :
  Calls prog 30 #[.slice ao xs.length cap] w λe w'=>∃g,e=.returned g/\w'.ownsRow w.heap.size 2 1 g xs.length (xs.map (Value.int .i64))/\Below w.heap.size w w':=by
 have p:∀(w:World)(a:Option Addr)(n c h l:Nat),(binOp .eql 89 (.slice a n c) (.slice none h l)).run prog w=.ok (.bool a.isNone) w:=λw a n c h l=>Lib.run_eql_slice_nil w _ _ a n c h l underlying89
 obtain⟨ki,khi,khz0,khz1,khz2⟩:=EU Y2;cases ao with
 | none =>
  have h0:xs=[]:=gD
  subst h0;clear h3
  go_enter func30,ntmps30
  go_wp2
  go_ret
  simp_all[World.ownsRow_nil,Below.refl]
 | some a =>
  have m:∀(j:Nat)(u:Value),(xs.map (Value.int .i64))[j]?=some u->w.cell? (a.add j)=some u:=gD
  have HN:=Lib.hid m;clear h3 m;have d:=h2;unfold maxLen at d
  go_enter func30,ntmps30
  go_wp2_with (at_builtin;refine wpList_append_own _ rfl _ _ 89 rfl w.heap.size 2 ki (.int .i64 0) 1 8 underlying89 khi khz0 khz1 khz2 rfl dZ _ _ _ rfl (World.ownsRow_made w #[] 0 (Arx _) (Arv _) sM) a xs.length cap (xs.map (Value.int .i64)) rfl ?qc1 ?qc2 ?qc3 ?qc4 ?qc5 ?qc6 ?_)
  case qc1=>simp
  case qc2=>intro j u hj;have:=HN.out j u hj;exact Lib.cell?_alloc_some _ this
  case qc3=>intro u o;simp at o;obtain⟨x,_,rfl⟩:=o;rfl
  case qc4=>unfold maxLen;omega
  case qc5=>omega
  case qc6=>simp
  intro g r f b _
  go_wp2
  go_ret
  exact⟨g,rfl,by simpa using f,((Below.refl _ w).alloc (Arx _) _).grown b sM (by intro k hk;simp[Value.ownBlock]at hk;omega)⟩
def AjN:Shp:={α:=List D.Trans,enc:=λy=>([],Ao true y)}
def XD:Shp:={α:=D.Proc,enc:=λy=>([],.agg (A9 y))}
def Bn (f:FuncId):Shp :=
 bif Nat.beq f 118||Nat.beq f 63||Nat.beq f 112||Nat.beq f 119||Nat.beq f 5 then Vx else bif Nat.beq f 66 then AfK else bif Nat.beq f 67 then Aqy else bif Nat.beq f 43 then AdQ else bif Nat.beq f 23 then RV else bif Nat.beq f 36 then AjN else bif Nat.beq f 31 then XD else XF
def Jh:Ann:={keep:=fun
  | [0,1,0,1,1,1,1,1,1]=>[1,2,6,7,8]
  | _=>[]}
def M7:Ann:={keep:=fun
  | [0,1,0,1,1,1]=>[1,3,4]
  | _=>[]}
def M5:Ann:={keep:=fun
  | [0,1,0,1]=>[0,1,5]
  | _=>[]}
def M6:Ann:={keep:=fun
  | [0,1,0,1,1]=>[1,3]
  | _=>[]}
def M8:Ann:={keep:=fun
  | [0,1,0,1]=>[0,1,5]
  | _=>[]}
def BN:Ann:={cut:=(λ| [1,1,1,1]=>true | [1,1,1,1,1]=>true | [1,1,1,1,1,1]=>true | [1,1,1,1,1,1,1]=>true | _=>false),keep:=fun
  | [0,1,1,0,1,0,1,1,1,1,1,1,1]=>[1,3,5]
  | [1,1,1,1]=>[1,3,4]
  | [1,1,1,1,1]=>[1,3,4]
  | [1,1,1,1,1,1]=>[1,3]
  | [1,1,1,1,1,1,1]=>[1,3]
  | _=>[]}
def Pv:Ann:={keep:=fun
  | [0,1,0,1,1,1,1,1]=>[1,5,9]
  | _=>[]}
def Ka:Ann:={keep:=fun
  | [0,1,0,1,1,1]=>[2,3,4,10]
  | _=>[]}
def L9:Ann:={keep:=fun
  | [0,1,0,1,1,1,1,1]=>[1,2,5,6,7,8]
  | _=>[]}
def FK:Ann:={keep:=fun
  | [0,1,0,1,1,1,1,1,1,1]=>[1,2,5,7,8]
  | [0,1,1,1,1,0,0,1,0,0,1,0,1,1,1,1,1,1,1]=>[1,2,5,7,8,10,11]
  | [0,1,1,1,0,0,1,0,0,1,1,1,1,0,0,1,0,0,1,0,1,1,1,1,1,1,1]=>[1,2,5,7,8,10,11,12]
  | _=>[]}
def L8:Ann:={keep:=fun
  | [0,1,0,1,1,0,1,1,1,1,1,1,1,1,1,0,1,0,1,1,1,1,1,1,1]=>[2,3,12]
  | _=>[]}
def Pw:Ann:={keep:=fun
  | [0,1,0,1,1,1,1,1]=>[1,4,10,11]
  | _=>[]}
def Ie:Ann:={keep:=fun
  | [0,1,0,1,1,1,1,1]=>[1,3,5,8]
  | _=>[]}
def Ew:Ann:={keep:=fun
  | [0,1,0,1,1]=>[1,2,5,6]
  | [0,1,1,0,0,1,0,0,1,0,1,1]=>[1,2,5,6,7,8]
  | [0,1,0,0,1,0,0,1,1,0,0,1,0,0,1,0,1,1]=>[1,2,5,6,7,8,9]
  | _=>[]}
def DH:Ann:={keep:=fun
  | [0,1,0,1,1,1,1,1]=>[1,5]
  | [0,1,0,1,1,1,1,1,1]=>[1,7]
  | [0,1,0,1,1,1,1,1,1,1,1,1]=>[1,8,9]
  | [0,1,1,1,1,0,0,1,0,0,1,0,1,1,1,1,1,1,1,1,1]=>[1,8,9,11,12]
  | _=>[]}
def Ih:Ann:={keep:=fun
  | [0,1,0,1,1,1,1]=>[1,7,8]
  | [0,1,0,1,1,1,1,1,1]=>[1,10]
  | _=>[]}
def Lc:Ann:={keep:=fun
  | [0,1,0,1,1]=>[0,1,5]
  | _=>[]}
def Ig:Ann:={keep:=fun
  | [0,1,0,1,1,1,1]=>[2,3,6]
  | [0,1,1,1,0,0,1,0,0,1,0,1,1,1,1]=>[2,3,6,7,8]
  | [0,1,0,1,1,1,1,1]=>[2,3,9]
  | _=>[]}
def Lv (t:D.Type)(v most n i:Int):St:=Aq [(1,Aa v),(2,.bp 0 0),(6,Aa most),(7,Aa n),(8,Aa i)] [.box (Bp t)]
def ND (v:D.Var)(n k:Int):St:=Aq [(1,.bp 0 0),(3,Aa n),(4,Aa k)] [.box (BP v)]
def Xo (t:List D.Type)(v:List Int)(k:Int):St:=Aq [(0,AE true t),(1,Ac true v),(5,Aa k)] []
def NC (s:D.Shape)(k:Int):St:=Aq [(1,.bp 0 0),(3,Aa k)] [.box (BH s)]
def NG (fz:Bool)(a:Int)(l:List Int)(k:Int):St:=Aq [(0,Aa a),(1,Ac fz l),(5,Aa k)] []
def QI (x:D.Expr)(l:List Int)(k:Int):St:=Aq [(1,.bp 0 0),(3,.ow 1 0 l.length),(5,Aa k)] [.box (AL x),.arr true 0 l.length 1 (AD l)]
def GU (x:D.Expr)(l:List Int)(n:Int):St:=Aq [(1,.bp 0 0),(3,.ow 1 0 l.length),(4,Aa n)] [.box (AL x),.arr true 0 l.length 1 (AD l)]
def IY (x:D.Expr)(l:List Int):St:=Aq [(1,.bp 0 0),(3,.ow 1 0 l.length)] [.box (AL x),.arr true 0 l.length 1 (AD l)]
def QC (a:Int)(v:D.Var)(k:Int):St:=Aq [(1,Aa a),(5,.bp 0 0),(9,Aa k)] [.box (BP v)]
def JA (m:D.Model)(args mt:List Int)(k:Int):St:=Aq [(2,Ac true args),(3,Ac true mt),(4,.bp 0 0),(10,Aa k)] [.box (Ag m)]
def QJ (m:D.Model)(a:Int)(x:D.Expr)(n k:Int):St:=Aq [(1,Aa a),(2,.bp 0 0),(5,.bp 1 0),(6,Aa n),(7,.ow 2 0 3),(8,Aa k)] [.box (Ag m),.box (AL x),.arr true 0 3 1 (AD [x.A,x.B,x.C])]
def Hw (m:D.Model)(a:Int)(p:D.Proc)(many k:Int):St:=Aq [(1,Aa a),(2,.bp 0 0),(5,.bp 1 0),(7,Aa many),(8,Aa k)] [.box (Ag m),.box (A9 p)]
def IX (m:D.Model)(a:Int)(p:D.Proc)(many k:Int)(ws:List (List D.Trans))(j:Int):St:=Aq [(1,Aa a),(2,.bp 0 0),(5,.bp 1 0),(7,Aa many),(8,Aa k),(10,BA true ws),(11,Aa j)] [.box (Ag m),.box (A9 p)]
def Lu (m:D.Model)(a:Int)(p:D.Proc)(many k:Int)(ws:List (List D.Trans))(j h:Int):St:=Aq [(1,Aa a),(2,.bp 0 0),(5,.bp 1 0),(7,Aa many),(8,Aa k),(10,BA true ws),(11,Aa j),(12,Aa h)] [.box (Ag m),.box (A9 p)]
def NB (m:D.Model)(s:D.Stmt)(k:Int):St:=Aq [(2,.bp 0 0),(3,.bp 1 0),(12,Aa k)] [.box (Ag m),.box (An s)]
def QE (m:D.Model)(a:Int)(l:List Int)(k:Int):St:=Aq [(1,Aa a),(4,.bp 0 0),(10,Ac true l),(11,Aa k)] [.box (Ag m)]
def KC (m:D.Model)(a:Int)(s:D.Stmt)(k:Int):St:=Aq [(1,Aa a),(3,.bp 0 0),(5,.bp 1 0),(8,Aa k)] [.box (Ag m),.box (An s)]
def IW (m:D.Model)(a:Int)(p:D.Proc)(k:Int):St:=Aq [(1,Aa a),(2,.bp 0 0),(5,.bp 1 0),(6,Aa k)] [.box (Ag m),.box (A9 p)]
def KB (m:D.Model)(a:Int)(p:D.Proc)(k:Int)(ws:List (List D.Trans))(j:Int):St:=Aq [(1,Aa a),(2,.bp 0 0),(5,.bp 1 0),(6,Aa k),(7,BA true ws),(8,Aa j)] [.box (Ag m),.box (A9 p)]
def NA (m:D.Model)(a:Int)(p:D.Proc)(k:Int)(ws:List (List D.Trans))(j h:Int):St:=Aq [(1,Aa a),(2,.bp 0 0),(5,.bp 1 0),(6,Aa k),(7,BA true ws),(8,Aa j),(9,Aa h)] [.box (Ag m),.box (A9 p)]
def QG (m:D.Model)(k:Int):St:=Aq [(1,.bp 0 0),(5,Aa k)] [.box (Ag m)]
def QF (m:D.Model)(k:Int):St:=Aq [(1,.bp 0 0),(7,Aa k)] [.box (Ag m)]
def Vs (m:D.Model)(had:List Bool)(k:Int):St:=Aq [(1,.bp 0 0),(8,.ow 1 0 had.length),(9,Aa k)] [.box (Ag m),.arr true 0 had.length 1 (EP had)]
def Vr (m:D.Model)(had:List Bool)(k:Int)(l:List Int)(j:Int):St:=Aq [(1,.bp 0 0),(8,.ow 1 0 had.length),(9,Aa k),(11,Ac true l),(12,Aa j)] [.box (Ag m),.arr true 0 had.length 1 (EP had)]
def Lx (m:D.Model)(many k:Int):St:=Aq [(1,.bp 0 0),(7,Aa many),(8,Aa k)] [.box (Ag m)]
def Lw (m:D.Model)(k:Int):St:=Aq [(1,.bp 0 0),(10,Aa k)] [.box (Ag m)]
def Hv (t:List D.Type)(l:List Int)(k:Int):St:=Aq [(0,AE true t),(1,Ac true l),(5,Aa k)] []
def NF (m:D.Model)(s:D.State)(k:Int):St:=Aq [(2,.bp 0 0),(3,.bp 1 0),(6,Aa k)] [.box (Ag m),.box (Ae s)]
def QH (m:D.Model)(s:D.State)(k:Int)(c:D.Chan)(j:Int):St:=Aq [(2,.bp 0 0),(3,.bp 1 0),(6,Aa k),(7,.bp 2 0),(8,Aa j)] [.box (Ag m),.box (Ae s),.box (Am c)]
def NE (m:D.Model)(s:D.State)(k:Int):St:=Aq [(2,.bp 0 0),(3,.bp 1 0),(9,Aa k)] [.box (Ag m),.box (Ae s)]
def Vt (a b:List Int)(k:Int):St:=Aq [(0,Ac true a),(1,Ac true b),(5,Aa k)] []
end Go.Proofs.YtboifkdeeigcaaaGreatDoor
