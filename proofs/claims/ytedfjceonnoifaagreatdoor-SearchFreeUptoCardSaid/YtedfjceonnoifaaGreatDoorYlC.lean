/-
  Texts, joined: GdW4, GdW5, GdW6, CkP, CkS, CkA, CkH, CkW, Touch, StClone, ExS, ExA, ExH, ValPlain, TwoPlain, ExP, Scope, ExOne, ExW1, ExW2, ExW3, ExW4, ExW5, EbP, EbS, EcP, EcQ, EmP, CsPlain, CzP, WhP, WhI, VjThaw, VjThawF, VjOwn, EcE, EcA, EcH, EcW1, EcW2, EcW3, EcW4, EcW5, EcW6, EcW7.
-/
import Derived.Test.YtedfjceonnoifaaGreatDoorYlB
import Derived.KernelRfl
import Derived.WalkKit
import Derived.OneCell
import Derived.Deep.QuietTactic
import Derived.BigRegion
import Derived.Deep.RegionLaw
import Derived.Deep.AppendLies
import Derived.Lib.SliceRun
import Derived.Lib.Hide
import Derived.Test.YtedfjceonnoifaaGreatDoorProg
import Derived.WalkSpells
import Derived.WalkLawsBesides
import Derived.BigQuiet
set_option linter.defProp false
set_option maxRecDepth 100000
namespace Go.Proofs.YtedfjceonnoifaaGreatDoor
open Go.RowKit Go.Proofs.Tryz
open IntKind(i64)
def leS (x y:VV):Prop:=∀(w:World)(E:AP)(m:Option Phi)(v:Value),(∀k,E.br k->E.fz k)->V w E m x v->V w E m y v
theorem Dz (x:VV):leS x x:=λ_ _ _ _ _ h=>h
def Kg {n sz:Nat}{f:Nat->List VV}:leS (.sl true n sz f) (.sl false n sz f):=by
 intro w E m v d h;obtain⟨a,cap,rfl,h1,h2,h3⟩:=V.sl_inv h;refine ArZ h1 h2 λhp=>?_
 obtain⟨b,off,rfl,e,g,k,u,l,hv⟩:=h3 hp;exact⟨b,off,rfl,e,λc=>g (d b c),k,u,l,λi j x hi o=>(hv i j x hi o).less (λ_ h=>h) λ_ _=>trivial⟩
def Ah.frz {P:Program}{f:FuncId}{hs hs':List Ob}{xs ys:List VV}{r:VV}(h:Ah P f hs xs hs' r)(e:ys.length=xs.length)(b:∀(j:Nat) x y,xs[j]?=some x->ys[j]?=some y->leS y x):Ah P f hs ys hs' r:=by
 refine⟨h.callable,λw E φ vs g c hφ a=>h.call w E φ vs g c hφ ⟨a.1.trans e,λj x i=>?_⟩⟩;have d:j<ys.length:=gD
 exact b j x _ i (Ap8 d) _ _ _ _ (λk l=>l.imp (c.sub k) λh=>h) (a.2 j _ (Ap8 d))
def ieq (a b:Int):(a==b)=decide (a=b):=gD
def BU (a b:Bool):(bif a then b else false)=(a&&b):=by cases a<;>rfl
theorem B6 (a b:Bool):(bif a then true else b)=(a||b):=by cases a<;>rfl
def nge (n k:Nat):decide ((n:Int)>=k)=decide (k<=n):=gD
def nle (n k:Nat):decide ((n:Int)<=k)=decide (n<=k):=gD
def ge1 (n:Nat):decide ((n:Int)>=1)=decide (1<=n):=nge n 1
def le8 (n:Nat):decide ((n:Int)<=8)=decide (n<=8):=nle n 8
def Apk (n:Nat):decide ((n:Int)<=256)=decide (n<=256):=nle n 256
def Apg (n:Nat):decide ((n:Int)=0)=decide (n=0):=gD
structure Aaw (s:D.Stmt):Prop where
 a:s.Args.length<=1048576
 m:s.Match.length<=1048576
def P8 {m:D.Model}{s:D.Stmt}(hs:Aaw s):Ah prog 93 [] [tpM m,.agg (Ax s)] [] (Ac (AX m s)):=by
 have e:=hs.a;have f:=hs.m;have em:∀u v x:Bool,Ah prog 112 [] [.agg (Ax s),Ac u,Ac v,Ac x] [] (Ac (FS s u v x)):=λu v x=>Aab e f
 have n1:∀x:Bool,(bif x then s.B==(-1:Int)else false)=(x&&decide (s.B=-1)):=λx=>by rw[ieq,BU]
 have c:∀{k:Int},(s.Kind==k)=true->s.Kind=k:=λh=>by simpa using h
 have i:∀{k:Int},(s.Kind==k)=false->s.Kind≠k:=λh=>by simpa using h
 refine Ap func93 (RP _ m s rfl rfl) ?_;have d:s.Kind=1\/s.Kind=3->AX m s=(Fu m s.A&&decide (s.B=-1)&&FS s true true true):=λh=>by unfold AX;rw[AqH h]
 have t2:s.Kind=2->AX m s=(Dv m s.A&&Fu m s.B&&FS s true true true):=λh=>by unfold AX;grind
 have j:s.Kind=4->AX m s=(decide (s.A=-1)&&decide (s.B=-1)&&DR m.Exprs.length s.Args&&decide (s.Match.length=0)&&decide (s.Text.size<=256)&&decide (s.N=0)):=λh=>by unfold AX;grind
 have g:s.Kind=5->AX m s=(Fu m s.A&&decide (s.B=-1)&&decide (1<=s.Args.length)&&decide (s.Args.length<=8)&&DR m.Exprs.length s.Args&&decide (s.Match.length=0)&&(decide (s.N=0)||decide (s.N=1))&&decide (s.Text.size=0)):=λh=>by unfold AX;grind
 have t6:s.Kind=6->AX m s=(Fu m s.A&&decide (s.B=-1)&&IR m s&&decide (0<=s.N)&&decide (s.N<=3)&&decide (s.Text.size=0)):=λh=>by unfold AX;grind
 have l:s.Kind=7\/s.Kind=8->AX m s=(decide (s.A=-1)&&decide (s.B=-1)&&FS s true true true):=λh=>by unfold AX;grind
 have t9:s.Kind=9->AX m s=(Dv m s.A&&decide (s.B=-1)&&decide (0<=s.N)&&decide (s.N<m.Shapes.length)&&FS s true false true):=λh=>by unfold AX;grind
 have tx:¬(s.Kind=1\/s.Kind=3)->s.Kind≠2->s.Kind≠4->s.Kind≠5->s.Kind≠6->¬(s.Kind=7\/s.Kind=8)->s.Kind≠9->AX m s=false:=λh1 h2 h3 h4 h5 h6 h7=>by unfold AX;grind
 generalize AX m s=b at d t2 j g t6 l t9 tx |-;exact⟨λh1=>⟨λ_=>⟨_,FM m s.A,_,λ_=>em true true true,AA gD⟩,λh=>bt h1 h⟩,λh1=>⟨λh3=>⟨_,FM m s.A,_,λ_=>em true true true,AA gD⟩,λh3=>⟨λh2=>⟨_,JQ m s.A,_,λ_=>FM m s.B,_,λ_=>em true true true,AA gD⟩,λh2=>⟨λh4=>⟨_,λ_=>FU oM,AA (by simp_all[ieq,Apk])⟩,λh4=>⟨λh5=>⟨_,FM m s.A,_,λ_=>FU oM,AA (by rw[g (c h5)];simp only[ieq,BU,B6,Apg,P3,le8,ge1])⟩,λh5=>⟨λh6=>⟨_,FM m s.A,_,λ_=>Ys e f,AA (by rw[t6 (c h6)];simp only[ieq,BU,P3,ArJ])⟩,λh6=>⟨λh7=>⟨λ_=>⟨_,λ_=>em true true true,AA gD⟩,λh=>bt h7 h⟩,λh7=>⟨λn=>⟨_,λ_=>em true true true,AA gD⟩,λn=>⟨λo=>⟨_,JQ m s.A,_,λ_=>em true false true,AA gD⟩,λo=>AA gD⟩⟩⟩⟩⟩⟩⟩⟩⟩
def Iy {x:D.Expr}(h1:x.Args.length<=1048576)(h2:x.V.Dims.length<=1048576):Ah prog 62 [] [.agg (AE x)] [] (Ad true (CE x)):=by
 have s:=Wt x.Op;have v:([x.A,x.B,x.C].take (BN x.Op)).length=BN x.Op:=by simp;omega
 have a:∀i,i<([x.A,x.B,x.C].take (BN x.Op)).length->List.take 1 (List.drop (i*1) [VV.sc (.int .i64 x.A),.sc (.int .i64 x.B),.sc (.int .i64 x.C)])=[Aa (([x.A,x.B,x.C].take (BN x.Op)).getD i 0)]:=by
  intro i hi;rw[v]at hi;have:([x.A,x.B,x.C].take (BN x.Op)).getD i 0=[x.A,x.B,x.C].getD i 0:=gD
  rw[this];rcases(show i=0\/i=1\/i=2 by omega)with rfl|rfl|rfl<;>rfl
 have b:((BN x.Op:Nat):Int).toNat=BN x.Op:=oM
 have loop:∀(L:List Int),L.length<=2097152->L++x.V.Dims.map D.Dim.I=CE x->AB (BL prog tb Bw Hp true f62 [] (Ad true (CE x))) [1,1,1,0,1,0,1,1,0] (YD x L 0):=by
  intro L H y;generalize CE x=R at y |-;refine Ar x.V.Dims.length (λk=>YD x (L++(x.V.Dims.take k).map D.Dim.I) k) (λ_=>True) trivial ?_ |> λh=>by simpa using h
  intro k K _ J next
  have m:(L++(x.V.Dims.take k).map D.Dim.I).length=L.length+k:=by simp;omega
  refine Aqh (Aep _ x _ k J) ⟨λt=>?_,λE=>⟨trivial,?_⟩⟩
  .have o:k<x.V.Dims.length:=by have:=AZ t;omega
   have b:(k:Int).toNat=k:=oM
   rw[b];refine⟨⟨oM,oM⟩,by rw[m];omega,next _ o trivial ?_⟩;have c:(x.V.Dims.take (k+1)).map D.Dim.I=(x.V.Dims.take k).map D.Dim.I++[(x.V.Dims.getD k default).I]:=by grind[CO]
   have e:L++(x.V.Dims.take (k+1)).map D.Dim.I=(L++(x.V.Dims.take k).map D.Dim.I)++[(x.V.Dims.getD k default).I]:=by rw[c,AqT]
   rw[e,Al oM];generalize L++(x.V.Dims.take k).map D.Dim.I=M;generalize(x.V.Dims.getD k default).I=z;refine Up.mk (l':=[(3,.ow 0 0 (M++[z]).length),(45,Bb true x.V.Dims),(46,Aa x.V.Dims.length),(47,Aa ((k+1:Nat):Int))]) (hs':=[.arr true 0 (M++[z]).length 1 (AO (M++[z]))]) ?_ ?_ rfl
   .grind[AR]
   .rw[show M.length+1=(M++[z]).length by simp];exact⟨Aqm λi hi=>AL (BO (f:=λn=>[Aa n]) (d:=0) (l:=M) (r:=[z]) (F:=λi=>[.sc (.int .i64 (M.getD i 0))]) (λi hi=>rfl) HB hi),trivial⟩
  grind[AW,Aro,VV.le_refl]
 refine Ap func62 (Aig _ x rfl rfl rfl rfl rfl rfl) ⟨(BN x.Op:Nat),EZ _,?_⟩;rw[b];have p:BN x.Op=([x.A,x.B,x.C].take (BN x.Op)).length:=v.symm;generalize u:[x.A,x.B,x.C].take (BN x.Op)=P at a p loop;have g:CE x=P++((if x.Op=30\/x.Op=39 then x.Args else[])++(if x.Op=2 then(if x.V.Scope=2 then[x.V.Who]else[])++x.V.Dims.map D.Dim.I else[])):=by unfold CE;rw[u]
 generalize CE x=R at g loop |-;rw[p]at s |-;refine⟨⟨oM,oM⟩,oM,λh=>⟨oM,λi hi=>rfl,λk=>?_,λk=>⟨trivial,?_⟩⟩,λh=>⟨λk=>⟨λq=>⟨oM,?_⟩,λq=>?_⟩,λk=>⟨trivial,?_⟩⟩⟩
 .simp at h k;omega
 .have e:R=P++x.Args:=gD
  subst e;rw[show P.length+x.Args.length=(P++x.Args).length by simp];exact AqY (.inl rfl) λi hi=>AL (BO (f:=λn=>[Aa n]) (d:=0) (l:=P) (r:=x.Args) (G:=λj=>[.sc (.int .i64 (x.Args.getD j 0))]) a (λi hi=>rfl) hi)
 .have w:¬(x.Op=30\/x.Op=39):=by simpa using h
  have e:(P++[x.V.Who])++x.V.Dims.map D.Dim.I=R:=gD
  refine AB.le (l':=[(3,.ow 0 0 (P++[x.V.Who]).length),(45,Bb true x.V.Dims),(46,Aa x.V.Dims.length),(47,Aa 0)]) (hs':=[.arr true 0 (P++[x.V.Who]).length 1 (AO (P++[x.V.Who]))]) ?_ ?_ (loop _ (by simp;omega) e)
  .grind[AR]
  .rw[show P.length+1=(P++[x.V.Who]).length by simp];exact⟨Aqm λi hi=>AL (BO (f:=λn=>[Aa n]) (d:=0) (l:=P) (r:=[x.V.Who]) a HB hi),trivial⟩
 .have w:¬(x.Op=30\/x.Op=39):=by simpa using h
  have e:P++x.V.Dims.map D.Dim.I=R:=gD
  exact Adp (G:=AO P) (λi hi=>a i hi) (loop _ oM e)
 .have w:¬(x.Op=30\/x.Op=39):=by simpa using h
  have e:R=P:=gD
  subst e;exact AqY (.inl rfl) λi hi=>AL (a i hi)
structure HK (m:D.Model):Prop where
 wf:AI m
 ex:∀k:Nat,k<m.Exprs.length->Em m k=true
def InE (m:D.Model)(l:List Int):Prop:=∀x∈l,0<=x/\x<m.Exprs.length
def Xk {m:D.Model}{k:Int}(h0:0<=k)(h:k<m.Exprs.length):AC m k∈m.Exprs:=As oM
def HK.at {m:D.Model}(h:HK m){k:Int}(h0:0<=k)(a:k<m.Exprs.length):Em m k=true:=by
 have:=h.ex k.toNat oM;grind
def HK.held {m:D.Model}(h:HK m){k:Int}(h0:0<=k)(a:k<m.Exprs.length):InE m (CE (AC m k)):=λx c=>by
 have:=AbB (h.at h0 a) x c;omega
def HK.small {m:D.Model}(h:HK m):∀x∈m.Exprs,x.Args.length<=1048576/\x.V.Dims.length<=1048576:=λx a =>
 ⟨(h.wf.Exprs.2 x a).Args.1,(h.wf.Exprs.2 x a).V.Dims.1⟩
def HK.slots {m:D.Model}(h:HK m){k:Int}(h0:0<=k)(f:k<m.Exprs.length)(h2:(AC m k).Op=2):(AC m k).V.Scope≠0->(AC m k).V.Scope≠1->0<=(AC m k).V.Type_/\(AC m k).V.Type_<m.Procs.length:=by
 have a:=h.at h0 f;unfold Em at a;simp only[ApX]at a;obtain⟨_,c⟩:=a;generalize AC m k=x at *;rw[Aqs oM,AqH h2]at c;simp only[ApX,Fa]at c;obtain⟨⟨⟨⟨⟨⟨d,hs2⟩,_⟩,_⟩,_⟩,e⟩,_⟩:=c;intro n0 n1;have hs:x.V.Scope=2:=by simp at d hs2;omega
 simp only[hs,decide_true,ApY,ApX]at e;have:=e.2;unfold Ft at this;simp at this;omega
structure Inv (m:D.Model) (i run:Int) (n:Nat) (b:Bool) (seen:List Bool) (todo:List Int) (k:Nat):Prop where
 sl:seen.length=m.Exprs.length
 le:k<=todo.length
 mem:InE m todo
 sum:todo.length+load m seen=n
 res:PW m i run (todo.length-k+load m seen+1) seen (todo.drop k)=b
section
variable {m : D.Model} {i run:Int} {n:Nat} {b:Bool} {seen:List Bool} {todo:List Int} {k:Nat}
def Inv.at (h:Inv m i run n b seen todo k)(a:k<todo.length):0<=todo.getD k 0/\todo.getD k 0<m.Exprs.length:=h.mem _ (As a)
def Inv.step (h:Inv m i run n b seen todo k)(a:k<todo.length) :
  (bif seen.getD (todo.getD k 0).toNat false then PW m i run (todo.length-(k+1)+load m seen+1) seen (todo.drop (k+1))else bif Gp m i run (todo.getD k 0)then false
   else PW m i run (todo.length-(k+1)+load m seen+1) (seen.set (todo.getD k 0).toNat true) (todo.drop (k+1)++CE (AC m (todo.getD k 0))))=b:=by
 have:=h.res;rw[A5 (d:=0) a,show todo.length-k+load m seen+1=(todo.length-(k+1)+load m seen+1)+1 by omega]at this;exact this
def Inv.had (h:Inv m i run n b seen todo k)(a:k<todo.length)(hs:seen.getD (todo.getD k 0).toNat false=true):Inv m i run n b seen todo (k+1):=by
 have:=h.step a;rw[hs,ApY]at this;exact⟨h.sl,a,h.mem,h.sum,this⟩
def Inv.bad (h:Inv m i run n b seen todo k)(a:k<todo.length)(hs:seen.getD (todo.getD k 0).toNat false=false)(c:Gp m i run (todo.getD k 0)=true):false=b:=by
 have:=h.step a;grind
def Inv.more (f:HK m)(h:Inv m i run n b seen todo k)(c:k<todo.length)(hs:seen.getD (todo.getD k 0).toNat false=false)(g:Gp m i run (todo.getD k 0)=false) :
  Inv m i run n b (seen.set (todo.getD k 0).toNat true) (todo++CE (AC m (todo.getD k 0))) (k+1):=by
 have d:=h.at c;have j:=Ah3 (m:=m) hs (by rw[h.sl];omega) h.sl;have:=h.step c;rw[hs,ApW,g,ApW]at this;have e:=h.sum;have l:m.Exprs.getD (todo.getD k 0).toNat default=AC m (todo.getD k 0):=rfl;rw[l]at j;refine⟨by simp[h.sl],by simp;omega,λx a=>?_,gD,?_⟩
 .rcases Aqq.1 a with a|a
  .exact h.mem x a
  .exact f.held d.1 d.2 x a
 grind
end
def Sd (m:D.Model)(i run k:Int):Gp m i run k=((bif bif(AC m k).Op==39 then k != run else false then true else bif i==m.Claim then bif bif(AC m k).Op==31 then true else(AC m k).Op==39 then true else bif(AC m k).Op==2 then(AC m k).V.Scope==1 else false else false) ||
  ((AC m k).Op==2&&decide (NB m i (AC m k).V<Fo (AC m k).V))):=by
 unfold Gp;grind
def Ub {l:List Bool}{t j:Nat}(d:j<l.length):(bif j.beq t then[VV.sc (.bool true)]else[.sc (.bool (l.getD j false))])=[Ac ((l.set t true).getD j false)]:=by
 cases c:j.beq t with
 | true =>
  have:=Ap0 c;subst this;simp[List.getD,d,Ac]
 | false =>
  have a:t≠j:=by rintro rfl;simp at c
  simp[List.getD,a,Ac]
def AbM {l r:List Int}{F:Nat->List VV}(a:∀i,i<l.length->F i=[Aa (l.getD i 0)]){i:Nat}(hi:i<(l++r).length):(bif i.blt l.length then F i else(λj=>[Aa (r.getD j 0)]) (i-l.length))=AO (l++r) i :=
 BO (f:=λn=>[Aa n]) (d:=0) (l:=l) (r:=r) (G:=λj=>[Aa (r.getD j 0)]) a (λ_ _=>rfl) hi
def Acw {m:D.Model}{i run:Int}{list:List Int}(s:HK m)(z:0<=i)(hi:i<m.Procs.length)(B:InE m list)(F:list.length<=2097152) :
  Ah prog 65 [] [tpM m,Aa i,Ad false list,Aa run] [] (Ac (JL m i list run)):=by
 have L:=s.wf.Exprs.1;have C:=Ak8 s.small (Bs m);have G:m.Exprs.length*2097156<=1048576*2097156:=Aqe _ L;generalize M:JL m i list run=b;have inv0:Inv m i run (list.length+load m (Bs m)) b (Bs m) list 0:=⟨by simp[Bs],Ap3 _,B,rfl,by rw[<- M]<;>rfl⟩;generalize S:list.length+load m (Bs m)=n at inv0;have N:n<=4398046511104:=oM
 have small:∀{t:Int},0<=t->t<m.Exprs.length->(AC m t).Args.length<=1048576/\(AC m t).V.Dims.length<=1048576:=λh0 h1=>s.small _ (Xk h0 h1)
 have wfv:∀{t:Int},0<=t->t<m.Exprs.length->JF (AC m t).V:=λh0 h1=>(s.wf.Exprs.2 _ (Xk h0 h1)).V
 refine Ap func65 (AfO _ m i list run) ?_;refine ND Aj Ak 0 (λg st=>∃(seen:List Bool)(todo:List Int)(k:Nat),Inv m i run n b seen todo k/\g=todo.length-k+load m seen/\st=Qc m i list run seen todo k) kR kR kR kR (Aqh (Acy _ m i list run _ rfl rfl rfl rfl) ?_) λg st h=>?_
 .have E:((m.Exprs.length:Int).toNat)=m.Exprs.length:=oM
  rw[E];have u:Int.toNat 0=0:=rfl;have I:∀j,j<m.Exprs.length->(Bs m).getD j false=false:=λj p=>by simp[Bs,List.getD,p]
  have O:(Bs m).length=m.Exprs.length:=by simp[Bs]
  refine⟨⟨oM,oM,oM⟩,oM,λ_ _=>rfl,λh=>AA ?_,λh=>?_⟩
  .have h0:list.length=0:=by simp at h;omega
   have:=inv0.res;rw[AqJ h0]at this;rw[<- this]<;>rfl
  .have h0:0<list.length:=by simp at h;omega
   have f:=inv0.at h0;rw[u];have hs:=I (list.getD 0 0).toNat oM;have a:=Sd m i run (list.getD 0 0);have more:=λc=>inv0.more s h0 hs c
   have bad:=λc=>inv0.bad h0 hs c
   have d:=small f.1 f.2;have v:=wfv f.1 f.2;have A:=inv0.sum;have o:=s.slots f.1 f.2;refine⟨⟨oM,oM⟩,⟨oM,oM⟩,λh=>(by cases h),λ_=>⟨⟨oM,oM⟩,⟨oM,oM⟩,λq=>AA (bad (by rw[a,Arf];exact .inl q)),λq=>?_⟩⟩;have fin:Gp m i run (list.getD 0 0)=false->(list.length+(CE (AC m (list.getD 0 0))).length)*8<=140737488355328/\∃g,Up (λst=>∃(seen:List Bool)(todo:List Int)(k:Nat),Inv m i run n b seen todo k/\g=todo.length-k+load m seen/\st=Qc m i list run seen todo k)
     (An [(0,tpM m),(1,Aa i),(2,Ad false list),(3,Aa run),(9,.ow 0 0 m.Exprs.length),(10,.ow 1 0 (list.length+(CE (AC m (list.getD 0 0))).length)),(11,Aa (i64.wrap (0+1)))]
      [.arr true 0 m.Exprs.length 1 (λj=>bif j.beq (list.getD 0 0).toNat then[.sc (.bool true)]else[.sc (.bool false)]),.arr true 0 (list.length+(CE (AC m (list.getD 0 0))).length) 1 (λj=>bif j.blt list.length then(λj=>[Aa (list.getD j 0)]) j else(λj=>[Aa ((CE (AC m (list.getD 0 0))).getD j 0)]) (j-list.length))]):=by
    intro c;have r:=more c;have e:=r.sum;generalize CE (AC m (list.getD 0 0))=H at r e |-;generalize(list.getD 0 0).toNat=t at r e |-;rw[Ap5]at e;refine⟨oM,(list++H).length-(0+1)+load m ((Bs m).set t true),?_⟩;have P:i64.wrap (0+1)=((1:Nat):Int):=rfl;have w:m.Exprs.length=((Bs m).set t true).length:=by simp[Bs]
    refine Up.mk (l':=[(0,tpM m),(1,Aa i),(2,Ad false list),(3,Aa run),(9,.ow 0 0 ((Bs m).set t true).length),(10,.ow 1 0 (list++H).length),(11,Aa ((1:Nat):Int))])
     (hs':=[.arr true 0 ((Bs m).set t true).length 1 (HZ ((Bs m).set t true)),.arr true 0 (list++H).length 1 (AO (list++H))]) ?_ ?_ ⟨_,_,_,r,rfl,rfl⟩
    .grind[Ap5,AR]
    .rw[<- w,<- Ap5];refine⟨Aqm λj p=>AL ?_,Aqm λj p=>AL (AbM (λi hi=>rfl) p),trivial⟩;have:=Ub (l:=Bs m) (t:=t) (j:=j) oM;rw[I j p]at this;exact this
   refine⟨λh2=>⟨_,G7 v,_,Qi (λ_=>⟨z,hi⟩) (o (eq_of_beq h2)),λh3=>AA (bad ?_),λh3=>?_⟩,λh2=>?_⟩
   .rw[a,Arf,ApX];exact .inr ⟨h2,h3⟩
   .have c:Gp m i run (list.getD 0 0)=false:=by
     rw[a,Aql,Arw];exact⟨q,.inr h3⟩
    obtain⟨x,y⟩:=fin c;exact⟨CE (AC m (list.getD 0 0)),Iy d.1 d.2,x,λi hi=>rfl,y⟩
   .have c:Gp m i run (list.getD 0 0)=false:=by
     rw[a,Aql,Arw];exact⟨q,.inl h2⟩
    obtain⟨x,y⟩:=fin c;exact⟨CE (AC m (list.getD 0 0)),Iy d.1 d.2,x,λi hi=>rfl,y⟩
 .obtain⟨seen,todo,k,inv,rfl,rfl⟩:=h;refine Aqh (Acx _ m i list run seen todo k _ rfl rfl rfl) ⟨λh=>AA ?_,λh=>?_⟩
  .have h0:k=todo.length:=by simp at h;omega
   have:=inv.res;rw[Arp oM]at this;rw[<- this,PW]
  .have Q:=inv.le;have h0:k<todo.length:=by simp at h;omega
   have f:=inv.at h0;have u:(k:Int).toNat=k:=oM
   rw[u];have a:=Sd m i run (todo.getD k 0);have d:=small f.1 f.2;have v:=wfv f.1 f.2;have A:=inv.sum;have J:=inv.sl;have o:=s.slots f.1 f.2;refine⟨⟨oM,oM⟩,⟨oM,oM⟩,λhs=>?_,λhs=>?_⟩
   .have R:=inv.had h0 hs;refine⟨todo.length-(k+1)+load m seen,oM,Up.of ⟨seen,todo,k+1,R,rfl,?_⟩⟩;grind[Al]
   have more:=λc=>inv.more s h0 hs c
   have bad:=λc=>inv.bad h0 hs c
   refine⟨⟨oM,oM⟩,⟨oM,oM⟩,λq=>AA (bad (by rw[a,Arf];exact .inl q)),λq=>?_⟩;have fin:Gp m i run (todo.getD k 0)=false->(todo.length+(CE (AC m (todo.getD k 0))).length)*8<=140737488355328/\∃K,K<todo.length-k+load m seen/\Up (λst=>∃(seen:List Bool)(todo:List Int)(k:Nat),Inv m i run n b seen todo k/\K=todo.length-k+load m seen/\st=Qc m i list run seen todo k)
     (An [(0,tpM m),(1,Aa i),(2,Ad false list),(3,Aa run),(9,.ow 0 0 seen.length),(10,.ow 1 0 (todo.length+(CE (AC m (todo.getD k 0))).length)),(11,Aa (i64.wrap (k+1)))]
      [.arr true 0 seen.length 1 (λj=>bif j.beq (todo.getD k 0).toNat then[.sc (.bool true)]else[.sc (.bool (seen.getD j false))]),.arr true 0 (todo.length+(CE (AC m (todo.getD k 0))).length) 1 (λj=>bif j.blt todo.length then AO todo j else(λj=>[Aa ((CE (AC m (todo.getD k 0))).getD j 0)]) (j-todo.length))]):=by
    intro c;have r:=more c;have e:=r.sum;generalize CE (AC m (todo.getD k 0))=H at r e |-;generalize(todo.getD k 0).toNat=t at r e |-;rw[Ap5]at e;refine⟨oM,(todo++H).length-(k+1)+load m (seen.set t true),gD,?_⟩;have w:seen.length=(seen.set t true).length:=sM
    refine Up.mk (l':=[(0,tpM m),(1,Aa i),(2,Ad false list),(3,Aa run),(9,.ow 0 0 (seen.set t true).length),(10,.ow 1 0 (todo++H).length),(11,Aa ((k+1:Nat):Int))])
     (hs':=[.arr true 0 (seen.set t true).length 1 (HZ (seen.set t true)),.arr true 0 (todo++H).length 1 (AO (todo++H))]) ?_ ?_ ⟨_,_,_,r,rfl,rfl⟩
    .grind[Al,Ap5,AR]
    .rw[<- w,<- Ap5];exact⟨Aqm λj p=>AL (Ub p),Aqm λj p=>AL (AbM (λi hi=>rfl) p),trivial⟩
   refine⟨λh2=>⟨_,G7 v,_,Qi (λ_=>⟨z,hi⟩) (o (eq_of_beq h2)),λh3=>AA (bad ?_),λh3=>?_⟩,λh2=>?_⟩
   .rw[a,Arf,ApX];exact .inr ⟨h2,h3⟩
   .have c:Gp m i run (todo.getD k 0)=false:=by
     rw[a,Aql,Arw];exact⟨q,.inr h3⟩
    obtain⟨x,y⟩:=fin c;exact⟨CE (AC m (todo.getD k 0)),Iy d.1 d.2,x,λi hi=>rfl,y⟩
   .have c:Gp m i run (todo.getD k 0)=false:=by
     rw[a,Aql,Arw];exact⟨q,.inl h2⟩
    obtain⟨x,y⟩:=fin c;exact⟨CE (AC m (todo.getD k 0)),Iy d.1 d.2,x,λi hi=>rfl,y⟩
def AaJ {m:D.Model}{i run:Int}{list:List Int}{n:Nat}{F:Nat->List VV}(e:HK m)(c:0<=i)(hi:i<m.Procs.length)(d:InE m list)(a:list.length<=2097152)(f:n=list.length)(g:∀j,j<list.length->F j=[Aa (list.getD j 0)]) :
  Ah prog 65 [] [tpM m,Aa i,.sl false n 1 F,Aa run] [] (Ac (JL m i list run)):=by
 subst f;exact(Acw e c hi d a).le trivial ⟨lR,lR,AqY (.inl rfl) λj h=>AL (g j h),lR,trivial⟩ trivial lR
def BQ (s:D.Stmt):List Int:=s.Args++((if 0<=s.A then[s.A]else[])++(if 0<=s.B then[s.B]else[]))
def Im {m:D.Model}{a:Int}(h:Fu m a=true):0<=a/\a<m.Exprs.length:=Cd.1 h
def P4 {m:D.Model}{a:Int}(h:Dv m a=true):0<=a/\a<m.Exprs.length:=by
 unfold Dv at h;simp only[ApX]at h;exact Im h.1.1
def WK {m:D.Model}{a:Int}{args mt:List Int}(h:CV m a args mt=true):1<=args.length/\args.length<=8/\mt.length=args.length/\∀x∈args,0<=x/\x<a:=by
 unfold CV at h;simp_all[FV]
def AjP {m:D.Model}{s:D.Stmt}(h:AX m s=true):InE m s.Args/\(0<=s.A->s.A<m.Exprs.length)/\(0<=s.B->s.B<m.Exprs.length):=by
 have none:∀{n t:Bool},FS s true n t=true->InE m s.Args:=λc=>by
  unfold FS at c;simp only[ApX,ArF,ArG,Ap7]at c;have:s.Args=[]:=AqJ oM;rw[this];intro x d;cases d
 unfold AX at h;split at h
 .simp_all[Im]
 split at h
 .simp_all[P4,Im]
 split at h
 .simp only[ApX,Ap7]at h;exact⟨FV.1 h.1.1.1.2,λh0=>oM,λh0=>oM⟩
 split at h
 .simp only[ApX,Ap7]at h;exact⟨FV.1 h.1.1.1.2,λ_=>(Im h.1.1.1.1.1.1.1).2,λh0=>oM⟩
 split at h
 .simp only[ApX,Ap7]at h;have a:=h.1.1.1.2;unfold IR at a;simp only[ApX]at a;exact⟨(WK a.1).2.2.2,λ_=>(Im h.1.1.1.1.1).2,λh0=>oM⟩
 split at h
 .grind
 simp_all[P4]
def Yj {m:D.Model}{s:D.Stmt}(h:AX m s=true):InE m (BQ s):=by
 obtain⟨h1,h2,h3⟩:=AjP h;intro x a;unfold BQ at a;rcases Aqq.1 a with a|a
 .exact h1 x a
 grind
def AfF {m:D.Model}{i:Int}{s:D.Stmt}(C:HK m)(v:0<=i)(hi:i<m.Procs.length)(hs:Aaw s):Ah prog 64 [] [tpM m,Aa i,.agg (Ax s)] [] (Ac (Nr m i s)):=by
 have J:=hs.a;have e:∀{k:Int},(s.Kind==k)=true->s.Kind=k:=λh=>by simpa using h
 have c:∀{k:Int},(s.Kind==k)=false->s.Kind≠k:=λh=>by simpa using h
 have ec:(bif bif bif bif i==m.Claim then s.Kind != 1 else false then s.Kind != 3 else false then s.Kind != 7 else false then s.Kind != 8 else false)=(decide (i=m.Claim)&&(decide (s.Kind≠1)&&(decide (s.Kind≠3)&&(decide (s.Kind≠7)&&decide (s.Kind≠8))))):=gD
 refine Ap func64 (AjF _ m i s rfl rfl rfl rfl rfl) ⟨AX m s,P8 hs,?_⟩;rw[ec];have ew:Nr m i s=(AX m s&&!(decide (i=m.Claim)&&(decide (s.Kind≠1)&&(decide (s.Kind≠3)&&(decide (s.Kind≠7)&&decide (s.Kind≠8)))))&&JL m i (BQ s) (if s.Kind=1 then s.A else if s.Kind=2 then s.B else -1)):=rfl;generalize(decide (i=m.Claim)&&(decide (s.Kind≠1)&&(decide (s.Kind≠3)&&(decide (s.Kind≠7)&&decide (s.Kind≠8)))))=cl at ew |-;refine⟨λh=>AA ?_,λh=>?_⟩
 .grind
 .have w:AX m s=true:=gD
  have x:cl=false:=by rw[w]at h;simpa using h
  rw[w,x]at ew;simp only[Bool.not_false,AqX]at ew;have y:=Yj w;have go:∀(run:Int)(n:Nat)(F:Nat->List VV),n=(BQ s).length->(∀j,j<(BQ s).length->F j=[Aa ((BQ s).getD j 0)])->Ah prog 65 [] [tpM m,Aa i,.sl false n 1 F,Aa run] [] (Ac (JL m i (BQ s) run)):=λrun n F E G =>
   AaJ C v hi y (by unfold BQ;grind) E G
  have q:s.Kind=1->Nr m i s=JL m i (BQ s) s.A:=λh=>by rw[ew,AqH h]
  have r2:s.Kind≠1->s.Kind=2->Nr m i s=JL m i (BQ s) s.B:=λh z=>by rw[ew,Aqs h,AqH z]
  have t:s.Kind≠1->s.Kind≠2->Nr m i s=JL m i (BQ s) (-1):=λh z=>by rw[ew,Aqs h,Aqs z]
  generalize Nr m i s=b at q r2 t |-;refine⟨oM,λ_ _=>rfl,λH=>⟨oM,λhB=>⟨oM,?_⟩,λhB=>?_⟩,λH=>⟨λhB=>⟨oM,?_⟩,λhB=>?_⟩⟩
  .have p:BQ s=(s.Args++[s.A])++[s.B]:=by unfold BQ;grind
   have g:s.Args.length+1+1=(BQ s).length:=by rw[p];simp
   have I:s.Args.length+1=(s.Args++[s.A]).length:=sM
   have o:∀j,j<(BQ s).length->(bif Nat.blt j (s.Args.length+1)then(λj=>bif Nat.blt j s.Args.length then[VV.sc (.int .i64 (s.Args.getD j 0))]else(λi=>List.take 1 (List.drop (i*1) [VV.sc (.int .i64 s.A)])) (j-s.Args.length)) j else(λi=>List.take 1 (List.drop (i*1) [VV.sc (.int .i64 s.B)])) (j-(s.Args.length+1)))=[Aa ((BQ s).getD j 0)]:=by
    rw[p,I];exact λj u=>BO (f:=λn=>[Aa n]) (d:=0) (l:=s.Args++[s.A]) (r:=[s.B]) (F:=λj=>bif Nat.blt j s.Args.length then[VV.sc (.int .i64 (s.Args.getD j 0))]else(λi=>List.take 1 (List.drop (i*1) [VV.sc (.int .i64 s.A)])) (j-s.Args.length)) (λi hi=>BO (f:=λn=>[Aa n]) (d:=0) (l:=s.Args) (r:=[s.A]) (F:=λj=>[.sc (.int .i64 (s.Args.getD j 0))]) (λi hi=>rfl) HB hi) HB u
   exact⟨λk1=>⟨_,go _ _ _ g o,AA (q (e k1)).symm⟩,λk1=>⟨λk2=>⟨_,go _ _ _ g o,AA (r2 (c k1) (e k2)).symm⟩,λk2=>⟨_,go _ _ _ g o,AA (t (c k1) (c k2)).symm⟩⟩⟩
  .have p:BQ s=s.Args++[s.A]:=by unfold BQ;grind
   have g:s.Args.length+1=(BQ s).length:=by rw[p];simp
   have o:∀j,j<(BQ s).length->(bif Nat.blt j s.Args.length then[VV.sc (.int .i64 (s.Args.getD j 0))]else(λi=>List.take 1 (List.drop (i*1) [VV.sc (.int .i64 s.A)])) (j-s.Args.length))=[Aa ((BQ s).getD j 0)]:=by
    rw[p];exact λj u=>BO (f:=λn=>[Aa n]) (d:=0) (l:=s.Args) (r:=[s.A]) (F:=λj=>[.sc (.int .i64 (s.Args.getD j 0))]) (λi hi=>rfl) HB u
   exact⟨λk1=>⟨_,go _ _ _ g o,AA (q (e k1)).symm⟩,λk1=>⟨λk2=>⟨_,go _ _ _ g o,AA (r2 (c k1) (e k2)).symm⟩,λk2=>⟨_,go _ _ _ g o,AA (t (c k1) (c k2)).symm⟩⟩⟩
  .have p:BQ s=s.Args++[s.B]:=by unfold BQ;grind
   have g:s.Args.length+1=(BQ s).length:=by rw[p];simp
   have o:∀j,j<(BQ s).length->(bif Nat.blt j s.Args.length then[VV.sc (.int .i64 (s.Args.getD j 0))]else(λi=>List.take 1 (List.drop (i*1) [VV.sc (.int .i64 s.B)])) (j-s.Args.length))=[Aa ((BQ s).getD j 0)]:=by
    rw[p];exact λj u=>BO (f:=λn=>[Aa n]) (d:=0) (l:=s.Args) (r:=[s.B]) (F:=λj=>[.sc (.int .i64 (s.Args.getD j 0))]) (λi hi=>rfl) HB u
   exact⟨λk1=>⟨_,go _ _ _ g o,AA (q (e k1)).symm⟩,λk1=>⟨λk2=>⟨_,go _ _ _ g o,AA (r2 (c k1) (e k2)).symm⟩,λk2=>⟨_,go _ _ _ g o,AA (t (c k1) (c k2)).symm⟩⟩⟩
  .have p:BQ s=s.Args:=by unfold BQ;grind
   have g:s.Args.length=(BQ s).length:=by rw[p]
   have o:∀j,j<(BQ s).length->[Aa (s.Args.getD j 0)]=[Aa ((BQ s).getD j 0)]:=by rw[p];exact λ_ _=>rfl
   exact⟨λk1=>⟨_,go _ _ _ g o,AA (q (e k1)).symm⟩,λk1=>⟨λk2=>⟨_,go _ _ _ g o,AA (r2 (c k1) (e k2)).symm⟩,λk2=>⟨_,go _ _ _ g o,AA (t (c k1) (c k2)).symm⟩⟩⟩
def Afz {t:D.Trans}(h:PJ t):Aaw t.S:=⟨h.S.Args.1,h.S.Match.1⟩
def AjE {l:D.Loc}(h:HR l):(Dg l).length<=1048577/\∀w∈Dg l,KN w:=by
 refine⟨by have:=h.Esc.1;simp[Dg];omega,λw a=>?_⟩;rcases AqI.1 a with rfl|a
 .exact h.Out
 .exact h.Esc.2 w a
def AdL {m:D.Model}{i:Int}(G:HK m)(q:0<=i)(hi:i<m.Procs.length)(H:(m.Procs.getD i.toNat default).Provided<m.Exprs.length) :
  Ah prog 34 [] [tpM m,Aa i] [] (Ac (D8 m i)):=by
 have I:=G.wf.Procs.2 _ (As (d:=default) (show i.toNat<m.Procs.length by omega));refine Ap func34 (AgY _ m i) ⟨⟨q,hi⟩,?_⟩;generalize F:D8 m i=b;unfold D8 at F;simp only at F;generalize m.Procs.getD i.toNat default=p at I H F |-;have hl:=I.Locs.1;have bad:∀k,k<p.Locs.length->WN m i (p.Locs.getD k default)=false->false=b:=λk W R=>by grind[DC]
 refine Ar p.Locs.length (λk=>MF m i p k) (λk=>∀j,j<k->WN m i (p.Locs.getD j default)=true) (λi hi=>oM) ?_;intro k W X J next
 refine Aqh (AdO _ m i p k J) ⟨λK=>?_,λL=>⟨JL m i [p.Provided] (-1),λr=>?_,AA ?_⟩⟩
 .have o:k<p.Locs.length:=by have:=AZ K;omega
  have M:(k:Int).toNat=k:=oM
  rw[M];have t:=I.Locs.2 _ (As (d:=default) o);have bad':=bad k o;have next':∀c,WN m i (p.Locs.getD k default)=true->Up (λs=>s=MF m i p ((k+1:Nat):Int)) c->J c:=gD;generalize p.Locs.getD k default=l at t bad' next' |-;obtain⟨N,v⟩:=AjE t;refine⟨⟨oM,oM⟩,Dg l,R5 t.Esc.1,?_⟩;unfold WN at bad' next';generalize Dg l=ws at N v bad' next' |-;refine Ar ws.length (λj=>ME m i p k ws j) (λj=>∀x,x<j->LM m i (ws.getD x [])=true) (λi hi=>oM) ?_;intro j Y Z J2 next2;refine Aqh (AdN _ m i p k ws j J J2) ⟨λz=>?_,λT=>?_⟩
  .have e:j<ws.length:=by have:=AZ z;omega
   have A:(j:Int).toNat=j:=oM
   rw[A];have g:=v _ (As (d:=[]) e);have bad2:LM m i (ws.getD j [])=false->false=b:=λR=>bad' (DC (f:=λx=>LM m i (ws.getD x [])) e R)
   have next2':∀c,LM m i (ws.getD j [])=true->Up (λs=>s=ME m i p k ws ((j+1:Nat):Int)) c->J2 c:=gD;generalize ws.getD j []=w at g bad2 next2' |-;have U:=g.1;refine⟨⟨oM,oM⟩,?_⟩;refine Ar w.length (λh=>Pb m i p k ws j w h) (λh=>∀x,x<h->Nr m i (w.getD x default).S=true) (λi hi=>oM) ?_;intro h hh O J3 next3;refine Aqh (AdM _ m i p k ws j w h J J2 J3) ⟨λB=>?_,λC=>?_⟩
   .have a:h<w.length:=by have:=AZ B;omega
    have E:(h:Int).toNat=h:=oM
    rw[E];have P:=Afz (g.2 _ (As (d:=default) a));refine⟨⟨oM,oM⟩,Nr m i (w.getD h default).S,AfF G q hi P,λr=>AA ?_,λr=>next3 _ a (λx u=>?_) (Up.of ?_)⟩
    .exact bad2 (DC (f:=λx=>Nr m i (w.getD x default).S) a (by simpa using r))
    .grind
    grind[Al]
   .have Q:w.length<=h:=by have:=AW C;omega
    refine next2' _ (BP.2 λx u=>O x oM) (Up.of ?_);grind[Al]
  grind[AW,BP,Up.of,Al]
 .have h0:0<=p.Provided:=by simp at r;omega
  refine Ah.frz (AaJ (list:=[p.Provided]) (n:=1) G q hi (λx u=>?_) sM rfl HB) rfl ?_
  .grind
  .intro j x y u r
   match j with
   | 0=>grind[Dz]
   | 1=>grind[Dz]
   | 2=>simp only[AqQ,Aqj,ApZ]at u r;subst u r;exact Kg
   | 3=>grind[Dz]
   | j+4=>simp at u
 .have V:p.Locs.length<=k:=by have:=AW L;omega
  rw[<- F,(BP (n:=p.Locs.length) (f:=λk=>WN m i (p.Locs.getD k default))).2 λj Y=>X j oM,AqX,B6]
def Tj {m:D.Model}:∀(g i:Nat)(had:List Bool),g+i=m.Exprs.length->H4 m g i had<0->∀j,i<=j->j<m.Exprs.length->Em m j=true
 | 0,i,had,h,_,j,h1,h2=>oM
 | g+1,i,had,h,hn,j,h1,h2=>by
  unfold H4 at hn;cases c:Em m i with
  | false=>grind
  | true =>
   rw[c,ApY]at hn;split at hn
   .rename_i a _
    by_cases b:i=j
    .subst b;exact c
    .exact Tj g (i+1) a oM hn j oM h2
   .omega
def Q6 {m:D.Model}(h:Kr m<0):∀k:Nat,k<m.Exprs.length->Em m k=true:=λk a=>Tj _ 0 _ rfl h k (Ap3 _) a
def Hk {n:Nat}{f:Nat->Bool}(h:Ky n f<0):∀i,i<n->f i=true:=by grind[Ro]
def AlO {n:Nat}{f:Nat->Bool}:-1<=Ky n f:=by grind[Ro]
def Vw {m:D.Model}(F:AI m):Ah prog 30 [] [tpM m] [] (.tup [Aa (Dw m).1,Aa (Dw m).2]):=by
 have T:=F.Globals.1;have hS:=F.Shapes.1;have hC:=F.Chans.1;have hE:=F.Exprs.1;refine Ap func30 (Yu _ _ m) ?_;have U:(bif decide ((m.Globals.length:Int) > 128)then true else(m.Init.length:Int) != (m.Globals.length:Int))=(decide (128<m.Globals.length)||!decide (m.Init.length=m.Globals.length)):=gD
 have t2:(bif decide ((m.Shapes.length:Int) > 32)then true else decide ((m.Chans.length:Int) > 32))=(decide (32<m.Shapes.length)||decide (32<m.Chans.length)):=gD
 have W:(bif bif bif bif decide ((m.Procs.length:Int)<1)then true else decide ((m.Procs.length:Int) > 16)then true else decide (m.Claim<(-1:Int))then true else decide (m.Claim>=(m.Procs.length:Int))then true else decide ((m.Exprs.length:Int) > 4096)) =
   (decide (m.Procs.length<1)||(decide (16<m.Procs.length)||(decide (m.Claim < -1)||(decide ((m.Procs.length:Int)<=m.Claim)||decide (4096<m.Exprs.length))))):=gD
 rw[U,t2];generalize z:Dw m=R;unfold Dw at z;refine⟨λh=>M4 gD,λh=>⟨GV m.Globals m.Init,PY (by simp at h;omega) T,λh2=>M4 gD,λh2=>⟨λh3=>M4 ?_,λh3=>?_⟩⟩⟩
 .grind
 rw[h,ApW,h2,ApW,h3,ApW]at z;refine Ar m.Shapes.length (λk=>T0 m k) (λk=>∀i,i<k->Et (m.Shapes.getD i default)=true) (λi hi=>oM) ?_;intro k S A J next
 refine Aqh (VA _ _ m k J) ⟨λc=>?_,λn=>?_⟩
 .have b:k<m.Shapes.length:=by have:=AZ c;omega
  refine⟨⟨oM,oM⟩,Et (m.Shapes.getD k default),YU (F.Shapes.2 _ (As b)),λu=>M4 ?_,λu=>next _ b (λi hi=>?_) (Up.of ?_)⟩
  .have e:IW m=k:=IC (f:=λi=>Et (m.Shapes.getD i default)) A b (by simpa using u);grind
  .grind
  grind[Al]
 have w:m.Shapes.length<=k:=by have:=AW n;omega
 have es:IW m=-1:=ID (f:=λi=>Et (m.Shapes.getD i default)) λi hi=>A i oM
 rw[es,show decide ((0:Int)<=-1)=false from rfl,ApW]at z;clear A next
 refine Ar m.Chans.length (λk=>TZ m k) (λk=>∀i,i<k->inP m.Shapes.length (m.Chans.getD i 0)=true) (λi hi=>oM) ?_;intro k S A J next
 refine Aqh (Vz _ _ m k J rfl rfl) ⟨λc=>?_,λn=>?_⟩
 .have b:k<m.Chans.length:=by have:=AZ c;omega
  have q:(k:Int).toNat=k:=oM
  rw[q];have r:inP m.Shapes.length (m.Chans.getD k 0)=!(bif decide (m.Chans.getD k 0<0)then true else decide (m.Chans.getD k 0>=(m.Shapes.length:Int))):=by unfold inP;rw[AqP];simp
  refine⟨⟨oM,oM⟩,λu=>M4 ?_,λu=>next _ b (λi hi=>?_) (Up.of ?_)⟩
  .have e:Mg m=k:=IC (f:=λi=>inP m.Shapes.length (m.Chans.getD i 0)) A b gD;grind
  .grind
  grind[Al]
 have w:m.Chans.length<=k:=by have:=AW n;omega
 have ec:Mg m=-1:=ID (f:=λi=>inP m.Shapes.length (m.Chans.getD i 0)) λi hi=>A i oM
 rw[ec,show decide ((0:Int)<=-1)=false from rfl,ApW]at z;rw[W];refine⟨λh4=>M4 gD,λh4=>⟨⟨oM,oM,oM⟩,?_⟩⟩;rw[h4,ApW]at z;clear A next
 have G:((m.Exprs.length:Int).toNat)=(Bs m).length:=by simp[Bs]
 have H:(Bs m).length=m.Exprs.length:=by simp[Bs]
 refine AB.le (l':=[(0,tpM m),(4,.bp 0 0),(10,.ow 1 0 (Bs m).length),(116,Aa m.Exprs.length),(117,Aa 0)]) (hs':=[.box (Ae m),.arr true 0 (Bs m).length 1 (HZ (Bs m))]) ?_ ?_ ?_
 .rw[G];exact AR _
 .rw[G];refine⟨Ob.le_refl _,Aqm λi hi=>AL ?_,trivial⟩;have:(Bs m).getD i false=false:=by
   have O:i<m.Exprs.length:=by rw[<- H];exact hi
   simp[Bs,List.getD,O]
  show _=[Ac ((Bs m).getD i false)];rw[this]<;>rfl
 generalize Y:Kr m=X at z;have fin:∀{y:Int×Int},(bif decide (0<=X)then((3:Int),X)else(0,0))=y->y=R:=λh=>by rw[<- h];exact z
 refine Aq (λg st=>∃(k:Nat)(had:List Bool),k<=m.Exprs.length/\g=m.Exprs.length-k/\had.length=m.Exprs.length/\H4 m (m.Exprs.length-k) k had=X/\st=YB m had k) ⟨_,Up.of ⟨0,Bs m,Ap3 _,rfl,H,Y,rfl⟩⟩ ?_;rintro g st ⟨k,had,S,rfl,P,v,rfl⟩;refine Aqh (Vy _ _ m had k _) ⟨λc=>?_,λn=>M4 (fin ?_)⟩
 .have b:k<m.Exprs.length:=by have:=AZ c;omega
  have q:(k:Int).toNat=k:=oM
  rw[q];have s:KM (m.Exprs.getD k default):=F.Exprs.2 _ (As b);rw[show m.Exprs.length-k=(m.Exprs.length-(k+1))+1 by omega]at v;unfold H4 at v;refine⟨Em m k,AeE oM oM (by unfold AC;rw[q];exact s),λu=>M4 (fin ?_),λu=>⟨⟨oM,oM⟩,CE (m.Exprs.getD k default),Iy s.Args.1 s.V.Dims.1,?_⟩⟩
  .grind
  .have I:Em m k=true:=by simpa using u
   rw[I,ApY]at v;have r:=AbB I;have B:=W8 s.Args.1 s.V.Dims.1;unfold AC at r;rw[q]at r;generalize CE (m.Exprs.getD k default)=l at r B v |-;generalize Z:Aeq had l=o at v;refine Aq (λg st=>∃(j:Nat)(a:List Bool),j<=l.length/\g=l.length-j/\a.length=m.Exprs.length/\Aeq a (l.drop j)=o/\st=YA m a k l j) ⟨_,Up.of ⟨0,had,Ap3 _,rfl,P,Z,rfl⟩⟩ ?_;rintro g st ⟨j,a,hj,rfl,K,x,rfl⟩;refine Aqh (Vx _ _ m a k l j _ _ rfl) ⟨λL=>?_,λM=>?_⟩
   .have t:j<l.length:=by have:=AZ L;omega
    have N:(j:Int).toNat=j:=oM
    rw[N];have Q:=r _ (As (d:=0) t);rw[A5 (d:=0) t]at x;generalize l.getD j 0=p at Q x |-;unfold Aeq at x;refine⟨⟨oM,oM⟩,⟨oM,oM⟩,λu=>M4 (fin ?_),λu=>⟨⟨oM,oM⟩,l.length-(j+1),oM,?_⟩⟩
    .grind
    .rw[u,ApW]at x;have C:(a.set p.toNat true).length=a.length:=sM
     rw[Al oM];refine Up.mk (l':=[(0,tpM m),(4,.bp 0 0),(10,.ow 1 0 (a.set p.toNat true).length),(11,Aa k),(116,Aa m.Exprs.length),(117,Aa k),(130,Ad true l),(131,Aa l.length),(132,Aa ((j+1:Nat):Int))])
      (hs':=[.box (Ae m),.arr true 0 (a.set p.toNat true).length 1 (HZ (a.set p.toNat true))]) ?_ ?_ ⟨j+1,a.set p.toNat true,oM,rfl,by rw[C];exact K,x,rfl⟩
     .rw[C];exact AR _
     .rw[C];exact⟨Ob.le_refl _,Aqm λi hi=>AL (Ub hi),trivial⟩
   .have E:l.length<=j:=by have:=AW M;omega
    rw[Arp E]at x;unfold Aeq at x;rw[<- x]at v;rw[Al oM];exact⟨m.Exprs.length-(k+1),oM,Up.of gD⟩
 .have w:m.Exprs.length<=k:=by have:=AW n;omega
  rw[show m.Exprs.length-k=0 by omega]at v;unfold H4 at v;rw[<- v]<;>rfl
theorem Kn (m:D.Model)(k:Nat):EB m k=(bif bif bif bif !(DO (m.Procs.getD k default))then true else !(E3 (m.Procs.getD k default))then true else decide ((m.Procs.getD k default).Provided<(-1:Int))then true else decide ((m.Procs.getD k default).Provided>=(m.Exprs.length:Int))then true else bif(k:Int)==m.Claim then !(Fz (m.Procs.getD k default))else false):=by
 unfold EB;grind
theorem Aea {m:D.Model}{k:Nat}(a:k<m.Procs.length):Gc m (k+1)=Gc m k+(m.Procs.getD k default).Active:=by
 unfold Gc;grind[CO,Are]
def TT {m:D.Model}(a:AI m)(h:¬0<(Dw m).1):HK m:=by
 refine⟨a,Q6 ?_⟩;have b:-1<=Kr m:=by
  unfold Kr;have:∀(g i:Nat)(had:List Bool),-1<=H4 m g i had:=by
   intro g
   induction g with
   | zero=>intro i had;unfold H4;omega
   | succ g ih =>
    intro i had;unfold H4;grind
  exact this _ _ _
 refine Aqf λc=>h ?_
 unfold Dw;grind
def Mf {m:D.Model}(p:AI m):Ah prog 15 [] [.agg (Ae m)] [] (.tup [Aa (CX m).1,Aa (CX m).2.1,Aa (CX m).2.2]):=by
 have y:=p.Procs.1;refine Ap func15 (Ae1 _ _ _ m) ⟨Dw m,Vw p,?_⟩;generalize q:CX m=R;unfold CX at q;refine⟨λh=>WQ gD,λh=>?_⟩;have b:=TT p (Aqr h);rw[show decide (0<(Dw m).1)=false from h,ApW]at q;refine Ar m.Procs.length (λk=>MK m (Gc m k) k) (λk=>(∀i,i<k->(!EB m i)=true)/\0<=Gc m k/\Gc m k<=16*k) ⟨λi hi=>oM,by simp[Gc],by simp[Gc]⟩ ?_;intro k u ⟨n,v,w⟩ J next
 refine Aqh (Aan _ _ _ m (Gc m k) k J rfl rfl) ⟨λg=>?_,λj=>?_⟩
 .have a:k<m.Procs.length:=by have:=AZ g;omega
  have r:(k:Int).toNat=k:=oM
  rw[r];have l:=p.Procs.2 _ (As (d:=default) a);refine⟨⟨oM,oM⟩,DO (m.Procs.getD k default),ZZ l,E3 (m.Procs.getD k default),λ_=>ZS l,Fz (m.Procs.getD k default),λ_=>UL l,?_⟩;rw[<- Kn];refine⟨λo=>WQ ?_,λo=>?_⟩
  .have e:F0 m=k:=IC (f:=λi=>!EB m i) n a (by rw[o]<;>rfl);grind
  .have s:DO (m.Procs.getD k default)=true:=by grind[Kn]
   have x:0<=(m.Procs.getD k default).Active/\(m.Procs.getD k default).Active<=16:=by
    unfold DO at s;grind
   grind[Aea,Up.of,ArM,Al,BY]
 .have c:k=m.Procs.length:=by have:=AW j;omega
  subst c;have e:F0 m=-1:=ID (f:=λi=>!EB m i) λi hi=>n i oM
  rw[e,show decide ((0:Int)<=-1)=false from rfl,ApW]at q;refine⟨λh2=>WQ gD,λh2=>?_⟩;rw[show decide (16<Gc m m.Procs.length)=false from h2,ApW]at q;have t:∀i,i<m.Procs.length->(m.Procs.getD i default).Provided<m.Exprs.length:=λi hi=>by grind[Kn,B6,Ary,Aql,Aqz]
  clear n next
  refine Ar m.Procs.length (λk=>MJ m k) (λk=>∀i:Nat,i<k->D8 m i=true) (λi hi=>oM) ?_;intro k u n J next
  refine Aqh (Aam _ _ _ m k J) ⟨λg=>?_,λj=>WQ ?_⟩
  .have a:k<m.Procs.length:=by have:=AZ g;omega
   refine⟨D8 m k,AdL b oM oM (t _ oM),λo=>WQ ?_,λo=>next _ a (λi hi=>?_) (Up.of ?_)⟩
   .have e:J6 m=k:=IC (f:=λi:Nat=>D8 m i) n a (by simpa using o);grind
   .grind
   grind[Al]
  .have c:m.Procs.length<=k:=by have:=AW j;omega
   have e:J6 m=-1:=ID (f:=λi:Nat=>D8 m i) λi hi=>n i oM
   grind
def LA (fz:Bool)(x:D.State):List VV:=[Ad true x.Globals,AK fz x.Chans,Av fz x.Procs,Aa x.Last,Aa x.Alone,Aa x.Claim]
def BW (t:List D.Type)(l:List Int):Bool:=decide (t.length=l.length)&&EH l.length λi=>DP (t.getD i default) (l.getD i 0)
def Cr (m:D.Model)(k:Int):D.Shape:=m.Shapes.getD k.toNat default
def Bd (m:D.Model)(k:Int):D.Proc:=m.Procs.getD k.toNat default
def DB (m:D.Model)(c:D.Chan):Bool:=inP m.Shapes.length c.Shape&&decide ((c.Queue.length:Int)<=(Cr m c.Shape).Room)&&EH c.Queue.length λi=>BW (Cr m c.Shape).Fields (c.Queue.getD i [])
def Bn (m:D.Model)(p:D.Process):Bool:=Ft m p.Type_&&inP (Bd m p.Type_).Locs.length p.Loc&&decide (p.Prio=(Bd m p.Type_).Prio)&&BW (Bd m p.Type_).Frame p.Frame
def M6 (m:D.Model)(s:D.State):Bool:=BW m.Globals s.Globals&&decide (s.Chans.length<=32)&&decide (s.Procs.length<=16)&&decide (0<=s.Last)&&decide (s.Last<16)&&decide (-1<=s.Alone)&&decide (s.Alone<s.Procs.length)
def F1 (m:D.Model)(s:D.State):Bool:=bif decide (m.Claim<0)then decide (s.Claim=-1)else inP (Bd m m.Claim).Locs.length s.Claim
def EM (m:D.Model)(s:D.State):Bool:=M6 m s&&(EH s.Chans.length λi=>DB m (s.Chans.getD i default))&&(EH s.Procs.length λi=>Bn m (s.Procs.getD i default))&&F1 m s
def E0 (m:D.Model):Bool:=decide ((CX m).1=0)
def B4 (m:D.Model)(s:D.State):Int:=bif E0 m then(bif EM m s then 0 else 41)else 40
structure Lim (m:D.Model):Prop where
 room:∀k:Int,0<=k->k<m.Shapes.length->(Cr m k).Room<=16
 locs:∀k:Int,0<=k->k<m.Procs.length->(Bd m k).Locs.length<=256
 one:1<=m.Procs.length
 clp:m.Claim<m.Procs.length
def CB {m:D.Model}(h:E0 m=true):Dw m=(0,0)/\F0 m=-1/\J6 m=-1:=by
 unfold E0 CX at h;have h1:∀n (f:Nat->Bool),-1<=Ky n f:=λn f=>AlO
 have k:=h1 m.Procs.length λi=>!EB m i
 have hp:=h1 m.Procs.length λi:Nat=>D8 m i
 cases b1:decide (0<(Dw m).1)with
 | true=>rw[b1,ApY]at h;simp at h
 | false =>
  rw[b1,ApW]at h;cases b2:decide (0<=F0 m)with
  | true=>rw[b2,ApY]at h;simp at h
  | false =>
   rw[b2,ApW]at h;cases b3:decide (16<Gc m m.Procs.length)with
   | true=>rw[b3,ApY]at h;simp at h
   | false =>
    rw[b3,ApW]at h;cases b4:decide (0<=J6 m)with
    | true=>rw[b4,ApY]at h;simp at h
    | false =>
     have:=Aqr b2;have:=Aqr b4;refine⟨?_,by show Ky _ _=-1;unfold F0 at *;omega,by show Ky _ _=-1;unfold J6 at *;omega⟩;have b1:=Aqr b1;unfold Dw at b1 |-;generalize(decide (128<m.Globals.length)||!decide (m.Init.length=m.Globals.length))=a at b1 |-;generalize decide (0<=GV m.Globals m.Init)=b at b1 |-;generalize(decide (32<m.Shapes.length)||decide (32<m.Chans.length))=c at b1 |-;generalize decide (0<=IW m)=d at b1 |-;generalize decide (0<=Mg m)=e at b1 |-;generalize(decide (m.Procs.length<1)||(decide (16<m.Procs.length)||(decide (m.Claim < -1)||(decide ((m.Procs.length:Int)<=m.Claim)||decide (4096<m.Exprs.length)))))=g at b1 |-;generalize decide (0<=Kr m)=j at b1 |-;cases a<;>cases b<;>cases c<;>cases d<;>cases e<;>cases g<;>cases j<;>simp at b1 |-
structure Amp (m:D.Model):Prop where
 globals:m.Globals.length<=128
 init:m.Init.length=m.Globals.length
 types:GV m.Globals m.Init<0
 shapes:m.Shapes.length<=32
 chans:m.Chans.length<=32
 shape:∀i,i<m.Shapes.length->Et (m.Shapes.getD i default)=true
 chan:∀i,i<m.Chans.length->inP m.Shapes.length (m.Chans.getD i 0)=true
 procs:1<=m.Procs.length/\m.Procs.length<=16
 claim:-1<=m.Claim/\m.Claim<m.Procs.length
 exprs:m.Exprs.length<=4096
def P5 {m:D.Model}(h:Dw m=(0,0)):Amp m:=by
 unfold Dw at h;cases a:(decide (128<m.Globals.length)||!decide (m.Init.length=m.Globals.length))with
 | true=>grind
 | false =>
 cases d:decide (0<=GV m.Globals m.Init)with
 | true=>grind
 | false =>
 cases e:(decide (32<m.Shapes.length)||decide (32<m.Chans.length))with
 | true=>grind
 | false =>
 cases b:decide (0<=IW m)with
 | true=>grind
 | false =>
 cases c:decide (0<=Mg m)with
 | true=>grind
 | false =>
 cases g:(decide (m.Procs.length<1)||(decide (16<m.Procs.length)||(decide (m.Claim < -1)||(decide ((m.Procs.length:Int)<=m.Claim)||decide (4096<m.Exprs.length)))))with
 | true=>grind
 | false =>
 simp only[Aql,Aqz,Ar1,Ap7]at a d e b c g;exact⟨oM,a.2,oM,oM,oM,Hk (f:=λi=>Et (m.Shapes.getD i default)) (by unfold IW at b;omega),Hk (f:=λi=>inP m.Shapes.length (m.Chans.getD i 0)) (by unfold Mg at c;omega),oM,oM,oM⟩
def Ed {m:D.Model}(h:F0 m=-1):∀i,i<m.Procs.length->DO (m.Procs.getD i default)=true/\E3 (m.Procs.getD i default)=true:=λi hi=>by
 have:=Hk (f:=λi=>!EB m i) (by unfold F0 at h;omega) i hi;unfold EB at this;grind
def EN {m:D.Model}(h:E0 m=true):Lim m:=by
 obtain⟨h1,h2,_⟩:=CB h;have a:=P5 h1;refine⟨λk h0 b=>?_,λk h0 b=>?_,a.procs.1,a.claim.2⟩
 .have:=a.shape k.toNat oM;unfold Et at this;simp only[ApX,Ap7]at this;exact this.1.1.1.2
 .have:=(Ed h2 k.toNat oM).2;unfold E3 at this;simp only[ApX,Ap7]at this;exact this.1.1.1.2
structure Fit (s:D.State):Prop where
 g:s.Globals.length<=128
 c:s.Chans.length<=32
 q:∀c∈s.Chans,c.Queue.length<=16/\∀x∈c.Queue,x.length<=8
 p:s.Procs.length<=16
 f:∀p∈s.Procs,p.Frame.length<=128
theorem FG {t:List D.Type}{l:List Int}(h:BW t l=true):l.length=t.length:=by
 unfold BW at h;grind
def UI {m:D.Model}{s:D.State}(a:E0 m=true)(h:EM m s=true):Fit s:=by
 have i:=EN a;obtain⟨b,e,_⟩:=CB a;have g:=P5 b;unfold EM at h;simp only[ApX]at h;obtain⟨⟨⟨h1,h2⟩,h3⟩,h4⟩:=h;unfold M6 at h1;simp only[ApX,Ap7]at h1;obtain⟨⟨⟨⟨⟨⟨g1,j⟩,k⟩,q⟩,r⟩,t⟩,u⟩:=h1;refine⟨?_,j,λc l=>?_,k,λp hp=>?_⟩
 .rw[FG g1];exact g.globals
 .have h:=(Cz (d:=default) (f:=λc=>DB m c)).1 h2 c l;unfold DB at h;simp only[ApX,Ap7]at h;have hi:=Cd.1 h.1.1;have v:=i.room _ hi.1 hi.2;refine⟨oM,λx n=>?_⟩;have o:=(Cz (d:=[]) (f:=λx=>BW (Cr m c.Shape).Fields x)).1 h.2 x n;rw[FG o];have:=g.shape c.Shape.toNat oM;unfold Et at this;simp only[ApX,Ap7]at this;exact this.1.2
 .have h:=(Cz (d:=default) (f:=λc=>Bn m c)).1 h3 p hp;unfold Bn Ft at h;simp only[ApX,Ap7]at h;rw[FG h.2];have:=(Ed e p.Type_.toNat oM).1;unfold DO at this;simp only[ApX,Ap7]at this;exact this.1.1.1.1.1.1.1.1
def LP (f:FuncId):Shp:=bif Nat.beq f 70 then RQ else Bw f
def N2:Ann:={keep:=fun
  | [0,1,0,1,1]=>[0,12,13,14]
  | _=>[]}
def KI:Ann:={keep:=fun
  | [0,1,0,1,1]=>[2,3,32,33,34]
  | _=>[]}
def Hn:Ann:={keep:=fun
  | [0,1,0,1,1]=>[2,3,51,52,53]
  | [0,1,0,1,1,1]=>[2,3,63,64,65]
  | _=>[]}
def O7 (t:List D.Type)(l:List Int)(k:Int):St:=An [(0,AG true t),(12,Ad true l),(13,Aa l.length),(14,Aa k)] []
def KV (m:D.Model)(c:D.Chan)(k:Int):St:=An [(2,.bp 0 0),(3,.bp 1 0),(32,Bx true c.Queue),(33,Aa c.Queue.length),(34,Aa k)] [.box (Ae m),.box (Ay c)]
def Pd (m:D.Model)(s:D.State)(k:Int):St:=An [(2,.bp 0 0),(3,.bp 1 0),(51,AK false s.Chans),(52,Aa s.Chans.length),(53,Aa k)] [.box (Ae m),.box (LA false s)]
def Pc (m:D.Model)(s:D.State)(k:Int):St:=An [(2,.bp 0 0),(3,.bp 1 0),(63,Av false s.Procs),(64,Aa s.Procs.length),(65,Aa k)] [.box (Ae m),.box (LA false s)]
def AcA (b:Bool)(t:List D.Type)(l:List Int):(fc LP N2 f115 [] (Ac b)).goal (St.init [] [AG true t,Ad true l]) =
  (BB ((↑t.length:Int) != (↑l.length:Int)) (LQ (Ac false) (Ac b)) (AB (fc LP N2 f115 [] (Ac b)) [1,1,0,1,0] (O7 t l (0:Int)))):=kR
def Xw (b:Bool)(m:D.Model)(c:D.Chan):(fc LP KI f116 [] (Ac b)).goal (St.init [] [.agg (Ae m),.agg (Ay c)]) =
  (((true&&(bif decide (c.Shape<0)then true else decide (c.Shape>=(↑m.Shapes.length:Int)))==false)=true->inX c.Shape m.Shapes.length)/\BB (bif bif decide (c.Shape<0)then true else decide (c.Shape>=(↑m.Shapes.length:Int))then true else decide ((↑c.Queue.length:Int) > (m.Shapes.getD c.Shape.toNat default).Room)) (LQ (Ac false) (Ac b)) (AB (fc LP KI f116 [] (Ac b)) [1,1,0,1,0] (KV m c (0:Int)))):=kR
def Wl (b:Bool)(m:D.Model)(p:D.Process){a}(c:a=m.Procs.getD p.Type_.toNat default):(fc LP AH f117 [] (Ac b)).goal (St.init [] [.agg (Ae m),.agg (Aw p)]) =
  (BB (bif bif decide (p.Type_<0)then true else decide (p.Type_>=(↑m.Procs.length:Int))then true else p.Type_==m.Claim) (LQ (Ac false) (Ac b)) (inX p.Type_ m.Procs.length/\∃(y:Bool),((true&&(bif bif decide (p.Loc>=0)then decide (p.Loc<(↑a.Locs.length:Int))else false then p.Prio==a.Prio else false)==true)=true->VC 115 [AG true a.Frame,Ad true p.Frame] (Ac y))/\LQ (Ac (bif bif bif decide (p.Loc>=0)then decide (p.Loc<(↑a.Locs.length:Int))else false then p.Prio==a.Prio else false then y else false)) (Ac b))):=by subst c;kernel_rfl
def Yy (b:Bool)(m:D.Model)(s:D.State):(fc LP Hn f96 [] (Ac b)).goal (St.init [] [.agg (Ae m),.agg (LA false s)]) =
  (∃(y:Bool),VC 115 [AG true m.Globals,Ad true s.Globals] (Ac y)/\BB (bif bif bif bif bif bif !y then true else decide ((↑s.Chans.length:Int) > 32)then true else decide ((↑s.Procs.length:Int) > 16)then true else decide (s.Last<0)then true else decide (s.Last>=16)then true else decide (s.Alone<(-1:Int))then true else decide (s.Alone>=(↑s.Procs.length:Int))) (LQ (Ac false) (Ac b)) (AB (fc LP Hn f96 [] (Ac b)) [1,1,0,1,0] (Pd m s (0:Int)))):=kR
def Ak6 (b:Bool)(m:D.Model):(fc LP AH f17 [] (Ac b)).goal (St.init [] [.agg (Ae m)]) =
  (∃(y:Int×Int×Int),VC 15 [VV.agg (Ae m)] (VV.tup [Aa y.fst,Aa y.snd.fst,Aa y.snd.snd])/\LQ (Ac (y.fst==0)) (Ac b)):=kR
def VJ (r:Int)(m:D.Model)(s:D.State):(fc LP AH f70 [] (Aa r)).goal (St.init [] [.agg (Ae m),.agg (Ag s)]) =
  (∃(y:Bool),VC 17 [VV.agg (Ae m)] (Ac y)/\BB (!y) (LQ (Aa 40) (Aa r)) (∃(y:Bool),VC 96 [VV.agg (Ae m),VV.agg (Ag s)] (Ac y)/\BB (!y) (LQ (Aa 41) (Aa r)) (LQ (Aa 0) (Aa r)))):=kR
def Yo (b:Bool)(t:List D.Type)(l:List Int)(k:Int)(J:St->Prop):((fc LP N2 f115 [] (Ac b)).loop [1,1,0,1,0] J).goal (O7 t l k) =
  (BB (decide (k<(↑l.length:Int))) (inX k l.length/\inX k t.length/\∃(y:Bool),VC 85 [VV.agg (CW (t.getD k.toNat default)),Aa (l.getD k.toNat 0)] (Ac y)/\BB (!y) (LQ (Ac false) (Ac b)) (J (O7 t l (i64.wrap (k+(1:Int)))))) (LQ (Ac true) (Ac b))):=kR
def UO (b:Bool)(m:D.Model)(c:D.Chan)(k:Int)(J:St->Prop):((fc LP KI f116 [] (Ac b)).loop [1,1,0,1,0] J).goal (KV m c k) =
  (BB (decide (k<(↑c.Queue.length:Int))) (inX k c.Queue.length/\inX c.Shape m.Shapes.length/\∃(y:Bool),VC 115 [AG true (m.Shapes.getD c.Shape.toNat default).Fields,Ad true (c.Queue.getD k.toNat [])] (Ac y)/\BB (!y) (LQ (Ac false) (Ac b)) (J (KV m c (i64.wrap (k+(1:Int)))))) (LQ (Ac true) (Ac b))):=kR
def VH (b:Bool)(m:D.Model)(s:D.State)(k:Int)(J:St->Prop):((fc LP Hn f96 [] (Ac b)).loop [1,1,0,1,0] J).goal (Pd m s k) =
  (BB (decide (k<(↑s.Chans.length:Int))) (inX k s.Chans.length/\∃(y:Bool),VC 116 [VV.agg (Ae m),VV.agg (Ay (s.Chans.getD k.toNat default))] (Ac y)/\BB (!y) (LQ (Ac false) (Ac b)) (J (Pd m s (i64.wrap (k+(1:Int)))))) (AB (fc LP Hn f96 [] (Ac b)) [1,1,1,0,1,0] (Pc m s (0:Int)))):=kR
def VG (b:Bool)(m:D.Model)(s:D.State)(k:Int)(J:St->Prop):((fc LP Hn f96 [] (Ac b)).loop [1,1,1,0,1,0] J).goal (Pc m s k) =
  (BB (decide (k<(↑s.Procs.length:Int))) (inX k s.Procs.length/\∃(y:Bool),VC 117 [VV.agg (Ae m),VV.agg (Aw (s.Procs.getD k.toNat default))] (Ac y)/\BB (!y) (LQ (Ac false) (Ac b)) (J (Pc m s (i64.wrap (k+(1:Int)))))) (BB (decide (m.Claim<0)) (LQ (Ac (s.Claim==(-1:Int))) (Ac b)) (((true&&decide (s.Claim>=0)==true)=true->inX m.Claim m.Procs.length)/\LQ (Ac (bif decide (s.Claim>=0)then decide (s.Claim<(↑(m.Procs.getD m.Claim.toNat default).Locs.length:Int))else false)) (Ac b)))):=kR
end Go.Proofs.YtedfjceonnoifaaGreatDoor
namespace Go.Proofs.YtedfjceonnoifaaGreatDoor
open Go.RowKit Go.Proofs.Tryz
open IntKind(i64)
def UC {xs ys:List VV}(b:ys.length=xs.length)(h:∀(j:Nat) x y,xs[j]?=some x->ys[j]?=some y->leS x y):leS (.agg xs) (.agg ys):=by
 intro w E m v c hv;obtain⟨vs,rfl,h1,h2⟩:=hv.agg_inv;refine .agg (h1.trans b.symm) λj y d=>?_
 have a:j<xs.length:=gD
 exact h j _ y (Ap8 a) d w E m _ c (h2 j _ (Ap8 a))
def ET {k:Nat}{P:Nat->Prop}(a:∀i,i<k->P i)(h:P k):∀i,i<k+1->P i:=gD
def Len (n:Nat):Prop:=n<=1099511627776
def LL {t:List D.Type}{l:List Int}(f:Len l.length):Ah prog 115 [] [AG true t,Ad true l] [] (Ac (BW t l)):=by
 unfold Len at f;refine Ap func115 (AcA _ t l) ⟨λh=>AA ?_,λh=>?_⟩
 .unfold BW;grind
 .have c:t.length=l.length:=by simp at h;omega
  have e:BW t l=EH l.length λi=>DP (t.getD i default) (l.getD i 0):=by unfold BW;grind
  rw[e];refine Ar l.length (λk=>O7 t l k) (λk=>∀i,i<k->DP (t.getD i default) (l.getD i 0)=true) (λi hi=>oM) ?_;intro k m g J next
  refine Aqh (Yo _ t l k J) ⟨λb=>?_,λj=>AA ?_⟩
  .have a:k<l.length:=by have:=AZ b;omega
   refine⟨⟨oM,oM⟩,⟨oM,oM⟩,DP (t.getD k default) (l.getD k 0),NV _ _,λd=>AA ?_,λd=>next _ a (ET g (by simpa using d)) (Up.of ?_)⟩
   .grind[DC]
   grind[Al]
  grind[AW,BP]
structure Ajw (c:D.Chan):Prop where
 q:Len c.Queue.length
 m:∀x∈c.Queue,Len x.length
def UN {m:D.Model}{c:D.Chan}(f:Ajw c):Ah prog 116 [] [.agg (Ae m),.agg (Ay c)] [] (Ac (DB m c)):=by
 have j:=f.q;unfold Len at j;refine Ap func116 (Xw _ m c) ⟨λh=>?_,λh=>AA ?_,λh=>?_⟩
 .simp at h;omega
 .symm;rw[AqO];intro b;unfold DB at b;simp only[ApX,Ap7]at b;have:=Cd.1 b.1.1;have l:(Cr m c.Shape).Room=(m.Shapes.getD c.Shape.toNat default).Room:=rfl;grind
 .have hs:0<=c.Shape/\c.Shape<m.Shapes.length/\(c.Queue.length:Int)<=(Cr m c.Shape).Room:=by
   have l:(Cr m c.Shape).Room=(m.Shapes.getD c.Shape.toNat default).Room:=rfl;grind
  have e:DB m c=EH c.Queue.length λi=>BW (Cr m c.Shape).Fields (c.Queue.getD i []):=by
   unfold DB;grind[Cd]
  rw[e];refine Ar c.Queue.length (λk=>KV m c k) (λk=>∀i,i<k->BW (Cr m c.Shape).Fields (c.Queue.getD i [])=true) (λi hi=>oM) ?_;intro k p n J next
  refine Aqh (UO _ m c k J) ⟨λd=>?_,λo=>AA ?_⟩
  .have a:k<c.Queue.length:=by have:=AZ d;omega
   refine⟨⟨oM,oM⟩,⟨hs.1,hs.2.1⟩,BW (Cr m c.Shape).Fields (c.Queue.getD k []),LL (f.m _ (As a)),λg=>AA ?_,λg=>next _ a (ET n (by simpa using g)) (Up.of ?_)⟩
   .grind[DC]
   grind[Al]
  grind[AW,BP]
def Um {m:D.Model}{p:D.Process}(hp:Len p.Frame.length):Ah prog 117 [] [.agg (Ae m),.agg (Aw p)] [] (Ac (Bn m p)):=by
 have a:(Bd m p.Type_)=m.Procs.getD p.Type_.toNat default:=rfl;refine Ap func117 (Wl _ m p rfl) ⟨λh=>AA ?_,λh=>⟨?_,BW (Bd m p.Type_).Frame p.Frame,λ_=>LL hp,AA ?_⟩⟩
 .unfold Bn Ft;grind
 .simp at h;omega
 .unfold Bn Ft inP;grind
structure BH (s:D.State):Prop where
 g:Len s.Globals.length
 c:Len s.Chans.length
 p:Len s.Procs.length
 cs:∀c∈s.Chans,Ajw c
 ps:∀p∈s.Procs,Len p.Frame.length
def TV {m:D.Model}{s:D.State}(hs:BH s)(r:m.Claim<m.Procs.length):Ah prog 96 [] [.agg (Ae m),.agg (LA false s)] [] (Ac (EM m s)):=by
 have t:=hs.c;have hp:=hs.p;unfold Len at t hp;have u:(bif bif bif bif bif bif !(BW m.Globals s.Globals)then true else decide ((s.Chans.length:Int) > 32)then true else decide ((s.Procs.length:Int) > 16)then true else decide (s.Last<0)then true else decide (s.Last>=16)then true else decide (s.Alone<(-1:Int))then true else decide (s.Alone>=(s.Procs.length:Int)))=!(M6 m s):=by
  unfold M6;grind
 refine Ap func96 (Yy _ m s) ⟨BW m.Globals s.Globals,LL hs.g,?_⟩;rw[u];have d:EM m s=(M6 m s&&(EH s.Chans.length λi=>DB m (s.Chans.getD i default))&&(EH s.Procs.length λi=>Bn m (s.Procs.getD i default))&&F1 m s):=rfl;generalize EM m s=b at d |-;refine⟨λh=>AA ?_,λh=>?_⟩
 .grind
 rw[show M6 m s=true by simpa using h,AqX]at d;refine Ar s.Chans.length (λk=>Pd m s k) (λk=>∀i,i<k->DB m (s.Chans.getD i default)=true) (λi hi=>oM) ?_;intro k v l J next
 refine Aqh (VH _ m s k J) ⟨λe=>?_,λj=>?_⟩
 .have a:k<s.Chans.length:=by have:=AZ e;omega
  refine⟨⟨oM,oM⟩,DB m (s.Chans.getD k default),UN (hs.cs _ (As a)),λo=>AA ?_,λo=>next _ a (ET l (by simpa using o)) (Up.of ?_)⟩
  .grind[DC]
  grind[Al]
 have q:s.Chans.length<=k:=by have:=AW j;omega
 rw[(BP (n:=s.Chans.length) (f:=λi=>DB m (s.Chans.getD i default))).2 λi hi=>l i oM,AqX]at d;clear l next
 refine Ar s.Procs.length (λk=>Pc m s k) (λk=>∀i,i<k->Bn m (s.Procs.getD i default)=true) (λi hi=>oM) ?_;intro k v l J next
 refine Aqh (VG _ m s k J) ⟨λe=>?_,λj=>?_⟩
 .have a:k<s.Procs.length:=by have:=AZ e;omega
  refine⟨⟨oM,oM⟩,Bn m (s.Procs.getD k default),Um (hs.ps _ (As a)),λo=>AA ?_,λo=>next _ a (ET l (by simpa using o)) (Up.of ?_)⟩
  .grind[DC]
  grind[Al]
 have q:s.Procs.length<=k:=by have:=AW j;omega
 rw[(BP (n:=s.Procs.length) (f:=λi=>Bn m (s.Procs.getD i default))).2 λi hi=>l i oM,AqX]at d;unfold F1 at d;refine⟨λh2=>AA ?_,λh2=>⟨λ_=>⟨?_,r⟩,AA ?_⟩⟩
 .grind
 .grind
 .rw[h2,ApW]at d;rw[d,BU]<;>rfl
def VF {m:D.Model}{s:D.State}(hs:BH s)(c:m.Claim<m.Procs.length):Ah prog 96 [] [.agg (Ae m),.agg (Ag s)] [] (Ac (EM m s)):=by
 refine(TV hs c).frz rfl λj x y a b=>?_
 match j,a,b with
 | 0,a,b=>grind[Aqj,ApZ,Dz]
 | 1,a,b =>
  simp only[AqQ,Aqj,ApZ]at a b;subst a b;refine UC rfl λj x y a b=>?_
  match j,a,b with
  | 0,a,b=>simp only[Ag,LA,Aqj,ApZ]at a b;subst a b;exact Dz _
  | 1,a,b=>simp only[Ag,LA,AqQ,Aqj,ApZ]at a b;subst a b;exact Kg
  | 2,a,b=>simp only[Ag,LA,AqQ,Aqj,ApZ]at a b;subst a b;exact Kg
  | 3,a,b=>simp only[Ag,LA,AqQ,Aqj,ApZ]at a b;subst a b;exact Dz _
  | 4,a,b=>simp only[Ag,LA,AqQ,Aqj,ApZ]at a b;subst a b;exact Dz _
  | 5,a,b=>simp only[Ag,LA,AqQ,Aqj,ApZ]at a b;subst a b;exact Dz _
  | j+6,a,b=>simp[Ag]at a
 | j+2,a,b=>simp at a
def QO {m:D.Model}(a:AI m):Ah prog 17 [] [.agg (Ae m)] [] (Ac (E0 m)) :=
 Ap func17 (Ak6 _ m) ⟨CX m,Mf a,AA (ieq _ _)⟩
def Dx {m:D.Model}{s:D.State}(b:AI m)(hs:BH s)(a:E0 m=true->m.Claim<m.Procs.length):Ah prog 70 [] [.agg (Ae m),.agg (Ag s)] [] (Aa (B4 m s)):=by
 refine Ap func70 (VJ _ m s) ⟨E0 m,QO b,λh=>Bj ?_,λh=>⟨EM m s,VF hs (a (by simpa using h)),λh2=>Bj ?_,λh2=>Bj ?_⟩⟩
 .unfold B4;grind
 .unfold B4;grind
 .unfold B4;grind
def Fit.small {s:D.State}(h:Fit s):BH s:=by
 have hg:=h.g;have a:=h.c;have hp:=h.p;refine⟨by unfold Len;omega,by unfold Len;omega,by unfold Len;omega,λc a=>⟨by have:=(h.q c a).1;unfold Len;omega,λx b=>by have:=(h.q c a).2 x b;unfold Len;omega⟩,λp hp=>by have:=h.f p hp;unfold Len;omega⟩
def Me {m:D.Model}{s:D.State}(h:B4 m s=0):E0 m=true/\EM m s=true:=by
 unfold B4 at h;grind
def Aod {w:World}{b:Nat}{o:Obj}(h:w.heap[b]?=some o):b<w.heap.size:=lt_of_block h
def Co {w:World}{b i:Nat}{cs:Array Value}{t:TypeId}{v:Value}(h:w.heap[b]?=some (.cells cs t (0,0)))(hi:cs[i]?=some v):w.cell? ⟨b,i,none⟩=some v:=by
 simp[World.cell?,h,hi]
def DY {w:World}{b i:Nat}{cs:Array Value}{t:TypeId}(h:w.heap[b]?=some (.cells cs t (0,0))):w.frozen? ⟨b,i,none⟩=false:=by
 simp[World.frozen?,h]
def Nk {w:World}{b i:Nat}{cs:Array Value}{t:TypeId}(h:w.heap[b]?=some (.cells cs t (0,0)))(u:Value):(w.setCell ⟨b,i,none⟩ u).heap[b]?=some (.cells (cs.setIfInBounds i u) t (0,0)) :=
 heap_setCell_same w b i cs t u h
def Fe {P:Program}{t:TypeId}{z:Value}{s b:Nat}(h:(P.info? t).map (λi=>(i.zero,i.size,i.bytes))=some (some z,s,b)):∃i,P.info? t=some i/\i.zero=some z/\i.size=s/\i.bytes=b:=by
 cases hi:P.info? t with
 | none=>rw[hi]at h;cases h
 | some i=>rw[hi]at h;simp only[ArN,ApZ,AqD]at h;exact⟨i,rfl,h⟩
def WU:(prog.info? 2).map (λi=>(i.zero,i.size,i.bytes))=some (some (.int .i64 0),1,8):=kR
def AkY {w:World}{n0:Nat}{e:TypeId}{v:Value}{n:Nat}{xs:List Value}(h:w.ownsRow n0 e 1 v n xs) :
  ∃ao cap,v=.slice ao n cap/\n<=cap/\cap<=maxLen/\(0<n->∃g,ao=some ⟨g,0,none⟩/\n0<=g/\g<w.heap.size/\∀j,j<n->w.cell? ⟨g,j,none⟩=xs[j]?):=by
 rcases h.2 with⟨rfl,rfl⟩ | ⟨g,cap,cur,rfl,a,hg,h1,h2,_⟩
 .exact⟨none,0,rfl,Ap1 _,Ap3 _,λh=>oM⟩
 .exact⟨_,cap,rfl,h1,h2,λ_=>⟨g,rfl,a,Aod hg,λj b=>h.cellAt j oM⟩⟩
def Vq {w:World}{E:AP}{m:Option Phi}{n0:Nat}{v:Value}{xs:List Int}(h:w.ownsRow n0 2 1 v xs.length (xs.map (Value.int .i64)))(c:∀k,E.fz k->k<n0):V w E m (Ad true xs) v:=by
 obtain⟨ao,cap,rfl,h1,h2,h3⟩:=AkY h;refine ArZ h1 h2 λhp=>?_
 obtain⟨g,rfl,hg,b,d⟩:=h3 hp;refine⟨g,0,rfl,b,λe=>by have:=c g e;omega,λi _=>rfl,λi _=>.int .i64 (xs.getD i 0),λi j y hi a=>?_,λi j y hi a=>?_⟩
 .match j,a with
  | 0,_ =>
   have:=d i hi;simp only[AqC,Nat.mul_one,Arg];rw[this];simp[List.getD,hi]
  | j+1,a=>simp at a
 .match j,a with
  | 0,a=>simp only[Aqj,ApZ]at a;subst a;exact .sc
  | j+1,a=>simp at a
set_option maxHeartbeats 1000000 in
def ON {w:World}{ao:Option Addr}{cap:Nat}{xs:List Int}(h1:xs.length<=cap)(h2:cap<=maxLen)(t:xs.length*8<=140737488355328)(h3:0<xs.length->∃a,ao=some a/\∀i,i<xs.length->w.cell? (a.add i)=some (.int .i64 (xs.getD i 0))) :
  Calls prog 18 #[.slice ao xs.length cap] w λe w'=>∃h,e=.returned h/\w'.ownsRow w.heap.size 2 1 h xs.length (xs.map (Value.int .i64))/\Below w.heap.size w w':=by
 have q:∀(w:World)(a:Option Addr)(n c m c':Nat),(binOp .eql 23 (.slice a n c) (.slice none m c')).run prog w=.ok (.bool a.isNone) w:=λw a n c m c'=>Lib.run_eql_slice_nil w _ _ a n c m c' underlying23
 obtain⟨ki,khi,khz0,khz1,khz2⟩:=Fe WU;cases ao with
 | none =>
  have h0:xs=[]:=by
   apply AqJ;apply Aqf;intro hp;obtain⟨_,e,_⟩:=h3 oM;cases e
  subst h0;clear h3
  go_enter func18,ntmps18
  go_wp2
  go_ret
  exact⟨_,rfl,World.ownsRow_nil _ _ _ _,Below.refl _ _⟩
 | some a =>
  have o:∀(j:Nat)(u:Value),(xs.map (Value.int .i64))[j]?=some u->w.cell? (a.add j)=some u:=by
   intro j u l;have d:j<xs.length:=by have:=(Ap4.1 l).1;simpa using this
   obtain⟨v,e,r⟩:=h3 oM;simp only[ApZ]at e;subst e;rw[r j d,<- l];simp[List.getD,d]
  have HN:=Lib.hid o;clear h3 o;have f:=h2;unfold maxLen at f
  go_enter func18,ntmps18
  go_wp2_with (at_builtin;refine wpList_append_own _ rfl _ _ 23 rfl w.heap.size 2 ki (.int .i64 0) 1 8 underlying23 khi khz0 khz1 khz2 rfl dZ _ _ _ rfl (World.ownsRow_made w #[] 0 (Ap1 _) (Ap3 _) sM) a xs.length cap (xs.map (Value.int .i64)) rfl ?qc1 ?qc2 ?qc3 ?qc4 ?qc5 ?qc6 ?_)
  case qc1=>simp
  case qc2=>intro j u l;have:=HN.out j u l;exact Lib.cell?_alloc_some _ this
  case qc3=>intro u p;simp at p;obtain⟨x,_,rfl⟩:=p;rfl
  case qc4=>unfold maxLen;omega
  case qc5=>omega
  case qc6=>simp
  intro h y g b _
  go_wp2
  go_ret
  exact⟨h,rfl,by simpa using g,((Below.refl _ w).alloc (Ap1 _) _).grown b sM (by intro k s;simp[Value.ownBlock]at s;omega)⟩
def Aaj {xs:List Int}(c:xs.length*8<=140737488355328):Ah prog 18 [] [Ad true xs] [] (Ad true xs):=by
 refine Ah.hand ⟨_,func18,rfl,kR⟩ λw E vs d m _ _ hs=>?_
 obtain⟨n,us1,rfl,f,hs⟩:=hs.cons_inv;obtain rfl:=hs.nil_inv;obtain⟨ao,cap,rfl,h1,h2,h3⟩:=V.sl_inv f;refine(ON h1 h2 c λhp=>?_).mono ?_
 .obtain⟨b,off,rfl,_,_,_,u,g,hv⟩:=h3 hp;refine⟨_,rfl,λi hi=>?_⟩;have a:=g i 0 _ hi rfl;have h:=(hv i 0 _ hi rfl).sc_inv;rw[Addr.add_lit];rw[h]at a;simpa using a
 .rintro e w' ⟨j,rfl,k,l⟩;exact⟨j,rfl,Vq k d,l⟩
def Dt (f:FuncId):Shp :=
 bif Nat.beq f 154||Nat.beq f 219||Nat.beq f 204||Nat.beq f 43 then RQ
 else bif Nat.beq f 124||Nat.beq f 208||Nat.beq f 180||Nat.beq f 201||Nat.beq f 203||Nat.beq f 178||Nat.beq f 179||Nat.beq f 182||Nat.beq f 177||Nat.beq f 202||Nat.beq f 183||Nat.beq f 155||Nat.beq f 206||Nat.beq f 207 then Al7
 else bif Nat.beq f 176 then YR
 else bif Nat.beq f 18||Nat.beq f 107 then Am3 else LP f
def Ru:Ann:={keep:=fun
  | [0,1,0,1,1,1,1,1,1]=>[0,8,10,46,47,48]
  | _=>[]}
def Nn:Ann:={keep:=fun
  | [0,1,0,1,1,1,1,1,1]=>[0,3,8,9,51,52,53]
  | _=>[]}
def Jj:Ann:={keep:=fun
  | [0,1,0,1]=>[0,9,10,11]
  | _=>[]}
def N8:Ann:={keep:=fun
  | [0,1,0,1]=>[0,1,7,8]
  | _=>[]}
def Rz:Ann:={keep:=fun
  | [0,1,0,1]=>[1,2,3,12,13,14]
  | _=>[]}
def Ry:Ann:={keep:=fun
  | [0,1,0,1,1]=>[0,1,21,22,23]
  | _=>[]}
def DS:Ann:={cut:=(λ| 1::0::1::1::0::0::0::0::q=>Nat.beq q.length 29 | 1::0::1::1::1::0::0::0::0::q=>Nat.beq q.length 29 | _=>false),keep:=fun
  | 1::0::1::1::0::0::0::0::q=>bif Nat.beq q.length 29 then[0,6,21,26]else[]
  | 1::0::1::1::1::0::0::0::0::q=>bif Nat.beq q.length 29 then[0,6,21,30]else[]
  | _=>[]}
def AkX:List Nat:=[1,1,0,1,0,0,0,0,0,0,0,0,0,0,0,0,0,0,0,0,0,0,0,0,0,0,0,0,0,0,0,0,0,1,1,0,1]
def AdV:List Nat:=[1,1,0,1,0,0,0,0,0,0,0,0,0,0,0,0,0,0,0,0,0,0,0,0,0,0,0,0,0,0,0,0,0,1,1,1,0,1]
def HX (e:D.Env)(x:D.Expr)(i:Nat)(b:Bool):St:=An [(0,.tp (Ai e)),(6,.bp 0 0),(21,Aa x.Op),(i,Ac b)] [.box (AE x)]
def Qd (e:D.Env)(ds:List D.Dim)(who at' k:Int):St:=An [(0,.tp (Ai e)),(8,Aa who),(10,Aa at'),(46,Bb true ds),(47,Aa ds.length),(48,Aa k)] []
def YC (e:D.Env)(x:D.Expr)(c:D.Chan)(l:List Int)(k:Int):St:=An [(0,.tp (Ai e)),(3,.bp 0 0),(8,.bp 1 0),(9,.ow 2 0 l.length),(51,Ad true x.Args),(52,Aa x.Args.length),(53,Aa k)] [.box (AE x),.box (Ay c),.arr true 0 l.length 1 (AO l)]
def T4 (e:D.Env)(k:Int):St:=An [(0,.tp (Ai e)),(9,Av true e.S.Procs),(10,Aa e.S.Procs.length),(11,Aa k)] []
def AaT (l:List Int)(v k:Int):St:=An [(0,Ad true l),(1,Aa v),(7,Aa l.length),(8,Aa k)] []
def T6 (c:D.Chan)(l mt:List Int)(any:Bool)(k:Int):St:=An [(1,Ad false l),(2,Ad true mt),(3,Ac any),(12,Bx true c.Queue),(13,Aa c.Queue.length),(14,Aa k)] []
def T5 (x l mt:List Int)(k:Int):St:=An [(0,Ad true x),(1,Ad false l),(21,Ad true mt),(22,Aa mt.length),(23,Aa k)] []
def Xi (r:Int)(e:D.Env)(x:Int):(fc Dt AH f154 [] (Aa r)).goal (St.init [] [.agg (Ai e),Aa x]) =
  (∃(y:Int),VC 70 [VV.agg (Ae e.M),VV.agg (Ag e.S)] (Aa y)/\BB (y != 0) (LQ (Aa y) (Aa r)) (BB (bif bif bif decide (e.Pid<(-1:Int))then true else decide (e.Pid>=(↑e.S.Procs.length:Int))then true else decide (x<0)then true else decide (x>=(↑e.M.Exprs.length:Int))) (LQ (Aa 42) (Aa r)) (LQ (Aa 0) (Aa r)))):=kR
def AeP (v r:Int)(e:D.Env)(x:Int):(fc Dt AH f124 [] (.tup [Aa v,Aa r])).goal (St.init [] [.agg (Ai e),Aa x]) =
  (∃(y:Int),VC 154 [VV.agg (Ai e),Aa x] (Aa y)/\BB (y != 0) (LQ (VV.tup [Aa 0,Aa y]) (VV.tup [Aa v,Aa r])) (∃(y:Int×Int),VC 155 [VV.tp (Ai e),Aa x] (VV.tup [Aa y.fst,Aa y.snd])/\LQ (VV.tup [Aa y.fst,Aa y.snd]) (VV.tup [Aa v,Aa r]))):=kR
def AeQ (v r:Int)(e:D.Env)(x:Int):(fc Dt AH f208 [] (.tup [Aa v,Aa r])).goal (St.init [] [.agg (Ai e),Aa x]) =
  (∃(y:Int),VC 154 [VV.agg (Ai e),Aa x] (Aa y)/\BB (y != 0) (LQ (VV.tup [Aa 0,Aa y]) (VV.tup [Aa v,Aa r])) (∃(y:Int×Int),VC 203 [VV.tp (Ai e),Aa x] (VV.tup [Aa y.fst,Aa y.snd])/\LQ (VV.tup [Aa y.fst,Aa y.snd]) (VV.tup [Aa v,Aa r]))):=kR
def AcE (v r:Int)(c:Bool):(fc Dt AH f180 [] (.tup [Aa v,Aa r])).goal (St.init [] [Ac c]) =
  (BB c (LQ (VV.tup [Aa 1,Aa 0]) (VV.tup [Aa v,Aa r])) (LQ (VV.tup [Aa 0,Aa 0]) (VV.tup [Aa v,Aa r]))):=kR
def ZQ (v r:Int)(e:D.Env)(x:D.Var){c}(d:c=LQ (VV.tup [Aa 0,Aa 42]) (VV.tup [Aa v,Aa r])){a}(f:a=[Aa v,Aa r]):(fc Dt AH f201 [] (.tup [Aa v,Aa r])).goal (St.init [] [.tp (Ai e),.agg (CH x)]) =
  (BB (x.Scope==0) (∃(y:Int),VC 94 [.agg (CH x)] (Aa y)/\BB (decide (y > (↑e.S.Globals.length:Int))) c (LQ (.tup [Aa (-1),Aa 0]) (.tup a))) (BB (x.Scope==1) (∃(y:Int),((true&&decide (e.Pid<0)==false)=true->VC 94 [.agg (CH x)] (Aa y))/\((true&&decide (e.Pid<0)==false)=true->inX e.Pid e.S.Procs.length)/\BB (bif decide (e.Pid<0)then true else decide (y > (↑(e.S.Procs.getD e.Pid.toNat default).Frame.length:Int))) c (LQ (.tup [Aa e.Pid,Aa 0]) (.tup a))) (∃(y:Int×Int),VC 155 [.tp (Ai e),Aa x.Who] (.tup [Aa y.fst,Aa y.snd])/\BB (y.snd != 0) (LQ (.tup [Aa 0,Aa y.snd]) (.tup a)) (((true&&(bif decide (y.fst<0)then true else decide (y.fst>=(↑e.S.Procs.length:Int)))==false)=true->inX y.fst e.S.Procs.length)/\BB (bif bif decide (y.fst<0)then true else decide (y.fst>=(↑e.S.Procs.length:Int))then true else(e.S.Procs.getD y.fst.toNat default).Type_ != x.Type_) (LQ (.tup [Aa 0,Aa 52]) (.tup a)) (∃(b:Int),VC 94 [.agg (CH x)] (Aa b)/\inX y.fst e.S.Procs.length/\BB (decide (b > (↑(e.S.Procs.getD y.fst.toNat default).Frame.length:Int))) c (LQ (.tup [Aa y.fst,Aa 0]) (.tup a))))))):=by subst d f;kernel_rfl
def Age (p k r:Int)(e:D.Env)(x:Int){a}(c:a=e.M.Exprs.getD x.toNat default){b}(d:b=[Aa p,Aa k,Aa r]):(fc Dt Ru f176 [] (.tup [Aa p,Aa k,Aa r])).goal (St.init [] [.tp (Ai e),Aa x]) =
  (inX x e.M.Exprs.length/\inX x e.M.Exprs.length/\BB (a.Op != 2) (LQ (.tup [Aa 0,Aa 0,Aa 42]) (.tup b)) (∃(y:Int×Int),VC 201 [.tp (Ai e),.agg (CH a.V)] (.tup [Aa y.fst,Aa y.snd])/\BB (y.snd != 0) (LQ (.tup [Aa 0,Aa 0,Aa y.snd]) (.tup b)) (AB (fc Dt Ru f176 [] (.tup b)) [1,1,1,1,1,1,0,1,0] (Qd e a.V.Dims y.fst a.V.Slot (0:Int))))):=by subst c d;kernel_rfl
def Acf (v r:Int)(e:D.Env)(x:Int):(fc Dt AH f203 [] (.tup [Aa v,Aa r])).goal (St.init [] [.tp (Ai e),Aa x]) =
  (∃(y:Int×Int),VC 155 [VV.tp (Ai e),Aa x] (VV.tup [Aa y.fst,Aa y.snd])/\BB (y.snd != 0) (LQ (VV.tup [Aa 0,Aa y.snd]) (VV.tup [Aa v,Aa r])) (BB (bif decide (y.fst<1)then true else decide (y.fst > (↑e.S.Chans.length:Int))) (LQ (VV.tup [Aa 0,Aa 49]) (VV.tup [Aa v,Aa r])) (LQ (VV.tup [Aa y.fst,Aa 0]) (VV.tup [Aa v,Aa r])))):=kR
def Ajo (v r:Int)(e:D.Env)(x:D.Expr){f}(g:f=λ(y:Int×Int)=>e.S.Chans.getD (i64.wrap (y.fst-(1:Int))).toNat default){b}(h:b=λ(a:Int×Int)=>[Aa a.fst,Aa a.snd]){l}(i:l=[Aa v,Aa r]){d}(j:d=λ(y:Int×Int)=>(↑(f y).Queue.length:Int)){c}(k:c=VV.tup l):(fc Dt AH f178 [] (.tup [Aa v,Aa r])).goal (St.init [] [.tp (Ai e),.agg (AE x)]) =
  (∃(y:Int×Int),VC 203 [.tp (Ai e),Aa x.A] (.tup [Aa y.fst,Aa y.snd])/\BB (y.snd != 0) (LQ (.tup [Aa 0,Aa y.snd]) c) (inX (i64.wrap (y.fst-(1:Int))) e.S.Chans.length/\inX (f y).Shape e.M.Shapes.length/\BB (x.Op==25) (LQ (.tup [Aa (d y),Aa 0]) c) (BB (x.Op==26) (∃(a:Int×Int),VC 180 [Ac (decide ((d y)>=(e.M.Shapes.getD (f y).Shape.toNat default).Room))] (.tup (b a))/\LQ (.tup (b a)) c) (BB (x.Op==28) (∃(a:Int×Int),VC 180 [Ac (decide ((d y)<(e.M.Shapes.getD (f y).Shape.toNat default).Room))] (.tup (b a))/\LQ (.tup (b a)) c) (BB (x.Op==27) (∃(a:Int×Int),VC 180 [Ac ((d y)==0)] (.tup (b a))/\LQ (.tup (b a)) c) (∃(a:Int×Int),VC 180 [Ac (decide ((d y) > 0))] (.tup (b a))/\LQ (.tup (b a)) c)))))):=by subst g h i j k;kernel_rfl
def Ag5 (v r:Int)(e:D.Env)(x:D.Expr):(fc Dt Nn f179 [] (.tup [Aa v,Aa r])).goal (St.init [] [.tp (Ai e),.agg (AE x)]) =
  (∃(y:Int×Int),VC 203 [VV.tp (Ai e),Aa x.A] (VV.tup [Aa y.fst,Aa y.snd])/\BB (y.snd != 0) (LQ (VV.tup [Aa 0,Aa y.snd]) (VV.tup [Aa v,Aa r])) (inX (i64.wrap (y.fst-(1:Int))) e.S.Chans.length/\inX (e.S.Chans.getD (i64.wrap (y.fst-(1:Int))).toNat default).Shape e.M.Shapes.length/\BB ((↑(e.M.Shapes.getD (e.S.Chans.getD (i64.wrap (y.fst-(1:Int))).toNat default).Shape.toNat default).Fields.length:Int) != (↑x.Args.length:Int)) (LQ (VV.tup [Aa 0,Aa 49]) (VV.tup [Aa v,Aa r])) (((0:Int)<=(↑x.Args.length:Int)/\(↑x.Args.length:Int)<=(↑x.Args.length:Int)/\(↑x.Args.length:Int)*(↑8:Int)<=140737488355328)/\AB (fc Dt Nn f179 [] (VV.tup [Aa v,Aa r])) [1,1,1,1,1,1,0,1,0] (An [(0,VV.tp (Ai e)),(3,VV.bp 0 0),(8,VV.bp 1 0),(9,VV.ow 2 0 (↑x.Args.length:Int).toNat),(51,Ad true x.Args),(52,Aa (↑x.Args.length:Int)),(53,Aa 0)] [Ob.box (AE x),Ob.box (Ay (e.S.Chans.getD (i64.wrap (y.fst-(1:Int))).toNat default)),Ob.arr true 0 (↑x.Args.length:Int).toNat 1 λ(_:Nat)=>((fc Dt Nn f179 [] (VV.tup [Aa v,Aa r])).T 2).zero])))):=kR
def Y5 (v r:Int)(e:D.Env)(x:D.Expr):(fc Dt AH f182 [] (.tup [Aa v,Aa r])).goal (St.init [] [.tp (Ai e),.agg (AE x)]) =
  (∃(y:Int×Int),VC 155 [VV.tp (Ai e),Aa x.A] (VV.tup [Aa y.fst,Aa y.snd])/\BB (y.snd != 0) (LQ (VV.tup [Aa 0,Aa y.snd]) (VV.tup [Aa v,Aa r])) (((true&&(bif decide (y.fst<0)then true else decide (y.fst>=(↑e.S.Procs.length:Int)))==false&&(x.Op==38)==true)=true->inX y.fst e.S.Procs.length)/\BB (bif bif decide (y.fst<0)then true else decide (y.fst>=(↑e.S.Procs.length:Int))then true else bif x.Op==38 then(e.S.Procs.getD y.fst.toNat default).Type_ != x.N else false) (LQ (VV.tup [Aa 0,Aa 52]) (VV.tup [Aa v,Aa r])) (BB (x.Op==37) (inX y.fst e.S.Procs.length/\LQ (VV.tup [Aa (e.S.Procs.getD y.fst.toNat default).Loc,Aa 0]) (VV.tup [Aa v,Aa r])) (inX y.fst e.S.Procs.length/\∃(a:Bool),VC 205 [Ad true x.Args,Aa (e.S.Procs.getD y.fst.toNat default).Loc] (Ac a)/\∃(y:Int×Int),VC 180 [Ac a] (VV.tup [Aa y.fst,Aa y.snd])/\LQ (VV.tup [Aa y.fst,Aa y.snd]) (VV.tup [Aa v,Aa r]))))):=kR
def Aef (v r:Int)(e:D.Env)(x:D.Expr){c}(d:c=λ(y:Int×Int)=>∃(a:Int×Int),VC 180 [Ac (y.fst != 0)] (VV.tup [Aa a.fst,Aa a.snd])/\LQ (VV.tup [Aa a.fst,Aa a.snd]) (VV.tup [Aa v,Aa r])){b}(f:b=λ(y:Int×Int)=>[Aa y.fst,Aa y.snd]):(fc Dt AH f177 [] (.tup [Aa v,Aa r])).goal (St.init [] [.tp (Ai e),.agg (AE x)]) =
  (∃(y:Int×Int),VC 155 [.tp (Ai e),Aa x.A] (.tup (b y))/\BB (y.snd != 0) (LQ (.tup [Aa 0,Aa y.snd]) (.tup [Aa v,Aa r])) (BB (bif x.Op==24 then y.fst != 0 else false) (∃(y:Int×Int),VC 202 [Aa x.B,.tp [.tp (Ai e)]] (.tup (b y))/\LQ (.tup (b y)) (.tup [Aa v,Aa r])) (BB (x.Op==24) (∃(y:Int×Int),VC 202 [Aa x.C,.tp [.tp (Ai e)]] (.tup (b y))/\LQ (.tup (b y)) (.tup [Aa v,Aa r])) (BB (bif bif x.Op==22 then y.fst==0 else false then true else bif x.Op==23 then y.fst != 0 else false) (c y) (∃(y:Int×Int),VC 202 [Aa x.B,.tp [.tp (Ai e)]] (.tup (b y))/\BB (y.snd != 0) (LQ (.tup [Aa 0,Aa y.snd]) (.tup [Aa v,Aa r])) (c y)))))):=by subst d f;kernel_rfl
def AfT (v r:Int)(e:D.Env)(x:D.Expr):(fc Dt AH f183 [] (.tup [Aa v,Aa r])).goal (St.init [] [.tp (Ai e),.agg (AE x)]) =
  (∃(y:Int×Int),VC 155 [VV.tp (Ai e),Aa x.A] (VV.tup [Aa y.fst,Aa y.snd])/\BB (y.snd != 0) (LQ (VV.tup [Aa 0,Aa y.snd]) (VV.tup [Aa v,Aa r])) (BB (bif bif x.Op==3 then true else x.Op==4 then true else x.Op==5) (∃(a:Int×Int),VC 206 [Aa x.Op,Aa y.fst] (VV.tup [Aa a.fst,Aa a.snd])/\LQ (VV.tup [Aa a.fst,Aa a.snd]) (VV.tup [Aa v,Aa r])) (∃(a:Int×Int),VC 155 [VV.tp (Ai e),Aa x.B] (VV.tup [Aa a.fst,Aa a.snd])/\BB (a.snd != 0) (LQ (VV.tup [Aa 0,Aa a.snd]) (VV.tup [Aa v,Aa r])) (∃(b:Int×Int),VC 207 [Aa x.Op,Aa y.fst,Aa a.fst] (VV.tup [Aa b.fst,Aa b.snd])/\LQ (VV.tup [Aa b.fst,Aa b.snd]) (VV.tup [Aa v,Aa r]))))):=kR
def Ul (b:Bool)(e:D.Env):(fc Dt Jj f181 [] (Ac b)).goal (St.init [] [.tp (Ai e)]) =
  (AB (fc Dt Jj f181 [] (Ac b)) [1,0,1,0] (T4 e (0:Int))):=kR
def AiC (v r:Int)(e:D.Env)(x:Int){a}(c:a=e.M.Exprs.getD x.toNat default){b}(d:b=fc Dt DS f155 [] (VV.tup [Aa v,Aa r])):(fc Dt DS f155 [] (.tup [Aa v,Aa r])).goal (St.init [] [.tp (Ai e),Aa x]) =
  (inX x e.M.Exprs.length/\BB (a.Op==1) (LQ (.tup [Aa a.N,Aa 0]) (.tup [Aa v,Aa r])) (BB (a.Op==2) (∃(y:Int×Int×Int),VC 176 [.tp (Ai e),Aa x] (.tup [Aa y.fst,Aa y.snd.fst,Aa y.snd.snd])/\BB (y.snd.snd != 0) (LQ (.tup [Aa 0,Aa y.snd.snd]) (.tup [Aa v,Aa r])) (BB (decide (y.fst<0)) (inX y.snd.fst e.S.Globals.length/\LQ (.tup [Aa (e.S.Globals.getD y.snd.fst.toNat 0),Aa 0]) (.tup [Aa v,Aa r])) (inX y.fst e.S.Procs.length/\inX y.snd.fst (e.S.Procs.getD y.fst.toNat default).Frame.length/\LQ (.tup [Aa ((e.S.Procs.getD y.fst.toNat default).Frame.getD y.snd.fst.toNat 0),Aa 0]) (.tup [Aa v,Aa r])))) (BB (a.Op==22) (AB b AkX (HX e a 26 (a.Op==22))) (BB (a.Op==23) (AB b AkX (HX e a 26 (a.Op==23))) (AB b AkX (HX e a 26 (a.Op==24))))))):=by subst c d;kernel_rfl
def UJ (b:Bool)(l:List Int)(v:Int):(fc Dt AH f205 [] (Ac b)).goal (St.init [] [Ad true l,Aa v]) =
  (∃(y:Int),VC 219 [Ad true l,Aa v] (Aa y)/\LQ (Ac (decide (y>=0))) (Ac b)):=kR
def Aem (r:Int)(l:List Int)(v:Int):(fc Dt N8 f219 [] (Aa r)).goal (St.init [] [Ad true l,Aa v]) =
  (AB (fc Dt N8 f219 [] (Aa r)) [1,0,1,0] (AaT l v (0:Int))):=kR
def Aiy (r:Int)(c:D.Chan)(l mt:List Int)(some':Bool):(fc Dt Rz f204 [] (Aa r)).goal (St.init [] [.agg (Ay c),Ad false l,Ad true mt,Ac some']) =
  (AB (fc Dt Rz f204 [] (Aa r)) [1,0,1,0] (T6 c l mt some' (0:Int))):=kR
def AhZ (b:Bool)(x l mt:List Int):(fc Dt Ry f218 [] (Ac b)).goal (St.init [] [Ad true x,Ad false l,Ad true mt]) =
  (BB (bif decide ((↑x.length:Int)<(↑mt.length:Int))then true else decide ((↑l.length:Int)<(↑mt.length:Int))) (LQ (Ac false) (Ac b)) (AB (fc Dt Ry f218 [] (Ac b)) [1,1,0,1,0] (T5 x l mt (0:Int)))):=kR
def AeI (v r:Int)(e:D.Env)(x:D.Expr)(b:Bool){a}(c:a=fc Dt DS f155 [] (VV.tup [Aa v,Aa r])):((fc Dt DS f155 [] (.tup [Aa v,Aa r])).cut AkX).goal (HX e x 26 b) =
  (BB b (∃(y:Int×Int),VC 177 [.tp (Ai e),.agg (AE x)] (.tup [Aa y.fst,Aa y.snd])/\LQ (.tup [Aa y.fst,Aa y.snd]) (.tup [Aa v,Aa r])) (BB (x.Op==25) (AB a AdV (HX e x 30 (x.Op==25))) (BB (x.Op==26) (AB a AdV (HX e x 30 (x.Op==26))) (BB (x.Op==27) (AB a AdV (HX e x 30 (x.Op==27))) (BB (x.Op==28) (AB a AdV (HX e x 30 (x.Op==28))) (AB a AdV (HX e x 30 (x.Op==29)))))))):=by subst c;kernel_rfl
def AeH (v r:Int)(e:D.Env)(x:D.Expr)(b:Bool){f}(g:f=[Aa v,Aa r]){d}(h:d=[VV.tp (Ai e),VV.agg (AE x)]){i}(j:i=(∃(y:Int×Int),VC 182 d (VV.tup [Aa y.fst,Aa y.snd])/\LQ (VV.tup [Aa y.fst,Aa y.snd]) (VV.tup f))){c}(k:c=VV.tup f):((fc Dt DS f155 [] (.tup [Aa v,Aa r])).cut AdV).goal (HX e x 30 b) =
  (BB b (∃(y:Int×Int),VC 178 d (.tup [Aa y.fst,Aa y.snd])/\LQ (.tup [Aa y.fst,Aa y.snd]) c) (BB (x.Op==30) (∃(y:Int×Int),VC 179 d (.tup [Aa y.fst,Aa y.snd])/\LQ (.tup [Aa y.fst,Aa y.snd]) c) (BB (x.Op==31) (LQ (.tup [Aa e.Pid,Aa 0]) c) (BB (x.Op==32) (LQ (.tup [Aa e.S.Last,Aa 0]) c) (BB (x.Op==33) (LQ (.tup [Aa (↑e.S.Procs.length:Int),Aa 0]) c) (BB (x.Op==34) (∃(y:Bool),VC 181 [.tp (Ai e)] (Ac y)/\∃(a:Int×Int),VC 180 [Ac !y] (.tup [Aa a.fst,Aa a.snd])/\LQ (.tup [Aa a.fst,Aa a.snd]) c) (BB (x.Op==35) (∃(y:Int×Int),VC 180 [Ac e.Timeout] (.tup [Aa y.fst,Aa y.snd])/\LQ (.tup [Aa y.fst,Aa y.snd]) c) (BB (x.Op==36) (∃(y:Int×Int),VC 155 [.tp (Ai e),Aa x.A] (.tup [Aa y.fst,Aa y.snd])/\BB (y.snd != 0) (LQ (.tup [Aa 0,Aa y.snd]) c) (((true&&(bif decide (y.fst>=0)then decide (y.fst<(↑e.Able.length:Int))else false)==true)=true->inX y.fst e.Able.length)/\∃(a:Int×Int),VC 180 [Ac (bif bif decide (y.fst>=0)then decide (y.fst<(↑e.Able.length:Int))else false then e.Able.getD y.fst.toNat false else false)] (.tup [Aa a.fst,Aa a.snd])/\LQ (.tup [Aa a.fst,Aa a.snd]) c)) (BB (x.Op==37) i (BB (x.Op==38) i (BB (x.Op==39) (LQ (.tup [Aa 0,Aa 42]) c) (∃(y:Int×Int),VC 183 d (.tup [Aa y.fst,Aa y.snd])/\LQ (.tup [Aa y.fst,Aa y.snd]) c)))))))))))):=by subst g h j k;kernel_rfl
def Ac3 (p k r:Int)(e:D.Env)(_:Int)(ds:List D.Dim)(who at' i:Int)(J:St->Prop){a}(c:a=ds.getD i.toNat default){b}(d:b=[Aa p,Aa k,Aa r]):((fc Dt Ru f176 [] (.tup [Aa p,Aa k,Aa r])).loop [1,1,1,1,1,1,0,1,0] J).goal (Qd e ds who at' i) =
  (BB (decide (i<(↑ds.length:Int))) (inX i ds.length/\∃(y:Int×Int),VC 155 [.tp (Ai e),Aa a.I] (.tup [Aa y.fst,Aa y.snd])/\BB (y.snd != 0) (LQ (.tup [Aa 0,Aa 0,Aa y.snd]) (.tup b)) (BB (bif decide (y.fst<0)then true else decide (y.fst>=a.Len)) (LQ (.tup [Aa 0,Aa 0,Aa 47]) (.tup b)) (J (Qd e ds who (i64.wrap (at'+i64.wrap (y.fst*a.Stride))) (i64.wrap (i+(1:Int))))))) (LQ (.tup [Aa who,Aa at',Aa 0]) (.tup b))):=by subst c d;kernel_rfl
def AdS (v r:Int)(e:D.Env)(x:D.Expr)(c:D.Chan)(l:List Int)(k:Int)(J:St->Prop):((fc Dt Nn f179 [] (.tup [Aa v,Aa r])).loop [1,1,1,1,1,1,0,1,0] J).goal (YC e x c l k) =
  (BB (decide (k<(↑x.Args.length:Int))) (inX k x.Args.length/\inX k x.Match.length/\BB (x.Match.getD k.toNat 0 != 1) (J (YC e x c l (i64.wrap (k+(1:Int))))) (∃(y:Int×Int),VC 155 [VV.tp (Ai e),Aa (x.Args.getD k.toNat 0)] (VV.tup [Aa y.fst,Aa y.snd])/\inX k l.length/\BB (y.snd != 0) (LQ (VV.tup [Aa 0,Aa y.snd]) (VV.tup [Aa v,Aa r])) (J (An [(0,VV.tp (Ai e)),(3,VV.bp 0 0),(8,VV.bp 1 0),(9,VV.ow 2 0 l.length),(51,Ad true x.Args),(52,Aa (↑x.Args.length:Int)),(53,Aa (i64.wrap (k+(1:Int))))] [Ob.box (AE x),Ob.box (Ay c),Ob.arr true 0 l.length 1 λ(j:Nat)=>bif j.beq k.toNat then[Aa y.fst]else[Aa (l.getD j 0)]])))) (∃(y:Int),VC 204 [VV.agg (Ay c),Ad false l,Ad true x.Match,Ac (x.N==1)] (Aa y)/\∃(a:Int×Int),VC 180 [Ac (decide (y>=0))] (VV.tup [Aa a.fst,Aa a.snd])/\LQ (VV.tup [Aa a.fst,Aa a.snd]) (VV.tup [Aa v,Aa r]))):=kR
def RU (b:Bool)(e:D.Env)(k:Int)(J:St->Prop){z1}(a:z1=e.S.Procs.getD k.toNat default):((fc Dt Jj f181 [] (Ac b)).loop [1,0,1,0] J).goal (T4 e k) =
  (BB (decide (k<(↑e.S.Procs.length:Int))) (inX k e.S.Procs.length/\inX z1.Type_ e.M.Procs.length/\inX z1.Loc (e.M.Procs.getD z1.Type_.toNat default).Locs.length/\BB ((e.M.Procs.getD z1.Type_.toNat default).Locs.getD z1.Loc.toNat default).Progress (LQ (Ac true) (Ac b)) (J (T4 e (i64.wrap (k+(1:Int)))))) (LQ (Ac false) (Ac b))):=by subst a;kernel_rfl
def ZO (r:Int)(l:List Int)(v k:Int)(J:St->Prop):((fc Dt N8 f219 [] (Aa r)).loop [1,0,1,0] J).goal (AaT l v k) =
  (BB (decide (k<(↑l.length:Int))) (inX k l.length/\BB (v==l.getD k.toNat 0) (LQ (Aa k) (Aa r)) (J (AaT l v (i64.wrap (k+(1:Int)))))) (LQ (Aa (-1)) (Aa r))):=kR
def AeD (r:Int)(c:D.Chan)(l mt:List Int)(any:Bool)(k:Int)(J:St->Prop):((fc Dt Rz f204 [] (Aa r)).loop [1,0,1,0] J).goal (T6 c l mt any k) =
  (BB (decide (k<(↑c.Queue.length:Int))) (inX k c.Queue.length/\∃(y:Bool),VC 218 [Ad true (c.Queue.getD k.toNat []),Ad false l,Ad true mt] (Ac y)/\BB y (LQ (Aa k) (Aa r)) (BB (!any) (LQ (Aa (-1)) (Aa r)) (J (T6 c l mt any (i64.wrap (k+(1:Int))))))) (LQ (Aa (-1)) (Aa r))):=kR
def Ad6 (b:Bool)(x l mt:List Int)(k:Int)(J:St->Prop):((fc Dt Ry f218 [] (Ac b)).loop [1,1,0,1,0] J).goal (T5 x l mt k) =
  (BB (decide (k<(↑mt.length:Int))) (inX k mt.length/\((true&&(mt.getD k.toNat 0==1)==true)=true->inX k x.length)/\((true&&(mt.getD k.toNat 0==1)==true)=true->inX k l.length)/\BB (bif mt.getD k.toNat 0==1 then x.getD k.toNat 0 != l.getD k.toNat 0 else false) (LQ (Ac false) (Ac b)) (J (T5 x l mt (i64.wrap (k+(1:Int)))))) (LQ (Ac true) (Ac b))):=kR
def Aed (v r:Int)(e:D.Env)(x:Int):(fc Dt AH f202 [] (.tup [Aa v,Aa r])).goal (St.init [] [Aa x,.tp [.tp (Ai e)]]) =
  (∃(y:Int×Int),VC 155 [VV.tp (Ai e),Aa x] (VV.tup [Aa y.fst,Aa y.snd])/\LQ (VV.tup [Aa y.fst,Aa y.snd]) (VV.tup [Aa v,Aa r])):=kR
end Go.Proofs.YtedfjceonnoifaaGreatDoor
namespace Go.Proofs.YtedfjceonnoifaaGreatDoor
open Go.RowKit Go.Proofs.Tryz
open IntKind(i64)
def L7 (b:Int)(s:Bool)(v:Int):Int :=
 if 1<=b/\b<=32 then(if s then(v+2 ^ b.toNat / 2) % 2 ^ b.toNat-2 ^ b.toNat / 2 else v % 2 ^ b.toNat)else 0
def Alj (b v:Int)(s:Bool)(h:b<1\/32<b):L7 b s v=0:=by
 unfold L7;rw[Aqs oM]
def Xc (b v:Int)(h1:1<=b)(h2:b<=32):wrap64 (v*2 ^ (64-b).toNat) / 2 ^ (64-b).toNat=L7 b true v:=by
 have a:b=1\/b=2\/b=3\/b=4\/b=5\/b=6\/b=7\/b=8\/b=9\/b=10\/b=11\/b=12\/b=13\/b=14\/b=15\/b=16\/b=17\/b=18\/b=19\/b=20\/b=21\/b=22\/b=23\/b=24\/b=25\/b=26\/b=27\/b=28\/b=29\/b=30\/b=31\/b=32:=oM
 unfold wrap64 L7;rcases a with h|h|h|h|h|h|h|h|h|h|h|h|h|h|h|h|h|h|h|h|h|h|h|h|h|h|h|h|h|h|h|h <;>
  subst h<;>simp<;>omega
def XI (v:Int)(m:Nat)(f:m<32):bits .and .i64 v (((2 ^ (m+1):Nat):Int)-1)=v % ((2 ^ (m+1):Nat):Int):=by
 show i64.wrap ((BitVec.ofInt 64 v &&& BitVec.ofInt 64 (((2 ^ (m+1):Nat):Int)-1)).toNat:Int)=_;have hp:2 ^ (m+1)<=2 ^ 32:=Aq6 dZ oM;have a:0<2 ^ (m+1):=Nat.two_pow_pos _;have c:(((2 ^ (m+1):Nat):Int)-1)=((2 ^ (m+1)-1:Nat):Int):=oM
 rw[BitVec.toNat_and,c,BitVec.ofInt_natCast,BitVec.toNat_ofNat,BitVec.toNat_ofInt];have d:(2 ^ (m+1)-1) % 2 ^ 64=2 ^ (m+1)-1:=Nat.mod_eq_of_lt oM;rw[d,ArT];have e:(v % ((2 ^ 64:Nat):Int)).toNat % 2 ^ (m+1)<2 ^ (m+1):=ArD _ a;rw[IntWalk.i64_in _ oM];have b:0<=v % ((2 ^ 64:Nat):Int):=Int.emod_nonneg _ dZ;have hd:((2 ^ (m+1):Nat):Int) ∣ ((2 ^ 64:Nat):Int):=by
  have:2 ^ (m+1) ∣ 2 ^ 64:=Nat.pow_dvd_pow 2 oM;exact Int.natCast_dvd_natCast.2 this
 rw[Int.natCast_emod,Int.toNat_of_nonneg b];exact Int.emod_emod_of_dvd _ hd
def Aiv (b v:Int)(h1:1<=b)(h2:b<=32):bits .and .i64 v (wrap64 (wrap64 (2 ^ b.toNat)-1))=L7 b false v:=by
 obtain⟨m,rfl⟩:∃m:Nat,b=(m:Int)+1:=⟨(b-1).toNat,oM⟩;have c:m<32:=oM
 have e:((m:Int)+1).toNat=m+1:=oM
 have hp:2 ^ (m+1)<=2 ^ 32:=Aq6 dZ oM;have a:0<2 ^ (m+1):=Nat.two_pow_pos _;have ec:(2:Int) ^ (m+1)=((2 ^ (m+1):Nat):Int):=sM
 unfold L7;rw[AqH ⟨h1,h2⟩,e,ec,IntWalk.wrap64_in ((2 ^ (m+1):Nat):Int) oM,IntWalk.wrap64_in _ oM,XI v m c];simp
def AnG (b:Int)(h1:1<=b)(h2:b<=32):(2:Int)<=2 ^ b.toNat/\(2:Int) ^ b.toNat<=4294967296:=by
 obtain⟨m,a⟩:∃m:Nat,b.toNat=m+1:=⟨b.toNat-1,oM⟩;rw[a];have hp:2 ^ (m+1)<=2 ^ 32:=Aq6 dZ oM;have c:2 ^ 1<=2 ^ (m+1):=Aq6 dZ oM;have ec:(2:Int) ^ (m+1)=((2 ^ (m+1):Nat):Int):=sM
 rw[ec];omega
def BJ (n:Int):-2147483648<=wrap32 n/\wrap32 n<=2147483647:=by unfold wrap32;omega
def Acn {n:Int}(h:-2147483648<=n)(a:n<=2147483647):wrap32 n=n:=by unfold wrap32;omega
def Hx (n:Int):wrap64 (wrap32 n)=wrap32 n:=by have:=BJ n;exact IntWalk.wrap64_in _ oM
def PH (n:Int):wrap32 n % 4294967296=n % 4294967296:=by unfold wrap32;omega
def R3 {m n:Int}(h:m % 4294967296=n % 4294967296):wrap32 m=wrap32 n:=by unfold wrap32;omega
def AjG (a b:Int):wrap32 (wrap32 a*b)=wrap32 (a*b):=R3 (by rw[Int.mul_emod,PH,<- Int.mul_emod])
def TL (a b:Int):wrap32 (a-wrap32 b)=wrap32 (a-b):=R3 (by rw[Int.sub_emod,PH,<- Int.sub_emod])
def AaL (x y:Int)(h1:-2147483648<=x)(h2:x<=2147483647):-2147483648<=x.tmod y/\x.tmod y<=2147483647:=by
 by_cases h:0<=x
 .have a:=Int.tmod_nonneg y h;have b:x.tmod y<=x:=by
   have:=Int.emod_nonneg;rw[Int.tmod_eq_emod_of_nonneg h]
   by_cases c:y=0
   .subst c;simp
   .have f:x % y=x-y*(x / y):=by have:=Int.emod_def x y;omega
    have:0<=y*(x / y):=by
     rcases Int.lt_or_gt_of_ne c with g|hp
     .exact Int.mul_nonneg_of_nonpos_of_nonpos oM (Int.ediv_nonpos_of_nonneg_of_nonpos h oM)
     .exact Int.mul_nonneg oM (Int.ediv_nonneg h oM)
    omega
  omega
 .have e:x.tmod y=-((-x).tmod y):=by rw[Int.neg_tmod];omega
  have d:0<=-x:=oM
  have a:=Int.tmod_nonneg y d;have b:(-x).tmod y<=-x:=by
   rw[Int.tmod_eq_emod_of_nonneg d]
   by_cases c:y=0
   .subst c;simp
   .have f:-x % y=-x-y*(-x / y):=by have:=Int.emod_def (-x) y;omega
    have:0<=y*(-x / y):=by
     rcases Int.lt_or_gt_of_ne c with g|hp
     .exact Int.mul_nonneg_of_nonpos_of_nonpos oM (Int.ediv_nonpos_of_nonneg_of_nonpos d oM)
     .exact Int.mul_nonneg oM (Int.ediv_nonneg d oM)
    omega
  omega
def Akr (x y:Int)(h1:-2147483648<=x)(h2:x<=2147483647):wrap32 (x-wrap32 (wrap32 (x.tdiv y)*y))=x.tmod y:=by
 have a:=AaL x y h1 h2;rw[TL,<- TL,AjG,TL];have e:x-x.tdiv y*y=x.tmod y:=by have:=Int.tmod_add_mul_tdiv x y;rw[Int.mul_comm]at this;omega
 rw[e];exact Acn a.1 a.2
def Ir (b:Bool):Int:=if b then 1 else 0
def HY (a n:Int):Int:=if 0<=n then wrap32 (a*2 ^ min n.toNat 32)else a / 2 ^ min (-n).toNat 32
def EK (op a b:Int):Int :=
 if op=6 then wrap32 (wrap32 a*wrap32 b)
 else if op=7 then(if wrap32 b=0 then 0 else wrap32 ((wrap32 a).tdiv (wrap32 b)))
 else if op=8 then(if wrap32 b=0 then 0 else(wrap32 a).tmod (wrap32 b))
 else if op=9 then wrap32 (wrap32 a+wrap32 b)
 else if op=10 then wrap32 (wrap32 a-wrap32 b)
 else if op=11 then HY (wrap32 a) (wrap32 b)
 else if op=12 then HY (wrap32 a) (-wrap32 b)
 else if op=13 then Ir (decide (wrap32 a<wrap32 b))
 else if op=14 then Ir (decide (wrap32 a<=wrap32 b))
 else if op=15 then Ir (decide (wrap32 b<wrap32 a))
 else if op=16 then Ir (decide (wrap32 b<=wrap32 a))
 else if op=17 then Ir (wrap32 a==wrap32 b)
 else if op=18 then Ir (wrap32 a != wrap32 b)
 else if op=19 then bits .and .i32 (wrap32 a) (wrap32 b)
 else if op=20 then bits .xor .i32 (wrap32 a) (wrap32 b)
 else if op=21 then bits .or .i32 (wrap32 a) (wrap32 b)
 else 0
def HW (op b:Int):Int :=
 if(op=7\/op=8)/\wrap32 b=0 then 48 else if 6<=op/\op<=21 then 0 else 42
def NJ (op a:Int):Int :=
 if op=3 then wrap32 (-wrap32 a)else if op=4 then Ir (wrap32 a==0)else if op=5 then -wrap32 a-1 else 0
def Zs (op:Int):Int:=if op=3\/op=4\/op=5 then 0 else 42
def Fg (op:BinOp)(c:op=.and\/op=.or\/op=.xor)(a b:Int):-2147483648<=bits op .i32 a b/\bits op .i32 a b<=2147483647:=by
 rcases c with rfl|rfl|rfl
 all_goals
  unfold bits;simp only[];rw[IntKind.wrap_i32];omega
def Agf (a:Int)(k:Nat):(a / 2 ^ k) / 2=a / 2 ^ (k+1):=by
 rw[Int.ediv_ediv_of_nonneg (Int.le_of_lt (Int.pow_pos dZ)),Int.pow_succ]
def AmQ (a:Int)(k:Nat)(h1:-2147483648<=a)(h2:a<=2147483647):-2147483648<=a / 2 ^ k/\a / 2 ^ k<=2147483647:=by
 induction k with
 | zero=>simp;omega
 | succ k ih=>rw[<- Agf];omega
def KX (a n:Int)(h:-2147483648<=a/\a<=2147483647):-2147483648<=HY a n/\HY a n<=2147483647:=by
 unfold HY;split
 .exact BJ _
 .exact AmQ a _ h.1 h.2
def Aey (x:Int)(h:-2147483648<=x/\x<=2147483647):bits .xor .i32 (-1) x=-x-1:=by
 show IntKind.i32.wrap ((BitVec.ofInt 32 (-1) ^^^ BitVec.ofInt 32 x).toNat:Int)=_;have e:BitVec.ofInt 32 (-1)=BitVec.allOnes 32:=dZ
 rw[e,BitVec.allOnes_xor,BitVec.toNat_not,BitVec.toNat_ofInt,IntKind.wrap_i32];have:(((2:Nat) ^ 32:Nat):Int)=4294967296:=dZ
 rw[this];omega
def Air (a:Int):wrap64 (bits .xor .i32 (-1) (wrap32 a))=-wrap32 a-1:=by
 have h:=BJ a;rw[Aey _ h];exact IntWalk.wrap64_in _ oM
def Ee (b:Bool):Int×Int:=(bif b then 1 else 0,0)
abbrev Evl:=Int->Int×Int
section
variable (e : D.Env) (ev:Evl)
def D0 (a:Int):Int×Int :=
 bif decide ((ev a).2≠0)then(0,(ev a).2)else bif decide ((ev a).1<1)||decide ((e.S.Chans.length:Int)<(ev a).1)then(0,49)else((ev a).1,0)
def CM (n:Int):D.Chan:=e.S.Chans.getD (n-1).toNat default
def Aog (op room many:Int):Int×Int :=
 if op=25 then(many,0)else if op=26 then Ee (decide (room<=many))else if op=28 then Ee (decide (many<room))else if op=27 then Ee (decide (many=0))else Ee (decide (0<many))
def Tx (x:D.Expr):Int×Int :=
 bif decide ((D0 e ev x.A).2≠0)then(0,(D0 e ev x.A).2)else Aog x.Op (Cr e.M (CM e (D0 e ev x.A).1).Shape).Room (CM e (D0 e ev x.A).1).Queue.length
def Z8:Nat->(Nat->Int)->Int
 | 0,_=>0
 | n+1,f=>bif decide (Z8 n f≠0)then Z8 n f else f n
def EP (a m:Int):Int×Int:=bif decide (m=1)then ev a else(0,0)
def Ns (args mt:List Int):List Int:=(List.range args.length).map λi=>(EP ev (args.getD i 0) (mt.getD i 0)).1
def Fh (args mt:List Int)(n:Nat):Int:=Z8 n λi=>(EP ev (args.getD i 0) (mt.getD i 0)).2
def Iu (x l mt:List Int):Bool:=decide (mt.length<=x.length)&&decide (mt.length<=l.length)&&EH mt.length λi=>!(decide (mt.getD i 0=1)&&decide (x.getD i 0≠l.getD i 0))
def Ti (l mt:List Int)(any:Bool):Nat->List (List Int)->Int
 | _,[]=>-1
 | k,x::q=>bif Iu x l mt then(k:Int)else bif any then Ti l mt any (k+1) q else -1
def Kq (c:D.Chan)(l mt:List Int)(any:Bool):Int:=Ti l mt any 0 c.Queue
def SM (x:D.Expr):Int×Int :=
 bif decide ((D0 e ev x.A).2≠0)then(0,(D0 e ev x.A).2)
 else bif decide ((Cr e.M (CM e (D0 e ev x.A).1).Shape).Fields.length≠x.Args.length)then(0,49)
 else bif decide (Fh ev x.Args x.Match x.Args.length≠0)then(0,Fh ev x.Args x.Match x.Args.length)
 else Ee (decide (0<=Kq (CM e (D0 e ev x.A).1) (Ns ev x.Args x.Match) x.Match (decide (x.N=1))))
def Ep (n:Int):D.Process:=e.S.Procs.getD n.toNat default
def KZ (x:D.Expr):Int×Int :=
 bif decide ((ev x.A).2≠0)then(0,(ev x.A).2)
 else bif decide ((ev x.A).1<0)||(decide ((e.S.Procs.length:Int)<=(ev x.A).1)||(decide (x.Op=38)&&decide ((Ep e (ev x.A).1).Type_≠x.N)))then(0,52)
 else bif decide (x.Op=37)then((Ep e (ev x.A).1).Loc,0)else Ee (decide ((Ep e (ev x.A).1).Loc∈x.Args))
def NN (x:D.Expr):Int×Int :=
 bif decide ((ev x.A).2≠0)then(0,(ev x.A).2)
 else bif decide (x.Op=24)then(bif decide ((ev x.A).1≠0)then ev x.B else ev x.C)
 else bif(decide (x.Op=22)&&decide ((ev x.A).1=0))||(decide (x.Op=23)&&decide ((ev x.A).1≠0))then Ee (decide ((ev x.A).1≠0))
 else bif decide ((ev x.B).2≠0)then(0,(ev x.B).2)else Ee (decide ((ev x.B).1≠0))
def Si (x:D.Expr):Int×Int :=
 bif decide ((ev x.A).2≠0)then(0,(ev x.A).2)
 else bif decide (x.Op=3)||(decide (x.Op=4)||decide (x.Op=5))then(NJ x.Op (ev x.A).1,Zs x.Op)
 else bif decide ((ev x.B).2≠0)then(0,(ev x.B).2)else(EK x.Op (ev x.A).1 (ev x.B).1,HW x.Op (ev x.B).1)
def DK (v:D.Var):Int×Int :=
 bif decide (v.Scope=0)then(bif decide ((e.S.Globals.length:Int)<Fo v)then(0,42)else(-1,0))
 else bif decide (v.Scope=1)then(bif decide (e.Pid<0)||decide (((Ep e e.Pid).Frame.length:Int)<Fo v)then(0,42)else(e.Pid,0))
 else bif decide ((ev v.Who).2≠0)then(0,(ev v.Who).2)
 else bif decide ((ev v.Who).1<0)||(decide ((e.S.Procs.length:Int)<=(ev v.Who).1)||decide ((Ep e (ev v.Who).1).Type_≠v.Type_))then(0,52)
 else bif decide (((Ep e (ev v.Who).1).Frame.length:Int)<Fo v)then(0,42)else((ev v.Who).1,0)
def Ge:Int->List D.Dim->Int×Int
 | n,[]=>(n,0)
 | n,d::l=>bif decide ((ev d.I).2≠0)then(0,(ev d.I).2)else bif decide ((ev d.I).1<0)||decide (d.Len<=(ev d.I).1)then(0,47)else Ge (n+(ev d.I).1*d.Stride) l
def Cc (x:D.Expr):Int×Int×Int :=
 bif decide (x.Op≠2)then(0,0,42)
 else bif decide ((DK e ev x.V).2≠0)then(0,0,(DK e ev x.V).2)
 else bif decide ((Ge ev x.V.Slot x.V.Dims).2≠0)then(0,0,(Ge ev x.V.Slot x.V.Dims).2)else((DK e ev x.V).1,(Ge ev x.V.Slot x.V.Dims).1,0)
def Aa5 (x:D.Expr):Int×Int :=
 bif decide ((Cc e ev x).2.2≠0)then(0,(Cc e ev x).2.2)
 else bif decide ((Cc e ev x).1<0)then(e.S.Globals.getD (Cc e ev x).2.1.toNat 0,0)else((Ep e (Cc e ev x).1).Frame.getD (Cc e ev x).2.1.toNat 0,0)
def K2:Bool:=!(EH e.S.Procs.length λi=>!((I4 e.M (e.S.Procs.getD i default).Type_).getD (e.S.Procs.getD i default).Loc.toNat default).Progress)
def AbR (x:D.Expr):Int×Int :=
 bif decide ((ev x.A).2≠0)then(0,(ev x.A).2)
 else Ee (decide (0<=(ev x.A).1)&&(decide ((ev x.A).1<e.Able.length)&&e.Able.getD (ev x.A).1.toNat false))
def DQ (x:D.Expr):Int×Int :=
 if x.Op=1 then(x.N,0)else if x.Op=2 then Aa5 e ev x else if x.Op=22\/x.Op=23\/x.Op=24 then NN ev x
 else if x.Op=25\/x.Op=26\/x.Op=27\/x.Op=28\/x.Op=29 then Tx e ev x else if x.Op=30 then SM e ev x
 else if x.Op=31 then(e.Pid,0)else if x.Op=32 then(e.S.Last,0)else if x.Op=33 then(e.S.Procs.length,0)else if x.Op=34 then Ee (!K2 e)
 else if x.Op=35 then Ee e.Timeout else if x.Op=36 then AbR e ev x else if x.Op=37\/x.Op=38 then KZ e ev x else if x.Op=39 then(0,42)else Si ev x
end
def Tn (e:D.Env):Nat->Evl
 | 0,_=>(0,0)
 | n+1,a=>DQ e (Tn e n) (AC e.M a)
def Ih (e:D.Env):Evl:=Tn e (e.M.Exprs.length-1)
def De (e:D.Env)(x:Int):Int :=
 bif decide (B4 e.M e.S≠0)then B4 e.M e.S
 else bif decide (e.Pid < -1)||(decide ((e.S.Procs.length:Int)<=e.Pid)||(decide (x<0)||decide ((e.M.Exprs.length:Int)<=x)))then 42 else 0
def Bh (e:D.Env)(x:Int):Int×Int:=bif decide (De e x≠0)then(0,De e x)else DQ e (Ih e) (AC e.M x)
def AU (e:D.Env)(x:Int):Int×Int:=bif decide (De e x≠0)then(0,De e x)else D0 e (Tn e e.M.Exprs.length) x
def idxP (v:Int):Nat->List Int->Int
 | _,[]=>-1
 | k,y::l=>bif decide (v=y)then(k:Int)else idxP v (k+1) l
def Aen {v y:Int}{k:Nat}{l:List Int}:idxP v k (y::l)=bif decide (v=y)then(k:Int)else idxP v (k+1) l:=rfl
def Abz {v:Int}:∀{l:List Int}{k:Nat},decide (v∈l)=decide (idxP v k l>=0)
 | [],k=>by simp[idxP]
 | y::l,k=>by
  unfold idxP
  by_cases h:v=y
  .simp[h]
  .have:=Abz (v:=v) (l:=l) (k:=k+1);simp only[h,decide_false,ApW,<- this];simp[h]
section
variable {P : Program} {a:Act} {w:World} {Q:Exit->Act->World->Prop}
def GJ {c rest:Code}(l:Nat)(g:findLabel c l=some rest)
  (h:∀J:Act->World->Prop,(∀a w,rest.wp P (Exit.noGoto Q) a w->J a w)->c.wp P (Exit.jump l J Q) a w):(Code.scope c).wp P Q a w:=by
 refine wp_scope_jumps l (λa w=>rest.wp P (Exit.noGoto Q) a w) (λ_ _=>0) g (h _ λ_ _ h=>h) ?_;intro a w i b k cs;obtain⟨e,j,m,d,f⟩:=i b k cs;refine⟨e,j,m,?_,f⟩;cases e with
 | goto l=>exact d.elim
 | normal=>exact d
 | exit _=>exact d
 | ret=>exact d
 | panic _=>exact d
 | outgrown=>exact d
@[go_sem] theorem Amh (l:Nat) (J:Act->World->Prop):Exit.jump l J Q .normal a w=Q .normal a w:=rfl
@[go_sem] theorem Aon (l:Nat) (J:Act->World->Prop) (id:Nat):Exit.jump l J Q (.exit id) a w=Q (.exit id) a w:=rfl
@[go_sem] theorem Apo (l:Nat) (J:Act->World->Prop):Exit.jump l J Q .ret a w=Q .ret a w:=rfl
@[go_sem] theorem AnW (l:Nat) (J:Act->World->Prop) (ch:List PanicEntry):Exit.jump l J Q (.panic ch) a w=Q (.panic ch) a w:=rfl
end
def HC {k:IntKind}{a b:Int}(h:a=b):Ending.returned (.int k a)=.returned (.int k b):=by rw[h]
def Je (w:World)(o:Obj):Below w.heap.size w (w.alloc o):=(Below.refl _ _).alloc (Ap1 _) _
set_option maxHeartbeats 400000 in
def AmC (b v:Int)(w:World)(h1:1<=b)(h2:b<=32) :
  Calls prog 43 #[.agg #[.int .i64 b,.bool true],.int .i64 v] w λe w'=>e=.returned (.int .i64 (L7 b true v))/\Below w.heap.size w w':=by
 have d1:decide (b<1)=false:=by simp;omega
 have d2:decide (32<b)=false:=by simp;omega
 go_enter func43,ntmps43
 go_wp2
 go_quiet (fail)
 go_wp2
 go_ret
 exact⟨HC (Xc b v h1 h2),below_drewN (Je _ _) _⟩
set_option maxHeartbeats 400000 in
def AmB (b v:Int)(w:World)(h1:1<=b)(h2:b<=32) :
  Calls prog 43 #[.agg #[.int .i64 b,.bool false],.int .i64 v] w λe w'=>e=.returned (.int .i64 (L7 b false v))/\Below w.heap.size w w':=by
 have d1:decide (b<1)=false:=by simp;omega
 have d2:decide (32<b)=false:=by simp;omega
 go_enter func43,ntmps43
 go_wp2
 go_ret
 exact⟨HC (Aiv b v h1 h2),Je _ _⟩
set_option maxHeartbeats 400000 in
def AmA (b v:Int)(s:Bool)(w:World)(h1:b<1\/32<b) :
  Calls prog 43 #[.agg #[.int .i64 b,.bool s],.int .i64 v] w λe w'=>e=.returned (.int .i64 (L7 b s v))/\Below w.heap.size w w':=by
 have HF:=Lib.hid (Alj b v s h1);rcases h1 with h1|h1
 .go_enter func43,ntmps43
  go_wp2
  go_ret
  exact⟨HC HF.out.symm,Je _ _⟩
 .have d1:decide (b<1)=false:=by simp;omega
  go_enter func43,ntmps43
  go_wp2
  go_ret
  exact⟨HC HF.out.symm,Je _ _⟩
def ApH (b v:Int)(s:Bool)(w:World) :
  Calls prog 43 #[.agg #[.int .i64 b,.bool s],.int .i64 v] w λe w'=>e=.returned (.int .i64 (L7 b s v))/\Below w.heap.size w w':=by
 by_cases h:1<=b/\b<=32
 .cases s
  .exact AmB b v w h.1 h.2
  .exact AmC b v w h.1 h.2
 .exact AmA b v s w oM
def GL {k l:IntKind}{a b c d:Int}(h:a=b)(e:c=d):Ending.returned (.tuple #[.int k a,.int l c])=.returned (.tuple #[.int k b,.int l d]):=by rw[h,e]
set_option maxHeartbeats 400000 in
def Yk (b:Bool)(w:World) :
  Calls prog 220 #[.bool b] w λe w'=>e=.returned (.int .i64 (Ir b))/\w=w':=by
 cases b
 all_goals
  go_enter func220,ntmps220
  go_wp2
  go_ret
  exact⟨rfl,rfl⟩
set_option maxHeartbeats 400000 in
def Afx (a n:Int)(w:World)(h0:-2147483648<=n)(h1:n<=2147483648) :
  Calls prog 221 #[.int .i32 a,.int .i64 n] w λe w'=>e=.returned (.int .i32 (HY a n))/\w=w':=by
 by_cases c:0<=n
 .have HP:Hid (HY a n=wrap32 (a*2 ^ min n.toNat 32)):=by unfold Hid HY;rw[AqH c]
  by_cases b:63<n
  .go_enter func221,ntmps221
   go_wp2
   go_ret
   exact⟨HC (by rw[HP.out,show min n.toNat 32=32 by omega];first | rfl | (rw[IntKind.wrap_i32]<;>rfl)),rfl⟩
  .go_enter func221,ntmps221
   go_wp2
   go_ret
   exact⟨HC (by rw[HP.out]),rfl⟩
 .have HP:Hid (HY a n=a / 2 ^ min (-n).toNat 32):=by unfold Hid HY;rw[Aqs c]
  have d:n<=0:=oM
  by_cases b:63 < -n
  .go_enter func221,ntmps221
   go_wp2
   go_ret
   exact⟨HC (by rw[HP.out,show min (-n).toNat 32=32 by omega]<;>rfl),rfl⟩
  .go_enter func221,ntmps221
   go_wp2
   go_ret
   exact⟨HC HP.out.symm,rfl⟩
set_option maxHeartbeats 400000 in
def Amw (a b:Int)(w:World) :
  Calls prog 207 #[.int .i64 7,.int .i64 a,.int .i64 b] w λe w'=>e=.returned (.tuple #[.int .i64 (EK 7 a b),.int .i64 (HW 7 b)])/\w=w':=by
 have f:=BJ b;have g:=BJ a
 by_cases h0:wrap32 b=0
 .have HV:Hid (EK 7 a b=0):=by unfold Hid;simp[EK,h0]
  have HE:Hid (HW 7 b=48):=by unfold Hid;simp[HW,h0]
  have c:(wrap32 b==0)=true:=by simpa using h0
  clear h0
  go_enter func207,ntmps207
  go_wp2
  refine GJ 0 rfl (λJ d=>?_)
  go_wp2
  go_step3
  refine⟨rfl,d _ _ ?_⟩
  go_wp2
  rw[Exit.noGoto_ret]
  go_ret2
  exact⟨GL HV.out.symm HE.out.symm,rfl⟩
 .have HV:Hid (EK 7 a b=wrap32 ((wrap32 a).tdiv (wrap32 b))):=by unfold Hid;simp[EK,h0]
  have HE:Hid (HW 7 b=0):=by unfold Hid;simp[HW,h0]
  have c:(wrap32 b==0)=false:=by simpa using h0
  go_enter func207,ntmps207
  go_wp2
  go_step3
  go_wp2
  rw[Exit.noGoto_ret]
  go_ret2
  exact⟨GL (by rw[HV.out];exact Hx _) HE.out.symm,rfl⟩
set_option maxHeartbeats 400000 in
def Amv (a b:Int)(w:World) :
  Calls prog 207 #[.int .i64 8,.int .i64 a,.int .i64 b] w λe w'=>e=.returned (.tuple #[.int .i64 (EK 8 a b),.int .i64 (HW 8 b)])/\w=w':=by
 have g:=BJ b;have d:=BJ a
 by_cases h0:wrap32 b=0
 .have HV:Hid (EK 8 a b=0):=by unfold Hid;simp[EK,h0]
  have HE:Hid (HW 8 b=48):=by unfold Hid;simp[HW,h0]
  have c:(wrap32 b==0)=true:=by simpa using h0
  clear h0
  go_enter func207,ntmps207
  go_wp2
  refine GJ 0 rfl (λJ f=>?_)
  go_wp2
  go_step3
  refine⟨rfl,f _ _ ?_⟩
  go_wp2
  rw[Exit.noGoto_ret]
  go_ret2
  exact⟨GL HV.out.symm HE.out.symm,rfl⟩
 .have HV:Hid (EK 8 a b=(wrap32 a).tmod (wrap32 b)):=by unfold Hid;simp[EK,h0]
  have HE:Hid (HW 8 b=0):=by unfold Hid;simp[HW,h0]
  have c:(wrap32 b==0)=false:=by simpa using h0
  go_enter func207,ntmps207
  go_wp2
  go_step3
  go_wp2
  rw[Exit.noGoto_ret]
  go_ret2
  exact⟨GL (by rw[HV.out];rw[Hx];exact Akr _ _ d.1 d.2) HE.out.symm,rfl⟩
set_option maxHeartbeats 4000000 in
def Amu (op a b:Int)(w:World)(c:op=6\/op=9\/op=10\/op=11\/op=12\/op=19\/op=20\/op=21) :
  Calls prog 207 #[.int .i64 op,.int .i64 a,.int .i64 b] w λe w'=>e=.returned (.tuple #[.int .i64 (EK op a b),.int .i64 (HW op b)])/\w=w':=by
 have f:=BJ b;rcases c with rfl|rfl|rfl|rfl|rfl|rfl|rfl|rfl
 all_goals
  go_enter func207,ntmps207
  go_wp2
  go_step3
  go_wp2_with (first | (go_at_call 221;(with_reducible refine(Afx _ _ _ oM oM).mono ?_);rintro e d ⟨rfl,rfl⟩) | (go_at_call 220;(with_reducible refine(Yk _ _).mono ?_);rintro e d ⟨rfl,rfl⟩))
  rw[Exit.noGoto_ret]
  go_ret2
  refine⟨GL ?_ (by simp[HW]),rfl⟩
  first
   | (simp[EK,Hx];done)
   | (have h:=KX (wrap32 a) (wrap32 b) (BJ a);simp only[EK];exact IntWalk.wrap64_in _ oM)
   | (have h:=KX (wrap32 a) (-wrap32 b) (BJ a);simp only[EK];exact IntWalk.wrap64_in _ oM)
   | (have h:=Fg .and sM (wrap32 a) (wrap32 b);simp only[EK];exact IntWalk.wrap64_in _ oM)
   | (have h:=Fg .xor sM (wrap32 a) (wrap32 b);simp only[EK];exact IntWalk.wrap64_in _ oM)
   | (have h:=Fg .or sM (wrap32 a) (wrap32 b);simp only[EK];exact IntWalk.wrap64_in _ oM)
set_option maxHeartbeats 4000000 in
def Amt (op a b:Int)(w:World)(c:op=13\/op=14\/op=15\/op=16\/op=17\/op=18) :
  Calls prog 207 #[.int .i64 op,.int .i64 a,.int .i64 b] w λe w'=>e=.returned (.tuple #[.int .i64 (EK op a b),.int .i64 (HW op b)])/\w=w':=by
 have g:=BJ b;rcases c with rfl|rfl|rfl|rfl|rfl|rfl
 all_goals
  go_enter func207,ntmps207
  go_wp2
  refine GJ 1 rfl (λJ d=>?_)
  go_wp2
  go_step3
  refine⟨rfl,d _ _ ?_⟩
  go_wp2_with (first | (go_at_call 221;(with_reducible refine(Afx _ _ _ oM oM).mono ?_);rintro e f ⟨rfl,rfl⟩) | (go_at_call 220;(with_reducible refine(Yk _ _).mono ?_);rintro e f ⟨rfl,rfl⟩))
  rw[Exit.noGoto_ret]
  go_ret2
  exact⟨GL (by simp only[EK];rfl) (by simp[HW]),rfl⟩
set_option maxHeartbeats 400000 in
def AjH (op:Int)(a b:Int)(w:World)(c:op<6\/21<op) :
  Calls prog 207 #[.int .i64 op,.int .i64 a,.int .i64 b] w λe w'=>e=.returned (.tuple #[.int .i64 (EK op a b),.int .i64 (HW op b)])/\w=w':=by
 have r:=BJ b;have HV:Hid (EK op a b=0):=by unfold Hid EK;repeat (rw[Aqs oM])
 have HE:Hid (HW op b=42):=by unfold Hid HW;rw[Aqs oM,Aqs oM]
 have s:(op==6)=false:=by simp;omega
 have t:(op==7)=false:=by simp;omega
 have u:(op==8)=false:=by simp;omega
 have v:(op==9)=false:=by simp;omega
 have d:(op==10)=false:=by simp;omega
 have f:(op==11)=false:=by simp;omega
 have g:(op==12)=false:=by simp;omega
 have h:(op==13)=false:=by simp;omega
 have i:(op==14)=false:=by simp;omega
 have j:(op==15)=false:=by simp;omega
 have k:(op==16)=false:=by simp;omega
 have l:(op==17)=false:=by simp;omega
 have m:(op==18)=false:=by simp;omega
 have n:(op==19)=false:=by simp;omega
 have o:(op==20)=false:=by simp;omega
 have p:(op==21)=false:=by simp;omega
 clear c
 go_enter func207,ntmps207
 go_wp2
 refine GJ 1 rfl (λJ q=>?_)
 go_wp2
 go_step3
 refine⟨rfl,q _ _ ?_⟩
 go_wp2
 rw[Exit.noGoto_ret]
 go_ret2
 exact⟨GL HV.out.symm HE.out.symm,rfl⟩
def ApF (op a b:Int)(w:World) :
  Calls prog 207 #[.int .i64 op,.int .i64 a,.int .i64 b] w λe w'=>e=.returned (.tuple #[.int .i64 (EK op a b),.int .i64 (HW op b)])/\w=w':=by
 by_cases c:op<6\/21<op
 .exact AjH op a b w c
 by_cases h7:op=7
 .subst h7;exact Amw a b w
 by_cases d:op=8
 .subst d;exact Amv a b w
 by_cases f:13<=op/\op<=18
 .exact Amt op a b w oM
 .exact Amu op a b w oM
set_option maxHeartbeats 1000000 in
def ApG (op a:Int)(w:World) :
  Calls prog 206 #[.int .i64 op,.int .i64 a] w λe w'=>e=.returned (.tuple #[.int .i64 (NJ op a),.int .i64 (Zs op)])/\w=w':=by
 by_cases b:op=3\/op=4\/op=5
 .rcases b with rfl|rfl|rfl
  all_goals
   have c:=BJ a
   go_enter func206,ntmps206
   go_wp2_with (go_at_call 220;(with_reducible refine(Yk _ _).mono ?_);rintro e d ⟨rfl,rfl⟩)
   go_ret2
   exact⟨GL (by simp only[NJ];first | rfl | exact Hx _ | exact(Air a) | (simp;omega)) (by simp[Zs]),rfl⟩
 have HV:Hid (NJ op a=0):=by unfold Hid NJ;repeat (rw[Aqs oM])
 have HE:Hid (Zs op=42):=by unfold Hid Zs;rw[Aqs oM]
 have f:(op==3)=false:=by simp;omega
 have g:(op==4)=false:=by simp;omega
 have h:(op==5)=false:=by simp;omega
 clear b
 go_enter func206,ntmps206
 go_wp2
 go_ret2
 exact⟨GL HV.out.symm HE.out.symm,rfl⟩
def Sf {m:D.Model}(h:Dw m=(0,0)):Kr m<0:=by
 unfold Dw at h;grind
structure Cf (e:D.Env):Prop where
 fits:EM e.M e.S=true
 may:E0 e.M=true
 wf:AI e.M
 pid:-1<=e.Pid/\e.Pid<e.S.Procs.length
section
variable {e : D.Env}
def Cf.fit (h:Cf e):Fit e.S:=UI h.may h.fits
def Cf.tab (h:Cf e):Amp e.M:=P5 (CB h.may).1
def Cf.expr (h:Cf e):∀i:Nat,i<e.M.Exprs.length->Em e.M i=true:=Q6 (Sf (CB h.may).1)
def Cf.chan (h:Cf e){c:D.Chan}(a:c∈e.S.Chans):DB e.M c=true:=by
 have h:=h.fits;unfold EM at h;simp only[ApX]at h;exact(Cz (d:=default) (f:=λc=>DB e.M c)).1 h.1.1.2 c a
def Cf.proc (h:Cf e){p:D.Process}(hp:p∈e.S.Procs):Bn e.M p=true:=by
 have h:=h.fits;unfold EM at h;simp only[ApX]at h;exact(Cz (d:=default) (f:=λc=>Bn e.M c)).1 h.1.2 p hp
def Cf.globals (h:Cf e):e.S.Globals.length=e.M.Globals.length/\BW e.M.Globals e.S.Globals=true:=by
 have h:=h.fits;unfold EM M6 at h;simp only[ApX]at h;grind[FG]
def DE {m:D.Model}{p:D.Process}(h:Bn m p=true):(0<=p.Type_/\p.Type_<m.Procs.length)/\(0<=p.Loc/\p.Loc<(Bd m p.Type_).Locs.length)/\p.Frame.length=(Bd m p.Type_).Frame.length/\BW (Bd m p.Type_).Frame p.Frame=true/\p.Prio=(Bd m p.Type_).Prio/\p.Type_≠m.Claim:=by
 unfold Bn Ft at h;simp only[ApX,Ap7]at h;grind[Cd,FG]
def FT {m:D.Model}{c:D.Chan}(h:DB m c=true):(0<=c.Shape/\c.Shape<m.Shapes.length)/\(c.Queue.length:Int)<=(Cr m c.Shape).Room/\∀x∈c.Queue,BW (Cr m c.Shape).Fields x=true:=by
 unfold DB at h;simp only[ApX,Ap7]at h;exact⟨Cd.1 h.1.1,h.1.2,λx a=>(Cz (d:=[]) (f:=λx=>BW (Cr m c.Shape).Fields x)).1 h.2 x a⟩
end
abbrev vII (p:Int×Int):VV:=.tup [Aa p.1,Aa p.2]
abbrev LK (p:Int×Int×Int):VV:=.tup [Aa p.1,Aa p.2.1,Aa p.2.2]
def BA {a b:Int}{q:Int×Int}(h:(a,b)=q):leO [] []/\VV.le (.tup [.sc (.int .i64 a),.sc (.int .i64 b)]) (.tup [.sc (.int .i64 q.1),.sc (.int .i64 q.2)]):=by
 subst h;exact⟨trivial,lR⟩
def M3 {a b c:Int}{q:Int×Int×Int}(h:(a,b,c)=q):leO [] []/\VV.le (.tup [.sc (.int .i64 a),.sc (.int .i64 b),.sc (.int .i64 c)]) (.tup [.sc (.int .i64 q.1),.sc (.int .i64 q.2.1),.sc (.int .i64 q.2.2)]):=by
 subst h;exact⟨trivial,lR⟩
def ct {α:Type}{c:Bool}{a b x:α}(h:c=true)(k:x=a):x=bif c then a else b:=by rw[h];exact k
def cf {α:Type}{c:Bool}{a b x:α}(h:c=false)(k:x=b):x=bif c then a else b:=by rw[h];exact k
def it {α:Type}{c:Prop}[Decidable c]{a b x:α}(h:c)(k:x=a):x=if c then a else b:=by rw[AqH h];exact k
def ie {α:Type}{c:Prop}[Decidable c]{a b x:α}(h:¬c)(k:x=b):x=if c then a else b:=by rw[Aqs h];exact k
abbrev EvS (e:D.Env)(a:Int)(p:Int×Int):Prop:=Ah prog 155 [] [.tp (Ai e),Aa a] [] (vII p)
def Dk {b:Bool}:Ah prog 180 [] [Ac b] [] (vII (Ee b)) :=
 Ap func180 (AcE _ _ b) ⟨λh=>BA (by rw[h]<;>rfl),λh=>BA (by rw[h];rfl)⟩
def AY (a b:Int):(a != b)=decide (a≠b):=by rw[AqP];simp
def LF {e:D.Env}{ev:Evl}{a:Int}(h:EvS e a (ev a)):Ah prog 203 [] [.tp (Ai e),Aa a] [] (vII (D0 e ev a)):=by
 refine Ap func203 (Acf _ _ e a) ⟨ev a,h,λh=>BA (ct (by simpa using h) rfl),λh=>⟨λh2=>BA (cf (by simpa using h) (ct ?_ rfl)),λh2=>BA (cf (by simpa using h) (cf ?_ rfl))⟩⟩
 .rw[B6]at h2;exact h2
 grind
def UP {e:D.Env}{ev:Evl}{a:Int}(b:Cf e)(h:¬(D0 e ev a).2≠0):1<=(D0 e ev a).1/\(D0 e ev a).1<=e.S.Chans.length/\e.S.Chans.length<=32:=by
 have d:=b.fit.c;unfold D0 at h |-;grind
def ZN {l:List Int}{v:Int}(i:Len l.length):Ah prog 219 [] [Ad true l,Aa v] [] (Aa (idxP v 0 l)):=by
 unfold Len at i;refine Ap func219 (Aem _ l v) ?_;refine Ar l.length (λk=>AaT l v k) (λk=>idxP v 0 l=idxP v k (l.drop k)) rfl ?_;intro k m c J next
 refine Aqh (ZO _ l v k J) ⟨λf=>?_,λg=>Bj ?_⟩
 .have a:k<l.length:=by have:=AZ f;omega
  have h:(k:Int).toNat=k:=oM
  rw[h];rw[A5 (d:=0) a]at c;rw[Aen]at c;refine⟨oM,λj=>Bj ?_,λj=>next _ a ?_ (Up.of ?_)⟩
  .grind
  .grind
  grind[Al]
 .have b:l.length<=k:=by have:=AW g;omega
  rw[c,Aqk b]<;>rfl
def RW {l:List Int}{v:Int}(a:Len l.length):Ah prog 205 [] [Ad true l,Aa v] [] (Ac (decide (v∈l))) :=
 Ap func205 (UJ _ l v) ⟨_,ZN a,AA (by rw[Abz (k:=0)])⟩
def Afg {e:D.Env}{ev:Evl}{x:D.Expr}(a:Cf e)(h:EvS e x.A (ev x.A)):Ah prog 178 [] [.tp (Ai e),.agg (AE x)] [] (vII (Tx e ev x)):=by
 refine Ap func178 (Ajo _ _ e x rfl rfl rfl rfl rfl) ⟨D0 e ev x.A,LF h,λh=>BA (ct (by simpa using h) rfl),λh=>?_⟩;have h0:decide ((D0 e ev x.A).2≠0)=false:=by simpa using h
 have b:Tx e ev x=Aog x.Op (Cr e.M (CM e (D0 e ev x.A).1).Shape).Room (CM e (D0 e ev x.A).1).Queue.length:=by unfold Tx;rw[h0]<;>rfl
 rw[b];have c:=UP a (Aqr h0);generalize(D0 e ev x.A).1=n at c;rw[BY oM oM];have f:=a.chan (As (d:=default) (show(n-1).toNat<e.S.Chans.length by omega));have hs:=(FT f).1;refine⟨oM,hs,λh1=>BA (it (by simpa using h1) rfl),λh1=>⟨λh2=>⟨_,Dk,BA (ie (by simpa using h1) (it (by simpa using h2) rfl))⟩,λh2=>⟨λh3=>⟨_,Dk,BA (ie (by simpa using h1) (ie (by simpa using h2) (it (by simpa using h3) rfl)))⟩,λh3=>⟨λh4=>⟨_,Dk,BA (ie (by simpa using h1) (ie (by simpa using h2) (ie (by simpa using h3) (it (by simpa using h4) ?_))))⟩,λh4=>⟨_,Dk,BA (ie (by simpa using h1) (ie (by simpa using h2) (ie (by simpa using h3) (ie (by simpa using h4) ?_))))⟩⟩⟩⟩⟩
 .rw[ieq]<;>rfl
 .rfl
def Wg {e:D.Env}{ev:Evl}{x:D.Expr}(h:EvS e x.A (ev x.A))(a:Len x.Args.length):Ah prog 182 [] [.tp (Ai e),.agg (AE x)] [] (vII (KZ e ev x)):=by
 refine Ap func182 (Y5 _ _ e x) ⟨ev x.A,h,λh=>BA (ct (by simpa using h) rfl),λh=>?_⟩;have h0:decide ((ev x.A).2≠0)=false:=by simpa using h
 have b:KZ e ev x=bif decide ((ev x.A).1<0)||(decide ((e.S.Procs.length:Int)<=(ev x.A).1)||(decide (x.Op=38)&&decide ((Ep e (ev x.A).1).Type_≠x.N)))then(0,52)
   else bif decide (x.Op=37)then((Ep e (ev x.A).1).Loc,0)else Ee (decide ((Ep e (ev x.A).1).Loc∈x.Args)):=by unfold KZ;rw[h0]<;>rfl
 rw[b];generalize(ev x.A).1=n;refine⟨λh1=>?_,λh1=>?_,λh1=>⟨λh2=>⟨?_,BA (cf ?_ (ct (by simpa using h2) rfl))⟩,λh2=>⟨?_,_,RW a,_,Dk,BA (cf ?_ (cf (by simpa using h2) rfl))⟩⟩⟩
 .simp at h1;omega
 .simp only[B6,BU,ieq,AY,ArJ,ArP]at h1;exact BA (ct h1 rfl)
 .simp at h1;omega
 .grind
 .simp at h1;omega
 .simp only[B6,BU,ieq,AY,ArJ,ArP]at h1;exact h1
def L1 {e:D.Env}{a:Int}{p:Int×Int}(h:EvS e a p):Ah prog 202 [] [Aa a,.tp [.tp (Ai e)]] [] (vII p) :=
 Ap func202 (Aed _ _ e a) ⟨p,h,BA rfl⟩
def QS {e:D.Env}{ev:Evl}{x:D.Expr}(h:EvS e x.A (ev x.A))(hB:EvS e x.B (ev x.B))(b:x.Op=24->EvS e x.C (ev x.C)):Ah prog 177 [] [.tp (Ai e),.agg (AE x)] [] (vII (NN ev x)):=by
 refine Ap func177 (Aef _ _ e x rfl rfl) ⟨ev x.A,h,λh=>BA (ct (by simpa using h) rfl),λh=>?_⟩;have h0:decide ((ev x.A).2≠0)=false:=by simpa using h
 have c:NN ev x=bif decide (x.Op=24)then(bif decide ((ev x.A).1≠0)then ev x.B else ev x.C)
   else bif(decide (x.Op=22)&&decide ((ev x.A).1=0))||(decide (x.Op=23)&&decide ((ev x.A).1≠0))then Ee (decide ((ev x.A).1≠0))
   else bif decide ((ev x.B).2≠0)then(0,(ev x.B).2)else Ee (decide ((ev x.B).1≠0)):=by unfold NN;rw[h0]<;>rfl
 rw[c];generalize(ev x.A).1=n;refine⟨λh1=>⟨_,L1 hB,?_⟩,λh1=>⟨λh2=>⟨_,L1 (b (by simpa using h2)),?_⟩,λh2=>⟨λh3=>⟨_,Dk,?_⟩,λh3=>⟨_,L1 hB,λh4=>?_,λh4=>⟨_,Dk,?_⟩⟩⟩⟩⟩
 .simp only[BU,ieq,AY,ApX]at h1;exact BA (ct h1.1 (ct h1.2 rfl))
 .have a:decide (x.Op=24)=true:=by simpa using h2
  simp only[BU,ieq,AY,a,AqX]at h1;exact BA (ct a (cf h1 rfl))
 .have a:decide (x.Op=24)=false:=by simpa using h2
  simp only[BU,B6,ieq,AY]at h3;rw[AY];exact BA (cf a (ct h3 rfl))
 .have a:decide (x.Op=24)=false:=by simpa using h2
  simp only[BU,B6,ieq,AY]at h3;exact BA gD
 .have a:decide (x.Op=24)=false:=by simpa using h2
  simp only[BU,B6,ieq,AY]at h3;rw[AY];exact BA gD
def Ad0 {op a:Int}:Ah prog 206 [] [Aa op,Aa a] [] (vII (NJ op a,Zs op)):=by
 refine Ah.hand ⟨_,func206,rfl,kR⟩ λw E vs c d _ _ hs=>?_
 obtain⟨f,us1,rfl,b,hs⟩:=hs.cons_inv;obtain⟨g,us2,rfl,v2,hs⟩:=hs.cons_inv;obtain rfl:=hs.nil_inv;rw[b.sc_inv,v2.sc_inv];refine(ApG op a w).mono ?_;rintro e w' ⟨rfl,rfl⟩;exact⟨_,rfl,AfN .sc .sc,Below.refl _ _⟩
def AcD {op a b:Int}:Ah prog 207 [] [Aa op,Aa a,Aa b] [] (vII (EK op a b,HW op b)):=by
 refine Ah.hand ⟨_,func207,rfl,kR⟩ λw E vs f g _ _ hs=>?_
 obtain⟨h,us1,rfl,c,hs⟩:=hs.cons_inv;obtain⟨i,us2,rfl,v2,hs⟩:=hs.cons_inv;obtain⟨j,us3,rfl,d,hs⟩:=hs.cons_inv;obtain rfl:=hs.nil_inv;rw[c.sc_inv,v2.sc_inv,d.sc_inv];refine(ApF op a b w).mono ?_;rintro e w' ⟨rfl,rfl⟩;exact⟨_,rfl,AfN .sc .sc,Below.refl _ _⟩
def Sg {e:D.Env}{ev:Evl}{x:D.Expr}(h:EvS e x.A (ev x.A))(hB:¬(x.Op=3\/x.Op=4\/x.Op=5)->EvS e x.B (ev x.B)):Ah prog 183 [] [.tp (Ai e),.agg (AE x)] [] (vII (Si ev x)):=by
 refine Ap func183 (AfT _ _ e x) ⟨ev x.A,h,λh=>BA (ct (by simpa using h) rfl),λh=>?_⟩;have h0:decide ((ev x.A).2≠0)=false:=by simpa using h
 have a:Si ev x=bif decide (x.Op=3)||(decide (x.Op=4)||decide (x.Op=5))then(NJ x.Op (ev x.A).1,Zs x.Op)
   else bif decide ((ev x.B).2≠0)then(0,(ev x.B).2)else(EK x.Op (ev x.A).1 (ev x.B).1,HW x.Op (ev x.B).1):=by unfold Si;rw[h0]<;>rfl
 rw[a];generalize(ev x.A).1=n;refine⟨λh1=>⟨_,Ad0,BA (ct ?_ rfl)⟩,λh1=>⟨ev x.B,hB ?_,λh2=>BA (cf ?_ (ct (by simpa using h2) rfl)),λh2=>⟨_,AcD,BA (cf ?_ (cf (by simpa using h2) rfl))⟩⟩⟩
 .grind
 .simp at h1;omega
 .grind
 grind
def Ad5 {x l mt:List Int}(n:Len mt.length):Ah prog 218 [] [Ad true x,Ad false l,Ad true mt] [] (Ac (Iu x l mt)):=by
 unfold Len at n;refine Ap func218 (AhZ _ x l mt) ⟨λh=>AA ?_,λh=>?_⟩
 .symm;unfold Iu;rw[B6]at h;rw[AqO];intro o;simp only[ApX,Ap7]at o;simp at h;omega
 .have g:mt.length<=x.length/\mt.length<=l.length:=by simp at h;omega
  have p:Iu x l mt=EH mt.length λi=>!(decide (mt.getD i 0=1)&&decide (x.getD i 0≠l.getD i 0)):=by
   unfold Iu;rw[Aqn g.1,Aqn g.2]<;>rfl
  rw[p];refine Ar mt.length (λk=>T5 x l mt k) (λk=>∀i,i<k->(!(decide (mt.getD i 0=1)&&decide (x.getD i 0≠l.getD i 0)))=true) (λi hi=>oM) ?_;intro k q j J next
  refine Aqh (Ad6 _ x l mt k J) ⟨λc=>?_,λd=>AA ?_⟩
  .have a:k<mt.length:=by have:=AZ c;omega
   have e:(k:Int).toNat=k:=oM
   rw[e];refine⟨oM,λ_=>oM,λ_=>oM,λb=>AA ?_,λb=>next _ a (ET j ?_) (Up.of ?_)⟩
   .simp only[BU,ieq,AY]at b;exact(DC (f:=λi=>!(decide (mt.getD i 0=1)&&decide (x.getD i 0≠l.getD i 0))) a (by rw[b]<;>rfl)).symm
   .simp only[BU,ieq,AY]at b;rw[b]<;>rfl
   .rw[Al oM]<;>rfl
  .have m:mt.length<=k:=by have:=AW d;omega
   exact(BP.2 λi hi=>j i oM).symm
def Z4 {l mt:List Int}{any:Bool}{k:Nat}{x:List Int}{q:List (List Int)}:Ti l mt any k (x::q)=bif Iu x l mt then(k:Int)else bif any then Ti l mt any (k+1) q else -1:=rfl
def Tg {c:D.Chan}{l mt:List Int}{any:Bool}(m:Len c.Queue.length)(n:Len mt.length):Ah prog 204 [] [.agg (Ay c),Ad false l,Ad true mt,Ac any] [] (Aa (Kq c l mt any)):=by
 unfold Len at m;refine Ap func204 (Aiy _ c l mt any) ?_;unfold Kq;refine Ar c.Queue.length (λk=>T6 c l mt any k) (λk=>Ti l mt any 0 c.Queue=Ti l mt any k (c.Queue.drop k)) rfl ?_;intro k o b J next
 refine Aqh (AeD _ c l mt any k J) ⟨λg=>?_,λh=>Bj ?_⟩
 .have a:k<c.Queue.length:=by have:=AZ g;omega
  have i:(k:Int).toNat=k:=oM
  rw[i];rw[A5 (d:=[]) a,Z4]at b;refine⟨oM,_,Ad5 n,λf=>Bj ?_,λf=>⟨λj=>Bj ?_,λj=>next _ a ?_ (Up.of ?_)⟩⟩
  .rw[b,f,ApY]
  .rw[b,f,ApW,show any=false by simpa using j,ApW]
  .rw[b,f,ApW,show any=true by simpa using j,ApY]
  .rw[Al oM]<;>rfl
 .have e:c.Queue.length<=k:=by have:=AW h;omega
  rw[b,Aqk e]<;>rfl
def Lg {f:Nat->Int}:∀{n:Nat},(∀i,i<n->f i=0)->Z8 n f=0
 | 0,_=>rfl
 | n+1,h=>by
  unfold Z8;rw[Lg λi hi=>h i oM,h n oM]<;>rfl
theorem Ra {f:Nat->Int}{k:Nat}(h:∀i,i<k->f i=0)(b:f k≠0):∀{n:Nat},k<n->Z8 n f=f k
 | 0,hk=>oM
 | n+1,hk=>by
  unfold Z8
  by_cases a:k=n
  .subst a;rw[Lg h]<;>rfl
  .rw[Ra h b (n:=n) oM,Aqn b,ApY]
def Ci (ev:Evl)(args mt:List Int)(k:Nat):List Int:=(List.range args.length).map λi=>if i<k then(EP ev (args.getD i 0) (mt.getD i 0)).1 else 0
theorem CN {ev:Evl}{args mt:List Int}{k:Nat}:(Ci ev args mt k).length=args.length:=by simp[Ci]
def FF {ev:Evl}{args mt:List Int}{k i:Nat}(hi:i<args.length):(Ci ev args mt k).getD i 0=if i<k then(EP ev (args.getD i 0) (mt.getD i 0)).1 else 0:=by
 simp[Ci,List.getD,hi]
def PP {ev:Evl}{args mt:List Int}:Ci ev args mt args.length=Ns ev args mt:=by
 unfold Ci Ns;apply ArY;intro i hi;rw[AqH (Aq1.1 hi)]
def AdR {e:D.Env}{ev:Evl}{x:D.Expr}(t:Cf e)(h:EvS e x.A (ev x.A))(I:∀a∈x.Args,EvS e a (ev a))(O:x.Args.length<=8)(P:x.Match.length=x.Args.length):Ah prog 179 [] [.tp (Ai e),.agg (AE x)] [] (vII (SM e ev x)):=by
 refine Ap func179 (Ag5 _ _ e x) ⟨D0 e ev x.A,LF h,λh=>BA (ct (by simpa using h) rfl),λh=>?_⟩;have h0:decide ((D0 e ev x.A).2≠0)=false:=by simpa using h
 have p:SM e ev x=bif decide ((Cr e.M (CM e (D0 e ev x.A).1).Shape).Fields.length≠x.Args.length)then(0,49)
   else bif decide (Fh ev x.Args x.Match x.Args.length≠0)then(0,Fh ev x.Args x.Match x.Args.length)
   else Ee (decide (0<=Kq (CM e (D0 e ev x.A).1) (Ns ev x.Args x.Match) x.Match (decide (x.N=1)))):=by unfold SM;rw[h0]<;>rfl
 rw[p];have J:=UP t (Aqr h0);generalize(D0 e ev x.A).1=n at J;rw[BY oM oM];have r:=As (d:=default) (show(n-1).toNat<e.S.Chans.length by omega);have H:=t.chan r;have hs:=(FT H).1;have u:=(t.fit.q _ r).1;refine⟨oM,hs,λh1=>BA (ct ?_ rfl),λh1=>⟨oM,?_⟩⟩
 .rw[AY]at h1;have:=Aqb h1;rw[Ap7];intro v;apply this;have w:(e.M.Shapes.getD (e.S.Chans.getD (n-1).toNat default).Shape.toNat default).Fields.length=x.Args.length:=v;rw[w]
 have y:decide ((Cr e.M (CM e n).Shape).Fields.length≠x.Args.length)=false:=by
  rw[AY]at h1;have:=Aqr h1;rw[Aqz];intro v;apply this;intro h2;apply v;exact Int.ofNat.inj h2
 rw[y,ApW];have g:e.S.Chans.getD (n-1).toNat default=CM e n:=rfl;clear p h1 hs H;generalize CM e n=c at g;have K:c.Queue.length<=16:=by rw[<- g];exact u
 refine Aq (λgg st=>∃k:Nat,k<=x.Args.length/\gg=x.Args.length-k/\(∀i,i<k->(EP ev (x.Args.getD i 0) (x.Match.getD i 0)).2=0)/\st=YC e x c (Ci ev x.Args x.Match k) k)
  ⟨x.Args.length,Up.mk (l':=[(0,.tp (Ai e)),(3,.bp 0 0),(8,.bp 1 0),(9,.ow 2 0 (Ci ev x.Args x.Match 0).length),(51,Ad true x.Args),(52,Aa x.Args.length),(53,Aa ((0:Nat):Int))])
   (hs':=[.box (AE x),.box (Ay c),.arr true 0 (Ci ev x.Args x.Match 0).length 1 (AO (Ci ev x.Args x.Match 0))]) ?_ ?_ ⟨0,Ap3 _,rfl,λi hi=>oM,rfl⟩⟩ ?_
 .rw[CN];exact AR _
 .rw[CN];refine⟨Ob.le_refl _,by rw[<- g];exact Ob.le_refl _,Aqm λi hi=>AL ?_,trivial⟩;have o:AO (Ci ev x.Args x.Match 0) i=[Aa 0]:=by
   unfold AO;rw[FF oM,Aqs (AqL _)]
  refine Eq.trans ?_ o.symm;rfl
 .rintro gg st ⟨k,Q,rfl,s,rfl⟩;refine Aqh (AdS _ _ e x c _ k _) ⟨λz=>?_,λB=>?_⟩
  .have j:k<x.Args.length:=by have:=AZ z;omega
   have C:(k:Int).toNat=k:=oM
   rw[C];refine⟨oM,oM,λl=>?_,λl=>⟨ev (x.Args.getD k 0),I _ (As j),by rw[CN];omega,λo=>BA ?_,λo=>?_⟩⟩
   .rw[AY]at l;have h1:=Aqb l;have hv:EP ev (x.Args.getD k 0) (x.Match.getD k 0)=(0,0):=by unfold EP;rw[Aqu h1]<;>rfl
    have L:Ci ev x.Args x.Match k=Ci ev x.Args x.Match (k+1):=by
     unfold Ci;apply ArY;intro i _
     by_cases E:i=k
     .subst E;rw[Aqs (Ar3 _),AqH (Aq3 _),hv]
     .by_cases b:i<k
      .rw[AqH b,AqH oM]
      .rw[Aqs b,Aqs oM]
    rw[L,Al oM];exact⟨x.Args.length-(k+1),oM,Up.of ⟨k+1,oM,rfl,ET s (by rw[hv]),rfl⟩⟩
   .have m:decide (x.Match.getD k 0=1)=true:=by rw[AY]at l;simpa using l
    have hv:EP ev (x.Args.getD k 0) (x.Match.getD k 0)=ev (x.Args.getD k 0):=by unfold EP;rw[m]<;>rfl
    have F:(EP ev (x.Args.getD k 0) (x.Match.getD k 0)).2≠0:=by rw[hv];simpa using o
    have G:Fh ev x.Args x.Match x.Args.length=(ev (x.Args.getD k 0)).2:=by
     unfold Fh;rw[Ra (f:=λi=>(EP ev (x.Args.getD i 0) (x.Match.getD i 0)).2) s F j,hv]
    rw[G];exact ct (by simpa using o) rfl
   .have m:decide (x.Match.getD k 0=1)=true:=by rw[AY]at l;simpa using l
    have hv:EP ev (x.Args.getD k 0) (x.Match.getD k 0)=ev (x.Args.getD k 0):=by unfold EP;rw[m]<;>rfl
    have h2:(ev (x.Args.getD k 0)).2=0:=by simpa using o
    rw[Al oM];refine⟨x.Args.length-(k+1),oM,Up.mk (l':=[(0,.tp (Ai e)),(3,.bp 0 0),(8,.bp 1 0),(9,.ow 2 0 (Ci ev x.Args x.Match (k+1)).length),(51,Ad true x.Args),(52,Aa x.Args.length),(53,Aa ((k+1:Nat):Int))])
     (hs':=[.box (AE x),.box (Ay c),.arr true 0 (Ci ev x.Args x.Match (k+1)).length 1 (AO (Ci ev x.Args x.Match (k+1)))]) ?_ ?_ ⟨k+1,oM,rfl,ET s (by rw[hv];exact h2),rfl⟩⟩
    .rw[CN,CN];exact AR _
    .rw[CN,CN];refine⟨Ob.le_refl _,Ob.le_refl _,Aqm λi hi=>AL ?_,trivial⟩;show(bif i.beq k then[Aa (ev (x.Args.getD k 0)).1]else[Aa ((Ci ev x.Args x.Match k).getD i 0)])=[Aa ((Ci ev x.Args x.Match (k+1)).getD i 0)];rw[FF hi,FF hi];cases p:i.beq k with
     | true =>
      have:=Ap0 p;subst this;rw[ApY,AqH (Aq3 _),hv]
     | false =>
      have:i≠k:=Nat.ne_of_beq_eq_false p;rw[ApW]
      by_cases b:i<k
      .rw[AqH b,AqH oM]
      .rw[Aqs b,Aqs oM]
  .obtain rfl:k=x.Args.length:=by have:=AW B;omega
   have G:Fh ev x.Args x.Match x.Args.length=0:=Lg s;rw[G,PP];refine⟨_,Tg (by unfold Len;omega) (by unfold Len;omega),_,Dk,BA (cf rfl ?_)⟩;rw[ieq]
def W0 {e:D.Env}{ev:Evl}{v:D.Var}(a:Cf e)(hv:JF v)(b:¬(v.Scope=0\/v.Scope=1)->EvS e v.Who (ev v.Who)):Ah prog 201 [] [.tp (Ai e),.agg (CH v)] [] (vII (DK e ev v)):=by
 have hp:=a.pid;refine Ap func201 (ZQ _ _ e v rfl rfl) ⟨λh=>⟨_,G7 hv,λh1=>BA ?_,λh1=>BA ?_⟩,λh=>⟨λh1=>⟨_,λ_=>G7 hv,λh2=>?_,λh2=>BA ?_,λh2=>BA ?_⟩,λh1=>⟨_,b ?_,λh2=>BA ?_,λh2=>⟨λh3=>?_,λh3=>BA ?_,λh3=>⟨_,G7 hv,?_,λh4=>BA ?_,λh4=>BA ?_⟩⟩⟩⟩⟩
 .exact ct (by simpa using h) (ct h1 rfl)
 .exact ct (by simpa using h) (cf h1 rfl)
 .simp at h2;omega
 .exact cf (by simpa using h) (ct (by simpa using h1) (ct (by rw[B6]at h2;exact h2) rfl))
 .exact cf (by simpa using h) (ct (by simpa using h1) (cf (by rw[B6]at h2;exact h2) rfl))
 .simp at h h1;omega
 .exact cf (by simpa using h) (cf (by simpa using h1) (ct (by simpa using h2) rfl))
 .simp at h3;omega
 .refine cf (by simpa using h) (cf (by simpa using h1) (cf (by simpa using h2) (ct ?_ rfl)));simp only[B6,AY,ArJ,ArP]at h3;exact h3
 .simp at h3;omega
 .refine cf (by simpa using h) (cf (by simpa using h1) (cf (by simpa using h2) (cf ?_ (ct h4 rfl))));simp only[B6,AY,ArJ,ArP]at h3;exact h3
 .refine cf (by simpa using h) (cf (by simpa using h1) (cf (by simpa using h2) (cf ?_ (cf h4 rfl))));simp only[B6,AY,ArJ,ArP]at h3;exact h3
def Rf {ev:Evl}{n:Int}{d:D.Dim}{l:List D.Dim}:Ge ev n (d::l)=bif decide ((ev d.I).2≠0)then(0,(ev d.I).2)else bif decide ((ev d.I).1<0)||decide (d.Len<=(ev d.I).1)then(0,47)else Ge ev (n+(ev d.I).1*d.Stride) l:=rfl
structure Ajy (d:D.Dim):Prop where
 l1:1<=d.Len
 l2:d.Len<=128
 s1:0<=d.Stride
 s2:d.Stride<=128
def AhY {i s n:Int}(h0:0<=i)(h1:i<n)(h2:n<=128)(d:0<=s)(s1:s<=128):0<=i*s/\i*s<=(n-1)*s/\(n-1)*s<=16384:=by
 have a:=Int.mul_nonneg h0 d;have b:=Int.mul_le_mul_of_nonneg_right (show i<=n-1 by omega) d;have c:=Int.mul_le_mul (show n-1<=128 by omega) s1 d oM;omega
def Ac2 {e:D.Env}{ev:Evl}{x:Int}(w:Cf e)(u:0<=x/\x<e.M.Exprs.length)(hv:JF (AC e.M x).V)(o:(AC e.M x).Op=2->¬((AC e.M x).V.Scope=0\/(AC e.M x).V.Scope=1)->EvS e (AC e.M x).V.Who (ev (AC e.M x).V.Who))
  (hs:(AC e.M x).Op=2->0<=(AC e.M x).V.Slot/\(AC e.M x).V.Slot<=128/\(AC e.M x).V.Dims.length<=4) (hd:(AC e.M x).Op=2->∀d∈(AC e.M x).V.Dims,Ajy d/\EvS e d.I (ev d.I)):Ah prog 176 [] [.tp (Ai e),Aa x] [] (LK (Cc e ev (AC e.M x))):=by
 refine Ap func176 (Age _ _ _ e x rfl rfl) ⟨u,u,λh=>M3 (ct (by simpa[AC]using h) rfl),λh=>?_⟩;have h0:(AC e.M x).Op=2:=by simpa[AC]using h
 change ∃y:Int×Int,Ah prog 201 [] [.tp (Ai e),.agg (CH (AC e.M x).V)] [] (vII y)/\_
 replace o:=o h0
 replace hs:=hs h0
 replace hd:=hd h0
 have v:Cc e ev (AC e.M x)=bif decide ((DK e ev (AC e.M x).V).2≠0)then(0,0,(DK e ev (AC e.M x).V).2)
   else bif decide ((Ge ev (AC e.M x).V.Slot (AC e.M x).V.Dims).2≠0)then(0,0,(Ge ev (AC e.M x).V.Slot (AC e.M x).V.Dims).2)else((DK e ev (AC e.M x).V).1,(Ge ev (AC e.M x).V.Slot (AC e.M x).V.Dims).1,0):=by
  unfold Cc;rw[Aqu (by rw[h0];simp)];rfl
 rw[v];refine⟨_,W0 w hv o,λh1=>M3 (ct (by simpa using h1) rfl),λh1=>?_⟩;have j:decide ((DK e ev (AC e.M x).V).2≠0)=false:=by simpa using h1
 rw[j,ApW];generalize(DK e ev (AC e.M x).V).1=who;have l:=hs.1;have f:=hs.2;change AB _ [1,1,1,1,1,1,0,1,0] (Qd e (AC e.M x).V.Dims who (AC e.M x).V.Slot 0);clear v o hv h h1 j hs;generalize(AC e.M x).V.Dims=ds at hd f |-;generalize(AC e.M x).V.Slot=sl at l f |-;generalize z:Ge ev sl ds=R;refine Aq (λgg st=>∃(k:Nat)(n:Int),k<=ds.length/\gg=ds.length-k/\0<=n/\n<=128+16384*k/\Ge ev n (ds.drop k)=R/\st=Qd e ds who n k)
  ⟨ds.length,Up.of ⟨0,sl,Ap3 _,rfl,l,oM,z,rfl⟩⟩ ?_
 rintro gg st ⟨k,n,E,rfl,A,B,b,rfl⟩;refine Aqh (Ac3 _ _ _ e x ds who n k _ rfl rfl) ⟨λq=>?_,λr=>?_⟩
 .have g:k<ds.length:=by have:=AZ q;omega
  have t:(k:Int).toNat=k:=oM
  rw[t];obtain⟨p,m⟩:=hd _ (As (d:=default) g);rw[A5 (d:=default) g,Rf]at b;generalize ds.getD k default=d at p m b |-;refine⟨oM,_,m,λh2=>M3 ?_,λh2=>⟨λh3=>M3 ?_,λh3=>?_⟩⟩
  .have a:decide ((ev d.I).2≠0)=true:=by simpa using h2
   rw[a,ApY]at b;subst b;exact ct a rfl
  .have a:decide ((ev d.I).2≠0)=false:=by simpa using h2
   rw[B6]at h3;rw[a,ApW]at b;have c:(decide ((ev d.I).1<0)||decide (d.Len<=(ev d.I).1))=true:=h3;rw[c,ApY]at b;subst b;exact ct rfl rfl
  .have a:decide ((ev d.I).2≠0)=false:=by simpa using h2
   rw[B6]at h3;have c:(decide ((ev d.I).1<0)||decide (d.Len<=(ev d.I).1))=false:=h3;rw[a,ApW,c,ApW]at b;simp only[Aql,Aqz]at c;have F:=AhY (i:=(ev d.I).1) (s:=d.Stride) (n:=d.Len) oM oM p.l2 p.s1 p.s2;have C:k<4:=oM
   rw[BY (n:=(ev d.I).1*d.Stride) oM oM,BY oM oM,Al oM];exact⟨ds.length-(k+1),oM,Up.of ⟨k+1,n+(ev d.I).1*d.Stride,oM,rfl,oM,oM,b,rfl⟩⟩
 .obtain rfl:k=ds.length:=by have:=AW r;omega
  rw[ArL]at b;subst b;exact M3 (cf rfl rfl)
def RT {e:D.Env}(j:Cf e):Ah prog 181 [] [.tp (Ai e)] [] (Ac (K2 e)):=by
 have n:=j.fit.p;refine Ap func181 (Ul _ e) ?_;refine Ar e.S.Procs.length (λk=>T4 e k) (λk=>∀i,i<k->(!((I4 e.M (e.S.Procs.getD i default).Type_).getD (e.S.Procs.getD i default).Loc.toNat default).Progress)=true) (λi hi=>oM) ?_;intro k q o J next
 refine Aqh (RU _ e k J rfl) ⟨λb=>?_,λc=>AA ?_⟩
 .have a:k<e.S.Procs.length:=by have:=AZ b;omega
  have g:(k:Int).toNat=k:=oM
  rw[g];have l:=DE (j.proc (As (d:=default) a));refine⟨oM,l.1,l.2.1,λh=>AA ?_,λh=>next _ a (ET o ?_) (Up.of ?_)⟩
  .unfold K2;rw[DC (f:=λi=>!((I4 e.M (e.S.Procs.getD i default).Type_).getD (e.S.Procs.getD i default).Loc.toNat default).Progress) a (by show(!_)=false;unfold I4;rw[h]<;>rfl)];rfl
  .show(!_)=true;unfold I4;rw[h]<;>rfl
  grind[Al]
 .have m:e.S.Procs.length<=k:=by have:=AW c;omega
  unfold K2;grind[BP]
structure XQ (m:D.Model) (k:Int) (x:D.Expr):Prop where
 op:1<=x.Op/\x.Op<=39
 a:1<=BN x.Op->0<=x.A/\x.A<k
 b:2<=BN x.Op->0<=x.B/\x.B<k
 c:3<=BN x.Op->0<=x.C/\x.C<k
 num:x.Op=1->DP ⟨32,true⟩ x.N=true
 var:x.Op=2->Fa m k x.V=true
 poll:x.Op=30->CV m k x.Args x.Match=true
def Uo {k op p:Int}{i:Nat}(h:Fv k op i p=true)(hi:i<BN op):0<=p/\p<k:=by
 unfold Fv at h;simp_all[Aqn,Cd]
def Xj {m:D.Model}{k:Int}(h:Em m k=true):XQ m k (AC m k):=by
 unfold Em at h;simp only[ApX,Ap7]at h;obtain⟨⟨h1,⟨b,hB⟩,c⟩,h3⟩:=h;refine⟨h1,λhi=>Uo b oM,λhi=>Uo hB oM,λhi=>Uo c oM,λa=>?_,λa=>?_,λa=>?_⟩
 .grind
 .grind
 grind
def SY {k:Int}{l:List Int}(h:DR k l=true):∀a∈l,0<=a/\a<k:=λa b =>
 Cd.1 ((Cz (d:=0) (f:=λa=>inP k a)).1 h a b)
structure XO (m:D.Model) (k:Int) (v:D.Var):Prop where
 scope:0<=v.Scope/\v.Scope<=2
 slot:0<=v.Slot/\v.Slot<=128
 dims:v.Dims.length<=4
 who:v.Scope=2->0<=v.Who/\v.Who<k
 dim:∀d∈v.Dims,Ajy d/\0<=d.I/\d.I<k
def JK {m:D.Model}{k:Int}{v:D.Var}(h:Fa m k v=true):XO m k v:=by
 unfold Fa at h;simp only[ApX,Ap7]at h;obtain⟨⟨⟨⟨⟨⟨h1,h2⟩,h3⟩,h4⟩,h5⟩,h6⟩,h7⟩:=h;refine⟨⟨h1,h2⟩,⟨h3,h4⟩,h5,λhs=>?_,λd hd=>?_⟩
 .simp_all[Aqn,Cd]
 .have:=(Cz (d:=default) (f:=λd=>RV k d)).1 h7 d hd;unfold RV at this;simp only[ApX,Ap7]at this;obtain⟨⟨⟨⟨a,b⟩,c⟩,a4⟩,e⟩:=this;have:=Cd.1 a;exact⟨⟨b,c,a4,e⟩,this⟩
def AbJ {ev:Evl}:∀{l:List D.Dim}{n r k:Int},(∀d∈l,Ajy d)->0<=n->n<r->(Ge ev n l).2=0->(Ge ev n l).1=k->0<=k/\k<FL r l
 | [],n,r,k,_,h0,h1,_,b=>by subst b;exact⟨h0,h1⟩
 | d::l,n,r,k,hd,h0,h1,h2,b=>by
  have a:=hd d (Ap2 ..);rw[Rf]at h2 b;cases e:decide ((ev d.I).2≠0)with
  | true=>grind
  | false =>
   rw[e,ApW]at h2 b;cases c:(decide ((ev d.I).1<0)||decide (d.Len<=(ev d.I).1))with
   | true=>grind
   | false =>
    rw[c,ApW]at h2 b;simp only[Aql,Aqz]at c;have f:=AhY (i:=(ev d.I).1) (s:=d.Stride) (n:=d.Len) oM oM a.l2 a.s1 a.s2;have:=AbJ (r:=r+(d.Len-1)*d.Stride) gD oM oM h2 b;have g:Md d=false:=by
     have:=a.l1;have:=a.l2;have:=a.s1;have:=a.s2;unfold Md;simp;omega
    show 0<=k/\k<FL r (d::l);unfold FL;grind
structure RH (e:D.Env) (who k:Int):Prop where
 glob:who<0->0<=k/\k<e.S.Globals.length
 own:0<=who->who<e.S.Procs.length/\0<=k/\k<(Ep e who).Frame.length
def AdF {m:D.Model}{k:Int}{v:D.Var}(h:XO m k v):Fo v=FL (v.Slot+1) v.Dims:=by
 have h1:=h.slot;have h2:=h.dims;unfold Fo;grind
def T8 {e:D.Env}{ev:Evl}{x:D.Expr}{k:Int}(i:Cf e)(hv:x.Op=2->XO e.M k x.V)(h:(Cc e ev x).2.2=0):RH e (Cc e ev x).1 (Cc e ev x).2.1:=by
 have b:=i.pid;unfold Cc at h |-;cases g:decide (x.Op≠2)with
 | true=>grind
 | false =>
  rw[g,ApW]at h;rw[ApW];have hv:=hv (by simpa using g);have j:=AdF hv;cases a:decide ((DK e ev x.V).2≠0)with
  | true=>grind
  | false =>
   rw[a,ApW]at h;rw[ApW];cases m:decide ((Ge ev x.V.Slot x.V.Dims).2≠0)with
   | true=>grind
   | false =>
    rw[ApW];have hd:=AbJ (ev:=ev) (l:=x.V.Dims) (n:=x.V.Slot) (r:=x.V.Slot+1) (λd hd=>(hv.dim d hd).1) hv.slot.1 oM (by simpa using m) rfl;rw[<- j]at hd;show RH e (DK e ev x.V).1 (Ge ev x.V.Slot x.V.Dims).1;generalize(Ge ev x.V.Slot x.V.Dims).1=n at hd;unfold DK at a |-;cases d1:decide (x.V.Scope=0)with
    | true =>
     rw[d1,ApY]at a;rw[ApY];cases d2:decide ((e.S.Globals.length:Int)<Fo x.V)with
     | true=>grind
     | false =>
      have:=Aqr d2;exact⟨λ_=>⟨hd.1,oM⟩,λh=>by simp at h⟩
    | false =>
     rw[d1,ApW]at a;rw[ApW];cases d2:decide (x.V.Scope=1)with
     | true =>
      rw[d2,ApY]at a;rw[ApY];cases c:(decide (e.Pid<0)||decide (((Ep e e.Pid).Frame.length:Int)<Fo x.V))with
      | true=>grind
      | false =>
       simp only[Aql,Aqz]at c;exact(show RH e e.Pid n from⟨λh=>absurd h c.1,λ_=>⟨b.2,hd.1,oM⟩⟩)
     | false =>
      rw[d2,ApW]at a;rw[ApW];cases c:decide ((ev x.V.Who).2≠0)with
      | true=>grind
      | false =>
       rw[c,ApW]at a;rw[ApW];cases f:(decide ((ev x.V.Who).1<0)||(decide ((e.S.Procs.length:Int)<=(ev x.V.Who).1)||decide ((Ep e (ev x.V.Who).1).Type_≠x.V.Type_)))with
       | true=>grind
       | false =>
        rw[f,ApW]at a;rw[ApW];simp only[Aql,Aqz]at f;cases o:decide (((Ep e (ev x.V.Who).1).Frame.length:Int)<Fo x.V)with
        | true=>grind
        | false =>
         have:=Aqr o;exact(show RH e (ev x.V.Who).1 n from⟨λh=>absurd h f.1,λ_=>⟨oM,hd.1,oM⟩⟩)
def Pj {m:D.Model}{k:Int}{a t:List Int}(h:CV m k a t=true):a.length<=8/\t.length=a.length/\∀x∈a,0<=x/\x<k:=by
 unfold CV at h;simp only[ApX,Ap7]at h;exact⟨h.1.1.1.2,h.1.1.2,SY h.1.2⟩
def Z5 {m:D.Model}{x:Int}(a:0<=x/\x<m.Exprs.length):AC m x∈m.Exprs:=As (d:=default) oM
def Ajp {e:D.Env}{x:Int}(a:Cf e)(b:0<=x/\x<e.M.Exprs.length):Len (AC e.M x).Args.length:=by
 have:=(a.wf.Exprs.2 _ (Z5 b)).Args.1;unfold Len;omega
def AaX {e:D.Env}{ev:Evl}{x:Int}(g:Cf e)(h:0<=x/\x<e.M.Exprs.length)(b:XQ e.M x (AC e.M x))(c:∀a,0<=a->a<x->EvS e a (ev a)):Ah prog 176 [] [.tp (Ai e),Aa x] [] (LK (Cc e ev (AC e.M x))):=by
 refine Ac2 g h (g.wf.Exprs.2 _ (Z5 h)).V (λf hs=>?_) (λf=>?_) (λf d hd=>?_)
 .have hv:=JK (b.var f);have h1:=hv.scope;exact c _ (hv.who oM).1 (hv.who oM).2
 .have hv:=JK (b.var f);exact⟨hv.slot.1,hv.slot.2,hv.dims⟩
 .have hv:=JK (b.var f);exact⟨(hv.dim d hd).1,c _ (hv.dim d hd).2.1 (hv.dim d hd).2.2⟩
def AdE {e:D.Env}{ev:Evl}{x:Int}(g:Cf e)(c:(e.M.Exprs.getD x.toNat default).Op=2)(d:XQ e.M x (AC e.M x))(f:Ah prog 176 [] [.tp (Ai e),Aa x] [] (LK (Cc e ev (AC e.M x)))) :
  ∃y:Int×Int×Int,Ah prog 176 [] [.tp (Ai e),Aa x] [] (LK y)/\((y.2.2 != 0)=true->leO [] []/\VV.le (.tup [.sc (.int .i64 0),.sc (.int .i64 y.2.2)]) (vII (DQ e ev (AC e.M x))))/\((y.2.2 != 0)=false ->
   (decide (y.1<0)=true->(0<=y.2.1/\y.2.1<(e.S.Globals.length:Int))/\leO [] []/\VV.le (.tup [.sc (.int .i64 (e.S.Globals.getD y.2.1.toNat 0)),.sc (.int .i64 0)]) (vII (DQ e ev (AC e.M x)))) /\
   (decide (y.1<0)=false->(0<=y.1/\y.1<(e.S.Procs.length:Int))/\(0<=y.2.1/\y.2.1<((e.S.Procs.getD y.1.toNat default).Frame.length:Int))/\leO [] []/\VV.le (.tup [.sc (.int .i64 ((e.S.Procs.getD y.1.toNat default).Frame.getD y.2.1.toNat 0)),.sc (.int .i64 0)]) (vII (DQ e ev (AC e.M x))))):=by
 have a:(AC e.M x).Op=2:=c;have i:DQ e ev (AC e.M x)=Aa5 e ev (AC e.M x):=by unfold DQ;rw[a]<;>rfl
 rw[i];have b:=T8 (e:=e) (ev:=ev) g (λj=>JK (d.var j));refine⟨Cc e ev (AC e.M x),f,λh=>BA (ct (by simpa using h) rfl),λh=>⟨λh1=>?_,λh1=>?_⟩⟩
 .have h0:decide ((Cc e ev (AC e.M x)).2.2≠0)=false:=by simpa using h
  exact⟨(b (by simpa using h0)).glob (Aqb h1),BA (cf h0 (ct h1 rfl))⟩
 .have h0:decide ((Cc e ev (AC e.M x)).2.2≠0)=false:=by simpa using h
  have hi:=b (by simpa using h0);have:=Aqr h1;exact⟨⟨oM,(hi.own oM).1⟩,(hi.own oM).2,BA (cf h0 (cf h1 rfl))⟩
def Afk {e:D.Env}{ev:Evl}{x:Int}(b:(e.M.Exprs.getD x.toNat default).Op=36)(h:EvS e (AC e.M x).A (ev (AC e.M x).A)) :
  ∃y:Int×Int,Ah prog 155 [] [.tp (Ai e),Aa (AC e.M x).A] [] (vII y)/\((y.2 != 0)=true->leO [] []/\VV.le (.tup [.sc (.int .i64 0),.sc (.int .i64 y.2)]) (vII (DQ e ev (AC e.M x))))/\((y.2 != 0)=false ->
   ((true&&(bif decide (y.1>=0)then decide (y.1<(e.Able.length:Int))else false)==true)=true->0<=y.1/\y.1<(e.Able.length:Int)) /\
   ∃c:Int×Int,Ah prog 180 [] [Ac (bif bif decide (y.1>=0)then decide (y.1<(e.Able.length:Int))else false then e.Able.getD y.1.toNat false else false)] [] (vII c)/\leO [] []/\VV.le (vII c) (vII (DQ e ev (AC e.M x)))):=by
 have a:(AC e.M x).Op=36:=b;have d:DQ e ev (AC e.M x)=AbR e ev (AC e.M x):=by unfold DQ;rw[a]<;>rfl
 rw[d];refine⟨_,h,λh1=>BA (ct (by simpa using h1) rfl),λh1=>⟨λh2=>?_,_,Dk,BA (cf (by simpa using h1) ?_)⟩⟩
 .simp at h2;omega
 grind
def AhT {o:Int}(h:1<=o/\o<=39):o=1\/o=2\/o=3\/o=4\/o=5\/o=6\/o=7\/o=8\/o=9\/o=10\/o=11\/o=12\/o=13\/o=14\/o=15\/o=16\/o=17\/o=18\/o=19\/o=20\/o=21\/o=22\/o=23\/o=24\/o=25\/o=26\/o=27\/o=28\/o=29\/o=30\/o=31\/o=32\/o=33\/o=34\/o=35\/o=36\/o=37\/o=38\/o=39:=oM
set_option maxHeartbeats 4000000 in
def Tm {e:D.Env}{ev:Evl}{x:Int}(j:Cf e)(l:0<=x/\x<e.M.Exprs.length)(g:∀a,0<=a->a<x->EvS e a (ev a)):EvS e x (DQ e ev (AC e.M x)):=by
 have m:((x.toNat:Nat):Int)=x:=oM
 have f:XQ e.M x (AC e.M x):=Xj (by have:=j.expr x.toNat oM;rwa [m]at this);have n:=AaX j l f g;have i:1<=BN (AC e.M x).Op->EvS e (AC e.M x).A (ev (AC e.M x).A):=λh=>g _ (f.a h).1 (f.a h).2
 have hB:2<=BN (AC e.M x).Op->EvS e (AC e.M x).B (ev (AC e.M x).B):=λh=>g _ (f.b h).1 (f.b h).2
 have q:3<=BN (AC e.M x).Op->EvS e (AC e.M x).C (ev (AC e.M x).C):=λh=>g _ (f.c h).1 (f.c h).2
 have r:=λb=>GM (c:=BL prog tb Dt DS true f155 [] (vII (DQ e ev (AC e.M x)))) Aj Ak kR (AeI _ _ e (AC e.M x) b rfl)
 have s:=λb=>GM (c:=BL prog tb Dt DS true f155 [] (vII (DQ e ev (AC e.M x)))) Aj Ak kR (AeH _ _ e (AC e.M x) b rfl rfl rfl rfl)
 refine Ap func155 (AiC _ _ e x rfl rfl) ⟨l,?_⟩;rcases AhT (o:=(AC e.M x).Op) (by have:=f.op;omega)with d|d|d|d|d|d|d|d|d|d|d|d|d|d|d|d|d|d|d|d|d|d|d|d|d|d|d|d|d|d|d|d|d|d|d|d|d|d|d
 all_goals
  have k:(e.M.Exprs.getD x.toNat default).Op=_:=d
  repeat (first
   | refine⟨λh=>absurd h (by(first | rw[k] | rw[d]);decide),λ_=>?_⟩
   | refine⟨λ_=>?_,gD⟩
   | refine r _ ?_
   | refine s _ ?_)
  first
   | exact BA (by unfold DQ;rw[d]<;>rfl)
   | exact⟨_,Sg (i (by rw[d];decide)) (λh=>absurd oM h),BA (by unfold DQ;rw[d]<;>rfl)⟩
   | exact⟨_,Sg (i (by rw[d];decide)) (λ_=>hB (by rw[d];decide)),BA (by unfold DQ;rw[d]<;>rfl)⟩
   | exact⟨_,QS (i (by rw[d];decide)) (hB (by rw[d];decide)) (λh=>absurd h (by rw[d];decide)),BA (by unfold DQ;rw[d]<;>rfl)⟩
   | exact⟨_,QS (i (by rw[d];decide)) (hB (by rw[d];decide)) (λ_=>q (by rw[d];decide)),BA (by unfold DQ;rw[d]<;>rfl)⟩
   | exact⟨_,Afg j (i (by rw[d];decide)),BA (by unfold DQ;rw[d]<;>rfl)⟩
   | exact⟨_,Wg (i (by rw[d];decide)) (Ajp j l),BA (by unfold DQ;rw[d]<;>rfl)⟩
   | exact⟨_,Dk,BA (by unfold DQ;rw[d]<;>rfl)⟩
   | exact⟨_,RT j,_,Dk,BA (by unfold DQ;rw[d]<;>rfl)⟩
   | exact AdE j k f n
   | exact Afk k (i (by rw[d];decide))
   | exact⟨_,AdR j (i (by rw[d];decide)) (λa p=>g _ ((Pj (f.poll d)).2.2 a p).1 ((Pj (f.poll d)).2.2 a p).2) (Pj (f.poll d)).1 (Pj (f.poll d)).2.1,BA (by unfold DQ;rw[d]<;>rfl)⟩
def Ma {e:D.Env}(b:Cf e):∀(n:Nat)(x:Int),0<=x->x<e.M.Exprs.length->x<n->EvS e x (Tn e n x)
 | 0,x,h0,_,h2=>oM
 | n+1,x,h0,h1,h2=>Tm b ⟨h0,h1⟩ λa c d=>Ma b n a c oM oM
def Sj {e:D.Env}(b:Cf e){x a:Int}(c:x<e.M.Exprs.length)(h0:0<=a)(h1:a<x):EvS e a (Ih e a):=Ma b _ a h0 oM oM
def Z6 {e:D.Env}(a:Cf e){x:Int}(b:0<=x/\x<e.M.Exprs.length):EvS e x (DQ e (Ih e) (AC e.M x)):=Tm a b λ_ h0 h1=>Sj a b.2 h0 h1
def I7 {e:D.Env}(a:AI e.M)(hs:BH e.S)(x:Int):Ah prog 154 [] [.agg (Ai e),Aa x] [] (Aa (De e x)):=by
 refine Ap func154 (Xi _ e x) ⟨_,Dx a hs (λh=>(EN h).clp),λh=>Bj (ct (by simpa using h) rfl),λh=>⟨λh1=>Bj (cf (by simpa using h) (ct ?_ rfl)),λh1=>Bj (cf (by simpa using h) (cf ?_ rfl))⟩⟩
 .simp only[B6,ArJ,ArP]at h1;exact h1
 .simp only[B6,ArJ,ArP]at h1;exact h1
def Mb {e:D.Env}{x:Int}(c:AI e.M)(h:De e x=0):Cf e/\0<=x/\x<e.M.Exprs.length:=by
 unfold De at h;cases a:decide (B4 e.M e.S≠0)with
 | true=>rw[a,ApY]at h;exact absurd h (Aqb a)
 | false =>
  rw[a,ApW]at h;obtain⟨h1,h2⟩:=Me (show B4 e.M e.S=0 by simpa using a);cases b:(decide (e.Pid < -1)||(decide ((e.S.Procs.length:Int)<=e.Pid)||(decide (x<0)||decide ((e.M.Exprs.length:Int)<=x))))with
  | true=>rw[b,ApY]at h;simp at h
  | false =>
   simp only[Aql,Aqz]at b;exact⟨⟨h2,h1,c,oM,oM⟩,oM,oM⟩
def Hf {e:D.Env}(a:AI e.M)(hs:BH e.S)(x:Int):Ah prog 124 [] [.agg (Ai e),Aa x] [] (vII (Bh e x)):=by
 refine Ap func124 (AeP _ _ e x) ⟨_,I7 a hs x,λh=>BA (ct (by simpa using h) rfl),λh=>?_⟩;obtain⟨b,c⟩:=Mb (x:=x) a (by simpa using h);exact⟨_,Z6 b c,BA (cf (by simpa using h) rfl)⟩
def Ja {e:D.Env}(b:AI e.M)(hs:BH e.S)(x:Int):Ah prog 208 [] [.agg (Ai e),Aa x] [] (vII (AU e x)):=by
 refine Ap func208 (AeQ _ _ e x) ⟨_,I7 b hs x,λh=>BA (ct (by simpa using h) rfl),λh=>?_⟩;obtain⟨c,a⟩:=Mb (x:=x) b (by simpa using h);exact⟨_,LF (Ma c _ x a.1 a.2 a.2),BA (cf (by simpa using h) rfl)⟩
def B33 (n:Int):Prop:=-2147483648<=n/\n<=4294967295
def Q33 (t:Bool)(p:Int×Int):Prop:=p.2=0->B33 p.1/\(t=true->p.1=0\/p.1=1)
def Fp {t b:Bool}:Q33 t (Ee b):=by cases b<;>simp[Q33,B33,Ee]
def Aa7 {t:Bool}{a c:Int}(h:c≠0):Q33 t (a,c):=λb=>absurd b h
def J4 {t:Bool}{a c:Int}(h:decide (c≠0)=true):Q33 t (a,c):=Aa7 (Aqb h)
def Fq {t c:Bool}{p q:Int×Int}(h1:c=true->Q33 t p)(h2:c=false->Q33 t q):Q33 t (bif c then p else q):=by
 cases c
 .exact h2 rfl
 .exact h1 rfl
def F8 {t:Bool}{c:Prop}[Decidable c]{p q:Int×Int}(h1:c->Q33 t p)(h2:¬c->Q33 t q):Q33 t (if c then p else q):=by
 split
 .rename_i h;exact h1 h
 .rename_i h;exact h2 h
def OA {t:Bool}{a c:Int}(h:B33 a)(b:t=false):Q33 t (a,c):=λ_=>⟨h,λh=>by rw[b]at h;cases h⟩
def Ug {t:Bool}{p:Int×Int}(h:Q33 t p):Q33 false p:=λh0=>⟨(h h0).1,λh=>by cases h⟩
def Xb {t:D.Type}{v:Int}(h:DP t v=true):B33 v:=by
 unfold DP Ht at h;simp only[ApX,Ap7]at h;obtain⟨⟨h1,h2,h3⟩,h4⟩:=h;have hp:=AnG t.Bits h1 h2;unfold B33;cases hs:t.Signed with
 | false=>rw[hs]at h4;simp at h4;omega
 | true =>
  rw[hs]at h3 h4;simp at h3 h4;rcases h3 with h3|h3
  .rw[h3]at h4;simp at h4;omega
  .rw[h3]at h4;simp at h4;omega
def Vs {t:List D.Type}{l:List Int}{k:Nat}(h:BW t l=true)(a:k<l.length):B33 (l.getD k 0):=by
 unfold BW at h;simp only[ApX,Ap7]at h;exact Xb (BP.1 h.2 k a)
def Ut {b:Bool}:Ir b=0\/Ir b=1:=by cases b<;>simp[Ir]
def AlX (n:Int):Prop:=-2147483648<=n/\n<=2147483647
def Dn {c:Prop}[Decidable c]{a b:Int}(h1:AlX a)(h2:AlX b):AlX (if c then a else b):=by
 split
 .exact h1
 .exact h2
def AmE (op a b:Int):-2147483648<=EK op a b/\EK op a b<=2147483647:=by
 have c:∀b:Bool,-2147483648<=Ir b/\Ir b<=2147483647:=λb=>by rcases Ut (b:=b)with h|h<;>rw[h]<;>decide
 have d:(-2147483648:Int)<=0/\(0:Int)<=2147483647:=dZ
 show AlX (EK op a b);unfold EK;exact Dn (BJ _) (Dn (Dn d (BJ _)) (Dn (Dn d (AaL _ _ (BJ _).1 (BJ _).2)) (Dn (BJ _) (Dn (BJ _) (Dn (KX _ _ (BJ _)) (Dn (KX _ _ (BJ _)) (Dn (c _) (Dn (c _) (Dn (c _) (Dn (c _) (Dn (c _) (Dn (c _) (Dn (Fg .and (.inl rfl) _ _) (Dn (Fg .xor (.inr (.inr rfl)) _ _) (Dn (Fg .or (.inr (.inl rfl)) _ _) d)))))))))))))))
def AcC {op a b:Int}(h:13<=op/\op<=18):EK op a b=0\/EK op a b=1:=by
 obtain⟨h1,h2⟩:=h;have:op=13\/op=14\/op=15\/op=16\/op=17\/op=18:=oM
 rcases this with rfl|rfl|rfl|rfl|rfl|rfl<;>exact Ut
def Ak1 (op a:Int):-2147483648<=NJ op a/\NJ op a<=2147483647:=by
 have c:=BJ a;unfold NJ;split
 .exact BJ _
 split
 .rcases Ut (b:=wrap32 a==0)with h|h<;>rw[h]<;>decide
 split
 .omega
 .decide
def KP (op:Int):Bool:=decide (13<=op/\op<=18)||(decide (op=4)||(decide (op=22)||(decide (op=23)||(decide (26<=op/\op<=30)||(decide (op=34)||(decide (op=35)||(decide (op=36)||decide (op=38))))))))
section
variable {e : D.Env} {ev:Evl}
def AlP {op a b:Int}:B33 (EK op a b):=by have:=AmE op a b;unfold B33;omega
def AlQ {op a:Int}:B33 (NJ op a):=by have:=Ak1 op a;unfold B33;omega
def Anz {x:D.Expr}{t:Bool}(b:t=true->x.Op=4\/(13<=x.Op/\x.Op<=18)):Q33 t (Si ev x):=by
 unfold Si;refine Fq J4 λ_=>Fq (λh _=>⟨AlQ,λa=>?_⟩) λh=>Fq J4 λ_=>λ_=>⟨AlP,λa=>?_⟩
 .rcases b a with h4|h4
  .show NJ x.Op _=0\/NJ x.Op _=1;rw[h4];exact Ut
  .simp at h;omega
 .rcases b a with h4|h4
  .rw[h4]at h;simp at h
  .exact AcC h4
def Akt {x:D.Expr}{t:Bool}(b:t=true->x.Op≠24)(hB:Q33 false (ev x.B))(c:x.Op=24->Q33 false (ev x.C)):Q33 t (NN ev x):=by
 unfold NN;refine Fq J4 λ_=>Fq (λh=>?_) λh=>Fq (λ_=>Fp) λ_=>Fq J4 λ_=>Fp
 have a:=Aqb h;cases t with
 | true=>exact absurd a (b rfl)
 | false=>exact Fq (λ_=>hB) λ_=>c a
def Ai1 (a:Cf e)(n:Int):(CM e n).Queue.length<=16:=by
 unfold CM
 by_cases h:(n-1).toNat<e.S.Chans.length
 .exact(a.fit.q _ (As h)).1
 .rw[List.getD,Arb (show e.S.Chans.length<=(n-1).toNat by omega)];exact Ap3 _
def AnC {x:D.Expr}{t:Bool}(a:Cf e)(b:t=true->x.Op≠25):Q33 t (Tx e ev x):=by
 have c:=Ai1 a (D0 e ev x.A).1;unfold Tx;refine Fq J4 λ_=>?_
 unfold Aog;refine F8 (λh=>?_) λ_=>F8 (λ_=>Fp) λ_=>F8 (λ_=>Fp) λ_=>F8 (λ_=>Fp) λ_=>Fp
 refine OA (by unfold B33;omega) ?_;cases t with
 | true=>exact absurd h (b rfl)
 | false=>rfl
def AnB {x:D.Expr}{t:Bool}:Q33 t (SM e ev x):=by
 unfold SM;exact Fq J4 λ_=>Fq (λ_=>Aa7 dZ) λ_=>Fq J4 λ_=>Fp
def AnD {x:D.Expr}{t:Bool}:Q33 t (AbR e ev x):=by
 unfold AbR;exact Fq J4 λ_=>Fp
def AgR {x:D.Expr}{t:Bool}(a:Cf e)(c:t=true->x.Op≠37):Q33 t (KZ e ev x):=by
 unfold KZ;refine Fq J4 λ_=>Fq (λ_=>Aa7 dZ) λh2=>Fq (λh=>?_) λ_=>Fp
 simp only[Aql,Aqz]at h2;have hp:=DE (a.proc (p:=Ep e (ev x.A).1) (As (d:=default) (show(ev x.A).1.toNat<e.S.Procs.length by omega)));have f:=(EN a.may).locs _ hp.1.1 hp.1.2;have b:=hp.2.1;refine OA (by unfold B33;omega) ?_;cases t with
 | true=>exact absurd (Aqb h) (c rfl)
 | false=>rfl
def AnA {x:D.Expr}{k:Int}(a:Cf e)(hv:x.Op=2->XO e.M k x.V):Q33 false (Aa5 e ev x):=by
 unfold Aa5;refine Fq J4 λh=>?_
 have hs:=T8 a hv (by simpa using h);refine Fq (λh1=>?_) λh1=>?_
 .have:=hs.glob (Aqb h1);exact OA (Vs a.globals.2 oM) rfl
 .have h0:0<=(Cc e ev x).1:=by have:=Aqr h1;omega
  have:=hs.own h0;have hp:=DE (a.proc (p:=Ep e (Cc e ev x).1) (As (d:=default) (show(Cc e ev x).1.toNat<e.S.Procs.length by omega)));exact OA (Vs hp.2.2.2.1 oM) rfl
def Xl {x:D.Expr}{k:Int}(b:Cf e)(f:XQ e.M k x)(hB:2<=BN x.Op->Q33 false (ev x.B))(i:3<=BN x.Op->Q33 false (ev x.C))(s:0<=e.S.Last/\e.S.Last<16):Q33 (KP x.Op) (DQ e ev x):=by
 have g:=b.pid;have j:=b.fit.p;have tt:∀{o:Int},KP o=true->(13<=o/\o<=18)\/o=4\/o=22\/o=23\/(26<=o/\o<=30)\/o=34\/o=35\/o=36\/o=38:=λh=>by
  simpa only[KP,Arf,Ap7]using h
 unfold DQ;refine F8 (λh=>OA (Xb (f.num h)) (by rw[h]<;>rfl)) λn1=>F8 (λh=>?_) λn2=>F8 (λh=>?_) λt=>F8 (λh=>?_) λu=>F8 (λ_=>AnB) λv =>
  F8 (λh=>OA (by unfold B33;omega) (by rw[h]<;>rfl)) λw=>F8 (λh=>OA (by unfold B33;omega) (by rw[h];rfl)) λy=>F8 (λh=>OA (by unfold B33;omega) (by rw[h];rfl)) λz=>F8 (λ_=>Fp) λA=>F8 (λ_=>Fp) λl=>F8 (λ_=>AnD) λm=>F8 (λh=>?_) λn=>F8 (λ_=>Aa7 dZ) λq=>?_
 .rw[show KP x.Op=false by rw[h]<;>rfl];exact AnA b λr=>JK (f.var r)
 .refine Akt (λa c=>by rw[c]at a;cases a) (hB ?_) λd=>i (by rw[d];decide)
  rcases h with h|h|h<;>rw[h]<;>decide
 .exact AnC b λa c=>by rw[c]at a;cases a
 .exact AgR b λa c=>by rw[c]at a;cases a
 .refine Anz λa=>?_
  have:=tt a;omega
end
def Cf.last {e:D.Env}(h:Cf e):0<=e.S.Last/\e.S.Last<16:=by
 have h:=h.fits;unfold EM M6 at h;simp only[ApX,Ap7]at h;exact⟨h.1.1.1.1.1.1.2,h.1.1.1.1.1.2⟩
def Lf {e:D.Env}(d:Cf e):∀(n:Nat)(x:Int),0<=x->x<e.M.Exprs.length->x<n->Q33 (KP (AC e.M x).Op) (Tn e n x)
 | 0,x,h0,_,h2=>oM
 | n+1,x,h0,h1,h2=>by
  have f:((x.toNat:Nat):Int)=x:=oM
  have a:XQ e.M x (AC e.M x):=Xj (by have:=d.expr x.toNat oM;rwa [f]at this);exact Xl d a (λh=>Ug (Lf d n _ (a.b h).1 (by have:=a.b h;omega) (by have:=a.b h;omega))) (λh=>Ug (Lf d n _ (a.c h).1 (by have:=a.c h;omega) (by have:=a.c h;omega))) d.last
def AeG {e:D.Env}(g:AI e.M)(x:Int):Q33 (KP (AC e.M x).Op) (Bh e x):=by
 unfold Bh;refine Fq J4 λh=>?_
 obtain⟨d,h0,h1⟩:=Mb (x:=x) g (by simpa using h);have f:((x.toNat:Nat):Int)=x:=oM
 have a:XQ e.M x (AC e.M x):=Xj (by have:=d.expr x.toNat oM;rwa [f]at this);exact Xl d a (λh=>Ug (Lf d _ _ (a.b h).1 (by have:=a.b h;omega) (by have:=a.b h;omega))) (λh=>Ug (Lf d _ _ (a.c h).1 (by have:=a.c h;omega) (by have:=a.c h;omega))) d.last
def Iz (t:D.Type)(v:Int):Int:=L7 t.Bits t.Signed v
def setG (m:D.Model)(s:D.State)(k v:Int):D.State:={s with Globals:=s.Globals.set k.toNat (Iz (m.Globals.getD k.toNat default) v)}
def Adh (m:D.Model)(p:D.Process)(k v:Int):D.Process:={p with Frame:=p.Frame.set k.toNat (Iz ((Bd m p.Type_).Frame.getD k.toNat default) v)}
def setO (m:D.Model)(s:D.State)(who k v:Int):D.State:={s with Procs:=s.Procs.set who.toNat (Adh m (s.Procs.getD who.toNat default) k v)}
def LR (m:D.Model)(s:D.State)(who k v:Int):D.State:=bif decide (who<0)then setG m s k v else setO m s who k v
def Bi (e:D.Env)(x v:Int):D.State×Int :=
 bif decide (De e x≠0)then(default,De e x)
 else bif decide ((Cc e (Ih e) (AC e.M x)).2.2≠0)then(default,(Cc e (Ih e) (AC e.M x)).2.2)
 else(LR e.M e.S (Cc e (Ih e) (AC e.M x)).1 (Cc e (Ih e) (AC e.M x)).2.1 v,0)
def FZ {α:Type}{l:List α}{i:Nat}{a x:α}(h:x∈l.set i a):x∈l\/x=a:=List.mem_or_eq_of_mem_set h
def Fit.setG {s:D.State}(h:Fit s)(m:D.Model)(k v:Int):Fit (setG m s k v):=⟨by show(List.set _ _ _).length<=_;rw[AqB];exact h.g,h.c,h.q,h.p,h.f⟩
def Fit.setO {s:D.State}(h:Fit s)(m:D.Model)(who k v:Int)(a:who.toNat<s.Procs.length):Fit (setO m s who k v):=by
 refine⟨h.g,h.c,h.q,by show(List.set _ _ _).length<=_;rw[AqB];exact h.p,λp hp=>?_⟩;rcases FZ hp with hp|rfl
 .exact h.f p hp
 .show(List.set _ _ _).length<=_;rw[AqB];exact h.f _ (As (d:=default) a)
def OJ:Fit (default:D.State):=⟨dZ,dZ,λc a=>(by cases a),dZ,λp hp=>(by cases hp)⟩
section
variable {e : D.Env} {x:Int}
def AiB (b:Cf e)(h0:0<=x)(h1:x<e.M.Exprs.length):XQ e.M x (AC e.M x):=by
 have a:((x.toNat:Nat):Int)=x:=oM
 exact Xj (by have:=b.expr x.toNat oM;rwa [a]at this)
def NC (a:Cf e)(h0:0<=x)(h1:x<e.M.Exprs.length){ev:Evl}(h:(Cc e ev (AC e.M x)).2.2=0):RH e (Cc e ev (AC e.M x)).1 (Cc e ev (AC e.M x)).2.1 :=
 T8 a (λb=>JK ((AiB a h0 h1).var b)) h
def Yx (b:AI e.M)(v:Int):Fit (Bi e x v).1:=by
 unfold Bi;cases c:decide (De e x≠0)with
 | true=>exact OJ
 | false =>
  obtain⟨a,h0,h1⟩:=Mb (x:=x) b (by simpa using c);rw[ApW];cases d:decide ((Cc e (Ih e) (AC e.M x)).2.2≠0)with
  | true=>exact OJ
  | false =>
   rw[ApW];have hs:=NC a h0 h1 (ev:=Ih e) (by simpa using d);show Fit (LR _ _ _ _ _);unfold LR;cases f:decide ((Cc e (Ih e) (AC e.M x)).1<0)with
   | true=>exact a.fit.setG _ _ _
   | false =>
    have g:0<=(Cc e (Ih e) (AC e.M x)).1:=by have:=Aqr f;omega
    exact a.fit.setO _ _ _ _ (by have:=hs.own g;omega)
end
structure Pn where
 pid:Int
 esc:Int
 way:Int
deriving DecidableEq
instance : Inhabited Pn:=⟨⟨0,0,0⟩⟩
structure Ab where
 is:Bool
 err:Int
 wth:List Pn
instance : Inhabited Ab:=⟨⟨false,0,[]⟩⟩
structure Wy where
 Esc:Int
 Way:Int
 With:Int
 WithEsc:Int
 WithWay:Int
 Err:Int
deriving DecidableEq
instance : Inhabited Wy:=⟨⟨0,0,0,0,0,0⟩⟩
section
variable (e : D.Env)
def He:Int:=bif decide (B4 e.M e.S≠0)then B4 e.M e.S else bif decide (e.Pid<0)||decide ((e.S.Procs.length:Int)<=e.Pid)then 42 else 0
def D7:D.Proc:=Bd e.M (Ep e e.Pid).Type_
def DF:D.Loc:=(D7 e).Locs.getD (Ep e e.Pid).Loc.toNat default
def El (x:Int):Bool:=decide (0<=x)&&decide ((AC e.M x).Op=39)
def Xm:Nat->List (List D.Trans)->List (Int×List D.Trans)
 | _,[]=>[]
 | k,w::r=>((k:Int),w)::Xm (k+1) r
def Gw (l:D.Loc):List (Int×List D.Trans):=Xm 0 l.Esc++[(-1,l.Out)]
def Jz (ev:Evl):List Int->List Int->List Int×Int
 | out,[]=>(out,0)
 | out,x::l=>bif decide ((ev x).2≠0)then([],(ev x).2)else Jz ev (out++[(ev x).1]) l
def B8 (l:List Int):List Int×Int:=Jz (Bh e) [] l
def OT (f:List D.Type)(l:List Int):List Int:=(List.range l.length).map λi=>Iz (f.getD i default) (l.getD i 0)
def Bu (c:Int):List D.Type:=(Cr e.M (CM e c).Shape).Fields
def AM (s:D.Stmt):Int×List Int×Int :=
 bif decide ((AU e s.A).2≠0)then(0,[],(AU e s.A).2)
 else bif decide ((Bu e (AU e s.A).1).length≠s.Args.length)then(0,[],49)
 else bif decide ((B8 e s.Args).2≠0)then(0,[],(B8 e s.Args).2)
 else((AU e s.A).1,OT (Bu e (AU e s.A).1) (B8 e s.Args).1,0)
def Dr (s:D.Stmt):List Int×Int :=
 bif decide (Fh (Bh e) s.Args s.Match s.Args.length≠0)then([],Fh (Bh e) s.Args s.Match s.Args.length)else(Ns (Bh e) s.Args s.Match,0)
def Bp (s:D.Stmt):Int×Int×Int :=
 bif decide ((AU e s.A).2≠0)then(0,-1,(AU e s.A).2)
 else bif decide ((Bu e (AU e s.A).1).length≠s.Args.length)then(0,-1,49)
 else bif decide ((Dr e s).2≠0)then(0,-1,(Dr e s).2)
 else((AU e s.A).1,Kq (CM e (AU e s.A).1) (Dr e s).1 s.Match (decide (s.N.tmod 2=1)),0)
def GX (s:D.Stmt)(c:Int)(m:List Int):Bool :=
 bif decide (s.Kind≠6)||(decide (1<s.N)||decide (s.Args.length≠m.length))then false
 else bif decide ((AU e s.A).2≠0)||decide ((AU e s.A).1≠c)then false
 else bif decide ((Dr e s).2≠0)then false else decide (Kq ⟨0,[m]⟩ (Dr e s).1 s.Match false=0)
def Oy:Ab:=⟨decide (e.S.Procs.length<16),0,[]⟩
def IY (mt:Int->List Int->List Pn)(s:D.Stmt)(self:Bool):Ab :=
 bif decide ((AU e s.A).2≠0)then⟨true,(AU e s.A).2,[]⟩
 else bif decide ((Bu e (AU e s.A).1).length≠s.Args.length)then⟨true,49,[]⟩
 else bif decide (0<(Cr e.M (CM e (AU e s.A).1).Shape).Room)then⟨decide (((CM e (AU e s.A).1).Queue.length:Int)<(Cr e.M (CM e (AU e s.A).1).Shape).Room),0,[]⟩
 else bif self then⟨false,0,[]⟩
 else bif decide ((AM e s).2.2≠0)then⟨true,(AM e s).2.2,[]⟩
 else⟨decide (0<(mt (AU e s.A).1 (AM e s).2.1).length),0,mt (AU e s.A).1 (AM e s).2.1⟩
def DH (mt:Int->List Int->List Pn)(s:D.Stmt)(self:Bool):Ab :=
 if s.Kind=1 then(bif El e s.A then Oy e else⟨decide ((Bh e s.A).1≠0)||decide ((Bh e s.A).2≠0),(Bh e s.A).2,[]⟩)
 else if s.Kind=2 then(bif El e s.B then Oy e else⟨true,0,[]⟩)
 else if s.Kind=9 then⟨decide (e.S.Chans.length<32),0,[]⟩
 else if s.Kind=5 then IY e mt s self
 else if s.Kind=6 then⟨decide (0<=(Bp e s).2.1)||decide ((Bp e s).2.2≠0),(Bp e s).2.2,[]⟩
 else if s.Kind=7 then⟨false,0,[]⟩else⟨true,0,[]⟩
def GZ (mt:Int->List Int->List Pn)(ways:List D.Trans)(self:Bool):Nat->Bool
 | 0=>false
 | n+1=>GZ mt ways self n||(DH e mt (ways.getD n default).S self).is
def Gg (mt:Int->List Int->List Pn)(ways:List D.Trans)(self:Bool)(i:Nat):Ab :=
 let x:=DH e mt (ways.getD i default).S self
 bif decide ((ways.getD i default).S.Kind=7)&&!(GZ e mt ways self ways.length)then{x with is:=true}else x
def Dq (mt:Int->List Int->List Pn)(ways:List D.Trans)(self:Bool):List Ab:=(List.range ways.length).map (Gg e mt ways self)
def QI:Int->List Int->List Pn:=λ_ _=>[]
def isSome (l:List Ab):Bool:=l.any Ab.is
def DM (c:Int)(m:List Int)(i:Int):Nat->List D.Trans->List Pn
 | _,[]=>[]
 | k,t::r=>(bif GX e t.S c m then[⟨e.Pid,i,k⟩]else[])++DM c m i (k+1) r
def Il (c:Int)(m:List Int):List (Int×List D.Trans)->List Pn
 | []=>[]
 | (i,ws)::r=>bif decide (0<(DM e c m i 0 ws).length)||isSome (Dq e QI ws true)then DM e c m i 0 ws else Il c m r
def BK:Bool×Int:=bif decide ((D7 e).Provided<0)then(true,0)else(decide ((Bh e (D7 e).Provided).1≠0),(Bh e (D7 e).Provided).2)
def G6 (c:Int)(m:List Int):List Pn:=bif !(BK e).1||decide ((BK e).2≠0)then[]else Il e c m (Gw (DF e))
def B2 (q:Int):D.Env:={e with Pid:=q}
def Eg (c:Int)(m:List Int):Nat->List Pn
 | 0=>[]
 | n+1=>Eg c m n++bif decide ((n:Int)≠e.Pid)then G6 (B2 e n) c m else[]
def B1 (c:Int)(m:List Int):List Pn:=Eg e c m e.S.Procs.length
def Lw (err:Int):Wy:=⟨-1,-1,-1,-1,-1,err⟩
def JE (i:Int)(k:Nat)(err:Int)(p:Pn):Wy:=⟨i,k,p.pid,p.esc,p.way,err⟩
def GU (i:Int)(k:Nat)(x:Ab):List Wy:=(bif x.is&&decide (x.wth.length=0)then[⟨i,k,-1,-1,-1,x.err⟩]else[])++x.wth.map (JE i k x.err)
def D2 (i:Int):Nat->List Ab->List Wy
 | _,[]=>[]
 | k,x::r=>GU i k x++D2 i (k+1) r
def Ga:List (Int×List D.Trans)->List Wy
 | []=>[]
 | (i,ws)::r=>bif decide (0<(D2 i 0 (Dq e (B1 e) ws false)).length)then D2 i 0 (Dq e (B1 e) ws false)else Ga r
def BD:List Wy :=
 bif decide ((Ep e e.Pid).Loc=(D7 e).Final)then(bif decide (e.Pid=(e.S.Procs.length:Int)-1)then[Lw 0]else[])
 else bif decide ((BK e).2≠0)then[Lw (BK e).2]
 else bif !(BK e).1 then[]else Ga e (Gw (DF e))
def GH:List Wy×Int:=bif decide (He e≠0)then([],He e)else(BD e,0)
end
def Ct (l:D.Loc)(esc:Int):List D.Trans:=bif decide (esc<0)then l.Out else l.Esc.getD esc.toNat []
def WH:∀{r:List (List D.Trans)} {k:Nat} {i:Int} {ws:List D.Trans},(i,ws)∈Xm k r->∃j:Nat,i=((k+j:Nat):Int)/\r[j]?=some ws
 | [],k,i,ws,h=>by cases h
 | w::r,k,i,ws,h=>by
  rcases AqI.1 h with h|h
  .simp only[AqD]at h;obtain⟨rfl,rfl⟩:=h;exact⟨0,oM,rfl⟩
  .obtain⟨j,b,a⟩:=WH h;exact⟨j+1,oM,by simpa using a⟩
def It {l:D.Loc}{i:Int}{ws:List D.Trans}(h:(i,ws)∈Gw l):Ct l i=ws/\-1<=i/\i<l.Esc.length/\(ws=l.Out\/ws∈l.Esc):=by
 rcases Aqq.1 h with h|h
 .obtain⟨j,rfl,a⟩:=WH h;obtain⟨b,rfl⟩:=Ap4.1 a;refine⟨?_,oM,oM,.inr (ArK _)⟩;unfold Ct;grind
 .simp only[Aqp,AqD]at h;obtain⟨rfl,rfl⟩:=h;exact⟨rfl,oM,oM,.inl rfl⟩
section
variable {e : D.Env} {mt:Int->List Int->List Pn} {ws:List D.Trans} {self:Bool}
def AfU {s:D.Stmt}(h:(DH e mt s self).is=false):(DH e mt s self).wth=[]:=by
 unfold DH at h |-;split
 .cases El e s.A<;>rfl
 .rename_i n1;rw[Aqs n1]at h;split
  .cases El e s.B<;>rfl
  .rename_i n2;rw[Aqs n2]at h;split
   .rfl
   .rename_i a;rw[Aqs a]at h;split
    .rename_i b;rw[AqH b]at h;unfold IY at h |-;cases c:decide ((AU e s.A).2≠0)with
     | true=>rfl
     | false =>
     rw[c,ApW]at h;rw[ApW];cases d:decide ((Bu e (AU e s.A).1).length≠s.Args.length)with
     | true=>rfl
     | false =>
     rw[d,ApW]at h;rw[ApW];cases f:decide (0<(Cr e.M (CM e (AU e s.A).1).Shape).Room)with
     | true=>rfl
     | false =>
     rw[f,ApW]at h;rw[ApW];cases g:self with
     | true=>rfl
     | false =>
     rw[g,ApW]at h;rw[ApW];cases i:decide ((AM e s).2.2≠0)with
     | true=>rfl
     | false =>
     simp_all
    grind
def AcO {s:D.Stmt}(h:s.Kind=7):DH e mt s self=⟨false,0,[]⟩:=by
 unfold DH;grind
def VT:∀{n:Nat},GZ e mt ws self n=false->∀j,j<n->(DH e mt (ws.getD j default).S self).is=false
 | 0,_,j,a=>absurd a (AqL j)
 | n+1,h,j,a=>by
  unfold GZ at h;rw[Aql]at h;rcases ArM.1 a with b|rfl
  .exact VT h.1 j b
  .exact h.2
def AlY (x:Ab):Prop:=x.is=true\/x.wth≠[]
def Ai7 {j:Nat}(a:(ws.getD j default).S.Kind=7)(h:AlY (Gg e mt ws self j)):GZ e mt ws self ws.length=false:=by
 unfold Gg at h;rw[AcO a,show decide ((ws.getD j default).S.Kind=7)=true by simpa using a]at h;cases hs:GZ e mt ws self ws.length with
 | false=>rfl
 | true =>
  rw[hs]at h;rcases h with h|h
  .cases h
  .exact absurd rfl h
def Ai6 {j:Nat}(b:j<ws.length)(hs:GZ e mt ws self ws.length=false)(h:AlY (Gg e mt ws self j)):(ws.getD j default).S.Kind=7:=by
 refine Aqf λc=>?_
 have a:=VT hs j b;have d:=AfU a;unfold Gg at h;rw[show decide ((ws.getD j default).S.Kind=7)=false by simpa using c]at h;rcases h with h|h
 .grind
 .exact h d
def Ad8 {i:Int}{k:Nat}{x:Ab}{w:Wy}(h:w∈GU i k x):w.Esc=i/\w.Way=k/\AlY x:=by
 rcases Aqq.1 h with h|h
 .cases c:(x.is&&decide (x.wth.length=0))with
  | false=>rw[c]at h;cases h
  | true =>
   rw[c]at h;obtain rfl:=Aqp.1 h;simp only[ApX]at c;exact⟨rfl,rfl,.inl c.1⟩
 .obtain⟨p,hp,rfl⟩:=Ark.1 h;refine⟨rfl,rfl,.inr ?_⟩;grind
def QL {i:Int}:∀{l:List Ab}{k:Nat}{w:Wy},w∈D2 i k l->∃(j:Nat)(x:Ab),l[j]?=some x/\w.Esc=i/\w.Way=((k+j:Nat):Int)/\AlY x
 | [],k,w,h=>by cases h
 | x::r,k,w,h=>by
  rcases Aqq.1 (show w∈GU i k x++D2 i (k+1) r from h)with h|h
  .obtain⟨h1,h2,h3⟩:=Ad8 h;exact⟨0,x,rfl,h1,h2,h3⟩
  .obtain⟨j,y,h1,h2,h3,h4⟩:=QL h;exact⟨j+1,y,h1,h2,by rw[h3];congr 1;omega,h4⟩
def UQ {j:Nat}{x:Ab}(h:(Dq e mt ws self)[j]?=some x):j<ws.length/\x=Gg e mt ws self j:=by
 unfold Dq at h;grind
theorem OB:∀{r:List (Int×List D.Trans)},Ga e r=[]\/∃i ws,(i,ws)∈r/\Ga e r=D2 i 0 (Dq e (B1 e) ws false)
 | []=>.inl rfl
 | (i,ws)::r=>by
  have a:Ga e ((i,ws)::r)=bif decide (0<(D2 i 0 (Dq e (B1 e) ws false)).length)then D2 i 0 (Dq e (B1 e) ws false)else Ga e r:=rfl
  rw[a];cases decide (0<(D2 i 0 (Dq e (B1 e) ws false)).length)with
  | true=>exact .inr ⟨i,ws,Ap2,rfl⟩
  | false =>
   rcases OB (r:=r)with h|⟨b,ws',h1,h2⟩
   .exact .inl h
   .exact .inr ⟨b,ws',Aqc _ h1,h2⟩
def HD:BD e=[]\/(∃er,BD e=[Lw er])\/∃i ws,(i,ws)∈Gw (DF e)/\BD e=D2 i 0 (Dq e (B1 e) ws false):=by
 unfold BD;grind[OB]
def Vh {w:Wy}(a:w∈BD e) :
  (w.Way<0->(BD e).length=1)/\(0<=w.Way->-1<=w.Esc/\w.Esc<(DF e).Esc.length/\∀w'∈BD e,w'.Esc=w.Esc/\0<=w'.Way/\w'.Way<(Ct (DF e) w.Esc).length /\
   (((Ct (DF e) w.Esc).getD w.Way.toNat default).S.Kind=7->((Ct (DF e) w.Esc).getD w'.Way.toNat default).S.Kind=7)):=by
 rcases HD (e:=e)with h|⟨er,h⟩|⟨i,ws,hi,h⟩
 .rw[h]at a;cases a
 .rw[h]at a;obtain rfl:=Aqp.1 a;exact⟨λ_=>by rw[h]<;>rfl,λh0=>by unfold Lw at h0;simp at h0⟩
 .rw[h]at a |-;obtain⟨g,h1,h2,_⟩:=It hi;obtain⟨j,x,k,l,d,a4⟩:=QL a;obtain⟨b1,rfl⟩:=UQ k;refine⟨λm=>by rw[d]at m;omega,λ_=>⟨oM,oM,λw' b=>?_⟩⟩;obtain⟨n,x',o,p,c,q⟩:=QL b;obtain⟨d1,rfl⟩:=UQ o;rw[l,g];refine⟨p,by rw[c];omega,by rw[c];omega,λf=>?_⟩;rw[show w.Way.toNat=j by rw[d];omega]at f;rw[show w'.Way.toNat=n by rw[c];omega];exact Ai6 d1 (Ai7 f a4) q
end
def stE (e:D.Env)(x v:Int):D.Env:=bif decide ((Bi e x v).2=0)then{e with S:=(Bi e x v).1}else e
def GB (m mt:List Int):Nat->List Int->D.Env->D.Env×Int
 | _,[],e=>(e,0)
 | k,x::r,e=>bif decide (mt.getD k 0≠0)then GB m mt (k+1) r e
   else bif decide ((Bi e x (m.getD k 0)).2≠0)then(e,(Bi e x (m.getD k 0)).2)else GB m mt (k+1) r (stE e x (m.getD k 0))
def DN (e:D.Env)(s:D.Stmt)(m:List Int):D.Env×Int:=GB m s.Match 0 s.Args e
structure O1 (e e':D.Env):Prop where
 M:e'.M=e.M
 pid:e'.Pid=e.Pid
 t:e'.Timeout=e.Timeout
 a:e'.Able=e.Able
 chans:e'.S.Chans=e.S.Chans
 procs:e'.S.Procs.length=e.S.Procs.length
def O1.refl (e:D.Env):O1 e e:=⟨rfl,rfl,rfl,rfl,rfl,rfl⟩
def O1.trans {a b c:D.Env}(h:O1 a b)(k:O1 b c):O1 a c:=⟨k.M.trans h.M,k.pid.trans h.pid,k.t.trans h.t,k.a.trans h.a,k.chans.trans h.chans,k.procs.trans h.procs⟩
def Adg (m:D.Model)(s:D.State)(who k v:Int):(LR m s who k v).Chans=s.Chans/\(LR m s who k v).Procs.length=s.Procs.length:=by
 unfold LR;cases decide (who<0)with
 | true=>exact⟨rfl,rfl⟩
 | false=>exact⟨rfl,by simp[setO]⟩
def Yw {e:D.Env}{x v:Int}(h:(Bi e x v).2=0):(Bi e x v).1.Chans=e.S.Chans/\(Bi e x v).1.Procs.length=e.S.Procs.length:=by
 unfold Bi at h |-;cases a:decide (De e x≠0)with
 | true =>
  grind
 | false =>
  rw[a,ApW]at h;rw[ApW];cases b:decide ((Cc e (Ih e) (AC e.M x)).2.2≠0)with
  | true =>
   grind
  | false=>rw[ApW];exact Adg _ _ _ _ _
def Qf (e:D.Env)(x v:Int):O1 e (stE e x v):=by
 unfold stE;cases c:decide ((Bi e x v).2=0)with
 | true =>
  obtain⟨h1,h2⟩:=Yw (Aqb c);exact⟨rfl,rfl,rfl,rfl,h1,h2⟩
 | false=>exact O1.refl e
def Kk (m mt:List Int):∀(l:List Int)(k:Nat)(e:D.Env),O1 e (GB m mt k l e).1
 | [],_,e=>O1.refl e
 | x::r,k,e=>by
  unfold GB;cases decide (mt.getD k 0≠0)with
  | true=>exact Kk m mt r (k+1) e
  | false =>
   rw[ApW];cases decide ((Bi e x (m.getD k 0)).2≠0)with
   | true=>exact O1.refl e
   | false=>exact(Qf e x _).trans (Kk m mt r (k+1) _)
def SF {e:D.Env}{c:Int}{m:List Int}{i:Int}{p:Pn}:∀{ws:List D.Trans}{k:Nat},p∈DM e c m i k ws->p.pid=e.Pid/\p.esc=i/\∃j:Nat,p.way=((k+j:Nat):Int)/\j<ws.length/\GX e (ws.getD j default).S c m=true
 | [],_,h=>by cases h
 | t::r,k,h=>by
  rcases Aqq.1 (show p∈(bif GX e t.S c m then[(⟨e.Pid,i,k⟩:Pn)]else[])++DM e c m i (k+1) r from h)with h|h
  .cases q:GX e t.S c m with
   | false=>rw[q]at h;cases h
   | true =>
    rw[q]at h;obtain rfl:=Aqp.1 h;exact⟨rfl,rfl,0,rfl,Nat.succ_pos _,q⟩
  .obtain⟨h1,h2,j,h3,h4,h5⟩:=SF h;exact⟨h1,h2,j+1,by rw[h3];congr 1;omega,Nat.succ_lt_succ h4,h5⟩
def SD {e:D.Env}{c:Int}{m:List Int}{p:Pn}:∀{l:List (Int×List D.Trans)},p∈Il e c m l->∃i ws,(i,ws)∈l/\p∈DM e c m i 0 ws
 | [],h=>by cases h
 | (i,ws)::r,h=>by
  have b:Il e c m ((i,ws)::r)=bif decide (0<(DM e c m i 0 ws).length)||isSome (Dq e QI ws true)then DM e c m i 0 ws else Il e c m r:=rfl
  rw[b]at h;cases a:(decide (0<(DM e c m i 0 ws).length)||isSome (Dq e QI ws true))with
  | true=>rw[a]at h;exact⟨i,ws,Ap2,h⟩
  | false =>
   rw[a]at h;obtain⟨d,ws',h1,h2⟩:=SD h;exact⟨d,ws',Aqc _ h1,h2⟩
def AdD {e:D.Env}{c:Int}{m:List Int}{p:Pn}(h:p∈G6 e c m):p.pid=e.Pid/\-1<=p.esc/\p.esc<(DF e).Esc.length/\0<=p.way/\p.way<(Ct (DF e) p.esc).length /\
  ((Ct (DF e) p.esc).getD p.way.toNat default).S.Kind=6/\((Ct (DF e) p.esc).getD p.way.toNat default).S.Args.length=m.length:=by
 unfold G6 at h;cases b:(!(BK e).1||decide ((BK e).2≠0))with
 | true=>rw[b]at h;cases h
 | false =>
  rw[b,ApW]at h;obtain⟨i,ws,hi,hp⟩:=SD h;obtain⟨d,f,j,a,l,g⟩:=SF hp;obtain⟨l1,l2,k,_⟩:=It hi;rw[f,l1];refine⟨d,l2,k,by rw[a];omega,by rw[a];omega,?_⟩;rw[show p.way.toNat=j by rw[a];omega];unfold GX at g;grind
def QM {e:D.Env}{c:Int}{m:List Int}{p:Pn}:∀{n:Nat},p∈Eg e c m n->∃q:Nat,q<n/\(q:Int)≠e.Pid/\p∈G6 (B2 e q) c m
 | 0,h=>by cases h
 | n+1,h=>by
  rcases Aqq.1 (show p∈Eg e c m n++(bif decide ((n:Int)≠e.Pid)then G6 (B2 e n) c m else[])from h)with h|h
  .obtain⟨q,h1,h2⟩:=QM h;exact⟨q,oM,h2⟩
  .cases a:decide ((n:Int)≠e.Pid)with
   | true=>rw[a]at h;exact⟨n,Aq3 _,Aqb a,h⟩
   | false=>rw[a]at h;cases h
def XK {ev:Evl}:∀{l out:List Int},(Jz ev out l).2=0->(Jz ev out l).1.length=out.length+l.length
 | [],out,_=>rfl
 | x::l,out,h=>by
  have a:Jz ev out (x::l)=bif decide ((ev x).2≠0)then([],(ev x).2)else Jz ev (out++[(ev x).1]) l:=rfl
  rw[a]at h |-;cases c:decide ((ev x).2≠0)with
  | true=>rw[c]at h;exact absurd h (Aqb c)
  | false =>
   rw[c,ApW]at h;rw[ApW,XK h];simp;omega
theorem Kc {e:D.Env}{s:D.Stmt}(h:(AM e s).2.2=0):(AM e s).2.1.length=s.Args.length:=by
 unfold AM at h |-;cases b:decide ((AU e s.A).2≠0)with
 | true=>grind
 | false =>
  rw[b,ApW]at h;rw[ApW];cases a:decide ((Bu e (AU e s.A).1).length≠s.Args.length)with
  | true=>rw[a]at h;cases h
  | false =>
   rw[a,ApW]at h;rw[ApW];cases c:decide ((B8 e s.Args).2≠0)with
   | true=>grind
   | false =>
    rw[ApW];have h0:(B8 e s.Args).2=0:=by simpa using c
    have:=XK (ev:=Bh e) (l:=s.Args) (out:=[]) h0;rw[AqR,AqC]at this;show(OT _ _).length=_;unfold OT;rw[AqS,ArR];exact this
def AcN {e:D.Env}{mt:Int->List Int->List Pn}{s:D.Stmt}{self:Bool}{p:Pn}(h:p∈(DH e mt s self).wth):s.Kind=5/\(AM e s).2.2=0/\p∈mt (AU e s.A).1 (AM e s).2.1:=by
 have no:∀{q:Prop},p∈([]:List Pn)->q:=λh=>by cases h
 unfold DH at h;split at h
 .cases q:El e s.A<;>rw[q]at h<;>exact no h
 split at h
 .cases q:El e s.B<;>rw[q]at h<;>exact no h
 split at h
 .exact no h
 split at h
 .rename_i a;refine⟨a,?_⟩;unfold IY at h;grind
 grind
def Ah0 {e:D.Env}{w:Wy}(f:w∈BD e) :
  (w.With<0->w.WithEsc=-1/\w.WithWay=-1) /\
  (0<=w.With->0<=w.Way/\w.With≠e.Pid/\w.With<e.S.Procs.length/\((Ct (DF e) w.Esc).getD w.Way.toNat default).S.Kind=5/\-1<=w.WithEsc/\w.WithEsc<(DF (B2 e w.With)).Esc.length/\0<=w.WithWay /\
   w.WithWay<(Ct (DF (B2 e w.With)) w.WithEsc).length/\((Ct (DF (B2 e w.With)) w.WithEsc).getD w.WithWay.toNat default).S.Kind=6 /\
   ((Ct (DF e) w.Esc).getD w.Way.toNat default).S.Args.length=((Ct (DF (B2 e w.With)) w.WithEsc).getD w.WithWay.toNat default).S.Args.length):=by
 rcases HD (e:=e)with h|⟨er,h⟩|⟨i,ws,hi,h⟩
 .rw[h]at f;cases f
 .rw[h]at f;obtain rfl:=Aqp.1 f;exact⟨λ_=>⟨rfl,rfl⟩,λh0=>by unfold Lw at h0;simp at h0⟩
 .rw[h]at f;obtain⟨z,h1,h2,_⟩:=It hi;have key:∀{l:List Ab}{k:Nat},w∈D2 i k l->∃(j:Nat)(x:Ab),l[j]?=some x/\w∈GU i (k+j) x:=by
   intro l
   induction l with
   | nil=>intro k h;cases h
   | cons x r ih =>
    intro k h;rcases Aqq.1 (show w∈GU i k x++D2 i (k+1) r from h)with h|h
    .exact⟨0,x,rfl,h⟩
    .obtain⟨j,y,a,b⟩:=ih h;exact⟨j+1,y,a,gD⟩
  obtain⟨j,x,o,d⟩:=key f;obtain⟨b1,rfl⟩:=UQ o;rw[AqC]at d;rcases Aqq.1 d with d|d
  .cases c:((Gg e (B1 e) ws false j).is&&decide ((Gg e (B1 e) ws false j).wth.length=0))with
   | false=>rw[c]at d;cases d
   | true =>
    grind
  .obtain⟨p,hp,rfl⟩:=Ark.1 d;have g:(Gg e (B1 e) ws false j).wth=(DH e (B1 e) (ws.getD j default).S false).wth:=by
    unfold Gg;grind
   rw[g]at hp;obtain⟨s1,s2,s⟩:=AcN hp;obtain⟨q,A,B,t⟩:=QM (show p∈Eg e _ _ e.S.Procs.length from s);obtain⟨u,r2,C,E,F,G,H⟩:=AdD t;have m:p.pid=q:=u;have v:B2 e p.pid=B2 e q:=by rw[m]
   refine⟨λh0=>?_,λ_=>?_⟩
   .have n:p.pid<0:=h0;rw[m]at n;omega
   .show 0<=(j:Int)/\p.pid≠e.Pid/\p.pid<e.S.Procs.length/\((Ct (DF e) i).getD (j:Int).toNat default).S.Kind=5/\-1<=p.esc/\p.esc<(DF (B2 e p.pid)).Esc.length/\0<=p.way/\p.way<(Ct (DF (B2 e p.pid)) p.esc).length /\
     ((Ct (DF (B2 e p.pid)) p.esc).getD p.way.toNat default).S.Kind=6/\((Ct (DF e) i).getD (j:Int).toNat default).S.Args.length=((Ct (DF (B2 e p.pid)) p.esc).getD p.way.toNat default).S.Args.length
    grind[Kc]
end Go.Proofs.YtedfjceonnoifaaGreatDoor
namespace Go.Proofs.YtedfjceonnoifaaGreatDoor.Ch
open  Go.Proofs.Tryz
open IntKind(i64)
def lessP:List Int->List Int->Bool
 | a::aa,b::bs=>if a=b then lessP aa bs else decide (a<b)
 | [],_::_=>true
 | _,[]=>false
def L2:∀(n:Nat)(xs ys:List Int),n<=xs.length->n<=ys.length->(∀j,j<n->xs.getD j 0=ys.getD j 0)->lessP xs ys=lessP (xs.drop n) (ys.drop n)
 | 0,_,_,_,_,_=>rfl
 | n+1,a::aa,b::bs,h1,h2,h=>by
  have h0:=h 0 oM;simp only[List.getD_cons_zero]at h0;subst h0;rw[lessP,AqH rfl,List.drop_succ_cons,List.drop_succ_cons];exact L2 n aa bs (by simpa using h1) (by simpa using h2) λj c=>by simpa using h (j+1) oM
 | n+1,[],_,h1,_,_=>by simp at h1
 | n+1,_::_,[],_,h2,_=>by simp at h2
def Pv {α:Type}[Inhabited α](xs:List α)(n:Nat)(d:α)(h:n<xs.length):xs.drop n=xs.getD n d::xs.drop (n+1):=by
 rw[List.drop_eq_getElem_cons h];simp[List.getD,h]
def lessP_differ (n:Nat)(xs ys:List Int)(h1:n<xs.length)(h2:n<ys.length)(h:∀j,j<n->xs.getD j 0=ys.getD j 0)(a:xs.getD n 0≠ys.getD n 0):lessP xs ys=decide (xs.getD n 0<ys.getD n 0):=by
 rw[L2 n xs ys oM oM h,Pv xs n 0 h1,Pv ys n 0 h2,lessP,Aqs a]
def lessP_end (n:Nat)(xs ys:List Int)(h1:n<=xs.length)(h2:n<=ys.length)(h3:n=xs.length\/n=ys.length)(h:∀j,j<n->xs.getD j 0=ys.getD j 0):lessP xs ys=decide (xs.length<ys.length):=by
 rw[L2 n xs ys h1 h2 h]
 by_cases b:n=xs.length
 .rw[b,ArL]
  by_cases a:xs.length<ys.length
  .rw[Pv ys _ 0 a,lessP];simp[a]
  .rw[Arp oM,lessP];simp[a]
 .have a:n=ys.length:=oM
  subst a;rw[ArL,Pv xs _ 0 oM,lessP];simp;omega
def firstP (x:List Int):List (List Int)->Nat
 | []=>0
 | y::q=>if lessP x y then 0 else firstP x q+1
def firstP_le (x:List Int):∀q,firstP x q<=q.length
 | []=>Ap1 _
 | y::q=>by
  unfold firstP;have:=firstP_le x q;split<;>simp;omega
def firstP_hit (x:List Int):∀(q:List (List Int)) (k:Nat) (y:List Int),q[k]?=some y->(∀j a,j<k->q[j]?=some a->lessP x a=false)->lessP x y=true->firstP x q=k
 | [],k,y,h,_,_=>by simp at h
 | z::q,0,y,h,_,h2=>by
  simp at h;subst h;simp[firstP,h2]
 | z::q,k+1,y,h,h1,h2=>by
  have h0:=h1 0 z oM rfl;rw[firstP,h0];simp only[ArQ,if_false];rw[firstP_hit x q k y (by simpa using h) (λj a c b=>h1 (j+1) a oM (by simpa using b)) h2]
def firstP_miss (x:List Int):∀(q:List (List Int)),(∀(j:Nat)(a:List Int),q[j]?=some a->lessP x a=false)->firstP x q=q.length
 | [],_=>rfl
 | z::q,h=>by
  rw[firstP,h 0 z rfl];simp only[ArQ,if_false];rw[firstP_miss x q λj a b=>h (j+1) a (by simpa using b)];rfl
def idxP (x:List Int)(q:List (List Int)):Int:=if firstP x q<q.length then firstP x q else -1
end Go.Proofs.YtedfjceonnoifaaGreatDoor.Ch
namespace Go.Proofs.YtedfjceonnoifaaGreatDoor.Ch
open Go.RowKit Go.Proofs.Tryz
open IntKind(i64)
def putAt {α:Type}(l:List α)(i:Nat)(x:α):List α:=l.take i++x::l.drop i
def putAt_len {α:Type}{l:List α}{i:Nat}{x:α}(h:i<=l.length):(putAt l i x).length=l.length+1:=by
 unfold putAt;simp;omega
def putAt_lo {α:Type}{l:List α}{i j:Nat}{x:α}(h:i<=l.length)(a:j<i):(putAt l i x)[j]?=l[j]?:=by
 unfold putAt;rw[Aqa (by simp;omega),AqW,AqH a]
def putAt_at {α:Type}{l:List α}{i:Nat}{x:α}(h:i<=l.length):(putAt l i x)[i]?=some x:=by
 unfold putAt;rw[Aqo (by simp;omega)];simp[show i-min i l.length=0 by omega]
def putAt_hi {α:Type}{l:List α}{i j:Nat}{x:α}(h:i<=l.length)(a:i<j):(putAt l i x)[j]?=l[j-1]?:=by
 unfold putAt;rw[Aqo (by simp;omega),Aq0,show min i l.length=i by omega,show j-i=(j-1-i)+1 by omega,AqQ,AqK]
 congr 1;omega
def putAt_end {α:Type}(l:List α)(x:α):putAt l l.length x=l++[x]:=by simp[putAt]
def cutAt {α:Type}(l:List α)(i:Nat):List α:=l.take i++l.drop (i+1)
def cutAt_len {α:Type}{l:List α}{i:Nat}(h:i<l.length):(cutAt l i).length=l.length-1:=by
 unfold cutAt;simp;omega
def cutAt_lo {α:Type}{l:List α}{i j:Nat}(h:i<l.length)(a:j<i):(cutAt l i)[j]?=l[j]?:=by
 unfold cutAt;rw[Aqa (by simp;omega),AqW,AqH a]
def cutAt_hi {α:Type}{l:List α}{i j:Nat}(h:i<l.length)(a:i<=j):(cutAt l i)[j]?=l[j+1]?:=by
 unfold cutAt;rw[Aqo (by simp;omega),Aq0,AqK]
 congr 1;omega
def typeP (t:D.Type):Bool:=decide (1<=t.Bits)&&decide (t.Bits<=32)&&(!t.Signed||decide (t.Bits=16)||decide (t.Bits=32))
def Small (q:List (List Int)):Prop:=q.length*24<=140737488355328/\∀m∈q,m.length*8<=140737488355328
def AcL {α:Type}{q:List α}{k:Nat}{m:α}(h:q[k]?=some m):q.take (k+1)=q.take k++[m]:=by
 obtain⟨a,rfl⟩:=Ap4.1 h;rw[List.take_succ_eq_append_getElem a]
def fitM (fs:List D.Type)(m:List Int):List Int:=List.zipWith (λt v=>L7 t.Bits t.Signed v) fs m
def putE (room:Int)(fs:List D.Type)(q:List (List Int))(m:List Int):Int :=
 if m.length≠fs.length then 42 else if fs.all typeP=false then 42 else if room<=q.length then 45 else 0
def putX (fs:List D.Type)(q:List (List Int))(m:List Int)(sorted:Bool):List (List Int):=putAt q (if sorted then firstP (fitM fs m) q else q.length) (fitM fs m)
def putSh (room:Int)(fs:List D.Type)(q:List (List Int))(m:List Int)(sh:Int):Int:=if putE room fs q m=0 then sh else 0
def putQ (room:Int)(fs:List D.Type)(q:List (List Int))(m:List Int)(sorted:Bool):List (List Int):=if putE room fs q m=0 then putX fs q m sorted else[]
def putSh_bad {room sh:Int}{fs:List D.Type}{q:List (List Int)}{m:List Int}{e:Int}(h:putE room fs q m=e)(a:e≠0):putSh room fs q m sh=0:=by unfold putSh;rw[h,Aqs a]
def putQ_bad {room:Int}{fs:List D.Type}{q:List (List Int)}{m:List Int}{sorted:Bool}{e:Int}(h:putE room fs q m=e)(a:e≠0):putQ room fs q m sorted=[]:=by unfold putQ;rw[h,Aqs a]
def fitTo (fs:List D.Type)(m:List Int)(k:Nat):List Int:=(fitM fs m).take k++List.replicate (m.length-k) 0
def fitM_len {fs:List D.Type}{m:List Int}(h:m.length=fs.length):(fitM fs m).length=m.length:=by simp[fitM,h]
def fitTo_len {fs:List D.Type}{m:List Int}{k:Nat}(h:m.length=fs.length)(a:k<=m.length):(fitTo fs m k).length=m.length:=by
 simp[fitTo,fitM_len h];omega
def fitTo_all {fs:List D.Type}{m:List Int}(h:m.length=fs.length):fitTo fs m m.length=fitM fs m:=by
 simp[fitTo];rw[<- fitM_len h,AqZ]
def fitTo_set {fs:List D.Type}{m:List Int}{k:Nat}(h:m.length=fs.length)(a:k<m.length)(t:D.Type)(b:fs[k]?=some t) :
  (fitTo fs m k).set k (L7 t.Bits t.Signed (m.getD k 0))=fitTo fs m (k+1):=by
 have d:=fitM_len h;have c:(fitM fs m)[k]?=some (L7 t.Bits t.Signed (m.getD k 0)):=by
  simp[fitM,List.getElem?_zipWith,b,List.getD,a]
 unfold fitTo;rw[List.set_append_right _ _ (by simp;omega),AcL c,show m.length-k=(m.length-(k+1))+1 by omega,List.replicate_succ];simp[show k-min k (fitM fs m).length=0 by omega]
end Go.Proofs.YtedfjceonnoifaaGreatDoor.Ch
namespace Go.Proofs.YtedfjceonnoifaaGreatDoor
open Go.RowKit Go.Proofs.Tryz
open IntKind(i64)
def Mi (f:List D.Type)(args init:List Int)(k:Nat):List Int:=(List.range init.length).map λi=>if i<k then Iz (f.getD i default) (args.getD i 0)else init.getD i 0
def Hj (m:D.Model)(typ:Int)(args:List Int):D.Process:=⟨typ,(Bd m typ).Start,(Bd m typ).Prio,Mi (Bd m typ).Frame args (Bd m typ).Init args.length⟩
def AhW:D.Process:=⟨0,0,0,[]⟩
def G4 (m:D.Model)(typ:Int)(args:List Int):D.Process×Int :=
 bif !E0 m then(AhW,40)
 else bif decide (typ<0)||(decide ((m.Procs.length:Int)<=typ)||(decide (typ=m.Claim)||decide ((args.length:Int)≠(Bd m typ).Params)))then(AhW,42)
 else(Hj m typ args,0)
def OQ (e:D.Env)(p:D.Process):D.Env:={e with S:={e.S with Procs:=e.S.Procs++[p]}}
def Cb (e:D.Env)(x:Int):D.Env×Int×Int :=
 bif decide ((B8 e (AC e.M x).Args).2≠0)then(e,0,(B8 e (AC e.M x).Args).2)
 else bif decide ((G4 e.M (AC e.M x).N (B8 e (AC e.M x).Args).1).2≠0)then(e,0,(G4 e.M (AC e.M x).N (B8 e (AC e.M x).Args).1).2)
 else(OQ e (G4 e.M (AC e.M x).N (B8 e (AC e.M x).Args).1).1,e.S.Procs.length,0)
def C0 (e:D.Env)(x v:Int):D.Env×Int:=(stE e x v,(Bi e x v).2)
def Jo (e:D.Env)(s:D.Stmt):D.Env×Int :=
 bif El e s.B then(bif decide ((Cb e s.B).2.2≠0)then((Cb e s.B).1,(Cb e s.B).2.2)else C0 (Cb e s.B).1 s.A (Cb e s.B).2.1)
 else bif decide ((Bh e s.B).2≠0)then(e,(Bh e s.B).2)else C0 e s.A (Bh e s.B).1
def Jp (e:D.Env)(c:Int)(k:D.Chan):D.Env:={e with S:={e.S with Chans:=e.S.Chans.set (c-1).toNat k}}
def EJ (k:D.Chan)(n:Int):D.Chan×List Int×Int :=
 bif decide (n<0)||decide ((k.Queue.length:Int)<=n)then(⟨0,[]⟩,[],46)else(⟨k.Shape,Ch.cutAt k.Queue n.toNat⟩,k.Queue.getD n.toNat [],0)
def Gu (e:D.Env)(s:D.Stmt):D.Env×Int :=
 bif decide ((Bp e s).2.2≠0)then(e,(Bp e s).2.2)
 else bif decide ((EJ (CM e (Bp e s).1) (Bp e s).2.1).2.2≠0)then(e,(EJ (CM e (Bp e s).1) (Bp e s).2.1).2.2)
 else DN (bif decide (s.N<2)then Jp e (Bp e s).1 (EJ (CM e (Bp e s).1) (Bp e s).2.1).1 else e) s (EJ (CM e (Bp e s).1) (Bp e s).2.1).2.1
def RS (m:D.Model)(k:D.Chan)(l:List Int)(sorted:Bool):D.Chan×Int :=
 (⟨Ch.putSh (Cr m k.Shape).Room (Cr m k.Shape).Fields k.Queue l k.Shape,Ch.putQ (Cr m k.Shape).Room (Cr m k.Shape).Fields k.Queue l sorted⟩,Ch.putE (Cr m k.Shape).Room (Cr m k.Shape).Fields k.Queue l)
def Agr (e:D.Env)(s:D.Stmt):D.Env×Int :=
 (Jp e (AM e s).1 (RS e.M (CM e (AM e s).1) (AM e s).2.1 (decide (s.N=1))).1,(RS e.M (CM e (AM e s).1) (AM e s).2.1 (decide (s.N=1))).2)
def C5 (e:D.Env)(w:Wy):D.Trans:=(Ct (DF e) w.Esc).getD w.Way.toNat default
def HS (e:D.Env)(w:Wy):D.Trans:=(Ct (DF (B2 e w.With)) w.WithEsc).getD w.WithWay.toNat default
def Jq (e:D.Env)(s:D.Stmt)(w:Wy):D.Env×Int :=
 bif decide ((AM e s).2.2≠0)then(e,(AM e s).2.2)
 else bif decide (0<=w.With)then({e with S:=(DN (B2 e w.With) (HS e w).S (AM e s).2.1).1.S},(DN (B2 e w.With) (HS e w).S (AM e s).2.1).2)
 else Agr e s
def Hq (e:D.Env)(n:Int):D.Env:={e with S:={e.S with Chans:=e.S.Chans++[⟨n,[]⟩]}}
def Jf (e:D.Env)(s:D.Stmt):Int:=bif decide ((Bh e s.A).2=0)&&decide ((Bh e s.A).1=0)then 50 else(Bh e s.A).2
def DI (pr:ByteArray->List Int->ByteArray)(e:D.Env)(s:D.Stmt)(w:Wy):D.Env×ByteArray×Int :=
 if s.Kind=1 then(bif El e s.A then((Cb e s.A).1,⟨#[]⟩,(Cb e s.A).2.2)else(e,⟨#[]⟩,0))
 else if s.Kind=2 then((Jo e s).1,⟨#[]⟩,(Jo e s).2)
 else if s.Kind=3 then(e,⟨#[]⟩,Jf e s)
 else if s.Kind=4 then(e,bif decide ((B8 e s.Args).2≠0)then⟨#[]⟩else pr s.Text (B8 e s.Args).1,(B8 e s.Args).2)
 else if s.Kind=9 then((C0 (Hq e s.N) s.A (e.S.Chans.length+1:Nat)).1,⟨#[]⟩,(C0 (Hq e s.N) s.A (e.S.Chans.length+1:Nat)).2)
 else if s.Kind=5 then((Jq e s w).1,⟨#[]⟩,(Jq e s w).2)
 else if s.Kind=6 then((Gu e s).1,⟨#[]⟩,(Gu e s).2)
 else(e,⟨#[]⟩,0)
def Fc (l:List D.Process)(k to:Int):List D.Process:=l.set k.toNat {l.getD k.toNat default with Loc:=to}
def Lz (e:D.Env)(w:Wy)(s:D.State):D.State :=
 {s with Procs:=Fc (bif decide (0<=w.With)then Fc s.Procs w.With (HS e w).To else s.Procs) e.Pid (C5 e w).To,Last:=e.Pid}
def AeM (e:D.Env):D.State:={e.S with Procs:=e.S.Procs.take e.Pid.toNat,Last:=e.Pid,Alone:=bif decide (e.Pid<=e.S.Alone)then -1 else e.S.Alone}
def Aaz:D.State:=⟨[],[],[],0,0,0⟩
def goE (pr:ByteArray->List Int->ByteArray)(e:D.Env)(w:Wy):D.State×ByteArray×Int :=
 bif decide (w.Err≠0)then(Aaz,⟨#[]⟩,w.Err)else bif decide (w.Way<0)then(AeM e,⟨#[]⟩,0)
 else bif decide ((DI pr e (C5 e w).S w).2.2≠0)then(Aaz,⟨#[]⟩,(DI pr e (C5 e w).S w).2.2)
 else(Lz e w (DI pr e (C5 e w).S w).1.S,(DI pr e (C5 e w).S w).2.1,0)
end Go.Proofs.YtedfjceonnoifaaGreatDoor
namespace Go.Proofs.YtedfjceonnoifaaGreatDoor
open Go.RowKit Go.Proofs.Tryz
open IntKind(i64)
structure E8 (m:D.Model) (s:D.State):Prop where
 g:BW m.Globals s.Globals=true
 cl:s.Chans.length<=32
 pl:s.Procs.length<=16
 l:0<=s.Last/\s.Last<16
 a:-1<=s.Alone/\s.Alone<s.Procs.length
 c:∀c∈s.Chans,DB m c=true
 p:∀p∈s.Procs,Bn m p=true
 k:F1 m s=true
def EC {m:D.Model}{s:D.State}:EM m s=true↔E8 m s:=by
 unfold EM M6;simp only[ApX,Ap7];rw[Cz (d:=default) (f:=λc=>DB m c),Cz (d:=default) (f:=λp=>Bn m p)];exact⟨λ⟨⟨⟨⟨⟨⟨⟨⟨⟨h1,h2⟩,h3⟩,h4⟩,h5⟩,h6⟩,h7⟩,e⟩,i⟩,b⟩=>⟨h1,h2,h3,⟨h4,h5⟩,⟨h6,h7⟩,e,i,b⟩,
  λh=>⟨⟨⟨⟨⟨⟨⟨⟨⟨h.g,h.cl⟩,h.pl⟩,h.l.1⟩,h.l.2⟩,h.a.1⟩,h.a.2⟩,h.c⟩,h.p⟩,h.k⟩⟩
structure Gm (b:Int->Prop) (s t:D.State):Prop where
 last:t.Last=s.Last
 alone:t.Alone=s.Alone
 claim:t.Claim=s.Claim
 len:s.Procs.length<=t.Procs.length
 old:∀i:Nat,i<s.Procs.length->(t.Procs.getD i default).Type_=(s.Procs.getD i default).Type_/\(t.Procs.getD i default).Loc=(s.Procs.getD i default).Loc/\(¬b i->(t.Procs.getD i default).Frame=(s.Procs.getD i default).Frame)
def Gm.refl {b:Int->Prop}{s:D.State}:Gm b s s:=⟨rfl,rfl,rfl,Ap1 _,λ_ _=>⟨rfl,rfl,λ_=>rfl⟩⟩
def Gm.trans {b:Int->Prop}{s t u:D.State}(h:Gm b s t)(k:Gm b t u):Gm b s u :=
 ⟨k.last.trans h.last,k.alone.trans h.alone,k.claim.trans h.claim,Aqt h.len k.len,λi hi=>by
  obtain⟨a,c,d⟩:=h.old i hi;obtain⟨b1,b2,b3⟩:=k.old i (Aqw hi h.len);grind⟩
def Gm.less {b c:Int->Prop}{s t:D.State}(h:Gm b s t)(d:∀i,b i->c i):Gm c s t :=
 ⟨h.last,h.alone,h.claim,h.len,λi hi=>⟨(h.old i hi).1,(h.old i hi).2.1,λe=>(h.old i hi).2.2 λa=>e (d _ a)⟩⟩
theorem Q3 {α:Type}{l:List α}{t j:Nat}{p d:α}:(l.set t p).getD j d=if t=j/\j<l.length then p else l.getD j d:=gD
theorem Na {t:D.Type}{v:Int}(h:Ht t=true):DP t (Iz t v)=true:=by
 have h0:=h;unfold Ht at h;simp only[ApX,Ap7]at h;obtain⟨h1,h2,h3⟩:=h;unfold DP Iz L7;rw[h0,AqH ⟨h1,h2⟩,AqX];cases hs:t.Signed with
 | true =>
  rw[hs]at h3;simp at h3;rcases h3 with h3|h3<;>rw[h3]<;>simp<;>omega
 | false =>
  have hp:(0:Int)<2 ^ t.Bits.toNat:=Int.pow_pos dZ;simp_all[Int.emod_nonneg,Int.ne_of_gt,Int.emod_lt_of_pos]
theorem Vu {t:D.Type}{v:Int}(h:DP t v=true):Ht t=true:=by
 unfold DP at h;grind
def AcB {t:List D.Type}{l:List Int}{k:Nat}(h:BW t l=true)(a:k<l.length):DP (t.getD k default) (l.getD k 0)=true:=by
 unfold BW at h;simp only[ApX,Ap7]at h;exact BP.1 h.2 k a
def JM {t:List D.Type}{l:List Int}(a:t.length=l.length)(h:∀k,k<l.length->DP (t.getD k default) (l.getD k 0)=true):BW t l=true:=by
 unfold BW;simp_all[BP]
def Se {t:List D.Type}{l:List Int}(h:BW t l=true)(k:Nat)(v:Int):BW t (l.set k (Iz (t.getD k default) v))=true:=by
 have a:=FG h;refine JM (by simp[a]) λi hi=>?_
 rw[AqB]at hi;have b:=AcB h hi;grind[Q3,Na,Vu]
section
variable {m : D.Model} {s:D.State}
def E8.setP (h:E8 m s){l:List D.Process}(b:l.length=s.Procs.length)(hp:∀p∈l,Bn m p=true):E8 m {s with Procs:=l} :=
 ⟨h.g,h.cl,by show l.length<=16;rw[b];exact h.pl,h.l,⟨h.a.1,by show s.Alone<(l.length:Int);rw[b];exact h.a.2⟩,h.c,hp,h.k⟩
def E8.addP (h:E8 m s){p:D.Process}(d:s.Procs.length<16)(hp:Bn m p=true):E8 m {s with Procs:=s.Procs++[p]}:=by
 refine⟨h.g,h.cl,gD,h.l,⟨h.a.1,?_⟩,h.c,λq b=>?_,h.k⟩
 .have:=h.a.2;grind
 .rcases Aqq.1 b with b|b
  .exact h.p _ b
  grind
def E8.setC (h:E8 m s){k:Nat}{c:D.Chan}(b:DB m c=true):E8 m {s with Chans:=s.Chans.set k c} :=
 ⟨h.g,by show(s.Chans.set k c).length<=32;rw[AqB];exact h.cl,h.pl,h.l,h.a,λx d=>(FZ d).elim (h.c x) λe=>by rw[e];exact b,h.p,h.k⟩
def Zi {p:D.Process}{f:List Int}(h:Bn m p=true)(a:BW (Bd m p.Type_).Frame f=true):Bn m {p with Frame:=f}=true:=by
 unfold Bn at h |-;grind
theorem AgZ {p:D.Process}{to:Int}(h:Bn m p=true)(a:inP (Bd m p.Type_).Locs.length to=true):Bn m {p with Loc:=to}=true:=by
 unfold Bn at h |-;grind
def AnS {l:List D.Process}{i:Nat}(h:i<l.length):l.getD i default∈l:=As h
def E8.put (h:E8 m s){who k v:Int}(hi:0<=who->who<s.Procs.length):E8 m (LR m s who k v):=by
 unfold LR;cases c:decide (who<0)with
 | true=>exact⟨Se h.g _ _,h.cl,h.pl,h.l,h.a,h.c,h.p,h.k⟩
 | false =>
  have h0:0<=who:=gD
  have d:=hi h0;refine h.setP (AqB ..) λp hp=>?_
  rcases FZ hp with hp|rfl
  .exact h.p _ hp
  .have b:=h.p _ (AnS (i:=who.toNat) oM);exact Zi b (Se (DE b).2.2.2.1 _ _)
def Aek {who k v:Int}{b:Int->Prop}(d:0<=who->b who):Gm b s (LR m s who k v):=by
 unfold LR;cases c:decide (who<0)with
 | true=>exact⟨rfl,rfl,rfl,Ap1 _,λ_ _=>⟨rfl,rfl,λ_=>rfl⟩⟩
 | false =>
  have h0:0<=who:=gD
  refine⟨rfl,rfl,rfl,by show s.Procs.length<=(s.Procs.set _ _).length;grind,λi hi=>?_⟩;show((s.Procs.set who.toNat (Adh m (s.Procs.getD who.toNat default) k v)).getD i default).Type_=_/\((s.Procs.set who.toNat (Adh m (s.Procs.getD who.toNat default) k v)).getD i default).Loc=_/\(_->((s.Procs.set who.toNat (Adh m (s.Procs.getD who.toNat default) k v)).getD i default).Frame=_);rw[Q3];split
  .rename_i a;obtain⟨rfl,_⟩:=a;exact⟨rfl,rfl,gD⟩
  grind
end
def Agd {e:D.Env}{ev:Evl}{x:D.Expr}(hs:x.V.Scope≠2)(h0:0<=x.V.Scope/\x.V.Scope<=2)(h:0<=(Cc e ev x).1)(h2:(Cc e ev x).2.2=0):(Cc e ev x).1=e.Pid:=by
 unfold Cc at h h2 |-;cases b:decide (x.Op≠2)with
 | true=>grind
 | false =>
 rw[b,ApW]at h h2;rw[ApW];cases a:decide ((DK e ev x.V).2≠0)with
 | true=>grind
 | false =>
 rw[a,ApW]at h h2;rw[ApW];cases c:decide ((Ge ev x.V.Slot x.V.Dims).2≠0)with
 | true=>grind
 | false =>
 rw[c,ApW]at h;rw[ApW];show(DK e ev x.V).1=e.Pid;have h:0<=(DK e ev x.V).1:=h;unfold DK at h a |-;grind
theorem Sk {e:D.Env}{x v:Int}(j:AI e.M)(hs:(AC e.M x).V.Scope≠2)(h:(Bi e x v).2=0):E8 e.M e.S/\E8 e.M (Bi e x v).1/\Gm (λi=>i=e.Pid) e.S (Bi e x v).1:=by
 unfold Bi at h |-;cases f:decide (De e x≠0)with
 | true=>grind
 | false =>
 rw[f,ApW]at h;rw[ApW];obtain⟨a,h0,h1⟩:=Mb (x:=x) j (by simpa using f);cases k:decide ((Cc e (Ih e) (AC e.M x)).2.2≠0)with
 | true=>grind
 | false =>
 rw[ApW];have b:(Cc e (Ih e) (AC e.M x)).2.2=0:=by simpa using k
 have c:=NC a h0 h1 b;have g:=EC.1 a.fits;have d:(AC e.M x).Op=2:=by
  unfold Cc at b;grind
 exact⟨g,g.put λhp=>(c.own hp).1,Aek λhp=>Agd hs (JK ((AiB a h0 h1).var d)).scope hp b⟩
def P2 (y x:VV):Prop:=∀(w:World)(E:AP)(v:Value),V w E none y v->∀B,V w ⟨λ_=>False,B,0,[]⟩ none x v
def JN:List VV->List VV->Prop
 | [],[]=>True
 | y::ys,x::xs=>P2 y x/\JN ys xs
 | _,_=>False
def Ie:∀{ys xs:List VV},JN ys xs->ys.length=xs.length
 | [],[],_=>rfl
 | y::ys,x::xs,h=>by simp[Ie h.2]
 | [],_::_,h=>h.elim
 | _::_,[],h=>h.elim
def GW:∀{ys xs:List VV},JN ys xs->∀(j:Nat) x,xs[j]?=some x->∃y,ys[j]?=some y/\P2 y x
 | y::ys,x::xs,h,0,z,hz=>by simp only[Aqj,ApZ]at hz;subst hz;exact⟨y,rfl,h.1⟩
 | y::ys,x::xs,h,j+1,z,hz=>by simpa using GW h.2 j z (by simpa using hz)
 | [],_::_,h,_,_,_=>h.elim
 | _,[],_,_,_,hz=>by simp at hz
def O3 {u:Value}:P2 (.sc u) (.sc u):=λw E v h B=>by
 obtain rfl:=h.sc_inv;exact .sc
def O2 {b:Bool}{n s:Nat}{f l:Nat->List VV}(c:∀i,i<n->JN (f i) (l i)):P2 (.sl b n s f) (.sl true n s l):=λw E v h B=>by
 obtain⟨a,cap,rfl,h1,h2,h3⟩:=V.sl_inv h;refine ArZ h1 h2 λhp=>?_
 obtain⟨g,off,rfl,m,_,o,u,p,hv⟩:=h3 hp;refine⟨g,off,rfl,m,λh=>h,λi hi=>by rw[<- Ie (c i hi)];exact o i hi,u,λi j x hi d=>?_,λi j x hi d=>?_⟩
 .obtain⟨y,e,_⟩:=GW (c i hi) j x d;exact p i j y hi e
 .obtain⟨y,e,k⟩:=GW (c i hi) j x d;exact k _ _ _ (hv i j y hi e) _
def Vv {ys xs:List VV}(b:JN ys xs):P2 (.agg ys) (.agg xs):=λw E v h B=>by
 obtain⟨vs,rfl,h1,h2⟩:=h.agg_inv;refine .agg (h1.trans (Ie b)) λj x c=>?_
 obtain⟨y,d,a⟩:=GW b j x c;exact a _ _ _ (h2 j y d) _
def RJ (r:VV):Prop:=∀(w:World)(E E':AP)(m m':Option Phi)(v:Value),V w E m r v->V w E' m' r v
def J8 {u:Value}:RJ (.sc u):=λw E E' m m' v h=>by
 obtain rfl:=h.sc_inv;exact .sc
def K4 {xs:List VV}(h:∀x∈xs,RJ x):RJ (.tup xs):=λw E E' m m' v hv=>by
 cases hv with
 | tup h1 h2=>exact .tup h1 λj x a=>h x (AqE a) _ _ _ _ _ _ (h2 j x a)
def Ah.thaw {P:Program}{f:FuncId}{xs ys:List VV}{r:VV}(h:Ah P f [] xs [] r)(c:RJ r)(a:JN ys xs):Ah P f [] ys [] r:=by
 refine Ah.hand h.callable λw E vs l d hB m hs=>?_
 refine(h.start d hB ⟨hs.1.trans (Ie a),λj x g=>?_⟩).mono ?_
 .obtain⟨y,i,k⟩:=GW a j x g;exact k _ _ _ (hs.2 j y i) _
 .rintro e w' ⟨v,rfl,b,hv⟩;exact⟨v,rfl,c _ _ _ _ _ _ hv,b⟩
section
variable {P : Program} {w:World} {E:AP} {φ:Phi} {hs hs' hs1:List Ob} {xs:List VV} {r:VV} {f:FuncId}
def Abo (j:HRel E (Bl hs) φ w)(hφ:∀id,φ id≠none↔id<hs.length)(l:∀k,E.fz k->k<w.heap.size)(sz:Nat)(g:Nat->List VV) :
  HRel E (Bl (hs++[.arr true 0 0 sz g])) (addP φ hs.length [Pl.arr 0 0 none]) w/\Ext w φ w (addP φ hs.length [Pl.arr 0 0 none]) /\
   (∀id,addP φ hs.length [Pl.arr 0 0 none] id≠none↔id<(hs++[Ob.arr true 0 0 sz g]).length)/\addP φ hs.length [Pl.arr 0 0 none] hs.length=some (.arr 0 0 none):=by
 have c:φ hs.length=none:=Aqf λm=>by have:=(hφ _).1 m;omega
 have d:Room w [Pl.arr 0 0 none] w:=Room.one (Below.refl _ _) λk h=>by obtain⟨_,n⟩:=h;cases n
 have b:∀i,i<[Ob.arr true 0 0 sz g].length->φ (hs.length+i)=none:=λi hi=>by
  simp only[AqA,AqR,AqC,Nat.lt_one_iff]at hi;subst hi;exact c
 have a:EI w E φ hs.length [Ob.arr true 0 0 sz g] [Pl.arr 0 0 none] w:=EI.one d ⟨rfl,rfl,rfl⟩;have e:addP φ hs.length [Pl.arr 0 0 none] hs.length=some (.arr 0 0 none):=EX (i:=0) rfl;refine⟨j.news l a b (λk h=>?_) λi o p=>?_,a.ext b,λid=>?_,e⟩
 .have:=(hφ k).1 h;show Bl (hs++_) k=Bl hs k;simp[Bl,Aqa this]
 .show Bl (hs++_) (hs.length+i)=o;unfold Bl;rw[Aqd,Aqo oM,show hs.length+i-hs.length=i by omega,p];rfl
 .simp only[Ap5,AqA,AqR]
  by_cases q:id=hs.length
  .subst q;rw[e];simp
  .rw[Eb (by simp;omega)];rw[hφ id];omega
def Ah.conv {r2:VV}{hs2:List Ob}(h:Ah P f hs xs hs1 r)
  (c:∀(w:World)(E:AP) (φ:Phi) (v:Value),HRel E (Bl hs1) φ w->(∀id,φ id≠none↔id<hs1.length)->(∀k,E.fz k->k<w.heap.size)->V w (E.up φ) (some φ) r v ->
   ∃φ',HRel E (Bl hs2) φ' w/\Ext w φ w φ'/\(∀id,φ' id≠none↔id<hs2.length)/\V w (E.up φ') (some φ') r2 v):Ah P f hs xs hs2 r2:=by
 refine⟨h.callable,λw E φ vs b d hφ a=>(h.call w E φ vs b d hφ a).mono ?_⟩;rintro e w' ⟨v,φ',rfl,h1,h2,h3,h4⟩;obtain⟨φ2,k1,k2,g,i⟩:=c w' E φ' v h1 h3 (λk j=>Aqw (b.lt k j) h2.size) h4;exact⟨v,φ2,rfl,k1,h2.trans (Arc k2),g,i⟩
def Ah.ownR {ys:List VV}(h:Ah P f hs xs hs1 (.tup ys))(j:Nat)(c:ys[j]?=some .nl)(sz:Nat)(g:Nat->List VV):Ah P f hs xs (hs1++[.arr true 0 0 sz g]) (.tup (ys.set j (.ow hs1.length 0 0))):=by
 refine h.conv λw E φ v d hφ e hv=>?_
 obtain⟨h1,h2,h3,h4⟩:=Abo d hφ e sz g;refine⟨_,h1,h2,h3,?_⟩;cases hv with
 | tup k1 k2 =>
  refine .tup (by simp[k1]) λi x a=>?_
  rw[Aq5]at a;split at a
  .rename_i b;subst b;split at a
   .simp only[ApZ]at a;subst a;rw[(k2 j _ c).nl_inv];exact .ow h4 (Ap1 _) (hd0:=none) ⟨rfl,rfl⟩ λ_=>⟨rfl,Ap1 _⟩
   .cases a
  .exact(k2 i x a).ext h2
def Fr.less {b a:Nat}{w w':World}{φ φ':Phi}(h:Fr b w φ w' φ')(c:a<=b):Fr a w φ w' φ' :=
 ⟨h.os,h.tape,h.output,h.size,h.block,h.new,λid p hi e=>h.kind id p (Aqw hi c) e⟩
def Ah.ownB {i j:Nat}{cs:List VV}(hi:hs[i]?=some (.box cs))(u:cs[j]?=some .nl)(sz:Nat)(g:Nat->List VV)
  (h:Ah P f (hs.set i (.box (cs.set j (.ow hs.length 0 0)))++[.arr true 0 0 sz g]) xs hs' r):Ah P f hs xs hs' r:=by
 refine⟨h.callable,λw E φ vs s y hφ l=>?_⟩;obtain⟨h1,h2,h3,h4⟩:=Abo y hφ s.lt sz g;have m:i<hs.length:=(Ap4.1 hi).1;refine(h.call w E _ vs (s.ext h2) ⟨h1.sub,λid p e=>?_,h1.inj,h1.free⟩ (λid=>by rw[h3 id];simp) ⟨l.1,λk x a=>(l.2 k x a).ext h2⟩).mono ?_
 .have d:=h1.ob id p e;show ObV w E _ (Bl (hs.set i _++_) id) p
  by_cases t:id=i
  .subst t;have n:Bl (hs++[Ob.arr true 0 0 sz g]) id=.box cs:=by simp[Bl,Aqa m,hi]
   have z:Bl (hs.set id (.box (cs.set j (.ow hs.length 0 0)))++[Ob.arr true 0 0 sz g]) id=.box (cs.set j (.ow hs.length 0 0)):=by
    simp[Bl,Aqa,m]
   rw[n]at d;rw[z];cases p with
   | arr=>exact d.elim
   | box b =>
    obtain⟨c,ty,k1,k2⟩:=d;refine⟨c,ty,k1,by simp[k2.1],λk x a=>?_⟩;rw[Aq5]at a;split at a
    .rename_i o;subst o;split at a
     .simp only[ApZ]at a;subst a;rw[(k2.2 j _ u).nl_inv];exact .ow h4 (Ap1 _) (hd0:=none) ⟨rfl,rfl⟩ λ_=>⟨rfl,Ap1 _⟩
     .cases a
    .exact k2.2 k x a
  .have n:Bl (hs.set i (.box (cs.set j (.ow hs.length 0 0)))++[Ob.arr true 0 0 sz g]) id=Bl (hs++[Ob.arr true 0 0 sz g]) id:=by
    rcases AqF id hs.length with q|q
    .simp[Bl,Aqa,q,List.getElem_set_ne (Ne.symm t)]
    .simp[Bl,Aqo,q]
   rw[n];exact d
 .rintro e w' ⟨v,φ',rfl,k1,k2,A,B⟩;refine⟨v,φ',rfl,k1,(Arc h2).trans (k2.less sM),A,B⟩
end
def Mc (x:Pn):List VV:=[Aa x.pid,Aa x.esc,Aa x.way]
def FK (l:List Pn):Nat->List VV:=λi=>Mc (l.getD i default)
def CI (fz:Bool)(l:List Pn):VV:=.sl fz l.length 3 λi=>Mc (l.getD i default)
def BE (x:Ab):List VV:=[Ac x.is,Aa x.err,CI true x.wth]
def Gt (l:List Ab):Nat->List VV:=λi=>BE (l.getD i default)
def Ce (fz:Bool)(l:List Ab):VV:=.sl fz l.length 3 λi=>BE (l.getD i default)
def A9 (x:Wy):List VV:=[Aa x.Esc,Aa x.Way,Aa x.With,Aa x.WithEsc,Aa x.WithWay,Aa x.Err]
def JY (l:List Wy):Nat->List VV:=λi=>A9 (l.getD i default)
def Bm (fz:Bool)(l:List Wy):VV:=.sl fz l.length 6 λi=>A9 (l.getD i default)
def A8 (x:D.Env):List VV:=[AG true x.M.Globals,Ad true x.M.Init,AJ true x.M.Shapes,Ad true x.M.Chans,AD true x.M.Procs,Aa x.M.Claim,AS true x.M.Exprs,Ad true x.S.Globals,AK false x.S.Chans,Av false x.S.Procs,Aa x.S.Last,Aa x.S.Alone,Aa x.S.Claim,Aa x.Pid,Ac x.Timeout,Bq true x.Able]
def AoM:Shp:={α:=List Pn,enc:=λy=>([],CI true y)}
def AoY:Shp:={α:=Ab,enc:=λy=>([],.agg (BE y))}
def Ang:Shp:={α:=List Ab,enc:=λy=>([],Ce true y)}
def AoG:Shp:={α:=Wy,enc:=λy=>([],.agg (A9 y))}
def AmR:Shp:={α:=List Wy,enc:=λy=>([],Bm true y)}
def Am2:Shp:={α:=D.Loc,enc:=λy=>([],.agg (AT y))}
def Aj4:Shp:={α:=D.Proc,enc:=λy=>([],.agg (A2 y))}
def Agg:Shp:={α:=D.Trans,enc:=λy=>([],.agg (Cn y))}
def Al9:Shp:={α:=Bool×Int,enc:=λy=>([],.tup [Ac y.1,Aa y.2])}
def Agi:Shp:={α:=Int×List Int×Int,enc:=λy=>([],.tup [Aa y.1,Ad true y.2.1,Aa y.2.2])}
def Al6:Shp:={α:=List Int×Int,enc:=λy=>([],.tup [Ad true y.1,Aa y.2])}
def AoI:Shp:={α:=List Wy×Int,enc:=λy=>([],.tup [Bm true y.1,Aa y.2])}
def Anf:Shp:={α:=List Int×Int,enc:=λy=>([.arr true 0 y.1.length 1 (AO y.1)],.tup [.ow 0 0 y.1.length,Aa y.2])}
def CJ (f:FuncId):Shp :=
 bif Nat.beq f 149||Nat.beq f 167||Nat.beq f 230 then RQ
 else bif Nat.beq f 145 then Am2
 else bif Nat.beq f 141 then Aj4
 else bif Nat.beq f 152 then Agg
 else bif Nat.beq f 168||Nat.beq f 226||Nat.beq f 227||Nat.beq f 150||Nat.beq f 228 then T9
 else bif Nat.beq f 171 then Anf
 else bif Nat.beq f 197 then Agi
 else bif Nat.beq f 210 then Al6
 else bif Nat.beq f 188 then YR
 else bif Nat.beq f 222||Nat.beq f 209 then AoM
 else bif Nat.beq f 143 then Al9
 else bif Nat.beq f 186||Nat.beq f 166||Nat.beq f 187 then AoY
 else bif Nat.beq f 147 then Ang
 else bif Nat.beq f 142 then AoG
 else bif Nat.beq f 120 then AmR
 else bif Nat.beq f 148 then AoI
 else Dt f
def hsR (e:D.Env)(c:Int)(m:List Int)(out:List Pn):List Ob:=[.box (Ai e),.box [Aa c],.box [Ad true m],.box [.ow 4 0 out.length],.arr true 0 out.length 3 (FK out)]
def Aob:VV:=.fn (.func 225) [.bp 0 0,.bp 1 0,.bp 2 0,.bp 3 0]
def shR (e:D.Env)(c:Int)(m:List Int)(f:FuncId):Shp :=
 bif Nat.beq f 225 then{α:=List Pn×Bool,enc:=λy=>(hsR e c m y.1,Ac y.2),lend:=true}
 else bif Nat.beq f 144 then{α:=List Pn,enc:=λy=>(hsR e c m y,.tup []),lend:=true}
 else CJ f
def hsW (e:D.Env)(out:List Wy):List Ob:=[.box (Ai e),.box [.ow 2 0 out.length],.arr true 0 out.length 6 (JY out)]
def Aoa:VV:=.fn (.func 146) [.bp 0 0,.bp 1 0]
def shW (e:D.Env)(f:FuncId):Shp :=
 bif Nat.beq f 146 then{α:=List Wy×Bool,enc:=λy=>(hsW e y.1,Ac y.2),lend:=true}
 else bif Nat.beq f 144 then{α:=List Wy,enc:=λy=>(hsW e y,.tup []),lend:=true}
 else CJ f
def Rt:Ann:={keep:=fun
  | [0,1,0,1,1]=>[2,6,11,12,13]
  | _=>[]}
def Rs:Ann:={keep:=fun
  | [0,1,0,1,1,1,1,1,1,1]=>[7,9,10,53,54,55]
  | _=>[]}
def Jg:Ann:={keep:=fun
  | [0,1,0,1,1]=>[2,3,6,16,17,18]
  | _=>[]}
def Mj:Ann:={keep:=fun
  | [0,1,0,1,1]=>[1,2,3,7,13,14]
  | _=>[]}
def Gj:Ann:={cut:=(λ| [1,1,0,0,1,1,0,0,1,0,1,1,1]=>true | _=>false),keep:=fun
  | [0,1,0,1,1,1]=>[1,2,3,7,8,16,17,18]
  | [0,1,0,1,1,1,1]=>[7,8,40,41,42]
  | [1,1,0,0,1,1,0,0,1,0,1,1,1]=>[1,2,3,7,8,9,16,17,18]
  | _=>[]}
def N0:Ann:={keep:=fun
  | [0,1,0,1]=>[0,1,7,8]
  | _=>[]}
def NZ:Ann:={keep:=fun
  | [0,1,0,1]=>[0,3,7,8]
  | _=>[]}
def KB:Ann:={base:=5,keep:=fun
  | [0,1,0,1]=>[1,2,7,8,9]
  | _=>[]}
def KA:Ann:={base:=3,keep:=fun
  | [0,1,0,1]=>[1,2,7,8,9]
  | _=>[]}
def Rr:Ann:={base:=5,keep:=fun
  | [0,1,0,1]=>[0,1,2,3,4,5,11,12,13]
  | _=>[]}
def Hm:Ann:={base:=3,keep:=fun
  | [0,1,0,1]=>[0,3,14,15,16]
  | [0,1,1,1,1,0,0,1,1,0,0,1,0,1]=>[0,3,9,14,15,16,39,40,41]
  | _=>[]}
def TY (e:D.Env)(l out:List Int)(k:Int):St:=An [(2,.bp 0 0),(6,.ow 1 0 out.length),(11,Ad true l),(12,Aa l.length),(13,Aa k)] [.box (A8 e),.arr true 0 out.length 1 (AO out)]
def Qb (c:Int)(f:List D.Type)(l:List Int)(k:Int):St:=An [(7,Aa c),(9,AG true f),(10,.ow 0 0 l.length),(53,.ow 0 0 l.length),(54,Aa l.length),(55,Aa k)] [.arr true 0 l.length 1 (AO l)]
def P9 (e:D.Env)(s:D.Stmt)(want:List Int)(k:Int):St:=An [(2,.bp 0 0),(3,.bp 1 0),(6,.ow 2 0 want.length),(16,Ad true s.Args),(17,Aa s.Args.length),(18,Aa k)] [.box (Ai e),.box (Ax s),.arr true 0 want.length 1 (AO want)]
def MC (e:D.Env)(c:Int)(m:List Int)(out:List Pn)(k:Int):St:=An [(1,Aa c),(2,Ad true m),(3,.bp 0 0),(7,.ow 1 0 out.length),(13,Aa e.S.Procs.length),(14,Aa k)] [.box (Ai e),.arr true 0 out.length 3 (FK out)]
def TX (e:D.Env)(ws:List D.Trans)(self:Bool)(n:Nat)(F:Nat->List VV)(some:Bool)(k:Int):St:=An [(1,Ao true ws),(2,Ac self),(3,.bp 0 0),(7,.ow 1 0 n),(8,Ac some),(16,Ao true ws),(17,Aa ws.length),(18,Aa k)] [.box (Ai e),.arr true 0 n 3 F]
def TW (e:D.Env)(ws:List D.Trans)(self:Bool)(l:List Ab)(some:Bool)(i k:Int):St:=An [(1,Ao true ws),(2,Ac self),(3,.bp 0 0),(7,.ow 1 0 l.length),(8,Ac some),(9,Aa i),(16,Ao true ws),(17,Aa ws.length),(18,Aa k)] [.box (Ai e),.arr true 0 l.length 3 (Gt l)]
def MD (ws:List D.Trans)(l:List Ab)(some:Bool)(k:Int):St:=An [(7,.ow 0 0 l.length),(8,Ac some),(40,Ao true ws),(41,Aa ws.length),(42,Aa k)] [.arr true 0 l.length 3 (Gt l)]
def O5 (l:List Ab)(k:Int):St:=An [(0,Ce true l),(1,.fn (.func 228) []),(7,Aa l.length),(8,Aa k)] []
def O4 (l:List Wy)(w:Wy)(k:Int):St:=An [(0,Bm true l),(3,.bp 0 0),(7,Aa l.length),(8,Aa k)] [.box (A9 w)]
def KR (e:D.Env)(c:Int)(m:List Int)(out:List Pn)(l:D.Loc)(k:Int):St:=An [(1,Aob),(2,.bp 5 0),(7,Bg true l.Esc),(8,Aa l.Esc.length),(9,Aa k)] (hsR e c m out++[.box (AT l)])
def KQ (e:D.Env)(out:List Wy)(l:D.Loc)(k:Int):St:=An [(1,Aoa),(2,.bp 3 0),(7,Bg true l.Esc),(8,Aa l.Esc.length),(9,Aa k)] (hsW e out++[.box (AT l)])
def Qa (e:D.Env)(c:Int)(m:List Int)(out:List Pn)(i:Int)(ws:List D.Trans)(k:Int):St:=An [(0,Aa i),(1,Ao true ws),(2,.bp 0 0),(3,.bp 1 0),(4,.bp 2 0),(5,.bp 3 0),(11,Ao true ws),(12,Aa ws.length),(13,Aa k)] (hsR e c m out)
def IU (e:D.Env)(out:List Wy)(i:Int)(l:List Ab)(k:Int):St:=An [(0,Aa i),(3,.bp 1 0),(14,Ce true l),(15,Aa l.length),(16,Aa k)] (hsW e out)
def MB (e:D.Env)(out:List Wy)(i:Int)(l:List Ab)(k:Int)(w:Wy)(ps:List Pn)(j:Int):St:=An [(0,Aa i),(3,.bp 1 0),(9,.bp 3 0),(14,Ce true l),(15,Aa l.length),(16,Aa k),(39,CI true ps),(40,Aa ps.length),(41,Aa j)] (hsW e out++[.box (A9 w)])
def AjB (r:Int)(e:D.Env):(fc CJ AH f149 [] (Aa r)).goal (St.init [] [.agg (Ai e)]) =
  (∃(y:Int),VC 70 [VV.agg (Ae e.M),VV.agg (Ag e.S)] (Aa y)/\BB (y != 0) (LQ (Aa y) (Aa r)) (BB (bif decide (e.Pid<0)then true else decide (e.Pid>=(↑e.S.Procs.length:Int))) (LQ (Aa 42) (Aa r)) (LQ (Aa 0) (Aa r)))):=kR
def Aft (l:D.Loc)(e:D.Env){z1}(a:z1=e.S.Procs.getD e.Pid.toNat default):(fc CJ AH f145 [] (.agg (AT l))).goal (St.init [] [.agg (Ai e)]) =
  (inX e.Pid e.S.Procs.length/\inX z1.Type_ e.M.Procs.length/\inX z1.Loc (e.M.Procs.getD z1.Type_.toNat default).Locs.length/\LQ (.agg (AT ((e.M.Procs.getD z1.Type_.toNat default).Locs.getD z1.Loc.toNat default))) (.agg (AT l))):=by subst a;kernel_rfl
def Ab2 (p:D.Proc)(e:D.Env):(fc CJ AH f141 [] (.agg (A2 p))).goal (St.init [] [.agg (Ai e)]) =
  (inX e.Pid e.S.Procs.length/\inX (e.S.Procs.getD e.Pid.toNat default).Type_ e.M.Procs.length/\LQ (VV.agg (A2 (e.M.Procs.getD (e.S.Procs.getD e.Pid.toNat default).Type_.toNat default))) (VV.agg (A2 p))):=kR
def AbX (b:Bool)(m:D.Model)(x:Int):(fc CJ AH f168 [] (Ac b)).goal (St.init [] [.agg (Ae m),Aa x]) =
  (((true&&decide (x>=0)==true)=true->inX x m.Exprs.length)/\LQ (Ac (bif decide (x>=0)then(m.Exprs.getD x.toNat default).Op==39 else false)) (Ac b)):=kR
def Afv (hs':List Ob)(r:VV)(e:D.Env)(l:List Int):(BL prog tb CJ Rt false f171 hs' (r)).goal (St.init [] [.agg (A8 e),Ad true l]) =
  (AB (BL prog tb CJ Rt false f171 hs' r) [1,1,0,1,0] (An [(2,VV.bp 0 0),(6,VV.nl),(11,Ad true l),(12,Aa (↑l.length:Int)),(13,Aa 0)] [Ob.box (A8 e)])):=kR
def Afs (r:Int×List Int×Int)(e:D.Env)(s:D.Stmt){b}(d:b=[Aa r.fst,Ad true r.snd.fst,Aa r.snd.snd]){c}(f:c=λ(y:Int×Int)=>e.S.Chans.getD (i64.wrap (y.fst-(1:Int))).toNat default):(fc CJ Rs f197 [] (.tup [Aa r.1,Ad true r.2.1,Aa r.2.2])).goal (St.init [] [.agg (A8 e),.agg (Ax s)]) =
  (∃(y:Int×Int),VC 208 [.agg (A8 e),Aa s.A] (vII y)/\BB (y.snd != 0) (LQ (.tup [Aa 0,.nl,Aa y.snd]) (.tup b)) (inX (i64.wrap (y.fst-(1:Int))) e.S.Chans.length/\inX (c y).Shape e.M.Shapes.length/\BB ((↑(e.M.Shapes.getD (c y).Shape.toNat default).Fields.length:Int) != (↑s.Args.length:Int)) (LQ (.tup [Aa 0,.nl,Aa 49]) (.tup b)) (∃(a:List Int×Int),Ah prog 171 [] [.agg (A8 e),Ad true s.Args] [.arr true 0 a.fst.length 1 (AO a.fst)] (.tup [.ow 0 0 a.fst.length,Aa a.snd])/\BB (a.snd != 0) (LQ (.tup [Aa 0,.nl,Aa a.snd]) (.tup b)) (AB (fc CJ Rs f197 [] (.tup b)) [1,1,1,1,1,1,1,0,1,0] (Qb y.fst (e.M.Shapes.getD (c y).Shape.toNat default).Fields a.fst (0:Int)))))):=by subst d f;kernel_rfl
def XR (r:List Int×Int)(e:D.Env)(s:D.Stmt){z1}(a:z1=(↑s.Args.length:Int)){b}(c:b=fc CJ Jg f210 [] (VV.tup [Ad true r.fst,Aa r.snd])):(fc CJ Jg f210 [] (.tup [Ad true r.1,Aa r.2])).goal (St.init [] [.agg (Ai e),.agg (Ax s)]) =
  (((0:Int)<=z1/\z1<=z1/\z1*(↑8:Int)<=140737488355328)/\AB b [1,1,0,1,0] (An [(2,.bp 0 0),(3,.bp 1 0),(6,.ow 2 0 z1.toNat),(16,Ad true s.Args),(17,Aa z1),(18,Aa 0)] [.box (Ai e),.box (Ax s),.arr true 0 z1.toNat 1 λ(_:Nat)=>(b.T 2).zero])):=by subst a c;kernel_rfl
def X8 (r:Int×Int×Int)(e:D.Env)(s:D.Stmt){b}(d:b=λ(y:Int×Int)=>i64.wrap (y.fst-(1:Int))):(fc CJ AH f188 [] (.tup [Aa r.1,Aa r.2.1,Aa r.2.2])).goal (St.init [] [.agg (Ai e),.agg (Ax s)]) =
  (∃(y:Int×Int),VC 208 [.agg (Ai e),Aa s.A] (vII y)/\BB (y.snd != 0) (LQ (.tup [Aa 0,Aa (-1),Aa y.snd]) (LK r)) (inX (b y) e.S.Chans.length/\inX (e.S.Chans.getD (b y).toNat default).Shape e.M.Shapes.length/\BB ((↑(e.M.Shapes.getD (e.S.Chans.getD (b y).toNat default).Shape.toNat default).Fields.length:Int) != (↑s.Args.length:Int)) (LQ (.tup [Aa 0,Aa (-1),Aa 49]) (LK r)) (∃(a:List Int×Int),VC 210 [.agg (Ai e),.agg (Ax s)] (.tup [Ad true a.fst,Aa a.snd])/\BB (a.snd != 0) (LQ (.tup [Aa 0,Aa (-1),Aa a.snd]) (LK r)) (inX (b y) e.S.Chans.length/\(2:Int)≠(0:Int)/\∃(c:Int),VC 204 [.agg (Ay (e.S.Chans.getD (b y).toNat default)),Ad true a.fst,Ad true s.Match,Ac (s.N.tmod (2:Int)==1)] (Aa c)/\LQ (.tup [Aa y.fst,Aa c,Aa 0]) (LK r))))):=by subst d;kernel_rfl
def XS (b:Bool)(e:D.Env)(s:D.Stmt)(c:Int)(m:List Int):(fc CJ AH f226 [] (Ac b)).goal (St.init [] [.agg (Ai e),.agg (Ax s),Aa c,Ad true m]) =
  (BB (bif bif s.Kind != 6 then true else decide (s.N > 1)then true else(↑s.Args.length:Int) != (↑m.length:Int)) (LQ (Ac false) (Ac b)) (∃(y:Int×Int),VC 208 [VV.agg (Ai e),Aa s.A] (vII y)/\BB (bif y.snd != 0 then true else y.fst != c) (LQ (Ac false) (Ac b)) (∃(y:List Int×Int),VC 210 [VV.agg (Ai e),VV.agg (Ax s)] (VV.tup [Ad true y.fst,Aa y.snd])/\∃(a:Int),((true&&(y.snd==0)==true)=true->VC 204 [VV.agg [Aa 0,VV.sl true 1 1 λ(i:Nat)=>List.take 1 (List.drop (i*1) [Ad true m])],Ad true y.fst,Ad true s.Match,Ac false] (Aa a))/\LQ (Ac (bif y.snd==0 then a==0 else false)) (Ac b)))):=kR
def X0 (r:List Pn)(e:D.Env)(c:Int)(m:List Int):(fc CJ Mj f209 [] (CI true r)).goal (St.init [] [.agg (Ai e),Aa c,Ad true m]) =
  (AB (fc CJ Mj f209 [] (CI true r)) [1,1,0,1,0] (An [(1,Aa c),(2,Ad true m),(3,VV.bp 0 0),(7,VV.nl),(13,Aa (↑e.S.Procs.length:Int)),(14,Aa 0)] [Ob.box (Ai e)])):=kR
def Ab1 (r:Bool×Int)(e:D.Env):(fc CJ AH f143 [] (.tup [Ac r.1,Aa r.2])).goal (St.init [] [.agg (Ai e)]) =
  (∃(y:D.Proc),VC 141 [VV.agg (Ai e)] (VV.agg (A2 y))/\BB (decide (y.Provided<0)) (LQ (VV.tup [Ac true,Aa 0]) (VV.tup [Ac r.fst,Aa r.snd])) (∃(a:Int×Int),VC 124 [VV.agg (Ai e),Aa y.Provided] (vII a)/\LQ (VV.tup [Ac (a.fst != 0),Aa a.snd]) (VV.tup [Ac r.fst,Aa r.snd]))):=kR
def AbY (r:Ab)(e:D.Env):(fc CJ AH f186 [] (.agg (BE r))).goal (St.init [] [.agg (Ai e)]) =
  (LQ (VV.agg [Ac (decide ((↑e.S.Procs.length:Int)<16)),Aa 0,VV.nl]) (VV.agg (BE r))):=kR
def AbU (r:Ab)(e:D.Env)(s:D.Stmt)(self:Bool){a}(b:a=VV.agg (BE r)){c}(d:c=(∃(y:Ab),VC 186 [VV.agg (Ai e)] (VV.agg (BE y))/\LQ (VV.agg (BE y)) a)){f}(g:f=LQ (VV.agg [Ac true,Aa 0,VV.nl]) a):(fc CJ AH f166 [] (.agg (BE r))).goal (St.init [] [.agg (Ai e),.agg (Ax s),Ac self]) =
  (BB (s.Kind==1) (∃(y:Bool),VC 168 [.agg (Ae e.M),Aa s.A] (Ac y)/\BB y c (∃(y:Int×Int),VC 124 [.agg (Ai e),Aa s.A] (vII y)/\LQ (.agg [Ac (bif y.fst != 0 then true else y.snd != 0),Aa y.snd,.nl]) a)) (BB (s.Kind==2) (∃(y:Bool),VC 168 [.agg (Ae e.M),Aa s.B] (Ac y)/\BB y c f) (BB (s.Kind==9) (LQ (.agg [Ac (decide ((↑e.S.Chans.length:Int)<32)),Aa 0,.nl]) a) (BB (s.Kind==5) (∃(y:Ab),VC 187 [.agg (Ai e),.agg (Ax s),Ac self] (.agg (BE y))/\LQ (.agg (BE y)) a) (BB (s.Kind==6) (∃(y:Int×Int×Int),VC 188 [.agg (Ai e),.agg (Ax s)] (LK y)/\LQ (.agg [Ac (bif decide (y.snd.fst>=0)then true else y.snd.snd != 0),Aa y.snd.snd,.nl]) a) (BB (s.Kind==7) (LQ (.agg [Ac false,Aa 0,.nl]) a) f)))))):=by subst b d g;kernel_rfl
def XW (r:Ab)(e:D.Env)(s:D.Stmt)(self:Bool){d}(g:d=λ(y:Int×Int)=>e.S.Chans.getD (i64.wrap (y.fst-(1:Int))).toNat default){b}(h:b=VV.agg (BE r)){f}(i:f=λ(y:Int×Int)=>e.M.Shapes.getD (d y).Shape.toNat default):(fc CJ AH f187 [] (.agg (BE r))).goal (St.init [] [.agg (Ai e),.agg (Ax s),Ac self]) =
  (∃(y:Int×Int),VC 208 [.agg (Ai e),Aa s.A] (vII y)/\BB (y.snd != 0) (LQ (.agg [Ac true,Aa y.snd,.nl]) b) (inX (i64.wrap (y.fst-(1:Int))) e.S.Chans.length/\inX (d y).Shape e.M.Shapes.length/\BB ((↑(f y).Fields.length:Int) != (↑s.Args.length:Int)) (LQ (.agg [Ac true,Aa 49,.nl]) b) (BB (decide ((f y).Room > 0)) (LQ (.agg [Ac (decide ((↑(d y).Queue.length:Int)<(f y).Room)),Aa 0,.nl]) b) (BB self (LQ (.agg [Ac false,Aa 0,.nl]) b) (∃(a:Int×List Int×Int),VC 197 [.agg (Ai e),.agg (Ax s)] (.tup [Aa a.fst,Ad true a.snd.fst,Aa a.snd.snd])/\BB (a.snd.snd != 0) (LQ (.agg [Ac true,Aa a.snd.snd,.nl]) b) (∃(c:List Pn),VC 209 [.agg (Ai e),Aa y.fst,Ad true a.snd.fst] (CI true c)/\LQ (.agg [Ac (decide ((↑c.length:Int) > 0)),Aa 0,CI true c]) b)))))):=by subst g h i;kernel_rfl
def Afu (r:List Ab)(e:D.Env)(ws:List D.Trans)(self:Bool){z1}(a:z1=(↑ws.length:Int)){b}(c:b=fc CJ Gj f147 [] (Ce true r)):(fc CJ Gj f147 [] (Ce true r)).goal (St.init [] [.agg (Ai e),Ao true ws,Ac self]) =
  (((0:Int)<=z1/\z1<=z1/\z1*(↑40:Int)<=140737488355328)/\AB b [1,1,1,0,1,0] (An [(1,Ao true ws),(2,Ac self),(3,.bp 0 0),(7,.ow 1 0 z1.toNat),(8,Ac false),(16,Ao true ws),(17,Aa z1),(18,Aa 0)] [.box (Ai e),.arr true 0 z1.toNat 3 λ(_:Nat)=>(b.T 252).zero])):=by subst a c;kernel_rfl
def Ab5 (r:Wy)(err:Int):(fc CJ AH f142 [] (.agg (A9 r))).goal (St.init [] [Aa err]) =
  (LQ (VV.agg [Aa (-1),Aa (-1),Aa (-1),Aa (-1),Aa (-1),Aa err]) (VV.agg (A9 r))):=kR
def Acl (r:List Wy×Int)(e:D.Env):(fc CJ AH f148 [] (.tup [Bm true r.1,Aa r.2])).goal (St.init [] [.agg (Ai e)]) =
  (∃(y:Int),VC 149 [VV.agg (Ai e)] (Aa y)/\BB (y != 0) (LQ (VV.tup [VV.nl,Aa y]) (VV.tup [Bm true r.fst,Aa r.snd])) (∃(y:List Wy),VC 120 [VV.agg (Ai e)] (Bm true y)/\LQ (VV.tup [Bm true y,Aa 0]) (VV.tup [Bm true r.fst,Aa r.snd]))):=kR
def Afp (t:D.Trans)(l:D.Loc)(esc i:Int):(fc CJ AH f152 [] (.agg (Cn t))).goal (St.init [] [.agg (AT l),Aa esc,Aa i]) =
  (BB (decide (esc<0)) (inX i l.Out.length/\LQ (VV.agg (Cn (l.Out.getD i.toNat default))) (VV.agg (Cn t))) (inX esc l.Esc.length/\inX i (l.Esc.getD esc.toNat []).length/\LQ (VV.agg (Cn ((l.Esc.getD esc.toNat []).getD i.toNat default))) (VV.agg (Cn t)))):=kR
def Yb (b:Bool)(l:List Ab):(fc CJ AH f227 [] (Ac b)).goal (St.init [] [Ce true l,.fn (.func 228) []]) =
  (∃(y:Int),VC 230 [Ce true l,VV.fn (Fn.func (nat_lit 228)) []] (Aa y)/\LQ (Ac (decide (y>=0))) (Ac b)):=kR
def Acb (r:Int)(l:List Ab):(fc CJ N0 f230 [] (Aa r)).goal (St.init [] [Ce true l,.fn (.func 228) []]) =
  (AB (fc CJ N0 f230 [] (Aa r)) [1,0,1,0] (O5 l (0:Int))):=kR
def Ab9 (b:Bool)(x:Ab):(fc CJ AH f228 [] (Ac b)).goal (St.init [] [.agg (BE x)]) =
  (LQ (Ac x.is) (Ac b)):=kR
def Ya (b:Bool)(l:List Wy)(w:Wy):(fc CJ AH f150 [] (Ac b)).goal (St.init [] [Bm true l,.agg (A9 w)]) =
  (∃(y:Int),VC 167 [Bm true l,VV.agg (A9 w)] (Aa y)/\LQ (Ac (decide (y>=0))) (Ac b)):=kR
def Aca (r:Int)(l:List Wy)(w:Wy):(fc CJ NZ f167 [] (Aa r)).goal (St.init [] [Bm true l,.agg (A9 w)]) =
  (AB (fc CJ NZ f167 [] (Aa r)) [1,0,1,0] (O4 l w (0:Int))):=kR
def AbZ (r:List Pn)(e:D.Env)(c:Int)(m:List Int):(BL prog tb (shR e c m) AH true f222 [] (CI true r)).goal (St.init [] [.agg (Ai e),Aa c,Ad true m]) =
  (∃(y:Bool×Int),VC 143 [VV.agg (Ai e)] (VV.tup [Ac y.fst,Aa y.snd])/\BB (bif !y.fst then true else y.snd != 0) (LQ VV.nl (CI true r)) (∃(y:D.Loc),VC 145 [VV.agg (Ai e)] (VV.agg (AT y))/\∃(a:List Pn),Ah prog 144 [Ob.box (Ai e),Ob.box [Aa c],Ob.box [Ad true m],Ob.box [VV.nl]] [VV.agg (AT y),VV.fn (Fn.func (nat_lit 225)) [VV.bp 0 0,VV.bp 1 0,VV.bp 2 0,VV.bp 3 0]] (hsR e c m a) (VV.tup [])/\LQ (CI true a) (CI true r))):=kR
def U7 (r out:List Pn)(e:D.Env)(c:Int)(m:List Int)(l:D.Loc):(BL prog tb (shR e c m) KB true f144 (hsR e c m r) (.tup [])).goal (St.init (hsR e c m out) [.agg (AT l),Aob]) =
  (AB (fc (shR e c m) KB f144 (hsR e c m r) (VV.tup [])) [1,0,1,0] (KR e c m out l (0:Int))):=kR
def U6 (r out:List Wy)(e:D.Env)(l:D.Loc):(BL prog tb (shW e) KA true f144 (hsW e r) (.tup [])).goal (St.init (hsW e out) [.agg (AT l),Aoa]) =
  (AB (fc (shW e) KA f144 (hsW e r) (VV.tup [])) [1,0,1,0] (KQ e out l (0:Int))):=kR
def Afq (r out:List Pn)(b:Bool)(e:D.Env)(c:Int)(m:List Int)(i:Int)(ws:List D.Trans):(fc CJ Rr f225 (hsR e c m r) (Ac b)).goal (St.init (hsR e c m out) [Aa i,Ao true ws,.bp 0 0,.bp 1 0,.bp 2 0,.bp 3 0]) =
  (AB (fc CJ Rr f225 (hsR e c m r) (Ac b)) [1,0,1,0] (Qa e c m out i ws (0:Int))):=kR
def Afr (r out:List Wy)(b:Bool)(e:D.Env)(i:Int)(ws:List D.Trans):(fc CJ Hm f146 (hsW e r) (Ac b)).goal (St.init (hsW e out) [Aa i,Ao true ws,.bp 0 0,.bp 1 0]) =
  (∃(y:List Ab),VC 147 [VV.agg (Ai e),Ao true ws,Ac false] (Ce true y)/\AB (fc CJ Hm f146 (hsW e r) (Ac b)) [1,0,1,0] (IU e out i y (0:Int))):=kR
def XZ (r:List Wy)(e:D.Env){b}(c:b=Bm true r):(BL prog tb (shW e) AH true f120 [] (Bm true r)).goal (St.init [] [.agg (Ai e)]) =
  (inX e.Pid e.S.Procs.length/\∃(y:D.Proc),VC 141 [.agg (Ai e)] (.agg (A2 y))/\BB ((e.S.Procs.getD e.Pid.toNat default).Loc==y.Final) (BB (e.Pid==i64.wrap ((↑e.S.Procs.length:Int)-(1:Int))) (∃(y:Wy),VC 142 [Aa 0] (.agg (A9 y))/\LQ (.sl true 1 6 λ(i:Nat)=>List.take 6 (List.drop (i*6) (A9 y))) b) (LQ .nl b)) (∃(y:Bool×Int),VC 143 [.agg (Ai e)] (.tup [Ac y.fst,Aa y.snd])/\BB (y.snd != 0) (∃(a:Wy),VC 142 [Aa y.snd] (.agg (A9 a))/\LQ (.sl true 1 6 λ(i:Nat)=>List.take 6 (List.drop (i*6) (A9 a))) b) (BB (!y.fst) (LQ .nl b) (∃(y:D.Loc),VC 145 [.agg (Ai e)] (.agg (AT y))/\∃(a:List Wy),Ah prog 144 [.box (Ai e),.box [.nl]] [.agg (AT y),.fn (Fn.func (nat_lit 146)) [.bp 0 0,.bp 1 0]] (hsW e a) (.tup [])/\LQ (Bm true a) b)))):=by subst c;kernel_rfl
def Acj (hs':List Ob)(r:VV)(e:D.Env)(l out:List Int)(k:Int)(J:St->Prop):((BL prog tb CJ Rt false f171 hs' (r)).loop [1,1,0,1,0] J).goal (TY e l out k) =
  (BB (decide (k<(↑l.length:Int))) (inX k l.length/\∃(y:Int×Int),VC 124 [VV.agg (A8 e),Aa (l.getD k.toNat 0)] (vII y)/\BB (y.snd != 0) (leO [] hs'/\(VV.tup [VV.nl,Aa y.snd]).le r) ((out.length+1)*8<=140737488355328/\J (An [(2,VV.bp 0 0),(6,VV.ow 1 0 (out.length+1)),(11,Ad true l),(12,Aa (↑l.length:Int)),(13,Aa (i64.wrap (k+(1:Int))))] [Ob.box (A8 e),Ob.arr true 0 (out.length+1) 1 λ(i:Nat)=>bif i.blt out.length then[Aa (out.getD i 0)]else(λ(i:Nat)=>List.take 1 (List.drop (i*1) [Aa y.fst])) (i-out.length)]))) (leO [Ob.arr true 0 out.length 1 (AO out)] hs'/\(VV.tup [VV.ow 0 0 out.length,Aa 0]).le r)):=kR
def Ab7 (r:Int×List Int×Int)(c:Int)(f:List D.Type)(l:List Int)(k:Int)(J:St->Prop):((fc CJ Rs f197 [] (.tup [Aa r.1,Ad true r.2.1,Aa r.2.2])).loop [1,1,1,1,1,1,1,0,1,0] J).goal (Qb c f l k) =
  (BB (decide (k<(↑l.length:Int))) (inX k l.length/\inX k f.length/\∃(y:Int),VC 43 [VV.agg (CW (f.getD k.toNat default)),Aa (l.getD k.toNat 0)] (Aa y)/\inX k l.length/\J (An [(7,Aa c),(9,AG true f),(10,VV.ow 0 0 l.length),(53,VV.ow 0 0 l.length),(54,Aa (↑l.length:Int)),(55,Aa (i64.wrap (k+(1:Int))))] [Ob.arr true 0 l.length 1 λ(j:Nat)=>bif j.beq k.toNat then[Aa y]else[Aa (l.getD j 0)]])) (LQ (VV.tup [Aa c,Ad true l,Aa 0]) (VV.tup [Aa r.fst,Ad true r.snd.fst,Aa r.snd.snd]))):=kR
def UZ (r:List Int×Int)(e:D.Env)(s:D.Stmt)(want:List Int)(k:Int)(J:St->Prop):((fc CJ Jg f210 [] (.tup [Ad true r.1,Aa r.2])).loop [1,1,0,1,0] J).goal (P9 e s want k) =
  (BB (decide (k<(↑s.Args.length:Int))) (inX k s.Args.length/\inX k s.Match.length/\BB (s.Match.getD k.toNat 0 != 1) (J (P9 e s want (i64.wrap (k+(1:Int))))) (∃(y:Int×Int),VC 124 [VV.agg (Ai e),Aa (s.Args.getD k.toNat 0)] (vII y)/\BB (y.snd != 0) (LQ (VV.tup [VV.nl,Aa y.snd]) (VV.tup [Ad true r.fst,Aa r.snd])) (inX k want.length/\J (An [(2,VV.bp 0 0),(3,VV.bp 1 0),(6,VV.ow 2 0 want.length),(16,Ad true s.Args),(17,Aa (↑s.Args.length:Int)),(18,Aa (i64.wrap (k+(1:Int))))] [Ob.box (Ai e),Ob.box (Ax s),Ob.arr true 0 want.length 1 λ(j:Nat)=>bif j.beq k.toNat then[Aa y.fst]else[Aa (want.getD j 0)]])))) (LQ (VV.tup [Ad true want,Aa 0]) (VV.tup [Ad true r.fst,Aa r.snd]))):=kR
def U5 (r:List Pn)(e:D.Env)(c:Int)(m:List Int)(out:List Pn)(k:Int)(J:St->Prop):((fc CJ Mj f209 [] (CI true r)).loop [1,1,0,1,0] J).goal (MC e c m out k) =
  (BB (decide (k<(↑e.S.Procs.length:Int))) (BB (k != e.Pid) (∃(y:List Pn),VC 222 [VV.agg [AG true e.M.Globals,Ad true e.M.Init,AJ true e.M.Shapes,Ad true e.M.Chans,AD true e.M.Procs,Aa e.M.Claim,AS true e.M.Exprs,Ad true e.S.Globals,AK true e.S.Chans,Av true e.S.Procs,Aa e.S.Last,Aa e.S.Alone,Aa e.S.Claim,Aa k,Ac e.Timeout,Bq true e.Able],Aa c,Ad true m] (CI true y)/\(out.length+y.length)*24<=140737488355328/\(∀(i:Nat),i<y.length->(FK y i).all VV.mem1=true)/\J (An [(1,Aa c),(2,Ad true m),(3,VV.bp 0 0),(7,VV.ow 1 0 (out.length+y.length)),(13,Aa (↑e.S.Procs.length:Int)),(14,Aa (i64.wrap (k+(1:Int))))] [Ob.box (Ai e),Ob.arr true 0 (out.length+y.length) 3 λ(i:Nat)=>bif i.blt out.length then FK out i else FK y (i-out.length)])) (J (MC e c m out (i64.wrap (k+(1:Int)))))) (LQ (CI true out) (CI true r))):=kR
def Aci (r:List Ab)(e:D.Env)(ws:List D.Trans)(self:Bool)(n:Nat)(F:Nat->List VV)(some:Bool)(k:Int)(J:St->Prop){a}(b:a=fc CJ Gj f147 [] (Ce true r)):((fc CJ Gj f147 [] (Ce true r)).loop [1,1,1,0,1,0] J).goal (TX e ws self n F some k) =
  (BB (decide (k<(↑ws.length:Int))) (inX k ws.length/\∃(y:Ab),VC 166 [.agg (Ai e),.agg (Ax (ws.getD k.toNat default).S),Ac self] (.agg (BE y))/\inX k n/\AB (a.loop [1,1,1,0,1,0] J) [1,1,0,0,1,1] (An [(1,Ao true ws),(2,Ac self),(3,.bp 0 0),(7,.ow 1 0 n),(8,Ac some),(9,Aa k),(16,Ao true ws),(17,Aa (↑ws.length:Int)),(18,Aa k)] [.box (Ai e),.arr true 0 n 3 λ(j:Nat)=>bif j.beq k.toNat then BE y else F j])) (AB a [1,1,1,1,0,1,0] (An [(7,.ow 0 0 n),(8,Ac some),(40,Ao true ws),(41,Aa (↑ws.length:Int)),(42,Aa 0)] [.arr true 0 n 3 F]))):=by subst b;kernel_rfl
def Acg (r:List Ab)(e:D.Env)(ws:List D.Trans)(self:Bool)(l:List Ab)(some:Bool)(i k:Int)(J:St->Prop):(((fc CJ Gj f147 [] (Ce true r)).loop [1,1,1,0,1,0] J).cut [1,1,0,0,1,1]).goal (TW e ws self l some i k) =
  (((true&&some==false)=true->inX i l.length)/\J (An [(1,Ao true ws),(2,Ac self),(3,VV.bp 0 0),(7,VV.ow 1 0 l.length),(8,Ac (bif some then true else(l.getD i.toNat default).is)),(16,Ao true ws),(17,Aa (↑ws.length:Int)),(18,Aa (i64.wrap (k+(1:Int))))] [Ob.box (Ai e),Ob.arr true 0 l.length 3 (Gt l)])):=kR
def Ach (r:List Ab)(ws:List D.Trans)(l:List Ab)(some:Bool)(k:Int)(J:St->Prop):((fc CJ Gj f147 [] (Ce true r)).loop [1,1,1,1,0,1,0] J).goal (MD ws l some k) =
  (BB (decide (k<(↑ws.length:Int))) (inX k ws.length/\BB (bif(ws.getD k.toNat default).S.Kind==7 then !some else false) (inX k l.length/\J (An [(7,VV.ow 0 0 l.length),(8,Ac some),(40,Ao true ws),(41,Aa (↑ws.length:Int)),(42,Aa (i64.wrap (k+(1:Int))))] [Ob.arr true 0 l.length 3 λ(j:Nat)=>bif j.beq k.toNat then[Ac true,Aa (l.getD k.toNat default).err,CI true (l.getD k.toNat default).wth]else BE (l.getD j default)])) (J (MD ws l some (i64.wrap (k+(1:Int)))))) (LQ (Ce true l) (Ce true r))):=kR
def X6 (r:Int)(l:List Ab)(k:Int)(J:St->Prop):((fc CJ N0 f230 [] (Aa r)).loop [1,0,1,0] J).goal (O5 l k) =
  (BB (decide (k<(↑l.length:Int))) (inX k l.length/\∃(y:Bool),VC 228 [VV.agg (BE (l.getD k.toNat default))] (Ac y)/\BB y (LQ (Aa k) (Aa r)) (J (O5 l (i64.wrap (k+(1:Int)))))) (LQ (Aa (-1)) (Aa r))):=kR
def X4 (r:Int)(l:List Wy)(w:Wy)(k:Int)(J:St->Prop){z1}(a:z1=l.getD k.toNat default):((fc CJ NZ f167 [] (Aa r)).loop [1,0,1,0] J).goal (O4 l w k) =
  (BB (decide (k<(↑l.length:Int))) (inX k l.length/\BB (w.Esc==z1.Esc&&(w.Way==z1.Way&&(w.With==z1.With&&(w.WithEsc==z1.WithEsc&&(w.WithWay==z1.WithWay&&(w.Err==z1.Err&&true)))))) (LQ (Aa k) (Aa r)) (J (O4 l w (i64.wrap (k+(1:Int)))))) (LQ (Aa (-1)) (Aa r))):=by subst a;kernel_rfl
def TG (r:List Pn)(e:D.Env)(c:Int)(m:List Int)(out:List Pn)(l:D.Loc)(k:Int)(J:St->Prop):((BL prog tb (shR e c m) KB true f144 (hsR e c m r) (.tup [])).loop [1,0,1,0] J).goal (KR e c m out l k) =
  (BB (decide (k<(↑l.Esc.length:Int))) (inX k l.Esc.length/\∃(y:List Pn×Bool),Ah prog 225 (hsR e c m out) [Aa k,Ao true (l.Esc.getD k.toNat []),VV.bp 0 0,VV.bp 1 0,VV.bp 2 0,VV.bp 3 0] (hsR e c m y.fst) (Ac y.snd)/\BB y.snd (leO (hsR e c m y.fst) (hsR e c m r)/\(VV.tup []).le (VV.tup [])) (J (KR e c m y.fst l (i64.wrap (k+(1:Int)))))) (∃(y:List Pn×Bool),Ah prog 225 (hsR e c m out) [Aa (-1),Ao true l.Out,VV.bp 0 0,VV.bp 1 0,VV.bp 2 0,VV.bp 3 0] (hsR e c m y.fst) (Ac y.snd)/\leO (hsR e c m y.fst) (hsR e c m r)/\(VV.tup []).le (VV.tup []))):=kR
def TD (r:List Wy)(e:D.Env)(out:List Wy)(l:D.Loc)(k:Int)(J:St->Prop):((BL prog tb (shW e) KA true f144 (hsW e r) (.tup [])).loop [1,0,1,0] J).goal (KQ e out l k) =
  (BB (decide (k<(↑l.Esc.length:Int))) (inX k l.Esc.length/\∃(y:List Wy×Bool),Ah prog 146 (hsW e out) [Aa k,Ao true (l.Esc.getD k.toNat []),VV.bp 0 0,VV.bp 1 0] (hsW e y.fst) (Ac y.snd)/\BB y.snd (leO (hsW e y.fst) (hsW e r)/\(VV.tup []).le (VV.tup [])) (J (KQ e y.fst l (i64.wrap (k+(1:Int)))))) (∃(y:List Wy×Bool),Ah prog 146 (hsW e out) [Aa (-1),Ao true l.Out,VV.bp 0 0,VV.bp 1 0] (hsW e y.fst) (Ac y.snd)/\leO (hsW e y.fst) (hsW e r)/\(VV.tup []).le (VV.tup []))):=kR
def Ab0 (r:List Pn)(b:Bool)(e:D.Env)(c:Int)(m:List Int)(out:List Pn)(i:Int)(ws:List D.Trans)(k:Int)(J:St->Prop){d}(f:d=(true&&decide ((↑out.length:Int) > 0)==false)):((fc CJ Rr f225 (hsR e c m r) (Ac b)).loop [1,0,1,0] J).goal (Qa e c m out i ws k) =
  (BB (decide (k<(↑ws.length:Int))) (inX k ws.length/\∃(y:Bool),VC 226 [.agg (Ai e),.agg (Ax (ws.getD k.toNat default).S),Aa c,Ad true m] (Ac y)/\BB y ((out.length+1)*24<=140737488355328/\J (An [(0,Aa i),(1,Ao true ws),(2,.bp 0 0),(3,.bp 1 0),(4,.bp 2 0),(5,.bp 3 0),(11,Ao true ws),(12,Aa (↑ws.length:Int)),(13,Aa (i64.wrap (k+(1:Int))))] [.box (Ai e),.box [Aa c],.box [Ad true m],.box [.ow 4 0 (out.length+1)],.arr true 0 (out.length+1) 3 λ(i_1:Nat)=>bif i_1.blt out.length then Mc (out.getD i_1 default)else(λ(i_2:Nat)=>List.take 3 (List.drop (i_2*3) [Aa e.Pid,Aa i,Aa k])) (i_1-out.length)])) (J (Qa e c m out i ws (i64.wrap (k+(1:Int)))))) (∃(y:List Ab),(d=true->VC 147 [.agg (Ai e),Ao true ws,Ac true] (Ce true y))/\∃(a:Bool),(d=true->VC 227 [Ce true y,.fn (Fn.func (nat_lit 228)) []] (Ac a))/\leO (hsR e c m out) (hsR e c m r)/\(Ac (bif decide ((↑out.length:Int) > 0)then true else a)).le (Ac b))):=by subst f;kernel_rfl
def Ab4 (r:List Wy)(b:Bool)(e:D.Env)(out:List Wy)(i:Int)(l:List Ab)(k:Int)(J:St->Prop){c}(d:c=[(0,Aa i),(3,VV.bp 1 0),(9,VV.bp 3 0),(14,Ce true l),(15,Aa (↑l.length:Int)),(16,Aa k),(39,CI true (l.getD k.toNat default).wth),(40,Aa (↑(l.getD k.toNat default).wth.length:Int)),(41,Aa 0)]){a}(f:a=[Aa i,Aa k,Aa (-1),Aa (-1),Aa (-1),Aa (l.getD k.toNat default).err]){g}(h:g=(fc CJ Hm f146 (hsW e r) (Ac b)).loop [1,0,1,0] J):((fc CJ Hm f146 (hsW e r) (Ac b)).loop [1,0,1,0] J).goal (IU e out i l k) =
  (BB (decide (k<(↑l.length:Int))) (inX k l.length/\BB (bif(l.getD k.toNat default).is then(↑(l.getD k.toNat default).wth.length:Int)==0 else false) ((out.length+1)*48<=140737488355328/\AB g [1,1,0,0,1,1,1,1,0] (An c [.box (Ai e),.box [.ow 2 0 (out.length+1)],.arr true 0 (out.length+1) 6 λ(i_1:Nat)=>bif i_1.blt out.length then A9 (out.getD i_1 default)else(λ(i_2:Nat)=>List.take 6 (List.drop (i_2*6) a)) (i_1-out.length),.box a])) (AB g [1,1,0,0,1,1,1,1,0] (An c [.box (Ai e),.box [.ow 2 0 out.length],.arr true 0 out.length 6 (JY out),.box a]))) (leO (hsW e out) (hsW e r)/\(Ac (decide ((↑out.length:Int) > 0))).le (Ac b))):=by subst d f h;kernel_rfl
def Ab3 (r:List Wy)(b:Bool)(e:D.Env)(out:List Wy)(i:Int)(l:List Ab)(k:Int)(w:Wy)(ps:List Pn)(j:Int)(J J2:St->Prop){a}(c:a=[Aa w.Esc,Aa w.Way,Aa (ps.getD j.toNat default).pid,Aa (ps.getD j.toNat default).esc,Aa (ps.getD j.toNat default).way,Aa w.Err]):(((fc CJ Hm f146 (hsW e r) (Ac b)).loop [1,0,1,0] J).loop [1,1,0,0,1,1,1,1,0] J2).goal (MB e out i l k w ps j) =
  (BB (decide (j<(↑ps.length:Int))) (inX j ps.length/\(out.length+1)*48<=140737488355328/\J2 (An [(0,Aa i),(3,.bp 1 0),(9,.bp 3 0),(14,Ce true l),(15,Aa (↑l.length:Int)),(16,Aa k),(39,CI true ps),(40,Aa (↑ps.length:Int)),(41,Aa (i64.wrap (j+(1:Int))))] [.box (Ai e),.box [.ow 2 0 (out.length+1)],.arr true 0 (out.length+1) 6 λ(i:Nat)=>bif i.blt out.length then A9 (out.getD i default)else(λ(i:Nat)=>List.take 6 (List.drop (i*6) a)) (i-out.length),.box a])) (J (IU e out i l (i64.wrap (k+(1:Int)))))):=by subst c;kernel_rfl
end Go.Proofs.YtedfjceonnoifaaGreatDoor
namespace Go.Proofs.YtedfjceonnoifaaGreatDoor
open Go.RowKit Go.Proofs.Tryz
open IntKind(i64)
structure CY (e:D.Env):Prop where
 ok:Cf e
 p0:0<=e.Pid
section
variable {e : D.Env}
def AeF (b:AI e.M)(h:He e=0):CY e:=by
 unfold He at h;cases a:decide (B4 e.M e.S≠0)with
 | true=>grind
 | false =>
  rw[a,ApW]at h;obtain⟨h1,h2⟩:=Me (show B4 e.M e.S=0 by simpa using a);cases c:(decide (e.Pid<0)||decide ((e.S.Procs.length:Int)<=e.Pid))with
  | true=>grind
  | false =>
   simp only[Aql,Aqz]at c;exact⟨⟨h2,h1,b,oM,oM⟩,oM⟩
def CY.small (h:CY e):BH e.S:=h.ok.fit.small
def CY.lt (h:CY e):e.Pid.toNat<e.S.Procs.length:=by have:=h.ok.pid;have:=h.p0;omega
def CY.mem (h:CY e):Ep e e.Pid∈e.S.Procs:=As h.lt
def CY.facts (h:CY e):(0<=(Ep e e.Pid).Type_/\(Ep e e.Pid).Type_<e.M.Procs.length)/\(0<=(Ep e e.Pid).Loc/\(Ep e e.Pid).Loc<(D7 e).Locs.length) :=
 let hp:=DE (h.ok.proc h.mem);⟨hp.1,hp.2.1⟩
def CY.wproc (h:CY e):Hy (D7 e):=h.ok.wf.Procs.2 _ (As (by have:=h.facts.1;omega))
def CY.wloc (h:CY e):HR (DF e):=h.wproc.Locs.2 _ (As (by have:=h.facts.2;omega))
def Vb (a:AI e.M)(hs:BH e.S):Ah prog 149 [] [.agg (Ai e)] [] (Aa (He e)):=by
 refine Ap func149 (AjB _ e) ⟨_,Dx a hs (λh=>(EN h).clp),λh=>Bj (ct (by simpa using h) rfl),λh=>⟨λh1=>Bj (cf (by simpa using h) (ct ?_ rfl)),λh1=>Bj (cf (by simpa using h) (cf ?_ rfl))⟩⟩
 .grind
 grind
def KK (h:CY e):Ah prog 145 [] [.agg (Ai e)] [] (.agg (AT (DF e))) :=
 Ap func145 (Aft _ e rfl) ⟨⟨h.p0,h.ok.pid.2⟩,h.facts.1,h.facts.2,trivial,lR⟩
def PD (h:CY e):Ah prog 141 [] [.agg (Ai e)] [] (.agg (A2 (D7 e))) :=
 Ap func141 (Ab2 _ e) ⟨⟨h.p0,h.ok.pid.2⟩,h.facts.1,trivial,lR⟩
def IL {x:Int}(h:0<=x->x<e.M.Exprs.length):Ah prog 168 [] [.agg (Ae e.M),Aa x] [] (Ac (El e x)):=by
 refine Ap func168 (AbX _ e.M x) ⟨λa=>?_,AA ?_⟩
 .grind
 .unfold El AC;rw[BU,ieq]
def PB:Ah prog 186 [] [.agg (Ai e)] [] (.agg (BE (Oy e))):=by
 refine Ap func186 (AbY _ e) ⟨trivial,Aq2 ⟨AqV ?_,lR,Aqy,trivial⟩⟩;have:decide ((e.S.Procs.length:Int)<16)=decide (e.S.Procs.length<16):=gD
 rw[this]<;>rfl
def PE {err:Int}:Ah prog 142 [] [Aa err] [] (.agg (A9 (Lw err))) :=
 Ap func142 (Ab5 _ err) ⟨trivial,lR⟩
def AbT {l:D.Loc}{esc i:Int}(h1:esc<0->0<=i/\i<l.Out.length)(h2:0<=esc->esc<l.Esc.length/\0<=i/\i<(l.Esc.getD esc.toNat []).length) :
  Ah prog 152 [] [.agg (AT l),Aa esc,Aa i] [] (.agg (Cn ((bif decide (esc<0)then l.Out else l.Esc.getD esc.toNat []).getD i.toNat default))):=by
 refine Ap func152 (Afp _ l esc i) ⟨λh=>⟨h1 (by simpa using h),trivial,?_⟩,λh=>?_⟩
 .rw[h,ApY];exact lR
 .have h0:0<=esc:=by simpa using h
  refine⟨⟨h0,(h2 h0).1⟩,(h2 h0).2,trivial,?_⟩;rw[h,ApW];exact lR
def Oa {ev:Evl}{out:List Int}{x:Int}{l:List Int}:Jz ev out (x::l)=bif decide ((ev x).2≠0)then([],(ev x).2)else Jz ev (out++[(ev x).1]) l:=rfl
def Vc {l:List Int}{hs':List Ob}{r:VV}(c:∀x∈l,Ah prog 124 [] [.agg (A8 e),Aa x] [] (vII (Bh e x)))(q:l.length<=1048576)
  (h1:∀er,B8 e l=([],er)->er≠0->leO [] hs'/\VV.le (.tup [.nl,Aa er]) r) (h2:∀out,B8 e l=(out,0)->leO [.arr true 0 out.length 1 (AO out)] hs'/\VV.le (.tup [.ow 0 0 out.length,Aa 0]) r) :
  Ah prog 171 [] [.agg (A8 e),Ad true l] hs' r:=by
 refine Ap func171 (Afv hs' r e l) ?_;refine AB.own 1 6 1 (AO []) rfl ?_;change AB _ _ (TY e l [] 0);refine Aq (λg st=>∃(k:Nat)(out:List Int),k<=l.length/\g=l.length-k/\out.length<=k/\Jz (Bh e) out (l.drop k)=B8 e l/\st=TY e l out k) ⟨_,Up.of ⟨0,[],Ap3 _,rfl,Ap3 _,rfl,rfl⟩⟩ ?_;rintro g st ⟨k,out,s,rfl,t,h,rfl⟩;refine Aqh (Acj hs' r e l out k _) ⟨λj=>?_,λm=>?_⟩
 .have a:k<l.length:=by have:=AZ j;omega
  have o:(k:Int).toNat=k:=oM
  rw[o];rw[A5 (d:=0) a,Oa]at h;refine⟨⟨oM,oM⟩,Bh e (l.getD k 0),c _ (As a),λp=>?_,λp=>⟨oM,l.length-(k+1),oM,Up.mk (hs':=[.box (A8 e),.arr true 0 (out.length+1) 1 (AO (out++[(Bh e (l.getD k 0)).1]))]) (AR _) ⟨Ob.le_refl _,Aqm λi hi=>AL (BO (f:=λn=>[Aa n]) (d:=0) (l:=out) (r:=[(Bh e (l.getD k 0)).1]) (F:=λi=>[.sc (.int .i64 (out.getD i 0))]) (λ_ _=>rfl) HB (by simp;omega)),trivial⟩ ⟨k+1,out++[(Bh e (l.getD k 0)).1],oM,rfl,by simp;omega,?_,?_⟩⟩⟩
  .grind
  .grind
  .rw[Al oM];unfold TY;simp_all
 .have b:l.length<=k:=by have:=AW m;omega
  rw[Aqk b]at h;exact h2 out h.symm
def Np {l:List Int}(a:∀x∈l,Ah prog 124 [] [.agg (A8 e),Aa x] [] (vII (Bh e x)))(d:l.length<=1048576) :
  Ah prog 171 [] [.agg (A8 e),Ad true l] [.arr true 0 (B8 e l).1.length 1 (AO (B8 e l).1)] (.tup [.ow 0 0 (B8 e l).1.length,Aa (B8 e l).2]):=by
 rcases c:B8 e l with⟨out,er⟩
 by_cases f:er=0
 .subst f;refine Vc a d (λer' h g=>?_) λout' h=>?_
  .grind
  .rw[c]at h;obtain rfl:out=out':=congrArg Prod.fst h;exact⟨⟨Ob.le_refl _,trivial⟩,lR⟩
 .have b:out=[]:=by
   have key:∀(l:List Int)(o:List Int),(Jz (Bh e) o l).2≠0->(Jz (Bh e) o l).1=[]:=by
    intro l
    induction l with
    | nil=>intro o h;exact absurd rfl h
    | cons x l ih =>
     intro o h;rw[Oa]at h |-;grind
   have:=key l [] (by have:Jz (Bh e) [] l=(out,er):=c;rw[this];exact f);have i:Jz (Bh e) [] l=(out,er):=c;rw[i]at this;exact this
  subst b;have h:=Vc (hs':=[]) (r:=.tup [.nl,Aa er]) a d (λer' h g=>?_) λout' h=>?_
  .exact h.ownR 0 rfl 1 (AO [])
  .rw[c]at h;obtain rfl:er=er':=congrArg Prod.snd h;exact⟨trivial,lR⟩
  grind
end
def Ba {x:VV}(a:x.mem=true):P2 x x:=λ_ E _ h B =>
 (h.mem (E':=⟨E.fz,B,0,[]⟩) (m':=none) a rfl).less (λ_ h=>h.elim) λ_ h=>h
def Ic:∀{l:List VV},l.all VV.mem=true->JN l l
 | [],_=>trivial
 | x::l,h=>by
  simp only[Aru,ApX]at h;exact⟨Ba h.1,Ic h.2⟩
def Mz {e:D.Env}:P2 (.agg (A8 e)) (.agg (Ai e)) :=
 Vv ⟨Ba rfl,Ba rfl,Ba rfl,Ba rfl,Ba rfl,Ba rfl,Ba rfl,Ba rfl,O2 λ_ _=>Ic rfl,O2 λ_ _=>Ic rfl,Ba rfl,Ba rfl,Ba rfl,Ba rfl,Ba rfl,Ba rfl,trivial⟩
theorem Ali {e:D.Env}:leS (.agg (Ai e)) (.agg (A8 e)):=by
 refine UC rfl λj x y a c=>?_
 rcases AqF j 16 with b|b
 .rcases(show j=0\/j=1\/j=2\/j=3\/j=4\/j=5\/j=6\/j=7\/j=8\/j=9\/j=10\/j=11\/j=12\/j=13\/j=14\/j=15 by omega)with rfl|rfl|rfl|rfl|rfl|rfl|rfl|rfl|rfl|rfl|rfl|rfl|rfl|rfl|rfl|rfl <;>
   (obtain rfl:=Aqi a;obtain rfl:=Aqi c;first | exact Dz _ | exact Kg)
 .rw[Arb (by show(16:Nat)<=j;exact b)]at a;cases a
section
variable {e : D.Env}
def Re (b:AI e.M)(hs:BH e.S)(x:Int):Ah prog 124 [] [.agg (A8 e),Aa x] [] (vII (Bh e x)) :=
 (Hf b hs x).thaw (K4 λx a=>by
  simp only[AqI,List.not_mem_nil,or_false]at a;rcases a with rfl|rfl<;>exact J8) ⟨Mz,O3,trivial⟩
def An8 (b:AI e.M)(hs:BH e.S)(x:Int):Ah prog 208 [] [.agg (A8 e),Aa x] [] (vII (AU e x)) :=
 (Ja b hs x).thaw (K4 λx a=>by
  simp only[AqI,List.not_mem_nil,or_false]at a;rcases a with rfl|rfl<;>exact J8) ⟨Mz,O3,trivial⟩
def Ko (t:D.Type)(v:Int):Ah prog 43 [] [.agg (CW t),Aa v] [] (Aa (Iz t v)):=by
 refine Ah.hand ⟨_,func43,rfl,kR⟩ λw E vs g h hB _ c=>?_
 obtain⟨i,us1,rfl,d,c⟩:=c.cons_inv;obtain⟨j,us2,rfl,v2,c⟩:=c.cons_inv;obtain rfl:=c.nil_inv;obtain⟨a,b,rfl,va,vb⟩:=d.agg2_inv;rw[va.sc_inv,vb.sc_inv,v2.sc_inv];refine(ApH t.Bits v t.Signed w).mono ?_;rintro r w' ⟨rfl,f⟩;exact⟨_,rfl,.sc,f⟩
structure Al0 (e:D.Env) (n:Int):Prop where
 ok:Cf e
 lo:1<=n
 hi:n<=e.S.Chans.length
 le:e.S.Chans.length<=32
 sh:0<=(CM e n).Shape/\(CM e n).Shape<e.M.Shapes.length
 q:(CM e n).Queue.length<=16
theorem Ks (g:AI e.M){x:Int}(h:(AU e x).2=0):Al0 e (AU e x).1:=by
 unfold AU at h |-;cases c:decide (De e x≠0)with
 | true=>grind
 | false =>
  rw[c,ApW]at h;rw[ApW];obtain⟨b,_,_⟩:=Mb (x:=x) g (by simpa using c);have d:=UP b (a:=x) (by simpa using h);generalize(D0 e (Tn e e.M.Exprs.length) x).1=n at d |-;have f:CM e n∈e.S.Chans:=As oM;exact⟨b,d.1,d.2.1,d.2.2,(FT (b.chan f)).1,(b.fit.q _ f).1⟩
def G9 {a b:Nat}:((a:Int) != (b:Int))=decide (a≠b):=gD
def Aph {a c:Int}{l:List Int}{r:Int×List Int×Int}(h:(a,l,c)=r):leO [] []/\VV.le (.tup [.sc (.int .i64 a),Ad true l,.sc (.int .i64 c)]) (.tup [.sc (.int .i64 r.1),Ad true r.2.1,.sc (.int .i64 r.2.2)]):=by
 subst h;exact⟨trivial,lR⟩
def ZC {a c:Int}{r:Int×List Int×Int}(h:(a,[],c)=r):leO [] []/\VV.le (.tup [.sc (.int .i64 a),.nl,.sc (.int .i64 c)]) (.tup [.sc (.int .i64 r.1),Ad true r.2.1,.sc (.int .i64 r.2.2)]):=by
 subst h;exact⟨trivial,Arq ⟨lR,Aqy,lR,trivial⟩⟩
def RE {l:List Int}(h:(B8 e l).2=0):(B8 e l).1.length=l.length:=by
 have key:∀(l o:List Int),(Jz (Bh e) o l).2=0->(Jz (Bh e) o l).1.length=o.length+l.length:=by
  intro l
  induction l with
  | nil=>intro o _;rfl
  | cons x l ih =>
   intro o h;rw[Oa]at h |-;grind
 have:=key l [] h;simpa[B8]using this
def Kp (f:List D.Type)(l:List Int)(k:Nat):List Int:=(List.range l.length).map λi=>if i<k then Iz (f.getD i default) (l.getD i 0)else l.getD i 0
theorem Lc {f:List D.Type}{l:List Int}{k:Nat}:(Kp f l k).length=l.length:=by simp[Kp]
def Ld {f:List D.Type}{l:List Int}{k i:Nat}(hi:i<l.length):(Kp f l k).getD i 0=if i<k then Iz (f.getD i default) (l.getD i 0)else l.getD i 0:=by simp[Kp,List.getD,hi]
def Z0 {f:List D.Type}{l:List Int}:Kp f l 0=l:=by
 apply List.ext_getElem (by simp[Kp]);intro i h1 h2;simp[Kp,List.getD,h2]
theorem Aez {f:List D.Type}{l:List Int}:Kp f l l.length=OT f l:=by
 unfold Kp OT;simp_all
def PF {s:D.Stmt}(p:AI e.M)(hs:BH e.S)(w:s.Args.length<=1048576) :
  Ah prog 197 [] [.agg (A8 e),.agg (Ax s)] [] (.tup [Aa (AM e s).1,Ad true (AM e s).2.1,Aa (AM e s).2.2]):=by
 have a:AM e s=bif decide ((AU e s.A).2≠0)then(0,[],(AU e s.A).2)
  else bif decide ((Bu e (AU e s.A).1).length≠s.Args.length)then(0,[],49)
  else bif decide ((B8 e s.Args).2≠0)then(0,[],(B8 e s.Args).2)
  else((AU e s.A).1,OT (Bu e (AU e s.A).1) (B8 e s.Args).1,0):=rfl
 generalize AM e s=r at a;refine Ap func197 (Afs r e s rfl rfl) ⟨AU e s.A,An8 p hs s.A,λh=>ZC ?_,λh=>?_⟩
 .grind
 have h0:(AU e s.A).2=0:=by simpa using h
 rw[h0]at a;have d:=Ks p h0;generalize(AU e s.A).1=n at d a |-;have h1:=d.lo;have h2:=d.hi;have h3:=d.le;rw[BY oM oM];refine⟨oM,d.sh,λb=>ZC ?_,λb=>⟨B8 e s.Args,Np (λx _=>Re p hs x) w,λq=>ZC ?_,λq=>?_⟩⟩
 .rw[G9]at b;rw[a];have:decide ((Bu e n).length≠s.Args.length)=true:=b;rw[this]<;>rfl
 .rw[G9]at b;rw[a,show decide ((Bu e n).length≠s.Args.length)=false from b,show decide ((B8 e s.Args).2≠0)=true by simpa using q]<;>rfl
 rw[G9]at b;have j:(B8 e s.Args).2=0:=by simpa using q
 have m:=RE j;rw[show decide ((Bu e n).length≠s.Args.length)=false from b,j]at a;have t:(Bu e n).length=s.Args.length:=Classical.not_not.1 (Aqr b);change AB _ _ (An [(7,Aa n),(9,AG true (Bu e n)),(10,.ow 0 0 (B8 e s.Args).1.length),(53,.ow 0 0 (B8 e s.Args).1.length),(54,Aa (B8 e s.Args).1.length),(55,Aa 0)] [.arr true 0 (B8 e s.Args).1.length 1 (AO (B8 e s.Args).1)]);generalize Bu e n=f at a t |-;generalize(B8 e s.Args).1=l at a m |-;change r=(n,OT f l,0)at a;refine Aq (λg st=>∃k:Nat,k<=l.length/\g=l.length-k/\st=Qb n f (Kp f l k) k) ⟨_,Up.of ⟨0,Ap3 _,rfl,by unfold Qb;rw[Z0]<;>rfl⟩⟩ ?_;rintro g st ⟨k,B,rfl,rfl⟩;refine Aqh (Ab7 r n f _ k _) ⟨λo=>?_,λy=>Aph ?_⟩
 .rw[Lc]at o;have c:k<l.length:=by have:=AZ o;omega
  have u:(k:Int).toNat=k:=oM
  rw[u,Lc,Ld c,Aqs (Ar3 _)];refine⟨oM,oM,Iz (f.getD k default) (l.getD k 0),Ko _ _,oM,l.length-(k+1),oM,Up.mk (hs':=[.arr true 0 l.length 1 (AO (Kp f l (k+1)))]) (AR _) ⟨Aqm λi hi=>AL ?_,trivial⟩ ⟨k+1,oM,rfl,?_⟩⟩
  .by_cases v:i=k
   .subst v;simp only[AqM,ApY];unfold AO;rw[Ld c,AqH (Aq3 _)]<;>rfl
   .have z:Nat.beq i k=false:=by grind[Ap0]
    simp only[z,ApW];unfold AO;rw[Ld hi,Ld hi]
    by_cases h:i<k
    .grind
    .rw[Aqs h,Aqs oM]<;>rfl
  .rw[Al oM];unfold Qb;rw[Lc]<;>rfl
 grind[Lc,AW,Aez]
def Ab6 {s:D.Stmt}(a:AI e.M)(hs:BH e.S)(b:s.Args.length<=1048576) :
  Ah prog 197 [] [.agg (Ai e),.agg (Ax s)] [] (.tup [Aa (AM e s).1,Ad true (AM e s).2.1,Aa (AM e s).2.2]) :=
 (PF a hs b).frz rfl λj x y c d=>by grind[Aqi,Ali,Dz]
end
def Api {c:Int}{l:List Int}{r:List Int×Int}(h:(l,c)=r):leO [] []/\VV.le (.tup [Ad true l,.sc (.int .i64 c)]) (.tup [Ad true r.1,.sc (.int .i64 r.2)]):=by
 subst h;exact⟨trivial,lR⟩
def AnV {c:Int}{r:List Int×Int}(h:([],c)=r):leO [] []/\VV.le (.tup [.nl,.sc (.int .i64 c)]) (.tup [Ad true r.1,.sc (.int .i64 r.2)]):=by
 subst h;exact⟨trivial,Arq ⟨Aqy,lR,trivial⟩⟩
section
variable {e : D.Env}
def Oh {s:D.Stmt}(p:AI e.M)(hs:BH e.S)(v:s.Args.length<=1048576)(w:s.Match.length=s.Args.length) :
  Ah prog 210 [] [.agg (Ai e),.agg (Ax s)] [] (.tup [Ad true (Dr e s).1,Aa (Dr e s).2]):=by
 have b:Dr e s=bif decide (Fh (Bh e) s.Args s.Match s.Args.length≠0)then([],Fh (Bh e) s.Args s.Match s.Args.length)else(Ns (Bh e) s.Args s.Match,0):=rfl
 generalize Dr e s=r at b;generalize f:Bh e=ev at b;have q:∀x,Ah prog 124 [] [.agg (Ai e),Aa x] [] (vII (ev x)):=λx=>by rw[<- f];exact Hf p hs x
 refine Ap func210 (XR r e s rfl rfl) ⟨⟨oM,oM,oM⟩,?_⟩;refine Aq (λgg st=>∃k:Nat,k<=s.Args.length/\gg=s.Args.length-k/\(∀i,i<k->(EP ev (s.Args.getD i 0) (s.Match.getD i 0)).2=0)/\st=P9 e s (Ci ev s.Args s.Match k) k)
  ⟨s.Args.length,Up.mk (l':=[(2,.bp 0 0),(3,.bp 1 0),(6,.ow 2 0 (Ci ev s.Args s.Match 0).length),(16,Ad true s.Args),(17,Aa s.Args.length),(18,Aa ((0:Nat):Int))])
   (hs':=[.box (Ai e),.box (Ax s),.arr true 0 (Ci ev s.Args s.Match 0).length 1 (AO (Ci ev s.Args s.Match 0))]) ?_ ?_ ⟨0,Ap3 _,rfl,λi hi=>oM,rfl⟩⟩ ?_
 .rw[CN];exact AR _
 .rw[CN];refine⟨Ob.le_refl _,Ob.le_refl _,Aqm λi hi=>AL ?_,trivial⟩;have c:AO (Ci ev s.Args s.Match 0) i=[Aa 0]:=by
   unfold AO;rw[FF oM,Aqs (AqL _)]
  refine Eq.trans ?_ c.symm;rfl
 .rintro gg st ⟨k,y,rfl,m,rfl⟩;refine Aqh (UZ r e s _ k _) ⟨λg=>?_,λh=>Api ?_⟩
  .have n:k<s.Args.length:=by have:=AZ g;omega
   have j:(k:Int).toNat=k:=oM
   rw[j];refine⟨oM,oM,λl=>?_,λl=>⟨ev (s.Args.getD k 0),q _,λc=>AnV ?_,λc=>⟨by rw[CN];omega,?_⟩⟩⟩
   .rw[AY]at l;have h1:=Aqb l;have hv:EP ev (s.Args.getD k 0) (s.Match.getD k 0)=(0,0):=by unfold EP;grind
    have t:Ci ev s.Args s.Match k=Ci ev s.Args s.Match (k+1):=by
     unfold Ci;grind
    rw[t,Al oM];exact⟨s.Args.length-(k+1),oM,Up.of gD⟩
   .have a:decide (s.Match.getD k 0=1)=true:=gD
    have hv:EP ev (s.Args.getD k 0) (s.Match.getD k 0)=ev (s.Args.getD k 0):=by unfold EP;rw[a]<;>rfl
    have u:(EP ev (s.Args.getD k 0) (s.Match.getD k 0)).2≠0:=by rw[hv];simpa using c
    have o:Fh ev s.Args s.Match s.Args.length=(ev (s.Args.getD k 0)).2:=by
     unfold Fh;grind[Ra]
    grind
   .have a:decide (s.Match.getD k 0=1)=true:=gD
    have hv:EP ev (s.Args.getD k 0) (s.Match.getD k 0)=ev (s.Args.getD k 0):=by unfold EP;rw[a]<;>rfl
    have h2:(ev (s.Args.getD k 0)).2=0:=by simpa using c
    rw[Al oM];refine⟨s.Args.length-(k+1),oM,Up.mk (l':=[(2,.bp 0 0),(3,.bp 1 0),(6,.ow 2 0 (Ci ev s.Args s.Match (k+1)).length),(16,Ad true s.Args),(17,Aa s.Args.length),(18,Aa ((k+1:Nat):Int))])
     (hs':=[.box (Ai e),.box (Ax s),.arr true 0 (Ci ev s.Args s.Match (k+1)).length 1 (AO (Ci ev s.Args s.Match (k+1)))]) ?_ ?_ ⟨k+1,oM,rfl,ET m (by rw[hv];exact h2),rfl⟩⟩
    .grind[CN,AR]
    .rw[CN,CN];refine⟨Ob.le_refl _,Ob.le_refl _,Aqm λi hi=>AL ?_,trivial⟩;show(bif i.beq k then[Aa (ev (s.Args.getD k 0)).1]else[Aa ((Ci ev s.Args s.Match k).getD i 0)])=[Aa ((Ci ev s.Args s.Match (k+1)).getD i 0)];rw[FF hi,FF hi];cases b:i.beq k with
     | true =>
      simp_all
     | false =>
      have:i≠k:=Nat.ne_of_beq_eq_false b;rw[ApW]
      by_cases d:i<k
      .grind
      .rw[Aqs d,Aqs oM]
  .obtain rfl:k=s.Args.length:=by have:=AW h;omega
   have o:Fh ev s.Args s.Match s.Args.length=0:=Lg m;rw[b,o,PP]<;>rfl
def Xd {c:D.Chan}{l mt:List Int}{any:Bool}(d:Len c.Queue.length)(f:Len mt.length):Ah prog 204 [] [.agg (Ay c),Ad true l,Ad true mt,Ac any] [] (Aa (Kq c l mt any)) :=
 (Tg d f).frz rfl λj x y a b=>by
  match j,a,b with
  | 0,a,b=>grind[Aqi,Dz]
  | 1,a,b=>obtain rfl:=Aqi a;obtain rfl:=Aqi b;exact Kg
  | 2,a,b=>grind[Aqi,Dz]
  | 3,a,b=>grind[Aqi,Dz]
  | j+4,a,_=>simp at a
def Oj {s:D.Stmt}(f:AI e.M)(hs:BH e.S)(i:s.Args.length<=1048576)(j:s.Match.length=s.Args.length) :
  Ah prog 188 [] [.agg (Ai e),.agg (Ax s)] [] (LK (Bp e s)):=by
 have b:Bp e s=bif decide ((AU e s.A).2≠0)then(0,-1,(AU e s.A).2)
  else bif decide ((Bu e (AU e s.A).1).length≠s.Args.length)then(0,-1,49)
  else bif decide ((Dr e s).2≠0)then(0,-1,(Dr e s).2)
  else((AU e s.A).1,Kq (CM e (AU e s.A).1) (Dr e s).1 s.Match (decide (s.N.tmod 2=1)),0):=rfl
 generalize Bp e s=r at b;refine Ap func188 (X8 r e s rfl) ⟨AU e s.A,Ja f hs s.A,λh=>M3 ?_,λh=>?_⟩
 .grind
 have h0:(AU e s.A).2=0:=by simpa using h
 rw[h0]at b;have d:=Ks f h0;generalize(AU e s.A).1=n at d b |-;have h1:=d.lo;have h2:=d.hi;have h3:=d.le;have h4:=d.q;rw[BY oM oM];refine⟨oM,d.sh,λa=>M3 ?_,λa=>⟨Dr e s,Oh f hs i j,λg=>M3 ?_,λg=>⟨oM,dZ,Kq (CM e n) (Dr e s).1 s.Match (s.N.tmod 2==1),Xd (c:=CM e n) (by unfold Len;omega) (by unfold Len;omega),M3 ?_⟩⟩⟩
 .rw[G9]at a;rw[b,show decide ((Bu e n).length≠s.Args.length)=true from a]<;>rfl
 .rw[G9]at a;rw[b,show decide ((Bu e n).length≠s.Args.length)=false from a,show decide ((Dr e s).2≠0)=true by simpa using g]<;>rfl
 .rw[G9]at a;rw[b,show decide ((Bu e n).length≠s.Args.length)=false from a,show decide ((Dr e s).2≠0)=false by simpa using g,ieq]<;>rfl
def AjA {s:D.Stmt}(b:AI e.M)(hs:BH e.S)(c:s.Args.length<=1048576)(d:s.Match.length=s.Args.length) :
  Ah prog 188 [] [.agg (A8 e),.agg (Ax s)] [] (LK (Bp e s)) :=
 (Oj b hs c d).thaw (K4 λx a=>by
  simp only[AqI,List.not_mem_nil,or_false]at a;rcases a with rfl|rfl|rfl<;>exact J8) ⟨Mz,Vv ⟨Ba rfl,Ba rfl,Ba rfl,Ba rfl,Ba rfl,Ba rfl,Ba rfl,trivial⟩,trivial⟩
def U0 {s:D.Stmt}{c:Int}{m:List Int}(d:AI e.M)(hs:BH e.S)(f:s.Args.length<=1048576)(g:s.Kind=6->s.Match.length=s.Args.length) :
  Ah prog 226 [] [.agg (Ai e),.agg (Ax s),Aa c,Ad true m] [] (Ac (GX e s c m)):=by
 have j:GX e s c m=bif decide (s.Kind≠6)||(decide (1<s.N)||decide (s.Args.length≠m.length))then false
  else bif decide ((AU e s.A).2≠0)||decide ((AU e s.A).1≠c)then false
  else bif decide ((Dr e s).2≠0)then false else decide (Kq ⟨0,[m]⟩ (Dr e s).1 s.Match false=0):=rfl
 generalize GX e s c m=b at j;have k:(bif bif s.Kind != (6:Int)then true else decide (s.N > (1:Int))then true else(s.Args.length:Int) != (m.length:Int))=(decide (s.Kind≠6)||(decide (1<s.N)||decide (s.Args.length≠m.length))):=gD
 refine Ap func226 (XS b e s c m) ⟨λh=>AA ?_,λh=>⟨AU e s.A,Ja d hs s.A,λh2=>AA ?_,λh2=>?_⟩⟩
 .grind
 .grind
 .rw[k]at h;rw[B6,AY,AY]at h2;have n:s.Kind=6:=gD
  have a:=g n;refine⟨Dr e s,Oh d hs f a,Kq ⟨0,[m]⟩ (Dr e s).1 s.Match false,λ_=>?_,AA ?_⟩
  .have o:=Xd (c:=⟨0,[m]⟩) (l:=(Dr e s).1) (mt:=s.Match) (any:=false) (by unfold Len;simp) (by unfold Len;omega);refine o.le trivial ⟨Aq2 ⟨lR,AqY (.inl rfl) λi hi=>AL ?_,trivial⟩,lR,lR,lR,trivial⟩ trivial lR;grind
  grind
def PC (h:CY e):Ah prog 143 [] [.agg (Ai e)] [] (.tup [Ac (BK e).1,Aa (BK e).2]):=by
 have a:BK e=bif decide ((D7 e).Provided<0)then(true,0)else(decide ((Bh e (D7 e).Provided).1≠0),(Bh e (D7 e).Provided).2):=rfl
 generalize BK e=r at a;refine Ap func143 (Ab1 r e) ⟨D7 e,PD h,λh1=>⟨trivial,?_⟩,λh1=>⟨Bh e (D7 e).Provided,Hf h.ok.wf h.small _,trivial,?_⟩⟩
 .rw[a,h1];exact lR
 simp_all[AY,VV.le_refl]
end
def Oo {n:Nat}:∀{ws:List (List D.Trans)} {many k many':Nat},IP n many k ws=some many'->∀w∈ws,w.length<=1024/\∀t∈w,inP n t.To=true
 | [],_,_,_,_,w,a=>by cases a
 | v::r,many,k,many',h,w,a=>by
  unfold IP at h;cases g:(decide (0<k)&&decide (v.length=0))with
  | true=>grind
  | false =>
  cases b:decide (1024<many+v.length)with
  | true=>grind
  | false =>
  cases c:EH v.length (λi=>inP n (v.getD i default).To)with
  | false=>grind
  | true =>
   rw[g,b,c,ApW,ApW,ApY]at h;rcases AqI.1 a with rfl|a
   .have:=Aqr b;exact⟨oM,(Cz (d:=default) (f:=λt:D.Trans=>inP n t.To)).1 c⟩
   .exact Oo h w a
def QT {n:Nat}{final:Int}:∀{ls:List D.Loc}{many i:Nat},Kd n final many i ls=true->∀l∈ls,∀w∈Dg l,w.length<=1024/\∀t∈w,inP n t.To=true
 | [],_,_,_,l,a,_,_=>by cases a
 | v::r,many,i,h,l,a,w,hw=>by
  unfold Kd at h;cases c:Uz final i v with
  | true=>grind
  | false =>
   rw[c,ApW]at h;cases b:IP n many 0 (Dg v)with
   | none=>rw[b]at h;cases h
   | some many' =>
    rw[b]at h;rcases AqI.1 a with rfl|a
    .exact Oo b w hw
    .exact QT h l a w hw
def Q2 {p:D.Proc}(h:E3 p=true):∀l∈p.Locs,∀w∈Dg l,w.length<=1024/\∀t∈w,inP p.Locs.length t.To=true:=by
 unfold E3 at h;simp only[ApX]at h;exact QT h.2
def Ag0 {m:D.Model}(h:E0 m=true)(i:Nat)(hi:i<m.Procs.length):D8 m i=true:=by
 obtain⟨_,_,h3⟩:=CB h;exact Hk (f:=λi:Nat=>D8 m i) (by unfold J6 at h3;omega) i hi
def AfE {m:D.Model}(h:E0 m=true){i:Nat}(hi:i<m.Procs.length){l:D.Loc}(a:l∈(m.Procs.getD i default).Locs){w:List D.Trans}(b:w∈Dg l){t:D.Trans}(c:t∈w):Nr m i t.S=true:=by
 have h1:=Ag0 h i hi;unfold D8 at h1;simp only[ApX]at h1;have h2:=(Cz (d:=default) (f:=λl:D.Loc=>WN m i l)).1 h1.1 l a;unfold WN at h2;have h3:=(Cz (d:=[]) (f:=λw=>LM m i w)).1 h2 w b;unfold LM at h3;exact(Cz (d:=default) (f:=λt:D.Trans=>Nr m i t.S)).1 h3 t c
structure E7 (m:D.Model) (s:D.Stmt):Prop where
 st:AX m s=true
 wf:TJ s
def E7.args {m:D.Model}{s:D.Stmt}(h:E7 m s):s.Args.length<=1048576:=h.wf.Args.1
def E7.k1 {m:D.Model}{s:D.Stmt}(h:E7 m s)(a:s.Kind=1):0<=s.A/\s.A<m.Exprs.length:=by
 have:=h.st;unfold AX at this;rw[AqH (.inl a)]at this;simp only[ApX]at this;exact Cd.1 this.1.1
def E7.k2 {m:D.Model}{s:D.Stmt}(h:E7 m s)(a:s.Kind=2):0<=s.B/\s.B<m.Exprs.length:=by
 have:=h.st;unfold AX at this;rw[Aqs oM,AqH a]at this;simp only[ApX]at this;exact Cd.1 this.1.2
def E7.k6 {m:D.Model}{s:D.Stmt}(h:E7 m s)(a:s.Kind=6):s.Match.length=s.Args.length:=by
 have:=h.st;unfold AX at this;rw[Aqs oM,Aqs oM,Aqs oM,Aqs oM,AqH a]at this;simp only[ApX]at this;have:=this.1.1.1.2;unfold IR CV at this;grind
structure Afl (m:D.Model) (n:Nat) (ws:List D.Trans):Prop where
 len:ws.length<=1024
 st:∀t∈ws,E7 m t.S
 to:∀t∈ws,inP n t.To=true
section
variable {e : D.Env}
def CY.ws (h:CY e){ws:List D.Trans}(a:ws∈Dg (DF e)):Afl e.M (D7 e).Locs.length ws:=by
 have f:=h.facts;have hi:(Ep e e.Pid).Type_.toNat<e.M.Procs.length:=oM
 have d:DF e∈(D7 e).Locs:=As oM;have hg:=Q2 (Ed (CB h.ok.may).2.1 _ hi).2 _ d _ a;refine⟨hg.1,λt c=>⟨?_,?_⟩,hg.2⟩
 .have:=AfE h.ok.may hi d a c;unfold Nr at this;grind
 .have b:=h.wloc;rcases AqI.1 a with rfl|a
  .exact(b.Out.2 t c).S
  .exact((b.Esc.2 _ a).2 t c).S
def Apj {b:Bool}{er:Int}{l:List Pn}{r:Ab}(h:(⟨b,er,l⟩:Ab)=r):leO [] []/\VV.le (.agg [.sc (.bool b),.sc (.int .i64 er),CI true l]) (.agg (BE r)):=by
 subst h;exact⟨trivial,lR⟩
def Hb {b:Bool}{er:Int}{r:Ab}(h:(⟨b,er,[]⟩:Ab)=r):leO [] []/\VV.le (.agg [.sc (.bool b),.sc (.int .i64 er),.nl]) (.agg (BE r)):=by
 subst h;exact⟨trivial,Aq2 ⟨lR,lR,Aqy,trivial⟩⟩
abbrev MtS (e:D.Env)(mt:Int->List Int->List Pn):Prop:=∀c m,Ah prog 209 [] [.agg (Ai e),Aa c,Ad true m] [] (CI true (mt c m))
def U1 {s:D.Stmt}{self:Bool}{mt:Int->List Int->List Pn}(h:CY e)(hs:E7 e.M s)(i:self=false->MtS e mt) :
  Ah prog 187 [] [.agg (Ai e),.agg (Ax s),Ac self] [] (.agg (BE (IY e mt s self))):=by
 have j:=h.ok.wf;have d:=h.small;have c:IY e mt s self=bif decide ((AU e s.A).2≠0)then⟨true,(AU e s.A).2,[]⟩
  else bif decide ((Bu e (AU e s.A).1).length≠s.Args.length)then⟨true,49,[]⟩
  else bif decide (0<(Cr e.M (CM e (AU e s.A).1).Shape).Room)then⟨decide (((CM e (AU e s.A).1).Queue.length:Int)<(Cr e.M (CM e (AU e s.A).1).Shape).Room),0,[]⟩
  else bif self then⟨false,0,[]⟩
  else bif decide ((AM e s).2.2≠0)then⟨true,(AM e s).2.2,[]⟩
  else⟨decide (0<(mt (AU e s.A).1 (AM e s).2.1).length),0,mt (AU e s.A).1 (AM e s).2.1⟩:=rfl
 generalize IY e mt s self=r at c;refine Ap func187 (XW r e s self rfl rfl rfl) ⟨AU e s.A,Ja j d s.A,λh1=>Hb ?_,λh1=>?_⟩
 .grind
 have h0:(AU e s.A).2=0:=by simpa using h1
 rw[h0]at c;have f:=Ks j h0;generalize(AU e s.A).1=n at f c |-;have h2:=f.lo;have h3:=f.hi;have h4:=f.le;rw[BY oM oM];refine⟨oM,f.sh,λb=>Hb ?_,λb=>⟨λg=>Hb ?_,λg=>⟨λa=>Hb ?_,λa=>⟨AM e s,Ab6 j d hs.args,λk=>Hb ?_,λk=>⟨mt n (AM e s).2.1,i a _ _,Apj ?_⟩⟩⟩⟩⟩
 .rw[G9]at b;rw[c,show decide ((Bu e n).length≠s.Args.length)=true from b]<;>rfl
 .rw[G9]at b;rw[c,show decide ((Bu e n).length≠s.Args.length)=false from b,show decide (0<(Cr e.M (CM e n).Shape).Room)=true from g]<;>rfl
 .rw[G9]at b;rw[c,show decide ((Bu e n).length≠s.Args.length)=false from b,show decide (0<(Cr e.M (CM e n).Shape).Room)=false from g,a]<;>rfl
 .rw[G9]at b;rw[c,show decide ((Bu e n).length≠s.Args.length)=false from b,show decide (0<(Cr e.M (CM e n).Shape).Room)=false from g,a,show decide ((AM e s).2.2≠0)=true by simpa using k]<;>rfl
 .rw[G9]at b;rw[c,show decide ((Bu e n).length≠s.Args.length)=false from b,show decide (0<(Cr e.M (CM e n).Shape).Room)=false from g,a,show decide ((AM e s).2.2≠0)=false by simpa using k];simp_all
def XT {s:D.Stmt}{self:Bool}{mt:Int->List Int->List Pn}(h:CY e)(hs:E7 e.M s)(c:self=false->MtS e mt) :
  Ah prog 166 [] [.agg (Ai e),.agg (Ax s),Ac self] [] (.agg (BE (DH e mt s self))):=by
 have f:=h.ok.wf;have b:=h.small;have g:DH e mt s self=if s.Kind=1 then(bif El e s.A then Oy e else⟨decide ((Bh e s.A).1≠0)||decide ((Bh e s.A).2≠0),(Bh e s.A).2,[]⟩)
  else if s.Kind=2 then(bif El e s.B then Oy e else⟨true,0,[]⟩)
  else if s.Kind=9 then⟨decide (e.S.Chans.length<32),0,[]⟩
  else if s.Kind=5 then IY e mt s self
  else if s.Kind=6 then⟨decide (0<=(Bp e s).2.1)||decide ((Bp e s).2.2≠0),(Bp e s).2.2,[]⟩
  else if s.Kind=7 then⟨false,0,[]⟩else⟨true,0,[]⟩:=rfl
 generalize DH e mt s self=r at g;have lf:∀{a:Ab},a=r->leO [] []/\VV.le (.agg (BE a)) (.agg (BE r)):=λh=>by subst h;exact⟨trivial,lR⟩
 refine Ap func166 (AbU r e s self rfl rfl rfl) ⟨λk1=>⟨El e s.A,IL λ_=>(hs.k1 (by simpa using k1)).2,λd=>⟨Oy e,PB,lf ?_⟩,λd=>⟨Bh e s.A,Hf f b _,Hb ?_⟩⟩,
  λk1=>⟨λk2=>⟨El e s.B,IL λ_=>(hs.k2 (by simpa using k2)).2,λd=>⟨Oy e,PB,lf ?_⟩,λd=>Hb ?_⟩,
  λk2=>⟨λi=>Hb ?_,λi=>⟨λj=>⟨IY e mt s self,U1 h hs c,lf ?_⟩,λj=>⟨λk6=>⟨Bp e s,Oj f b hs.args (hs.k6 (by simpa using k6)),Hb ?_⟩,λk6=>⟨λk=>Hb ?_,λk=>Hb ?_⟩⟩⟩⟩⟩⟩
 .grind
 .grind
 .grind
 .grind
 .rw[g,Aqs (by simpa using k1),Aqs (by simpa using k2),AqH (by simpa using i)];have:decide ((e.S.Chans.length:Int)<32)=decide (e.S.Chans.length<32):=gD
  rw[this]
 .grind
 .grind
 .grind
 grind
end
section
variable {e : D.Env} {mt:Int->List Int->List Pn} {ws:List D.Trans} {self:Bool}
def OW (e:D.Env)(mt:Int->List Int->List Pn)(ws:List D.Trans)(self:Bool)(k:Nat):List Ab:=(List.range ws.length).map λi=>if i<k then DH e mt (ws.getD i default).S self else default
def Ni (e:D.Env)(mt:Int->List Int->List Pn)(ws:List D.Trans)(self:Bool)(k:Nat):List Ab:=(List.range ws.length).map λi=>if i<k then Gg e mt ws self i else DH e mt (ws.getD i default).S self
def Rk {k:Nat}:(OW e mt ws self k).length=ws.length:=by simp[OW]
theorem Nh {k:Nat}:(Ni e mt ws self k).length=ws.length:=by simp[Ni]
def Nj {k i:Nat}(hi:i<ws.length):(OW e mt ws self k).getD i default=if i<k then DH e mt (ws.getD i default).S self else default:=by simp[OW,List.getD,hi]
def Rj {k i:Nat}(hi:i<ws.length):(Ni e mt ws self k).getD i default=if i<k then Gg e mt ws self i else DH e mt (ws.getD i default).S self:=by simp[Ni,List.getD,hi]
theorem Ai8:Ni e mt ws self ws.length=Dq e mt ws self:=by
 unfold Ni Dq;simp_all
def Ai9:OW e mt ws self ws.length=Ni e mt ws self 0:=by
 unfold Ni OW;simp_all
def Xy:(Dq e mt ws self).length=ws.length:=by simp[Dq]
def Ajj {i k:Nat}(h:i≠k):Nat.beq i k=false:=by grind[Ap0]
def R2 {n:Nat}(h:CY e)(o:Afl e.M n ws)(m:self=false->MtS e mt) :
  Ah prog 147 [] [.agg (Ai e),Ao true ws,Ac self] [] (Ce true (Dq e mt ws self)):=by
 have p:=o.len;refine Ap func147 (Afu _ e ws self rfl rfl) ⟨⟨oM,oM,oM⟩,?_⟩;refine Aq (λg st=>∃k:Nat,k<=ws.length/\g=ws.length-k/\st=TX e ws self ws.length (Gt (OW e mt ws self k)) (GZ e mt ws self k) k)
  ⟨ws.length,Up.mk (l':=[(1,Ao true ws),(2,Ac self),(3,.bp 0 0),(7,.ow 1 0 ws.length),(8,Ac false),(16,Ao true ws),(17,Aa ws.length),(18,Aa ((0:Nat):Int))]) (hs':=[.box (Ai e),.arr true 0 ws.length 3 (Gt (OW e mt ws self 0))]) (AR _) ⟨Ob.le_refl _,Aqm λi hi=>?_,trivial⟩ ⟨0,Ap3 _,rfl,rfl⟩⟩ ?_
 .have q:Gt (OW e mt ws self 0) i=BE default:=by
   unfold Gt;rw[Nj oM,Aqs (AqL _)]
  rw[q];exact⟨lR,lR,Aqy,trivial⟩
 rintro g st ⟨k,r,rfl,rfl⟩;refine Aqh (Aci _ e ws self _ _ _ k _ rfl) ⟨λd=>?_,λj=>?_⟩
 .have a:k<ws.length:=by have:=AZ d;omega
  have b:(k:Int).toNat=k:=oM
  rw[b];refine⟨⟨oM,oM⟩,DH e mt (ws.getD k default).S self,XT h (o.st _ (As a)) m,⟨oM,oM⟩,?_⟩;refine AB.le (hs':=[.box (Ai e),.arr true 0 ws.length 3 (Gt (OW e mt ws self (k+1)))]) (AR _) ⟨Ob.le_refl _,Aqm λi hi=>AL ?_,trivial⟩ ?_
  .unfold Gt;rw[Nj hi,Nj hi]
   by_cases c:i=k
   .simp_all
   .rw[Ajj c,ApW];grind
  .have s:An [(1,Ao true ws),(2,Ac self),(3,.bp 0 0),(7,.ow 1 0 ws.length),(8,Ac (GZ e mt ws self k)),(9,Aa k),(16,Ao true ws),(17,Aa ws.length),(18,Aa k)] [.box (Ai e),.arr true 0 ws.length 3 (Gt (OW e mt ws self (k+1)))]=TW e ws self (OW e mt ws self (k+1)) (GZ e mt ws self k) k k:=by
    unfold TW;rw[Rk]
   refine Eq.mpr (congrArg (AB _ _) s) ?_;refine GM Aj Ak kR (Acg _ e ws self _ _ k k _) ⟨λ_=>by rw[Rk];omega,ws.length-(k+1),oM,Up.of ⟨k+1,a,rfl,?_⟩⟩;rw[Al oM,b,Nj a,AqH (Aq3 _),Rk];have:GZ e mt ws self (k+1)=bif GZ e mt ws self k then true else(DH e mt (ws.getD k default).S self).is:=by
    rw[B6]<;>rfl
   unfold TX;rw[this]<;>rfl
 .obtain rfl:k=ws.length:=by have:=AW j;omega
  generalize f:GZ e mt ws self ws.length=some;refine Aq (λg st=>∃k:Nat,k<=ws.length/\g=ws.length-k/\st=MD ws (Ni e mt ws self k) some k) ⟨ws.length,Up.of ⟨0,Ap3 _,rfl,by unfold MD;rw[Nh,Ai9]<;>rfl⟩⟩ ?_;rintro g st ⟨k,r,rfl,rfl⟩;refine Aqh (Ach _ ws _ some k _) ⟨λd=>?_,λj=>⟨trivial,?_⟩⟩
  .have a:k<ws.length:=by have:=AZ d;omega
   have b:(k:Int).toNat=k:=oM
   rw[b];have ek:(bif(ws.getD k default).S.Kind==(7:Int)then !some else false)=(decide ((ws.getD k default).S.Kind=7)&&!(GZ e mt ws self ws.length)):=by rw[BU,ieq,f]
   have ea:Gg e mt ws self k=bif decide ((ws.getD k default).S.Kind=7)&&!(GZ e mt ws self ws.length)then{DH e mt (ws.getD k default).S self with is:=true}else DH e mt (ws.getD k default).S self:=rfl
   refine⟨⟨oM,oM⟩,λl=>⟨by rw[Nh];omega,ws.length-(k+1),oM,Up.mk (hs':=[.arr true 0 (Ni e mt ws self k).length 3 (Gt (Ni e mt ws self (k+1)))]) (AR _) ⟨Aqm λi hi=>AL ?_,trivial⟩ ⟨k+1,a,rfl,?_⟩⟩,λl=>⟨ws.length-(k+1),oM,Up.of ⟨k+1,a,rfl,?_⟩⟩⟩
   .rw[ek]at l;rw[Nh]at hi;rw[Rj a,Aqs (Ar3 _)];unfold Gt;rw[Rj hi,Rj hi]
    by_cases c:i=k
    .subst c;rw[AqH (Aq3 _),AqM,ApY,ea,l,ApY]<;>rfl
    .rw[Ajj c,ApW];grind
   .rw[Al oM];unfold MD;grind[Nh]
   .rw[ek]at l;have em:Ni e mt ws self k=Ni e mt ws self (k+1):=by
     unfold Ni;grind
    grind[Al]
  grind[AW,Ai8,VV.le_refl]
end
def WX:Nat->List Ab->Int
 | _,[]=>-1
 | k,x::r=>bif x.is then(k:Int)else WX (k+1) r
def Tb {k:Nat}{x:Ab}{r:List Ab}:WX k (x::r)=bif x.is then(k:Int)else WX (k+1) r:=rfl
def Ta:∀{l:List Ab}{k:Nat},decide (WX k l>=0)=isSome l
 | [],k=>by simp[WX,isSome]
 | x::r,k=>by
  have ih:=Ta (l:=r) (k:=k+1);unfold isSome at *;rw[ArE,Tb];grind
abbrev Ami:VV:=.fn (.func 228) []
def X2 {x:Ab}:Ah prog 228 [] [.agg (BE x)] [] (Ac x.is) :=
 Ap func228 (Ab9 _ x) (AA rfl)
def X5 {l:List Ab}(n:l.length<=1048576):Ah prog 230 [] [Ce true l,Ami] [] (Aa (WX 0 l)):=by
 refine Ap func230 (Acb _ l) ?_;refine Ar l.length (λk=>O5 l k) (λk=>WX 0 l=WX k (l.drop k)) rfl ?_;intro k o i J next
 refine Aqh (X6 _ l k J) ⟨λf=>?_,λg=>Bj ?_⟩
 .have a:k<l.length:=by have:=AZ f;omega
  have h:(k:Int).toNat=k:=oM
  rw[h];rw[A5 (d:=default) a,Tb]at i;refine⟨oM,(l.getD k default).is,X2,λj=>Bj ?_,λj=>next _ a ?_ (Up.of ?_)⟩
  .grind
  .grind
  grind[Al]
 .have b:l.length<=k:=by have:=AW g;omega
  rw[i,Aqk b]<;>rfl
def Va {l:List Ab}(a:l.length<=1048576):Ah prog 227 [] [Ce true l,Ami] [] (Ac (isSome l)) :=
 Ap func227 (Yb _ l) ⟨_,X5 a,AA Ta⟩
section
variable {e : D.Env} {c:Int} {m:List Int}
def SG {i:Int}:∀{ws:List D.Trans}{k:Nat},(DM e c m i k ws).length<=ws.length
 | [],_=>Ap1 _
 | t::r,k=>by
  have:=SG (i:=i) (ws:=r) (k:=k+1);unfold DM;cases GX e t.S c m<;>simp<;>omega
def Y7 {i:Int}{k:Nat}{t:D.Trans}{r:List D.Trans}:DM e c m i k (t::r)=(bif GX e t.S c m then[⟨e.Pid,i,k⟩]else[])++DM e c m i (k+1) r:=rfl
def Ant {out:List Pn}{x:Pn}{G:Nat->List VV}(a:G 0=Mc x){i:Nat}(hi:i<out.length+1):(bif i.blt out.length then FK out i else G (i-out.length))=FK (out++[x]) i :=
 BO (f:=Mc) (d:=default) (l:=out) (r:=[x]) (F:=FK out) (λ_ _=>rfl) gD (by simp;omega)
def R0 {n:Nat}{i:Int}{ws:List D.Trans}(h:CY e)(l:Afl e.M n ws) :
  Ah prog 225 (hsR e c m []) [Aa i,Ao true ws,.bp 0 0,.bp 1 0,.bp 2 0,.bp 3 0] (hsR e c m (DM e c m i 0 ws)) (Ac (decide (0<(DM e c m i 0 ws).length)||isSome (Dq e QI ws true))):=by
 have s:=l.len;generalize t:DM e c m i 0 ws=r;refine Ap func225 (Afq r [] _ e c m i ws) ?_;refine Aq (λg st=>∃(k:Nat)(out:List Pn),k<=ws.length/\g=ws.length-k/\out.length<=k/\out++DM e c m i k (ws.drop k)=r/\st=Qa e c m out i ws k) ⟨ws.length,Up.of ⟨0,[],Ap3 _,rfl,Ap3 _,t,rfl⟩⟩ ?_;rintro g st ⟨k,out,w,rfl,y,b,rfl⟩;refine Aqh (Ab0 r _ e c m out i ws k _ rfl) ⟨λo=>?_,λp=>?_⟩
 .have a:k<ws.length:=by have:=AZ o;omega
  have q:(k:Int).toNat=k:=oM
  rw[q];rw[A5 (d:=default) a,Y7]at b;have hs:=l.st _ (As (d:=default) a);refine⟨⟨oM,oM⟩,GX e (ws.getD k default).S c m,U0 h.ok.wf h.small hs.args hs.k6,λu=>⟨oM,ws.length-(k+1),oM,
   Up.mk (hs':=[.box (Ai e),.box [Aa c],.box [Ad true m],.box [.ow 4 0 (out.length+1)],.arr true 0 (out.length+1) 3 (FK (out++[Pn.mk e.Pid i k]))]) (AR _) ⟨Ob.le_refl _,Ob.le_refl _,Ob.le_refl _,Ob.le_refl _,Aqm λj v=>AL (Ant (x:=Pn.mk e.Pid i k) (G:=λj=>List.take 3 (List.drop (j*3) (Mc (Pn.mk e.Pid i k)))) rfl v),trivial⟩ ⟨k+1,out++[Pn.mk e.Pid i k],a,rfl,by simp;omega,?_,?_⟩⟩,λu=>⟨ws.length-(k+1),oM,Up.of ⟨k+1,out,a,rfl,oM,?_,?_⟩⟩⟩
  .grind
  .rw[Al oM];unfold Qa hsR;grind
  .grind
  grind[Al]
 .have f:ws.length<=k:=by have:=AW p;omega
  rw[Aqk f]at b;have b:out=r:=by simpa[DM]using b
  subst b;refine⟨Dq e QI ws true,λ_=>R2 h l (λh=>by cases h),isSome (Dq e QI ws true),λ_=>Va (by rw[Xy];omega),⟨Ob.le_refl _,Ob.le_refl _,Ob.le_refl _,Ob.le_refl _,Ob.le_refl _,trivial⟩,AqV ?_⟩;grind
def LV {i:Int}{ws:List D.Trans}{r:List (Int×List D.Trans)}:Il e c m ((i,ws)::r)=bif decide (0<(DM e c m i 0 ws).length)||isSome (Dq e QI ws true)then DM e c m i 0 ws else Il e c m r:=rfl
def TF {n:Nat}{l:D.Loc}(h:CY e)(t:l.Esc.length<=1048576)(q:∀ws∈Dg l,Afl e.M n ws) :
  Ah prog 144 (hsR e c m []) [.agg (AT l),Aob] (hsR e c m (Il e c m (Gw l))) (.tup []):=by
 generalize s:Il e c m (Gw l)=r;refine Ap func144 (U7 r [] e c m l) ?_;refine Aq (λg st=>∃k:Nat,k<=l.Esc.length/\g=l.Esc.length-k/\Il e c m (Xm k (l.Esc.drop k)++[(-1,l.Out)])=r/\st=KR e c m [] l k) ⟨l.Esc.length,Up.of ⟨0,Ap3 _,rfl,s,rfl⟩⟩ ?_;rintro g st ⟨k,u,rfl,b,rfl⟩;refine Aqh (TG r e c m [] l k _) ⟨λj=>?_,λo=>?_⟩
 .have a:k<l.Esc.length:=by have:=AZ j;omega
  have p:(k:Int).toNat=k:=oM
  rw[p];rw[A5 (d:=[]) a]at b;unfold Xm at b;rw[Art,LV]at b;refine⟨⟨oM,oM⟩,(DM e c m k 0 (l.Esc.getD k []),decide (0<(DM e c m k 0 (l.Esc.getD k [])).length)||isSome (Dq e QI (l.Esc.getD k []) true)),R0 h (q _ (Aqc _ (As a))),λf=>?_,λf=>⟨l.Esc.length-(k+1),oM,Up.of ⟨k+1,a,rfl,?_,?_⟩⟩⟩
  .have f:(decide (0<(DM e c m k 0 (l.Esc.getD k [])).length)||isSome (Dq e QI (l.Esc.getD k []) true))=true:=f;rw[f,ApY]at b;subst b;exact⟨⟨Ob.le_refl _,Ob.le_refl _,Ob.le_refl _,Ob.le_refl _,Ob.le_refl _,trivial⟩,lR⟩
  .grind
  grind[Aql,AqJ,Aqr,Al]
 .have i:l.Esc.length<=k:=by have:=AW o;omega
  rw[Aqk i]at b;refine⟨(DM e c m (-1) 0 l.Out,decide (0<(DM e c m (-1) 0 l.Out).length)||isSome (Dq e QI l.Out true)),R0 h (q _ (Ap2 ..)),?_,lR⟩;have h0:DM e c m (-1) 0 l.Out=r:=by
   rw[<- b];show _=Il e c m ([]++[(-1,l.Out)]);rw[Arj,LV];cases f:(decide (0<(DM e c m (-1) 0 l.Out).length)||isSome (Dq e QI l.Out true))with
   | true=>rfl
   | false =>
    rw[Aql]at f;exact AqJ gD
  subst h0;exact⟨Ob.le_refl _,Ob.le_refl _,Ob.le_refl _,Ob.le_refl _,Ob.le_refl _,trivial⟩
def SE {N:Nat}:∀{ls:List (Int×List D.Trans)},(∀p∈ls,p.2.length<=N)->(Il e c m ls).length<=N
 | [],_=>Ap3 _
 | (i,ws)::r,h=>by
  have h1:=h _ (Ap2 ..);have h2:=SE (ls:=r) λp hp=>h p (Aqc _ hp)
  have h3:=SG (e:=e) (c:=c) (m:=m) (i:=i) (ws:=ws) (k:=0);rw[LV];grind
def SX:∀{r:List (List D.Trans)} {k:Nat} {p:Int×List D.Trans},p∈Xm k r->p.2∈r
 | [],_,_,h=>by cases h
 | w::r,k,p,h=>by
  rcases AqI.1 h with rfl|h
  .exact Ap2 ..
  .exact Aqc _ (SX h)
def ZA {l:D.Loc}{p:Int×List D.Trans}(h:p∈Gw l):p.2∈Dg l:=by
 rcases Aqq.1 h with h|h
 .exact Aqc _ (SX h)
 .rw[Aqp.1 h];exact Ap2 ..
def SH (h:CY e):(G6 e c m).length<=1024:=by
 unfold G6;cases(!(BK e).1||decide ((BK e).2≠0))with
 | true=>exact Ap3 _
 | false=>exact SE λp hp=>(h.ws (ZA hp)).len
def XY (h:CY e):Ah prog 222 [] [.agg (Ai e),Aa c,Ad true m] [] (CI true (G6 e c m)):=by
 have a:G6 e c m=bif !(BK e).1||decide ((BK e).2≠0)then[]else Il e c m (Gw (DF e)):=rfl
 generalize G6 e c m=r at a;refine Ap func222 (AbZ r e c m) ⟨BK e,PC h,λh1=>?_,λh1=>⟨DF e,KK h,r,?_,trivial,lR⟩⟩
 .rw[B6,AY]at h1;rw[h1,ApY]at a;rw[a];exact⟨trivial,Aqy⟩
 .rw[B6,AY]at h1;rw[h1,ApW]at a;rw[a];exact Ah.ownB (i:=3) (j:=0) (cs:=[.nl]) rfl rfl 3 (FK []) (TF h h.wloc.Esc.1 λws b=>h.ws b)
def CY.at (h:CY e){k:Nat}(a:k<e.S.Procs.length):CY (B2 e k):=⟨⟨h.ok.fits,h.ok.may,h.ok.wf,by show -1<=(k:Int);omega,by show(k:Int)<_;exact Int.ofNat_lt.2 a⟩,by show 0<=(k:Int);omega⟩
def L0 (h:CY e):∀{n:Nat},n<=e.S.Procs.length->(Eg e c m n).length<=n*1024
 | 0,_=>Ap3 _
 | n+1,hn=>by
  have h1:=L0 h (n:=n) oM;have h2:=SH (c:=c) (m:=m) (h.at (k:=n) oM);unfold Eg;grind
def U4 (h:CY e):MtS e (B1 e):=by
 intro c m;have hp:=h.ok.fit.p;refine Ap func209 (X0 _ e c m) ?_;refine AB.own 3 7 3 (FK []) rfl ?_;refine Aq (λg st=>∃k:Nat,k<=e.S.Procs.length/\g=e.S.Procs.length-k/\st=MC e c m (Eg e c m k) k) ⟨e.S.Procs.length,Up.of ⟨0,Ap3 _,rfl,rfl⟩⟩ ?_;rintro g st ⟨k,s,rfl,rfl⟩;have o:=L0 (c:=c) (m:=m) h s;refine Aqh (U5 _ e c m _ k _) ⟨λj=>?_,λn=>⟨trivial,?_⟩⟩
 .have a:k<e.S.Procs.length:=by have:=AZ j;omega
  have t:=SH (c:=c) (m:=m) (h.at a);refine⟨λb=>⟨G6 (B2 e k) c m,XY (h.at a),oM,λi _=>rfl,e.S.Procs.length-(k+1),oM,
   Up.mk (hs':=[.box (Ai e),.arr true 0 ((Eg e c m k).length+(G6 (B2 e k) c m).length) 3 (FK (Eg e c m k++G6 (B2 e k) c m))]) (AR _) ⟨Ob.le_refl _,Aqm λi hi=>AL ?_,trivial⟩ ⟨k+1,a,rfl,?_⟩⟩,λb=>⟨e.S.Procs.length-(k+1),oM,Up.of ⟨k+1,a,rfl,?_⟩⟩⟩
  .exact BO (f:=Mc) (d:=default) (l:=Eg e c m k) (r:=G6 (B2 e k) c m) (F:=FK (Eg e c m k)) (λ_ _=>rfl) (λ_ _=>rfl) (by simpa using hi)
  .rw[AY]at b;have q:Eg e c m (k+1)=Eg e c m k++G6 (B2 e k) c m:=by
    show Eg e c m k++(bif decide ((k:Int)≠e.Pid)then _ else _)=_;rw[b,ApY]
   rw[Al oM,q];unfold MC;grind
  .rw[AY]at b;have q:Eg e c m (k+1)=Eg e c m k:=by
    show Eg e c m k++(bif decide ((k:Int)≠e.Pid)then _ else _)=_;grind
   grind[Al]
 .obtain rfl:k=e.S.Procs.length:=by have:=AW n;omega
  exact lR
end
section
variable {e : D.Env}
theorem ZB (h:CY e){c:Int}{m:List Int}:(B1 e c m).length<=16384:=by
 have h1:=L0 (c:=c) (m:=m) h (Ap1 _);have h2:=h.ok.fit.p;have h3:e.S.Procs.length*1024<=16*1024:=Aqe _ h2;exact Aqt h1 h3
theorem AcP (h:CY e){s:D.Stmt}{self:Bool}:(DH e (B1 e) s self).wth.length<=16384:=by
 have a:([]:List Pn).length<=16384:=Ap3 _;unfold DH;split
 .cases El e s.A<;>exact a
 split
 .cases El e s.B<;>exact a
 split
 .exact a
 split
 .unfold IY;grind[ZB]
 grind
theorem Ae4 {mt:Int->List Int->List Pn}{ws:List D.Trans}{self:Bool}{i:Nat}:(Gg e mt ws self i).wth=(DH e mt (ws.getD i default).S self).wth:=by
 unfold Gg;grind
def Xx (h:CY e){ws:List D.Trans}{self:Bool}:∀x∈Dq e (B1 e) ws self,x.wth.length<=16384:=by
 intro x a;unfold Dq at a;grind[Ark,Ae4,AcP]
def R9 {i:Int}{k:Nat}{x:Ab}{r:List Ab}:D2 i k (x::r)=GU i k x++D2 i (k+1) r:=rfl
def AgG {out:List Wy}{x:Wy}{G:Nat->List VV}(a:G 0=A9 x){i:Nat}(hi:i<out.length+1):(bif i.blt out.length then JY out i else G (i-out.length))=JY (out++[x]) i :=
 BO (f:=A9) (d:=default) (l:=out) (r:=[x]) (F:=JY out) (λ_ _=>rfl) gD (by simp;omega)
def R1 {n:Nat}{i:Int}{ws:List D.Trans}(h:CY e)(O:Afl e.M n ws) :
  Ah prog 146 (hsW e []) [Aa i,Ao true ws,.bp 0 0,.bp 1 0] (hsW e (D2 i 0 (Dq e (B1 e) ws false))) (Ac (decide (0<(D2 i 0 (Dq e (B1 e) ws false)).length))):=by
 have Q:(Dq e (B1 e) ws false).length<=1024:=by rw[Xy];exact O.len
 have l:=Xx h (ws:=ws) (self:=false);have m:=R2 h O (self:=false) (λ_=>U4 h);generalize Dq e (B1 e) ws false=L at Q l m;generalize R:D2 i 0 L=r;refine Ap func146 (Afr r [] _ e i ws) ⟨L,m,?_⟩;refine Aq (λg st=>∃(k:Nat)(out:List Wy),k<=L.length/\g=L.length-k/\out.length<=k*16385/\out++D2 i k (L.drop k)=r/\st=IU e out i L k) ⟨L.length,Up.of ⟨0,[],Ap3 _,rfl,Ap3 _,R,rfl⟩⟩ ?_;rintro g st ⟨k,out,hk,rfl,S,f,rfl⟩;refine Aqh (Ab4 r _ e out i L k _ rfl rfl rfl) ⟨λC=>?_,λE=>?_⟩
 .have b:k<L.length:=by have:=AZ C;omega
  have F:(k:Int).toNat=k:=oM
  rw[F];rw[A5 (d:=default) b,R9]at f;have T:=l _ (As (d:=default) b);generalize L.getD k default=x at f T |-;have U:k*16385<=1024*16385:=Aqe _ oM;have key:∀(J:St->Prop)(out1:List Wy),out1.length<=k*16385+1->out1++(x.wth.map (JE i k x.err)++D2 i (k+1) (L.drop (k+1)))=r ->
    (∀a,Up (λst=>∃out2:List Wy,out2.length<=(k+1)*16385/\out2++D2 i (k+1) (L.drop (k+1))=r/\st=IU e out2 i L ((k+1:Nat):Int)) a->J a) ->
    AB ((BL prog tb CJ Hm true f146 (hsW e r) (Ac (decide (0<r.length)))).loop [1,0,1,0] J) [1,1,0,0,1,1,1,1,0] (MB e out1 i L k ⟨i,k,-1,-1,-1,x.err⟩ x.wth 0):=by
   intro J out1 H I hJ;refine Aq (λg st=>∃(j:Nat)(w:Wy)(o:List Wy),j<=x.wth.length/\g=x.wth.length-j/\o.length<=k*16385+1+j/\o++((x.wth.drop j).map (JE i k x.err)++D2 i (k+1) (L.drop (k+1)))=r/\(w.Esc=i/\w.Way=k/\w.Err=x.err)/\st=MB e o i L k w x.wth j)
    ⟨x.wth.length,Up.of ⟨0,_,out1,Ap3 _,rfl,H,I,⟨rfl,rfl,rfl⟩,rfl⟩⟩ ?_
   rintro g st ⟨j,w,o,hj,rfl,V,u,⟨W,X,Y⟩,rfl⟩;refine Aqh (Ab3 r _ e o i L k w x.wth j _ _ rfl) ⟨λv=>?_,λy=>?_⟩
   .have c:j<x.wth.length:=by have:=AZ v;omega
    have z:(j:Int).toNat=j:=oM
    rw[z];rw[A5 (d:=default) c,AqN,Art]at u;generalize x.wth.getD j default=p at u |-;rw[W,X,Y];refine⟨⟨oM,oM⟩,oM,x.wth.length-(j+1),oM,Up.mk (hs':=[.box (Ai e),.box [.ow 2 0 (o.length+1)],.arr true 0 (o.length+1) 6 (JY (o++[JE i k x.err p])),.box (A9 (JE i k x.err p))]) (AR _)
     ⟨Ob.le_refl _,Ob.le_refl _,Aqm λt K=>AL (AgG (x:=JE i k x.err p) (G:=λt=>List.take 6 (List.drop (t*6) (A9 (JE i k x.err p)))) rfl K),Ob.le_refl _,trivial⟩ ⟨j+1,JE i k x.err p,o++[JE i k x.err p],c,rfl,by simp;omega,gD,⟨rfl,rfl,rfl⟩,?_⟩⟩
    rw[Al oM];unfold MB hsW;grind
   .have N:x.wth.length<=j:=by have:=AW y;omega
    grind[Aqk,Ara,Arj,Up.of,Al]
  have next:∀a,Up (λst=>∃out2:List Wy,out2.length<=(k+1)*16385/\out2++D2 i (k+1) (L.drop (k+1))=r/\st=IU e out2 i L ((k+1:Nat):Int)) a ->
    ∃P,P<L.length-k/\Up (λst=>∃(k:Nat)(out:List Wy),k<=L.length/\P=L.length-k/\out.length<=k*16385/\out++D2 i k (L.drop k)=r/\st=IU e out i L k) a:=by
   rintro a ⟨Z,hc,out2,h1,h2,h3⟩;exact⟨L.length-(k+1),oM,Z,hc,k+1,out2,b,rfl,h1,h2,h3⟩
  have ez:((x.wth.length:Int)==0)=decide (x.wth.length=0):=gD
  refine⟨⟨oM,oM⟩,λA=>⟨oM,?_⟩,λA=>?_⟩
  .rw[BU,ez]at A;have q:GU i k x=Wy.mk i k (-1) (-1) (-1) x.err::x.wth.map (JE i k x.err):=by unfold GU;rw[A]<;>rfl
   rw[q]at f;refine AB.le (hs':=[.box (Ai e),.box [.ow 2 0 (out.length+1)],.arr true 0 (out.length+1) 6 (JY (out++[Wy.mk i k (-1) (-1) (-1) x.err])),.box (A9 (Wy.mk i k (-1) (-1) (-1) x.err))]) (AR _)
     ⟨Ob.le_refl _,Ob.le_refl _,Aqm λt K=>AL (AgG (x:=Wy.mk i k (-1) (-1) (-1) x.err) (G:=λt=>List.take 6 (List.drop (t*6) (A9 (Wy.mk i k (-1) (-1) (-1) x.err)))) rfl K),Ob.le_refl _,trivial⟩ ?_
   have s:=key _ (out++[Wy.mk i k (-1) (-1) (-1) x.err]) (by simp;omega) (by rw[AqT];exact f) next
   unfold MB hsW at s;rw[Ap5]at s;exact s
  .rw[BU,ez]at A;have q:GU i k x=x.wth.map (JE i k x.err):=by unfold GU;rw[A]<;>rfl
   rw[q]at f;exact key _ out (Nat.le_succ_of_le S) f next
 .have B:L.length<=k:=by have:=AW E;omega
  rw[Aqk B]at f;have f:out=r:=by simpa[D2]using f
  subst f;refine⟨⟨Ob.le_refl _,Ob.le_refl _,Ob.le_refl _,trivial⟩,AqV ?_⟩;simp_all
def Qz {i:Int}{ws:List D.Trans}{r:List (Int×List D.Trans)}:Ga e ((i,ws)::r)=bif decide (0<(D2 i 0 (Dq e (B1 e) ws false)).length)then D2 i 0 (Dq e (B1 e) ws false)else Ga e r:=rfl
def TC {n:Nat}{l:D.Loc}(h:CY e)(q:l.Esc.length<=1048576)(o:∀ws∈Dg l,Afl e.M n ws) :
  Ah prog 144 (hsW e []) [.agg (AT l),Aoa] (hsW e (Ga e (Gw l))) (.tup []):=by
 generalize p:Ga e (Gw l)=r;refine Ap func144 (U6 r [] e l) ?_;refine Aq (λg st=>∃k:Nat,k<=l.Esc.length/\g=l.Esc.length-k/\Ga e (Xm k (l.Esc.drop k)++[(-1,l.Out)])=r/\st=KQ e [] l k) ⟨l.Esc.length,Up.of ⟨0,Ap3 _,rfl,p,rfl⟩⟩ ?_;rintro g st ⟨k,s,rfl,b,rfl⟩;refine Aqh (TD r e [] l k _) ⟨λi=>?_,λj=>?_⟩
 .have a:k<l.Esc.length:=by have:=AZ i;omega
  have m:(k:Int).toNat=k:=oM
  rw[m];rw[A5 (d:=[]) a]at b;unfold Xm at b;rw[Art,Qz]at b;refine⟨⟨oM,oM⟩,(D2 k 0 (Dq e (B1 e) (l.Esc.getD k []) false),decide (0<(D2 k 0 (Dq e (B1 e) (l.Esc.getD k []) false)).length)),R1 h (o _ (Aqc _ (As a))),λc=>?_,λc=>⟨l.Esc.length-(k+1),oM,Up.of ⟨k+1,a,rfl,?_,?_⟩⟩⟩
  .have c:decide (0<(D2 k 0 (Dq e (B1 e) (l.Esc.getD k []) false)).length)=true:=c;rw[c,ApY]at b;subst b;exact⟨⟨Ob.le_refl _,Ob.le_refl _,Ob.le_refl _,trivial⟩,lR⟩
  .grind
  grind[AqJ,Aqr,Al]
 .have f:l.Esc.length<=k:=by have:=AW j;omega
  rw[Aqk f]at b;refine⟨(D2 (-1) 0 (Dq e (B1 e) l.Out false),decide (0<(D2 (-1) 0 (Dq e (B1 e) l.Out false)).length)),R1 h (o _ (Ap2 ..)),?_,lR⟩;have h0:D2 (-1) 0 (Dq e (B1 e) l.Out false)=r:=by
   rw[<- b];show _=Ga e ([]++[(-1,l.Out)]);rw[Arj,Qz];cases c:decide (0<(D2 (-1) 0 (Dq e (B1 e) l.Out false)).length)with
   | true=>rfl
   | false=>exact AqJ gD
  subst h0;exact⟨Ob.le_refl _,Ob.le_refl _,Ob.le_refl _,trivial⟩
def Ah6 {w:Wy}{r:List Wy}(h:[w]=r):leO [] []/\VV.le (.sl true 1 6 λi=>List.take 6 (List.drop (i*6) (A9 w))) (Bm true r):=by
 subst h;refine⟨trivial,AqY (.inl rfl) λi hi=>AL ?_⟩;obtain rfl:i=0:=oM
 rfl
def JA (h:CY e):Ah prog 120 [] [.agg (Ai e)] [] (Bm true (BD e)):=by
 have hp:=h.ok.fit.p;have a:BD e=bif decide ((Ep e e.Pid).Loc=(D7 e).Final)then(bif decide (e.Pid=(e.S.Procs.length:Int)-1)then[Lw 0]else[])
  else bif decide ((BK e).2≠0)then[Lw (BK e).2]
  else bif !(BK e).1 then[]else Ga e (Gw (DF e)):=rfl
 generalize BD e=r at a;refine Ap func120 (XZ r e rfl) ⟨⟨h.p0,h.ok.pid.2⟩,D7 e,PD h,λh1=>⟨λh2=>⟨Lw 0,PE,Ah6 ?_⟩,λh2=>?_⟩,
  λh1=>⟨BK e,PC h,λh2=>⟨Lw (BK e).2,PE,Ah6 ?_⟩,λh2=>⟨λh3=>?_,λh3=>⟨DF e,KK h,Ga e (Gw (DF e)),?_,?_⟩⟩⟩⟩
 .rw[ieq]at h1;rw[BY oM oM,ieq]at h2;rw[a,show decide ((Ep e e.Pid).Loc=(D7 e).Final)=true from h1,h2]<;>rfl
 .rw[ieq]at h1;rw[BY oM oM,ieq]at h2;rw[a,show decide ((Ep e e.Pid).Loc=(D7 e).Final)=true from h1,h2];exact⟨trivial,Aqy⟩
 .rw[ieq]at h1;rw[AY]at h2;rw[a,show decide ((Ep e e.Pid).Loc=(D7 e).Final)=false from h1,h2]<;>rfl
 .rw[ieq]at h1;rw[AY]at h2;rw[a,show decide ((Ep e e.Pid).Loc=(D7 e).Final)=false from h1,h2,h3];exact⟨trivial,Aqy⟩
 .exact Ah.ownB (i:=1) (j:=0) (cs:=[.nl]) rfl rfl 6 (JY []) (TC h h.wloc.Esc.1 λws b=>h.ws b)
 .rw[ieq]at h1;rw[AY]at h2;rw[a,show decide ((Ep e e.Pid).Loc=(D7 e).Final)=false from h1,h2,h3];exact⟨trivial,lR⟩
def PG (b:AI e.M)(hs:BH e.S):Ah prog 148 [] [.agg (Ai e)] [] (.tup [Bm true (GH e).1,Aa (GH e).2]):=by
 have a:GH e=bif decide (He e≠0)then([],He e)else(BD e,0):=rfl
 generalize GH e=r at a;refine Ap func148 (Acl r e) ⟨He e,Vb b hs,λh1=>?_,λh1=>⟨BD e,JA (AeF b (by simpa using h1)),?_⟩⟩
 .rw[AY]at h1;rw[a,h1];exact⟨trivial,Arq ⟨Aqy,lR,trivial⟩⟩
 .rw[AY]at h1;rw[a,h1];exact⟨trivial,lR⟩
def WW (w:Wy):Nat->List Wy->Int
 | _,[]=>-1
 | k,x::r=>bif decide (w=x)then(k:Int)else WW w (k+1) r
def S9 {w x:Wy}{k:Nat}{r:List Wy}:WW w k (x::r)=bif decide (w=x)then(k:Int)else WW w (k+1) r:=rfl
def WV {w:Wy}:∀{l:List Wy}{k:Nat},decide (WW w k l>=0)=decide (w∈l)
 | [],k=>by simp[WW]
 | x::r,k=>by
  have ih:=WV (w:=w) (l:=r) (k:=k+1);rw[S9];grind
def Aoo {w x:Wy}:(w.Esc==x.Esc&&(w.Way==x.Way&&(w.With==x.With&&(w.WithEsc==x.WithEsc&&(w.WithWay==x.WithWay&&(w.Err==x.Err&&true))))))=decide (w=x):=by
 obtain⟨a,b,c,a4,d,f⟩:=w;obtain⟨b1,b2,b3,b4,g,h⟩:=x;rw[AqP];simp
def X3 {l:List Wy}{w:Wy}(j:l.length<=1099511627776):Ah prog 167 [] [Bm true l,.agg (A9 w)] [] (Aa (WW w 0 l)):=by
 refine Ap func167 (Aca _ l w) ?_;refine Ar l.length (λk=>O4 l w k) (λk=>WW w 0 l=WW w k (l.drop k)) rfl ?_;intro k m h J next
 refine Aqh (X4 _ l w k J rfl) ⟨λc=>?_,λf=>Bj ?_⟩
 .have a:k<l.length:=by have:=AZ c;omega
  have g:(k:Int).toNat=k:=oM
  rw[g,Aoo];rw[A5 (d:=default) a,S9]at h;refine⟨oM,λi=>Bj ?_,λi=>next _ a ?_ (Up.of ?_)⟩
  .grind
  .grind
  grind[Al]
 .have b:l.length<=k:=by have:=AW f;omega
  rw[h,Aqk b]<;>rfl
def U9 {l:List Wy}{w:Wy}(a:l.length<=1099511627776):Ah prog 150 [] [Bm true l,.agg (A9 w)] [] (Ac (decide (w∈l))) :=
 Ap func150 (Ya _ l w) ⟨_,X3 a,AA WV⟩
end
end Go.Proofs.YtedfjceonnoifaaGreatDoor
