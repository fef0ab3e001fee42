/-
  Texts, joined: GdW4, GdW5, GdW6, CkP, CkS, CkA, CkH, CkW, Touch, StClone, ExS, ExA, ExH, ValPlain, TwoPlain, ExP, Scope, ExOne, ExW1, ExW2, ExW3, ExW4, ExW5, EbP, EbS, EcP, EcQ, EmP, CsPlain, CzP, WhP, WhI, VjThaw, VjThawF, VjOwn, EcE, EcA, EcH, EcW1, EcW2, EcW3, EcW4, EcW5, EcW6, EcW7.
-/
import Derived.Test.YtddhibmbpmcnpaaGreatDoorYmB
import Derived.KernelRfl
import Derived.WalkKit
import Derived.OneCell
import Derived.Deep.QuietTactic
import Derived.BigRegion
import Derived.Deep.RegionLaw
import Derived.Deep.AppendLies
import Derived.Lib.SliceRun
import Derived.Lib.Hide
import Derived.Test.YtddhibmbpmcnpaaGreatDoorProg
import Derived.WalkSpells
import Derived.WalkLawsBesides
import Derived.BigQuiet
set_option linter.defProp false
set_option maxRecDepth 100000
namespace Go.Proofs.YtddhibmbpmcnpaaGreatDoor
open Go.RowKit Go.Proofs.Tryz
open IntKind(i64)
def leS (x y:VV):Prop:=∀(w:World)(E:AP)(m:Option Phi)(v:Value),(∀k,E.br k->E.fz k)->V w E m x v->V w E m y v
theorem DV (x:VV):leS x x:=λ_ _ _ _ _ h=>h
def KI {n sz:Nat}{f:Nat->List VV}:leS (.sl true n sz f) (.sl false n sz f):=by
 intro w E m v d h;obtain⟨a,cap,rfl,h1,h2,h3⟩:=V.sl_inv h;refine At6 h1 h2 λhp=>?_
 obtain⟨b,off,rfl,e,g,k,u,l,hv⟩:=h3 hp;exact⟨b,off,rfl,e,λc=>g (d b c),k,u,l,λi j x hi o=>(hv i j x hi o).less (λ_ h=>h) λ_ _=>trivial⟩
def Ah.frz {P:Program}{f:FuncId}{hs hs':List Ob}{xs ys:List VV}{r:VV}(h:Ah P f hs xs hs' r)(e:ys.length=xs.length)(b:∀(j:Nat) x y,xs[j]?=some x->ys[j]?=some y->leS y x):Ah P f hs ys hs' r:=by
 refine⟨h.callable,λw E φ vs g c hφ a=>h.call w E φ vs g c hφ ⟨a.1.trans e,λj x i=>?_⟩⟩;have d:j<ys.length:=gD
 exact b j x _ i (Asf d) _ _ _ _ (λk l=>l.imp (c.sub k) λh=>h) (a.2 j _ (Asf d))
def ieq (a b:Int):(a==b)=decide (a=b):=gD
def B3 (a b:Bool):(bif a then b else false)=(a&&b):=by cases a<;>rfl
theorem Ce (a b:Bool):(bif a then true else b)=(a||b):=by cases a<;>rfl
def nge (n k:Nat):decide ((n:Int)>=k)=decide (k<=n):=gD
def nle (n k:Nat):decide ((n:Int)<=k)=decide (n<=k):=gD
def ge1 (n:Nat):decide ((n:Int)>=1)=decide (1<=n):=nge n 1
def le8 (n:Nat):decide ((n:Int)<=8)=decide (n<=8):=nle n 8
def Arp (n:Nat):decide ((n:Int)<=256)=decide (n<=256):=nle n 256
def Arl (n:Nat):decide ((n:Int)=0)=decide (n=0):=gD
structure Ab0 (s:D.Stmt):Prop where
 a:s.Args.length<=1048576
 m:s.Match.length<=1048576
def QT {m:D.Model}{s:D.Stmt}(hs:Ab0 s):Ah prog 97 [] [tpM m,.agg (Ax s)] [] (Ac (AZ m s)):=by
 have e:=hs.a;have f:=hs.m;have em:∀u v x:Bool,Ah prog 116 [] [.agg (Ax s),Ac u,Ac v,Ac x] [] (Ac (Gr s u v x)):=λu v x=>AbG e f
 have n1:∀x:Bool,(bif x then s.B==(-1:Int)else false)=(x&&decide (s.B=-1)):=λx=>by rw[ieq,B3]
 have c:∀{k:Int},(s.Kind==k)=true->s.Kind=k:=λh=>by simpa using h
 have i:∀{k:Int},(s.Kind==k)=false->s.Kind≠k:=λh=>by simpa using h
 refine Ap func97 (SE _ m s rfl rfl) ?_;have d:s.Kind=1\/s.Kind=3->AZ m s=(FO m s.A&&decide (s.B=-1)&&Gr s true true true):=λh=>by unfold AZ;rw[AsE h]
 have t2:s.Kind=2->AZ m s=(DR m s.A&&FO m s.B&&Gr s true true true):=λh=>by unfold AZ;grind
 have j:s.Kind=4->AZ m s=(decide (s.A=-1)&&decide (s.B=-1)&&Ee m.Exprs.length s.Args&&decide (s.Match.length=0)&&decide (s.Text.size<=256)&&decide (s.N=0)):=λh=>by unfold AZ;grind
 have g:s.Kind=5->AZ m s=(FO m s.A&&decide (s.B=-1)&&decide (1<=s.Args.length)&&decide (s.Args.length<=8)&&Ee m.Exprs.length s.Args&&decide (s.Match.length=0)&&(decide (s.N=0)||decide (s.N=1))&&decide (s.Text.size=0)):=λh=>by unfold AZ;grind
 have t6:s.Kind=6->AZ m s=(FO m s.A&&decide (s.B=-1)&&Jj m s&&decide (0<=s.N)&&decide (s.N<=3)&&decide (s.Text.size=0)):=λh=>by unfold AZ;grind
 have l:s.Kind=7\/s.Kind=8->AZ m s=(decide (s.A=-1)&&decide (s.B=-1)&&Gr s true true true):=λh=>by unfold AZ;grind
 have t9:s.Kind=9->AZ m s=(DR m s.A&&decide (s.B=-1)&&decide (0<=s.N)&&decide (s.N<m.Shapes.length)&&Gr s true false true):=λh=>by unfold AZ;grind
 have tx:¬(s.Kind=1\/s.Kind=3)->s.Kind≠2->s.Kind≠4->s.Kind≠5->s.Kind≠6->¬(s.Kind=7\/s.Kind=8)->s.Kind≠9->AZ m s=false:=λh1 h2 h3 h4 h5 h6 h7=>by unfold AZ;grind
 generalize AZ m s=b at d t2 j g t6 l t9 tx |-;exact⟨λh1=>⟨λ_=>⟨_,Gk m s.A,_,λ_=>em true true true,AB gD⟩,λh=>bt h1 h⟩,λh1=>⟨λh3=>⟨_,Gk m s.A,_,λ_=>em true true true,AB gD⟩,λh3=>⟨λh2=>⟨_,Kl m s.A,_,λ_=>Gk m s.B,_,λ_=>em true true true,AB gD⟩,λh2=>⟨λh4=>⟨_,λ_=>Gu oM,AB (by simp_all[ieq,Arp])⟩,λh4=>⟨λh5=>⟨_,Gk m s.A,_,λ_=>Gu oM,AB (by rw[g (c h5)];simp only[ieq,B3,Ce,Arl,QO,le8,ge1])⟩,λh5=>⟨λh6=>⟨_,Gk m s.A,_,λ_=>ZO e f,AB (by rw[t6 (c h6)];simp only[ieq,B3,QO,AtQ])⟩,λh6=>⟨λh7=>⟨λ_=>⟨_,λ_=>em true true true,AB gD⟩,λh=>bt h7 h⟩,λh7=>⟨λn=>⟨_,λ_=>em true true true,AB gD⟩,λn=>⟨λo=>⟨_,Kl m s.A,_,λ_=>em true false true,AB gD⟩,λo=>AB gD⟩⟩⟩⟩⟩⟩⟩⟩⟩
def I3 {x:D.Expr}(h1:x.Args.length<=1048576)(h2:x.V.Dims.length<=1048576):Ah prog 66 [] [.agg (AG x)] [] (Ad true (Cw x)):=by
 have s:=XR x.Op;have v:([x.A,x.B,x.C].take (BV x.Op)).length=BV x.Op:=by simp;omega
 have a:∀i,i<([x.A,x.B,x.C].take (BV x.Op)).length->List.take 1 (List.drop (i*1) [VV.sc (.int .i64 x.A),.sc (.int .i64 x.B),.sc (.int .i64 x.C)])=[Aa (([x.A,x.B,x.C].take (BV x.Op)).getD i 0)]:=by
  intro i hi;rw[v]at hi;have:([x.A,x.B,x.C].take (BV x.Op)).getD i 0=[x.A,x.B,x.C].getD i 0:=gD
  rw[this];rcases(show i=0\/i=1\/i=2 by omega)with rfl|rfl|rfl<;>rfl
 have b:((BV x.Op:Nat):Int).toNat=BV x.Op:=oM
 have loop:∀(L:List Int),L.length<=2097152->L++x.V.Dims.map D.Dim.I=Cw x->AA (BR prog tb BE HX true f66 [] (Ad true (Cw x))) [1,1,1,0,1,0,1,1,0] (ZZ x L 0):=by
  intro L H y;generalize Cw x=R at y |-;refine Ar x.V.Dims.length (λk=>ZZ x (L++(x.V.Dims.take k).map D.Dim.I) k) (λ_=>True) trivial ?_ |> λh=>by simpa using h
  intro k K _ J next
  have m:(L++(x.V.Dims.take k).map D.Dim.I).length=L.length+k:=by simp;omega
  refine Asm (Af8 _ x _ k J) ⟨λt=>?_,λE=>⟨trivial,?_⟩⟩
  .have o:k<x.V.Dims.length:=by have:=A0 t;omega
   have b:(k:Int).toNat=k:=oM
   rw[b];refine⟨⟨oM,oM⟩,by rw[m];omega,next _ o trivial ?_⟩;have c:(x.V.Dims.take (k+1)).map D.Dim.I=(x.V.Dims.take k).map D.Dim.I++[(x.V.Dims.getD k default).I]:=by grind[C2]
   have e:L++(x.V.Dims.take (k+1)).map D.Dim.I=(L++(x.V.Dims.take k).map D.Dim.I)++[(x.V.Dims.getD k default).I]:=by rw[c,As0]
   rw[e,Al oM];generalize L++(x.V.Dims.take k).map D.Dim.I=M;generalize(x.V.Dims.getD k default).I=z;refine Up.mk (l':=[(3,.ow 0 0 (M++[z]).length),(45,Bi true x.V.Dims),(46,Aa x.V.Dims.length),(47,Aa ((k+1:Nat):Int))]) (hs':=[.arr true 0 (M++[z]).length 1 (AO (M++[z]))]) ?_ ?_ rfl
   .grind[AR]
   .rw[show M.length+1=(M++[z]).length by simp];exact⟨Asw λi hi=>AN (BW (f:=λn=>[Aa n]) (d:=0) (l:=M) (r:=[z]) (F:=λi=>[.sc (.int .i64 (M.getD i 0))]) (λi hi=>rfl) Ib hi),trivial⟩
  grind[A1,Att,VV.le_refl]
 refine Ap func66 (Aka _ x rfl rfl rfl rfl rfl rfl) ⟨(BV x.Op:Nat),Fk _,?_⟩;rw[b];have p:BV x.Op=([x.A,x.B,x.C].take (BV x.Op)).length:=v.symm;generalize u:[x.A,x.B,x.C].take (BV x.Op)=P at a p loop;have g:Cw x=P++((if x.Op=30\/x.Op=39 then x.Args else[])++(if x.Op=2 then(if x.V.Scope=2 then[x.V.Who]else[])++x.V.Dims.map D.Dim.I else[])):=by unfold Cw;rw[u]
 generalize Cw x=R at g loop |-;rw[p]at s |-;refine⟨⟨oM,oM⟩,oM,λh=>⟨oM,λi hi=>rfl,λk=>?_,λk=>⟨trivial,?_⟩⟩,λh=>⟨λk=>⟨λq=>⟨oM,?_⟩,λq=>?_⟩,λk=>⟨trivial,?_⟩⟩⟩
 .simp at h k;omega
 .have e:R=P++x.Args:=gD
  subst e;rw[show P.length+x.Args.length=(P++x.Args).length by simp];exact As2 (.inl rfl) λi hi=>AN (BW (f:=λn=>[Aa n]) (d:=0) (l:=P) (r:=x.Args) (G:=λj=>[.sc (.int .i64 (x.Args.getD j 0))]) a (λi hi=>rfl) hi)
 .have w:¬(x.Op=30\/x.Op=39):=by simpa using h
  have e:(P++[x.V.Who])++x.V.Dims.map D.Dim.I=R:=gD
  refine AA.le (l':=[(3,.ow 0 0 (P++[x.V.Who]).length),(45,Bi true x.V.Dims),(46,Aa x.V.Dims.length),(47,Aa 0)]) (hs':=[.arr true 0 (P++[x.V.Who]).length 1 (AO (P++[x.V.Who]))]) ?_ ?_ (loop _ (by simp;omega) e)
  .grind[AR]
  .rw[show P.length+1=(P++[x.V.Who]).length by simp];exact⟨Asw λi hi=>AN (BW (f:=λn=>[Aa n]) (d:=0) (l:=P) (r:=[x.V.Who]) a Ib hi),trivial⟩
 .have w:¬(x.Op=30\/x.Op=39):=by simpa using h
  have e:P++x.V.Dims.map D.Dim.I=R:=gD
  exact Ae0 (G:=AO P) (λi hi=>a i hi) (loop _ oM e)
 .have w:¬(x.Op=30\/x.Op=39):=by simpa using h
  have e:R=P:=gD
  subst e;exact As2 (.inl rfl) λi hi=>AN (a i hi)
structure Il (m:D.Model):Prop where
 wf:AF m
 ex:∀k:Nat,k<m.Exprs.length->DM m k=true
def InE (m:D.Model)(l:List Int):Prop:=∀x∈l,0<=x/\x<m.Exprs.length
def YA {m:D.Model}{k:Int}(h0:0<=k)(h:k<m.Exprs.length):Az m k∈m.Exprs:=As oM
def Il.at {m:D.Model}(h:Il m){k:Int}(h0:0<=k)(a:k<m.Exprs.length):DM m k=true:=by
 have:=h.ex k.toNat oM;grind
def Il.held {m:D.Model}(h:Il m){k:Int}(h0:0<=k)(a:k<m.Exprs.length):InE m (Cw (Az m k)):=λx c=>by
 have:=Adb (h.at h0 a) x c;omega
def Il.small {m:D.Model}(h:Il m):∀x∈m.Exprs,x.Args.length<=1048576/\x.V.Dims.length<=1048576:=λx a =>
 ⟨(h.wf.Exprs.2 x a).Args.1,(h.wf.Exprs.2 x a).V.Dims.1⟩
def Il.slots {m:D.Model}(h:Il m){k:Int}(h0:0<=k)(f:k<m.Exprs.length)(h2:(Az m k).Op=2):(Az m k).V.Scope≠0->(Az m k).V.Scope≠1->0<=(Az m k).V.Type_/\(Az m k).V.Type_<m.Procs.length:=by
 have a:=h.at h0 f;unfold DM at a;simp only[Ar2]at a;obtain⟨_,c⟩:=a;generalize Az m k=x at *;rw[Asv oM,AsE h2]at c;simp only[Ar2,D5]at c;obtain⟨⟨⟨⟨⟨⟨d,hs2⟩,_⟩,_⟩,_⟩,e⟩,_⟩:=c;intro n0 n1;have hs:x.V.Scope=2:=by simp at d hs2;omega
 simp only[hs,decide_true,Ar3,Ar2]at e;have:=e.2;unfold DL at this;simp at this;omega
structure Inv (m:D.Model) (i run:Int) (n:Nat) (b:Bool) (seen:List Bool) (todo:List Int) (k:Nat):Prop where
 sl:seen.length=m.Exprs.length
 le:k<=todo.length
 mem:InE m todo
 sum:todo.length+load m seen=n
 res:H8 m i run (todo.length-k+load m seen+1) seen (todo.drop k)=b
section
variable {m : D.Model} {i run:Int} {n:Nat} {b:Bool} {seen:List Bool} {todo:List Int} {k:Nat}
def Inv.at (h:Inv m i run n b seen todo k)(a:k<todo.length):0<=todo.getD k 0/\todo.getD k 0<m.Exprs.length:=h.mem _ (As a)
def Inv.step (h:Inv m i run n b seen todo k)(a:k<todo.length) :
  (bif seen.getD (todo.getD k 0).toNat false then H8 m i run (todo.length-(k+1)+load m seen+1) seen (todo.drop (k+1))else bif Fi m i run (todo.getD k 0)then false
   else H8 m i run (todo.length-(k+1)+load m seen+1) (seen.set (todo.getD k 0).toNat true) (todo.drop (k+1)++Cw (Az m (todo.getD k 0))))=b:=by
 have:=h.res;rw[A9 (d:=0) a,show todo.length-k+load m seen+1=(todo.length-(k+1)+load m seen+1)+1 by omega]at this;exact this
def Inv.had (h:Inv m i run n b seen todo k)(a:k<todo.length)(hs:seen.getD (todo.getD k 0).toNat false=true):Inv m i run n b seen todo (k+1):=by
 have:=h.step a;rw[hs,Ar3]at this;exact⟨h.sl,a,h.mem,h.sum,this⟩
def Inv.bad (h:Inv m i run n b seen todo k)(a:k<todo.length)(hs:seen.getD (todo.getD k 0).toNat false=false)(c:Fi m i run (todo.getD k 0)=true):false=b:=by
 have:=h.step a;grind
def Inv.more (f:Il m)(h:Inv m i run n b seen todo k)(c:k<todo.length)(hs:seen.getD (todo.getD k 0).toNat false=false)(g:Fi m i run (todo.getD k 0)=false) :
  Inv m i run n b (seen.set (todo.getD k 0).toNat true) (todo++Cw (Az m (todo.getD k 0))) (k+1):=by
 have d:=h.at c;have j:=AjX (m:=m) hs (by rw[h.sl];omega) h.sl;have:=h.step c;rw[hs,Ar1,g,Ar1]at this;have e:=h.sum;have l:m.Exprs.getD (todo.getD k 0).toNat default=Az m (todo.getD k 0):=rfl;rw[l]at j;refine⟨by simp[h.sl],by simp;omega,λx a=>?_,gD,?_⟩
 .rcases Ast.1 a with a|a
  .exact h.mem x a
  .exact f.held d.1 d.2 x a
 grind
end
def Tc (m:D.Model)(i run k:Int):Fi m i run k=((bif bif(Az m k).Op==39 then k != run else false then true else bif i==m.Claim then bif bif(Az m k).Op==31 then true else(Az m k).Op==39 then true else bif(Az m k).Op==2 then(Az m k).V.Scope==1 else false else false) ||
  ((Az m k).Op==2&&decide (Jo m i (Az m k).V<FK (Az m k).V))):=by
 unfold Fi;grind
def U8 {l:List Bool}{t j:Nat}(d:j<l.length):(bif j.beq t then[VV.sc (.bool true)]else[.sc (.bool (l.getD j false))])=[Ac ((l.set t true).getD j false)]:=by
 cases c:j.beq t with
 | true =>
  have:=Ar5 c;subst this;simp[List.getD,d,Ac]
 | false =>
  have a:t≠j:=by rintro rfl;simp at c
  simp[List.getD,a,Ac]
def Adm {l r:List Int}{F:Nat->List VV}(a:∀i,i<l.length->F i=[Aa (l.getD i 0)]){i:Nat}(hi:i<(l++r).length):(bif i.blt l.length then F i else(λj=>[Aa (r.getD j 0)]) (i-l.length))=AO (l++r) i :=
 BW (f:=λn=>[Aa n]) (d:=0) (l:=l) (r:=r) (G:=λj=>[Aa (r.getD j 0)]) a (λ_ _=>rfl) hi
def Ad5 {m:D.Model}{i run:Int}{list:List Int}(s:Il m)(z:0<=i)(hi:i<m.Procs.length)(B:InE m list)(F:list.length<=2097152) :
  Ah prog 69 [] [tpM m,Aa i,Ad false list,Aa run] [] (Ac (Hb m i list run)):=by
 have L:=s.wf.Exprs.1;have C:=Anc s.small (Bo m);have G:m.Exprs.length*2097156<=1048576*2097156:=Ask _ L;generalize M:Hb m i list run=b;have inv0:Inv m i run (list.length+load m (Bo m)) b (Bo m) list 0:=⟨by simp[Bo],Ar9 _,B,rfl,by rw[<- M]<;>rfl⟩;generalize S:list.length+load m (Bo m)=n at inv0;have N:n<=4398046511104:=oM
 have small:∀{t:Int},0<=t->t<m.Exprs.length->(Az m t).Args.length<=1048576/\(Az m t).V.Dims.length<=1048576:=λh0 h1=>s.small _ (YA h0 h1)
 have wfv:∀{t:Int},0<=t->t<m.Exprs.length->Kd (Az m t).V:=λh0 h1=>(s.wf.Exprs.2 _ (YA h0 h1)).V
 refine Ap func69 (Ahz _ m i list run) ?_;refine Ol Aj Ak 0 (λg st=>∃(seen:List Bool)(todo:List Int)(k:Nat),Inv m i run n b seen todo k/\g=todo.length-k+load m seen/\st=QX m i list run seen todo k) kR kR kR kR (Asm (Ad7 _ m i list run _ rfl rfl rfl rfl) ?_) λg st h=>?_
 .have E:((m.Exprs.length:Int).toNat)=m.Exprs.length:=oM
  rw[E];have u:Int.toNat 0=0:=rfl;have I:∀j,j<m.Exprs.length->(Bo m).getD j false=false:=λj p=>by simp[Bo,List.getD,p]
  have O:(Bo m).length=m.Exprs.length:=by simp[Bo]
  refine⟨⟨oM,oM,oM⟩,oM,λ_ _=>rfl,λh=>AB ?_,λh=>?_⟩
  .have h0:list.length=0:=by simp at h;omega
   have:=inv0.res;rw[AsO h0]at this;rw[<- this]<;>rfl
  .have h0:0<list.length:=by simp at h;omega
   have f:=inv0.at h0;rw[u];have hs:=I (list.getD 0 0).toNat oM;have a:=Tc m i run (list.getD 0 0);have more:=λc=>inv0.more s h0 hs c
   have bad:=λc=>inv0.bad h0 hs c
   have d:=small f.1 f.2;have v:=wfv f.1 f.2;have A:=inv0.sum;have o:=s.slots f.1 f.2;refine⟨⟨oM,oM⟩,⟨oM,oM⟩,λh=>(by cases h),λ_=>⟨⟨oM,oM⟩,⟨oM,oM⟩,λq=>AB (bad (by rw[a,Atk];exact .inl q)),λq=>?_⟩⟩;have fin:Fi m i run (list.getD 0 0)=false->(list.length+(Cw (Az m (list.getD 0 0))).length)*8<=140737488355328/\∃g,Up (λst=>∃(seen:List Bool)(todo:List Int)(k:Nat),Inv m i run n b seen todo k/\g=todo.length-k+load m seen/\st=QX m i list run seen todo k)
     (An [(0,tpM m),(1,Aa i),(2,Ad false list),(3,Aa run),(9,.ow 0 0 m.Exprs.length),(10,.ow 1 0 (list.length+(Cw (Az m (list.getD 0 0))).length)),(11,Aa (i64.wrap (0+1)))]
      [.arr true 0 m.Exprs.length 1 (λj=>bif j.beq (list.getD 0 0).toNat then[.sc (.bool true)]else[.sc (.bool false)]),.arr true 0 (list.length+(Cw (Az m (list.getD 0 0))).length) 1 (λj=>bif j.blt list.length then(λj=>[Aa (list.getD j 0)]) j else(λj=>[Aa ((Cw (Az m (list.getD 0 0))).getD j 0)]) (j-list.length))]):=by
    intro c;have r:=more c;have e:=r.sum;generalize Cw (Az m (list.getD 0 0))=H at r e |-;generalize(list.getD 0 0).toNat=t at r e |-;rw[Ar7]at e;refine⟨oM,(list++H).length-(0+1)+load m ((Bo m).set t true),?_⟩;have P:i64.wrap (0+1)=((1:Nat):Int):=rfl;have w:m.Exprs.length=((Bo m).set t true).length:=by simp[Bo]
    refine Up.mk (l':=[(0,tpM m),(1,Aa i),(2,Ad false list),(3,Aa run),(9,.ow 0 0 ((Bo m).set t true).length),(10,.ow 1 0 (list++H).length),(11,Aa ((1:Nat):Int))])
     (hs':=[.arr true 0 ((Bo m).set t true).length 1 (IB ((Bo m).set t true)),.arr true 0 (list++H).length 1 (AO (list++H))]) ?_ ?_ ⟨_,_,_,r,rfl,rfl⟩
    .grind[Ar7,AR]
    .rw[<- w,<- Ar7];refine⟨Asw λj p=>AN ?_,Asw λj p=>AN (Adm (λi hi=>rfl) p),trivial⟩;have:=U8 (l:=Bo m) (t:=t) (j:=j) oM;rw[I j p]at this;exact this
   refine⟨λh2=>⟨_,HC v,_,Q3 (λ_=>⟨z,hi⟩) (o (eq_of_beq h2)),λh3=>AB (bad ?_),λh3=>?_⟩,λh2=>?_⟩
   .rw[a,Atk,Ar2];exact .inr ⟨h2,h3⟩
   .have c:Fi m i run (list.getD 0 0)=false:=by
     rw[a,Ass,AtC];exact⟨q,.inr h3⟩
    obtain⟨x,y⟩:=fin c;exact⟨Cw (Az m (list.getD 0 0)),I3 d.1 d.2,x,λi hi=>rfl,y⟩
   .have c:Fi m i run (list.getD 0 0)=false:=by
     rw[a,Ass,AtC];exact⟨q,.inl h2⟩
    obtain⟨x,y⟩:=fin c;exact⟨Cw (Az m (list.getD 0 0)),I3 d.1 d.2,x,λi hi=>rfl,y⟩
 .obtain⟨seen,todo,k,inv,rfl,rfl⟩:=h;refine Asm (Ad6 _ m i list run seen todo k _ rfl rfl rfl) ⟨λh=>AB ?_,λh=>?_⟩
  .have h0:k=todo.length:=by simp at h;omega
   have:=inv.res;rw[Atu oM]at this;rw[<- this,H8]
  .have Q:=inv.le;have h0:k<todo.length:=by simp at h;omega
   have f:=inv.at h0;have u:(k:Int).toNat=k:=oM
   rw[u];have a:=Tc m i run (todo.getD k 0);have d:=small f.1 f.2;have v:=wfv f.1 f.2;have A:=inv.sum;have J:=inv.sl;have o:=s.slots f.1 f.2;refine⟨⟨oM,oM⟩,⟨oM,oM⟩,λhs=>?_,λhs=>?_⟩
   .have R:=inv.had h0 hs;refine⟨todo.length-(k+1)+load m seen,oM,Up.of ⟨seen,todo,k+1,R,rfl,?_⟩⟩;grind[Al]
   have more:=λc=>inv.more s h0 hs c
   have bad:=λc=>inv.bad h0 hs c
   refine⟨⟨oM,oM⟩,⟨oM,oM⟩,λq=>AB (bad (by rw[a,Atk];exact .inl q)),λq=>?_⟩;have fin:Fi m i run (todo.getD k 0)=false->(todo.length+(Cw (Az m (todo.getD k 0))).length)*8<=140737488355328/\∃K,K<todo.length-k+load m seen/\Up (λst=>∃(seen:List Bool)(todo:List Int)(k:Nat),Inv m i run n b seen todo k/\K=todo.length-k+load m seen/\st=QX m i list run seen todo k)
     (An [(0,tpM m),(1,Aa i),(2,Ad false list),(3,Aa run),(9,.ow 0 0 seen.length),(10,.ow 1 0 (todo.length+(Cw (Az m (todo.getD k 0))).length)),(11,Aa (i64.wrap (k+1)))]
      [.arr true 0 seen.length 1 (λj=>bif j.beq (todo.getD k 0).toNat then[.sc (.bool true)]else[.sc (.bool (seen.getD j false))]),.arr true 0 (todo.length+(Cw (Az m (todo.getD k 0))).length) 1 (λj=>bif j.blt todo.length then AO todo j else(λj=>[Aa ((Cw (Az m (todo.getD k 0))).getD j 0)]) (j-todo.length))]):=by
    intro c;have r:=more c;have e:=r.sum;generalize Cw (Az m (todo.getD k 0))=H at r e |-;generalize(todo.getD k 0).toNat=t at r e |-;rw[Ar7]at e;refine⟨oM,(todo++H).length-(k+1)+load m (seen.set t true),gD,?_⟩;have w:seen.length=(seen.set t true).length:=sM
    refine Up.mk (l':=[(0,tpM m),(1,Aa i),(2,Ad false list),(3,Aa run),(9,.ow 0 0 (seen.set t true).length),(10,.ow 1 0 (todo++H).length),(11,Aa ((k+1:Nat):Int))])
     (hs':=[.arr true 0 (seen.set t true).length 1 (IB (seen.set t true)),.arr true 0 (todo++H).length 1 (AO (todo++H))]) ?_ ?_ ⟨_,_,_,r,rfl,rfl⟩
    .grind[Al,Ar7,AR]
    .rw[<- w,<- Ar7];exact⟨Asw λj p=>AN (U8 p),Asw λj p=>AN (Adm (λi hi=>rfl) p),trivial⟩
   refine⟨λh2=>⟨_,HC v,_,Q3 (λ_=>⟨z,hi⟩) (o (eq_of_beq h2)),λh3=>AB (bad ?_),λh3=>?_⟩,λh2=>?_⟩
   .rw[a,Atk,Ar2];exact .inr ⟨h2,h3⟩
   .have c:Fi m i run (todo.getD k 0)=false:=by
     rw[a,Ass,AtC];exact⟨q,.inr h3⟩
    obtain⟨x,y⟩:=fin c;exact⟨Cw (Az m (todo.getD k 0)),I3 d.1 d.2,x,λi hi=>rfl,y⟩
   .have c:Fi m i run (todo.getD k 0)=false:=by
     rw[a,Ass,AtC];exact⟨q,.inl h2⟩
    obtain⟨x,y⟩:=fin c;exact⟨Cw (Az m (todo.getD k 0)),I3 d.1 d.2,x,λi hi=>rfl,y⟩
def Acf {m:D.Model}{i run:Int}{list:List Int}{n:Nat}{F:Nat->List VV}(e:Il m)(c:0<=i)(hi:i<m.Procs.length)(d:InE m list)(a:list.length<=2097152)(f:n=list.length)(g:∀j,j<list.length->F j=[Aa (list.getD j 0)]) :
  Ah prog 69 [] [tpM m,Aa i,.sl false n 1 F,Aa run] [] (Ac (Hb m i list run)):=by
 subst f;exact(Ad5 e c hi d a).le trivial ⟨lR,lR,As2 (.inl rfl) λj h=>AN (g j h),lR,trivial⟩ trivial lR
def BY (s:D.Stmt):List Int:=s.Args++((if 0<=s.A then[s.A]else[])++(if 0<=s.B then[s.B]else[]))
def IU {m:D.Model}{a:Int}(h:FO m a=true):0<=a/\a<m.Exprs.length:=Cn.1 h
def QP {m:D.Model}{a:Int}(h:DR m a=true):0<=a/\a<m.Exprs.length:=by
 unfold DR at h;simp only[Ar2]at h;exact IU h.1.1
def X5 {m:D.Model}{a:Int}{args mt:List Int}(h:Dc m a args mt=true):1<=args.length/\args.length<=8/\mt.length=args.length/\∀x∈args,0<=x/\x<a:=by
 unfold Dc at h;simp_all[Gv]
def AlO {m:D.Model}{s:D.Stmt}(h:AZ m s=true):InE m s.Args/\(0<=s.A->s.A<m.Exprs.length)/\(0<=s.B->s.B<m.Exprs.length):=by
 have none:∀{n t:Bool},Gr s true n t=true->InE m s.Args:=λc=>by
  unfold Gr at c;simp only[Ar2,AtM,AtN,Asc]at c;have:s.Args=[]:=AsO oM;rw[this];intro x d;cases d
 unfold AZ at h;split at h
 .simp_all[IU]
 split at h
 .simp_all[QP,IU]
 split at h
 .simp only[Ar2,Asc]at h;exact⟨Gv.1 h.1.1.1.2,λh0=>oM,λh0=>oM⟩
 split at h
 .simp only[Ar2,Asc]at h;exact⟨Gv.1 h.1.1.1.2,λ_=>(IU h.1.1.1.1.1.1.1).2,λh0=>oM⟩
 split at h
 .simp only[Ar2,Asc]at h;have a:=h.1.1.1.2;unfold Jj at a;simp only[Ar2]at a;exact⟨(X5 a.1).2.2.2,λ_=>(IU h.1.1.1.1.1).2,λh0=>oM⟩
 split at h
 .grind
 simp_all[QP]
def ZE {m:D.Model}{s:D.Stmt}(h:AZ m s=true):InE m (BY s):=by
 obtain⟨h1,h2,h3⟩:=AlO h;intro x a;unfold BY at a;rcases Ast.1 a with a|a
 .exact h1 x a
 grind
def Ahp {m:D.Model}{i:Int}{s:D.Stmt}(C:Il m)(v:0<=i)(hi:i<m.Procs.length)(hs:Ab0 s):Ah prog 68 [] [tpM m,Aa i,.agg (Ax s)] [] (Ac (JZ m i s)):=by
 have J:=hs.a;have e:∀{k:Int},(s.Kind==k)=true->s.Kind=k:=λh=>by simpa using h
 have c:∀{k:Int},(s.Kind==k)=false->s.Kind≠k:=λh=>by simpa using h
 have ec:(bif bif bif bif i==m.Claim then s.Kind != 1 else false then s.Kind != 3 else false then s.Kind != 7 else false then s.Kind != 8 else false)=(decide (i=m.Claim)&&(decide (s.Kind≠1)&&(decide (s.Kind≠3)&&(decide (s.Kind≠7)&&decide (s.Kind≠8))))):=gD
 refine Ap func68 (AlE _ m i s rfl rfl rfl rfl rfl) ⟨AZ m s,QT hs,?_⟩;rw[ec];have ew:JZ m i s=(AZ m s&&!(decide (i=m.Claim)&&(decide (s.Kind≠1)&&(decide (s.Kind≠3)&&(decide (s.Kind≠7)&&decide (s.Kind≠8)))))&&Hb m i (BY s) (if s.Kind=1 then s.A else if s.Kind=2 then s.B else -1)):=rfl;generalize(decide (i=m.Claim)&&(decide (s.Kind≠1)&&(decide (s.Kind≠3)&&(decide (s.Kind≠7)&&decide (s.Kind≠8)))))=cl at ew |-;refine⟨λh=>AB ?_,λh=>?_⟩
 .grind
 .have w:AZ m s=true:=gD
  have x:cl=false:=by rw[w]at h;simpa using h
  rw[w,x]at ew;simp only[Bool.not_false,As5]at ew;have y:=ZE w;have go:∀(run:Int)(n:Nat)(F:Nat->List VV),n=(BY s).length->(∀j,j<(BY s).length->F j=[Aa ((BY s).getD j 0)])->Ah prog 69 [] [tpM m,Aa i,.sl false n 1 F,Aa run] [] (Ac (Hb m i (BY s) run)):=λrun n F E G =>
   Acf C v hi y (by unfold BY;grind) E G
  have q:s.Kind=1->JZ m i s=Hb m i (BY s) s.A:=λh=>by rw[ew,AsE h]
  have r2:s.Kind≠1->s.Kind=2->JZ m i s=Hb m i (BY s) s.B:=λh z=>by rw[ew,Asv h,AsE z]
  have t:s.Kind≠1->s.Kind≠2->JZ m i s=Hb m i (BY s) (-1):=λh z=>by rw[ew,Asv h,Asv z]
  generalize JZ m i s=b at q r2 t |-;refine⟨oM,λ_ _=>rfl,λH=>⟨oM,λhB=>⟨oM,?_⟩,λhB=>?_⟩,λH=>⟨λhB=>⟨oM,?_⟩,λhB=>?_⟩⟩
  .have p:BY s=(s.Args++[s.A])++[s.B]:=by unfold BY;grind
   have g:s.Args.length+1+1=(BY s).length:=by rw[p];simp
   have I:s.Args.length+1=(s.Args++[s.A]).length:=sM
   have o:∀j,j<(BY s).length->(bif Nat.blt j (s.Args.length+1)then(λj=>bif Nat.blt j s.Args.length then[VV.sc (.int .i64 (s.Args.getD j 0))]else(λi=>List.take 1 (List.drop (i*1) [VV.sc (.int .i64 s.A)])) (j-s.Args.length)) j else(λi=>List.take 1 (List.drop (i*1) [VV.sc (.int .i64 s.B)])) (j-(s.Args.length+1)))=[Aa ((BY s).getD j 0)]:=by
    rw[p,I];exact λj u=>BW (f:=λn=>[Aa n]) (d:=0) (l:=s.Args++[s.A]) (r:=[s.B]) (F:=λj=>bif Nat.blt j s.Args.length then[VV.sc (.int .i64 (s.Args.getD j 0))]else(λi=>List.take 1 (List.drop (i*1) [VV.sc (.int .i64 s.A)])) (j-s.Args.length)) (λi hi=>BW (f:=λn=>[Aa n]) (d:=0) (l:=s.Args) (r:=[s.A]) (F:=λj=>[.sc (.int .i64 (s.Args.getD j 0))]) (λi hi=>rfl) Ib hi) Ib u
   exact⟨λk1=>⟨_,go _ _ _ g o,AB (q (e k1)).symm⟩,λk1=>⟨λk2=>⟨_,go _ _ _ g o,AB (r2 (c k1) (e k2)).symm⟩,λk2=>⟨_,go _ _ _ g o,AB (t (c k1) (c k2)).symm⟩⟩⟩
  .have p:BY s=s.Args++[s.A]:=by unfold BY;grind
   have g:s.Args.length+1=(BY s).length:=by rw[p];simp
   have o:∀j,j<(BY s).length->(bif Nat.blt j s.Args.length then[VV.sc (.int .i64 (s.Args.getD j 0))]else(λi=>List.take 1 (List.drop (i*1) [VV.sc (.int .i64 s.A)])) (j-s.Args.length))=[Aa ((BY s).getD j 0)]:=by
    rw[p];exact λj u=>BW (f:=λn=>[Aa n]) (d:=0) (l:=s.Args) (r:=[s.A]) (F:=λj=>[.sc (.int .i64 (s.Args.getD j 0))]) (λi hi=>rfl) Ib u
   exact⟨λk1=>⟨_,go _ _ _ g o,AB (q (e k1)).symm⟩,λk1=>⟨λk2=>⟨_,go _ _ _ g o,AB (r2 (c k1) (e k2)).symm⟩,λk2=>⟨_,go _ _ _ g o,AB (t (c k1) (c k2)).symm⟩⟩⟩
  .have p:BY s=s.Args++[s.B]:=by unfold BY;grind
   have g:s.Args.length+1=(BY s).length:=by rw[p];simp
   have o:∀j,j<(BY s).length->(bif Nat.blt j s.Args.length then[VV.sc (.int .i64 (s.Args.getD j 0))]else(λi=>List.take 1 (List.drop (i*1) [VV.sc (.int .i64 s.B)])) (j-s.Args.length))=[Aa ((BY s).getD j 0)]:=by
    rw[p];exact λj u=>BW (f:=λn=>[Aa n]) (d:=0) (l:=s.Args) (r:=[s.B]) (F:=λj=>[.sc (.int .i64 (s.Args.getD j 0))]) (λi hi=>rfl) Ib u
   exact⟨λk1=>⟨_,go _ _ _ g o,AB (q (e k1)).symm⟩,λk1=>⟨λk2=>⟨_,go _ _ _ g o,AB (r2 (c k1) (e k2)).symm⟩,λk2=>⟨_,go _ _ _ g o,AB (t (c k1) (c k2)).symm⟩⟩⟩
  .have p:BY s=s.Args:=by unfold BY;grind
   have g:s.Args.length=(BY s).length:=by rw[p]
   have o:∀j,j<(BY s).length->[Aa (s.Args.getD j 0)]=[Aa ((BY s).getD j 0)]:=by rw[p];exact λ_ _=>rfl
   exact⟨λk1=>⟨_,go _ _ _ g o,AB (q (e k1)).symm⟩,λk1=>⟨λk2=>⟨_,go _ _ _ g o,AB (r2 (c k1) (e k2)).symm⟩,λk2=>⟨_,go _ _ _ g o,AB (t (c k1) (c k2)).symm⟩⟩⟩
def Ahi {t:D.Trans}(h:Qu t):Ab0 t.S:=⟨h.S.Args.1,h.S.Match.1⟩
def AlC {l:D.Loc}(h:GV l):(C8 l).length<=1048577/\∀w∈C8 l,Lh w:=by
 refine⟨by have:=h.Esc.1;simp[C8];omega,λw a=>?_⟩;rcases AsN.1 a with rfl|a
 .exact h.Out
 .exact h.Esc.2 w a
def Afq {m:D.Model}{i:Int}(G:Il m)(q:0<=i)(hi:i<m.Procs.length)(H:(m.Procs.getD i.toNat default).Provided<m.Exprs.length) :
  Ah prog 38 [] [tpM m,Aa i] [] (Ac (CY m i)):=by
 have I:=G.wf.Procs.2 _ (As (d:=default) (show i.toNat<m.Procs.length by omega));refine Ap func38 (AiQ _ m i) ⟨⟨q,hi⟩,?_⟩;generalize F:CY m i=b;unfold CY at F;simp only at F;generalize m.Procs.getD i.toNat default=p at I H F |-;have hl:=I.Locs.1;have bad:∀k,k<p.Locs.length->L0 m i (p.Locs.getD k default)=false->false=b:=λk W R=>by grind[DY]
 refine Ar p.Locs.length (λk=>Ng m i p k) (λk=>∀j,j<k->L0 m i (p.Locs.getD j default)=true) (λi hi=>oM) ?_;intro k W X J next
 refine Asm (Afu _ m i p k J) ⟨λK=>?_,λL=>⟨Hb m i [p.Provided] (-1),λr=>?_,AB ?_⟩⟩
 .have o:k<p.Locs.length:=by have:=A0 K;omega
  have M:(k:Int).toNat=k:=oM
  rw[M];have t:=I.Locs.2 _ (As (d:=default) o);have bad':=bad k o;have next':∀c,L0 m i (p.Locs.getD k default)=true->Up (λs=>s=Ng m i p ((k+1:Nat):Int)) c->J c:=gD;generalize p.Locs.getD k default=l at t bad' next' |-;obtain⟨N,v⟩:=AlC t;refine⟨⟨oM,oM⟩,C8 l,SZ t.Esc.1,?_⟩;unfold L0 at bad' next';generalize C8 l=ws at N v bad' next' |-;refine Ar ws.length (λj=>Nf m i p k ws j) (λj=>∀x,x<j->GW m i (ws.getD x [])=true) (λi hi=>oM) ?_;intro j Y Z J2 next2;refine Asm (Aft _ m i p k ws j J J2) ⟨λz=>?_,λT=>?_⟩
  .have e:j<ws.length:=by have:=A0 z;omega
   have A:(j:Int).toNat=j:=oM
   rw[A];have g:=v _ (As (d:=[]) e);have bad2:GW m i (ws.getD j [])=false->false=b:=λR=>bad' (DY (f:=λx=>GW m i (ws.getD x [])) e R)
   have next2':∀c,GW m i (ws.getD j [])=true->Up (λs=>s=Nf m i p k ws ((j+1:Nat):Int)) c->J2 c:=gD;generalize ws.getD j []=w at g bad2 next2' |-;have U:=g.1;refine⟨⟨oM,oM⟩,?_⟩;refine Ar w.length (λh=>PX m i p k ws j w h) (λh=>∀x,x<h->JZ m i (w.getD x default).S=true) (λi hi=>oM) ?_;intro h hh O J3 next3;refine Asm (Afs _ m i p k ws j w h J J2 J3) ⟨λB=>?_,λC=>?_⟩
   .have a:h<w.length:=by have:=A0 B;omega
    have E:(h:Int).toNat=h:=oM
    rw[E];have P:=Ahi (g.2 _ (As (d:=default) a));refine⟨⟨oM,oM⟩,JZ m i (w.getD h default).S,Ahp G q hi P,λr=>AB ?_,λr=>next3 _ a (λx u=>?_) (Up.of ?_)⟩
    .exact bad2 (DY (f:=λx=>JZ m i (w.getD x default).S) a (by simpa using r))
    .grind
    grind[Al]
   .have Q:w.length<=h:=by have:=A1 C;omega
    refine next2' _ (BC.2 λx u=>O x oM) (Up.of ?_);grind[Al]
  grind[A1,BC,Up.of,Al]
 .have h0:0<=p.Provided:=by simp at r;omega
  refine Ah.frz (Acf (list:=[p.Provided]) (n:=1) G q hi (λx u=>?_) sM rfl Ib) rfl ?_
  .grind
  .intro j x y u r
   match j with
   | 0=>grind[DV]
   | 1=>grind[DV]
   | 2=>simp only[AsY,Asq,Ar4]at u r;subst u r;exact KI
   | 3=>grind[DV]
   | j+4=>simp at u
 .have V:p.Locs.length<=k:=by have:=A1 L;omega
  rw[<- F,(BC (n:=p.Locs.length) (f:=λk=>L0 m i (p.Locs.getD k default))).2 λj Y=>X j oM,As5,Ce]
def Uj {m:D.Model}:∀(g i:Nat)(had:List Bool),g+i=m.Exprs.length->Ed m g i had<0->∀j,i<=j->j<m.Exprs.length->DM m j=true
 | 0,i,had,h,_,j,h1,h2=>oM
 | g+1,i,had,h,hn,j,h1,h2=>by
  unfold Ed at hn;cases c:DM m i with
  | false=>grind
  | true =>
   rw[c,Ar3]at hn;split at hn
   .rename_i a _
    by_cases b:i=j
    .subst b;exact c
    .exact Uj g (i+1) a oM hn j oM h2
   .omega
def NR {m:D.Model}(h:FT m<0):∀k:Nat,k<m.Exprs.length->DM m k=true:=λk a=>Uj _ 0 _ rfl h k (Ar9 _) a
def FW {n:Nat}{f:Nat->Bool}(h:KY n f<0):∀i,i<n->f i=true:=by grind[R9]
def AnT {n:Nat}{f:Nat->Bool}:-1<=KY n f:=by grind[R9]
def WH {m:D.Model}(F:AF m):Ah prog 34 [] [tpM m] [] (.tup [Aa (CU m).1,Aa (CU m).2]):=by
 have T:=F.Globals.1;have hS:=F.Shapes.1;have hC:=F.Chans.1;have hE:=F.Exprs.1;refine Ap func34 (ZQ _ _ m) ?_;have U:(bif decide ((m.Globals.length:Int) > 128)then true else(m.Init.length:Int) != (m.Globals.length:Int))=(decide (128<m.Globals.length)||!decide (m.Init.length=m.Globals.length)):=gD
 have t2:(bif decide ((m.Shapes.length:Int) > 32)then true else decide ((m.Chans.length:Int) > 32))=(decide (32<m.Shapes.length)||decide (32<m.Chans.length)):=gD
 have W:(bif bif bif bif decide ((m.Procs.length:Int)<1)then true else decide ((m.Procs.length:Int) > 16)then true else decide (m.Claim<(-1:Int))then true else decide (m.Claim>=(m.Procs.length:Int))then true else decide ((m.Exprs.length:Int) > 4096)) =
   (decide (m.Procs.length<1)||(decide (16<m.Procs.length)||(decide (m.Claim < -1)||(decide ((m.Procs.length:Int)<=m.Claim)||decide (4096<m.Exprs.length))))):=gD
 rw[U,t2];generalize z:CU m=R;unfold CU at z;refine⟨λh=>NK gD,λh=>⟨Gb m.Globals m.Init,QJ (by simp at h;omega) T,λh2=>NK gD,λh2=>⟨λh3=>NK ?_,λh3=>?_⟩⟩⟩
 .grind
 rw[h,Ar1,h2,Ar1,h3,Ar1]at z;refine Ar m.Shapes.length (λk=>UZ m k) (λk=>∀i,i<k->EN (m.Shapes.getD i default)=true) (λi hi=>oM) ?_;intro k S A J next
 refine Asm (WM _ _ m k J) ⟨λc=>?_,λn=>?_⟩
 .have b:k<m.Shapes.length:=by have:=A0 c;omega
  refine⟨⟨oM,oM⟩,EN (m.Shapes.getD k default),Aai (F.Shapes.2 _ (As b)),λu=>NK ?_,λu=>next _ b (λi hi=>?_) (Up.of ?_)⟩
  .have e:Hm m=k:=I8 (f:=λi=>EN (m.Shapes.getD i default)) A b (by simpa using u);grind
  .grind
  grind[Al]
 have w:m.Shapes.length<=k:=by have:=A1 n;omega
 have es:Hm m=-1:=Gx (f:=λi=>EN (m.Shapes.getD i default)) λi hi=>A i oM
 rw[es,show decide ((0:Int)<=-1)=false from rfl,Ar1]at z;clear A next
 refine Ar m.Chans.length (λk=>UY m k) (λk=>∀i,i<k->inP m.Shapes.length (m.Chans.getD i 0)=true) (λi hi=>oM) ?_;intro k S A J next
 refine Asm (WL _ _ m k J rfl rfl) ⟨λc=>?_,λn=>?_⟩
 .have b:k<m.Chans.length:=by have:=A0 c;omega
  have q:(k:Int).toNat=k:=oM
  rw[q];have r:inP m.Shapes.length (m.Chans.getD k 0)=!(bif decide (m.Chans.getD k 0<0)then true else decide (m.Chans.getD k 0>=(m.Shapes.length:Int))):=by unfold inP;rw[AsU];simp
  refine⟨⟨oM,oM⟩,λu=>NK ?_,λu=>next _ b (λi hi=>?_) (Up.of ?_)⟩
  .have e:JK m=k:=I8 (f:=λi=>inP m.Shapes.length (m.Chans.getD i 0)) A b gD;grind
  .grind
  grind[Al]
 have w:m.Chans.length<=k:=by have:=A1 n;omega
 have ec:JK m=-1:=Gx (f:=λi=>inP m.Shapes.length (m.Chans.getD i 0)) λi hi=>A i oM
 rw[ec,show decide ((0:Int)<=-1)=false from rfl,Ar1]at z;rw[W];refine⟨λh4=>NK gD,λh4=>⟨⟨oM,oM,oM⟩,?_⟩⟩;rw[h4,Ar1]at z;clear A next
 have G:((m.Exprs.length:Int).toNat)=(Bo m).length:=by simp[Bo]
 have H:(Bo m).length=m.Exprs.length:=by simp[Bo]
 refine AA.le (l':=[(0,tpM m),(4,.bp 0 0),(10,.ow 1 0 (Bo m).length),(116,Aa m.Exprs.length),(117,Aa 0)]) (hs':=[.box (Ae m),.arr true 0 (Bo m).length 1 (IB (Bo m))]) ?_ ?_ ?_
 .rw[G];exact AR _
 .rw[G];refine⟨Ob.le_refl _,Asw λi hi=>AN ?_,trivial⟩;have:(Bo m).getD i false=false:=by
   have O:i<m.Exprs.length:=by rw[<- H];exact hi
   simp[Bo,List.getD,O]
  show _=[Ac ((Bo m).getD i false)];rw[this]<;>rfl
 generalize Y:FT m=X at z;have fin:∀{y:Int×Int},(bif decide (0<=X)then((3:Int),X)else(0,0))=y->y=R:=λh=>by rw[<- h];exact z
 refine Aq (λg st=>∃(k:Nat)(had:List Bool),k<=m.Exprs.length/\g=m.Exprs.length-k/\had.length=m.Exprs.length/\Ed m (m.Exprs.length-k) k had=X/\st=ZX m had k) ⟨_,Up.of ⟨0,Bo m,Ar9 _,rfl,H,Y,rfl⟩⟩ ?_;rintro g st ⟨k,had,S,rfl,P,v,rfl⟩;refine Asm (WK _ _ m had k _) ⟨λc=>?_,λn=>NK (fin ?_)⟩
 .have b:k<m.Exprs.length:=by have:=A0 c;omega
  have q:(k:Int).toNat=k:=oM
  rw[q];have s:Lg (m.Exprs.getD k default):=F.Exprs.2 _ (As b);rw[show m.Exprs.length-k=(m.Exprs.length-(k+1))+1 by omega]at v;unfold Ed at v;refine⟨DM m k,Agm oM oM (by unfold Az;rw[q];exact s),λu=>NK (fin ?_),λu=>⟨⟨oM,oM⟩,Cw (m.Exprs.getD k default),I3 s.Args.1 s.V.Dims.1,?_⟩⟩
  .grind
  .have I:DM m k=true:=by simpa using u
   rw[I,Ar3]at v;have r:=Adb I;have B:=Yl s.Args.1 s.V.Dims.1;unfold Az at r;rw[q]at r;generalize Cw (m.Exprs.getD k default)=l at r B v |-;generalize Z:VD had l=o at v;refine Aq (λg st=>∃(j:Nat)(a:List Bool),j<=l.length/\g=l.length-j/\a.length=m.Exprs.length/\VD a (l.drop j)=o/\st=ZW m a k l j) ⟨_,Up.of ⟨0,had,Ar9 _,rfl,P,Z,rfl⟩⟩ ?_;rintro g st ⟨j,a,hj,rfl,K,x,rfl⟩;refine Asm (WJ _ _ m a k l j _ _ rfl) ⟨λL=>?_,λM=>?_⟩
   .have t:j<l.length:=by have:=A0 L;omega
    have N:(j:Int).toNat=j:=oM
    rw[N];have Q:=r _ (As (d:=0) t);rw[A9 (d:=0) t]at x;generalize l.getD j 0=p at Q x |-;unfold VD at x;refine⟨⟨oM,oM⟩,⟨oM,oM⟩,λu=>NK (fin ?_),λu=>⟨⟨oM,oM⟩,l.length-(j+1),oM,?_⟩⟩
    .grind
    .rw[u,Ar1]at x;have C:(a.set p.toNat true).length=a.length:=sM
     rw[Al oM];refine Up.mk (l':=[(0,tpM m),(4,.bp 0 0),(10,.ow 1 0 (a.set p.toNat true).length),(11,Aa k),(116,Aa m.Exprs.length),(117,Aa k),(130,Ad true l),(131,Aa l.length),(132,Aa ((j+1:Nat):Int))])
      (hs':=[.box (Ae m),.arr true 0 (a.set p.toNat true).length 1 (IB (a.set p.toNat true))]) ?_ ?_ ⟨j+1,a.set p.toNat true,oM,rfl,by rw[C];exact K,x,rfl⟩
     .rw[C];exact AR _
     .rw[C];exact⟨Ob.le_refl _,Asw λi hi=>AN (U8 hi),trivial⟩
   .have E:l.length<=j:=by have:=A1 M;omega
    rw[Atu E]at x;unfold VD at x;rw[<- x]at v;rw[Al oM];exact⟨m.Exprs.length-(k+1),oM,Up.of gD⟩
 .have w:m.Exprs.length<=k:=by have:=A1 n;omega
  rw[show m.Exprs.length-k=0 by omega]at v;unfold Ed at v;rw[<- v]<;>rfl
theorem KO (m:D.Model)(k:Nat):Dd m k=(bif bif bif bif !(DE (m.Procs.getD k default))then true else !(E4 (m.Procs.getD k default))then true else decide ((m.Procs.getD k default).Provided<(-1:Int))then true else decide ((m.Procs.getD k default).Provided>=(m.Exprs.length:Int))then true else bif(k:Int)==m.Claim then !(FV (m.Procs.getD k default))else false):=by
 unfold Dd;grind
theorem AfR {m:D.Model}{k:Nat}(a:k<m.Procs.length):E9 m (k+1)=E9 m k+(m.Procs.getD k default).Active:=by
 unfold E9;grind[C2,As7]
def US {m:D.Model}(a:AF m)(h:¬0<(CU m).1):Il m:=by
 refine⟨a,NR ?_⟩;have b:-1<=FT m:=by
  unfold FT;have:∀(g i:Nat)(had:List Bool),-1<=Ed m g i had:=by
   intro g
   induction g with
   | zero=>intro i had;unfold Ed;omega
   | succ g ih =>
    intro i had;unfold Ed;grind
  exact this _ _ _
 refine Ase λc=>h ?_
 unfold CU;grind
def MR {m:D.Model}(p:AF m):Ah prog 19 [] [.agg (Ae m)] [] (.tup [Aa (CO m).1,Aa (CO m).2.1,Aa (CO m).2.2]):=by
 have y:=p.Procs.1;refine Ap func19 (AgJ _ _ _ m) ⟨CU m,WH p,?_⟩;generalize q:CO m=R;unfold CO at q;refine⟨λh=>X9 gD,λh=>?_⟩;have b:=US p (Asn h);rw[show decide (0<(CU m).1)=false from h,Ar1]at q;refine Ar m.Procs.length (λk=>Nl m (E9 m k) k) (λk=>(∀i,i<k->(!Dd m i)=true)/\0<=E9 m k/\E9 m k<=16*k) ⟨λi hi=>oM,by simp[E9],by simp[E9]⟩ ?_;intro k u ⟨n,v,w⟩ J next
 refine Asm (AbR _ _ _ m (E9 m k) k J rfl rfl) ⟨λg=>?_,λj=>?_⟩
 .have a:k<m.Procs.length:=by have:=A0 g;omega
  have r:(k:Int).toNat=k:=oM
  rw[r];have l:=p.Procs.2 _ (As (d:=default) a);refine⟨⟨oM,oM⟩,DE (m.Procs.getD k default),Abr l,E4 (m.Procs.getD k default),λ_=>Abk l,FV (m.Procs.getD k default),λ_=>VM l,?_⟩;rw[<- KO];refine⟨λo=>X9 ?_,λo=>?_⟩
  .have e:Fg m=k:=I8 (f:=λi=>!Dd m i) n a (by rw[o]<;>rfl);grind
  .have s:DE (m.Procs.getD k default)=true:=by grind[KO]
   have x:0<=(m.Procs.getD k default).Active/\(m.Procs.getD k default).Active<=16:=by
    unfold DE at s;grind
   grind[AfR,Up.of,AtU,Al,B9]
 .have c:k=m.Procs.length:=by have:=A1 j;omega
  subst c;have e:Fg m=-1:=Gx (f:=λi=>!Dd m i) λi hi=>n i oM
  rw[e,show decide ((0:Int)<=-1)=false from rfl,Ar1]at q;refine⟨λh2=>X9 gD,λh2=>?_⟩;rw[show decide (16<E9 m m.Procs.length)=false from h2,Ar1]at q;have t:∀i,i<m.Procs.length->(m.Procs.getD i default).Provided<m.Exprs.length:=λi hi=>by grind[KO,Ce,AtE,Ass,AsF]
  clear n next
  refine Ar m.Procs.length (λk=>Nk m k) (λk=>∀i:Nat,i<k->CY m i=true) (λi hi=>oM) ?_;intro k u n J next
  refine Asm (AbQ _ _ _ m k J) ⟨λg=>?_,λj=>X9 ?_⟩
  .have a:k<m.Procs.length:=by have:=A0 g;omega
   refine⟨CY m k,Afq b oM oM (t _ oM),λo=>X9 ?_,λo=>next _ a (λi hi=>?_) (Up.of ?_)⟩
   .have e:IC m=k:=I8 (f:=λi:Nat=>CY m i) n a (by simpa using o);grind
   .grind
   grind[Al]
  .have c:m.Procs.length<=k:=by have:=A1 j;omega
   have e:IC m=-1:=Gx (f:=λi:Nat=>CY m i) λi hi=>n i oM
   grind
def Mb (fz:Bool)(x:D.State):List VV:=[Ad true x.Globals,AL fz x.Chans,Av fz x.Procs,Aa x.Last,Aa x.Alone,Aa x.Claim]
def B5 (t:List D.Type)(l:List Int):Bool:=decide (t.length=l.length)&&EC l.length λi=>Ec (t.getD i default) (l.getD i 0)
def CF (m:D.Model)(k:Int):D.Shape:=m.Shapes.getD k.toNat default
def A7 (m:D.Model)(k:Int):D.Proc:=m.Procs.getD k.toNat default
def DX (m:D.Model)(c:D.Chan):Bool:=inP m.Shapes.length c.Shape&&decide ((c.Queue.length:Int)<=(CF m c.Shape).Room)&&EC c.Queue.length λi=>B5 (CF m c.Shape).Fields (c.Queue.getD i [])
def Bc (m:D.Model)(p:D.Process):Bool:=DL m p.Type_&&inP (A7 m p.Type_).Locs.length p.Loc&&decide (p.Prio=(A7 m p.Type_).Prio)&&B5 (A7 m p.Type_).Frame p.Frame
def L9 (m:D.Model)(s:D.State):Bool:=B5 m.Globals s.Globals&&decide (s.Chans.length<=32)&&decide (s.Procs.length<=16)&&decide (0<=s.Last)&&decide (s.Last<16)&&decide (-1<=s.Alone)&&decide (s.Alone<s.Procs.length)
def DW (m:D.Model)(s:D.State):Bool:=bif decide (m.Claim<0)then decide (s.Claim=-1)else inP (A7 m m.Claim).Locs.length s.Claim
def D6 (m:D.Model)(s:D.State):Bool:=L9 m s&&(EC s.Chans.length λi=>DX m (s.Chans.getD i default))&&(EC s.Procs.length λi=>Bc m (s.Procs.getD i default))&&DW m s
def DU (m:D.Model):Bool:=decide ((CO m).1=0)
def BH (m:D.Model)(s:D.State):Int:=bif DU m then(bif D6 m s then 0 else 41)else 40
structure Lim (m:D.Model):Prop where
 room:∀k:Int,0<=k->k<m.Shapes.length->(CF m k).Room<=16
 locs:∀k:Int,0<=k->k<m.Procs.length->(A7 m k).Locs.length<=256
 one:1<=m.Procs.length
 clp:m.Claim<m.Procs.length
def Cg {m:D.Model}(h:DU m=true):CU m=(0,0)/\Fg m=-1/\IC m=-1:=by
 unfold DU CO at h;have h1:∀n (f:Nat->Bool),-1<=KY n f:=λn f=>AnT
 have k:=h1 m.Procs.length λi=>!Dd m i
 have hp:=h1 m.Procs.length λi:Nat=>CY m i
 cases b1:decide (0<(CU m).1)with
 | true=>rw[b1,Ar3]at h;simp at h
 | false =>
  rw[b1,Ar1]at h;cases b2:decide (0<=Fg m)with
  | true=>rw[b2,Ar3]at h;simp at h
  | false =>
   rw[b2,Ar1]at h;cases b3:decide (16<E9 m m.Procs.length)with
   | true=>rw[b3,Ar3]at h;simp at h
   | false =>
    rw[b3,Ar1]at h;cases b4:decide (0<=IC m)with
    | true=>rw[b4,Ar3]at h;simp at h
    | false =>
     have:=Asn b2;have:=Asn b4;refine⟨?_,by show KY _ _=-1;unfold Fg at *;omega,by show KY _ _=-1;unfold IC at *;omega⟩;have b1:=Asn b1;unfold CU at b1 |-;generalize(decide (128<m.Globals.length)||!decide (m.Init.length=m.Globals.length))=a at b1 |-;generalize decide (0<=Gb m.Globals m.Init)=b at b1 |-;generalize(decide (32<m.Shapes.length)||decide (32<m.Chans.length))=c at b1 |-;generalize decide (0<=Hm m)=d at b1 |-;generalize decide (0<=JK m)=e at b1 |-;generalize(decide (m.Procs.length<1)||(decide (16<m.Procs.length)||(decide (m.Claim < -1)||(decide ((m.Procs.length:Int)<=m.Claim)||decide (4096<m.Exprs.length)))))=g at b1 |-;generalize decide (0<=FT m)=j at b1 |-;cases a<;>cases b<;>cases c<;>cases d<;>cases e<;>cases g<;>cases j<;>simp at b1 |-
structure Aou (m:D.Model):Prop where
 globals:m.Globals.length<=128
 init:m.Init.length=m.Globals.length
 types:Gb m.Globals m.Init<0
 shapes:m.Shapes.length<=32
 chans:m.Chans.length<=32
 shape:∀i,i<m.Shapes.length->EN (m.Shapes.getD i default)=true
 chan:∀i,i<m.Chans.length->inP m.Shapes.length (m.Chans.getD i 0)=true
 procs:1<=m.Procs.length/\m.Procs.length<=16
 claim:-1<=m.Claim/\m.Claim<m.Procs.length
 exprs:m.Exprs.length<=4096
def QQ {m:D.Model}(h:CU m=(0,0)):Aou m:=by
 unfold CU at h;cases a:(decide (128<m.Globals.length)||!decide (m.Init.length=m.Globals.length))with
 | true=>grind
 | false =>
 cases d:decide (0<=Gb m.Globals m.Init)with
 | true=>grind
 | false =>
 cases e:(decide (32<m.Shapes.length)||decide (32<m.Chans.length))with
 | true=>grind
 | false =>
 cases b:decide (0<=Hm m)with
 | true=>grind
 | false =>
 cases c:decide (0<=JK m)with
 | true=>grind
 | false =>
 cases g:(decide (m.Procs.length<1)||(decide (16<m.Procs.length)||(decide (m.Claim < -1)||(decide ((m.Procs.length:Int)<=m.Claim)||decide (4096<m.Exprs.length)))))with
 | true=>grind
 | false =>
 simp only[Ass,AsF,At8,Asc]at a d e b c g;exact⟨oM,a.2,oM,oM,oM,FW (f:=λi=>EN (m.Shapes.getD i default)) (by unfold Hm at b;omega),FW (f:=λi=>inP m.Shapes.length (m.Chans.getD i 0)) (by unfold JK at c;omega),oM,oM,oM⟩
def Ea {m:D.Model}(h:Fg m=-1):∀i,i<m.Procs.length->DE (m.Procs.getD i default)=true/\E4 (m.Procs.getD i default)=true:=λi hi=>by
 have:=FW (f:=λi=>!Dd m i) (by unfold Fg at h;omega) i hi;unfold Dd at this;grind
def CI {m:D.Model}(h:DU m=true):Lim m:=by
 obtain⟨h1,h2,_⟩:=Cg h;have a:=QQ h1;refine⟨λk h0 b=>?_,λk h0 b=>?_,a.procs.1,a.claim.2⟩
 .have:=a.shape k.toNat oM;unfold EN at this;simp only[Ar2,Asc]at this;exact this.1.1.1.2
 .have:=(Ea h2 k.toNat oM).2;unfold E4 at this;simp only[Ar2,Asc]at this;exact this.1.1.1.2
structure Fit (s:D.State):Prop where
 g:s.Globals.length<=128
 c:s.Chans.length<=32
 q:∀c∈s.Chans,c.Queue.length<=16/\∀x∈c.Queue,x.length<=8
 p:s.Procs.length<=16
 f:∀p∈s.Procs,p.Frame.length<=128
theorem Gc {t:List D.Type}{l:List Int}(h:B5 t l=true):l.length=t.length:=by
 unfold B5 at h;grind
def VI {m:D.Model}{s:D.State}(a:DU m=true)(h:D6 m s=true):Fit s:=by
 have i:=CI a;obtain⟨b,e,_⟩:=Cg a;have g:=QQ b;unfold D6 at h;simp only[Ar2]at h;obtain⟨⟨⟨h1,h2⟩,h3⟩,h4⟩:=h;unfold L9 at h1;simp only[Ar2,Asc]at h1;obtain⟨⟨⟨⟨⟨⟨g1,j⟩,k⟩,q⟩,r⟩,t⟩,u⟩:=h1;refine⟨?_,j,λc l=>?_,k,λp hp=>?_⟩
 .rw[Gc g1];exact g.globals
 .have h:=(CP (d:=default) (f:=λc=>DX m c)).1 h2 c l;unfold DX at h;simp only[Ar2,Asc]at h;have hi:=Cn.1 h.1.1;have v:=i.room _ hi.1 hi.2;refine⟨oM,λx n=>?_⟩;have o:=(CP (d:=[]) (f:=λx=>B5 (CF m c.Shape).Fields x)).1 h.2 x n;rw[Gc o];have:=g.shape c.Shape.toNat oM;unfold EN at this;simp only[Ar2,Asc]at this;exact this.1.2
 .have h:=(CP (d:=default) (f:=λc=>Bc m c)).1 h3 p hp;unfold Bc DL at h;simp only[Ar2,Asc]at h;rw[Gc h.2];have:=(Ea e p.Type_.toNat oM).1;unfold DE at this;simp only[Ar2,Asc]at this;exact this.1.1.1.1.1.1.1.1
def Mp (f:FuncId):Shp:=bif Nat.beq f 74 then SF else BE f
def OQ:Ann:={keep:=fun
  | [0,1,0,1,1]=>[0,12,13,14]
  | _=>[]}
def Lb:Ann:={keep:=fun
  | [0,1,0,1,1]=>[2,3,32,33,34]
  | _=>[]}
def HU:Ann:={keep:=fun
  | [0,1,0,1,1]=>[2,3,51,52,53]
  | [0,1,0,1,1,1]=>[2,3,63,64,65]
  | _=>[]}
def PT (t:List D.Type)(l:List Int)(k:Int):St:=An [(0,AH true t),(12,Ad true l),(13,Aa l.length),(14,Aa k)] []
def Lq (m:D.Model)(c:D.Chan)(k:Int):St:=An [(2,.bp 0 0),(3,.bp 1 0),(32,BF true c.Queue),(33,Aa c.Queue.length),(34,Aa k)] [.box (Ae m),.box (Ay c)]
def PZ (m:D.Model)(s:D.State)(k:Int):St:=An [(2,.bp 0 0),(3,.bp 1 0),(51,AL false s.Chans),(52,Aa s.Chans.length),(53,Aa k)] [.box (Ae m),.box (Mb false s)]
def PY (m:D.Model)(s:D.State)(k:Int):St:=An [(2,.bp 0 0),(3,.bp 1 0),(63,Av false s.Procs),(64,Aa s.Procs.length),(65,Aa k)] [.box (Ae m),.box (Mb false s)]
def Ad9 (b:Bool)(t:List D.Type)(l:List Int):(fc Mp OQ f119 [] (Ac b)).goal (St.init [] [AH true t,Ad true l]) =
  (BB ((↑t.length:Int) != (↑l.length:Int)) (LQ (Ac false) (Ac b)) (AA (fc Mp OQ f119 [] (Ac b)) [1,1,0,1,0] (PT t l (0:Int)))):=kR
def YN (b:Bool)(m:D.Model)(c:D.Chan):(fc Mp Lb f120 [] (Ac b)).goal (St.init [] [.agg (Ae m),.agg (Ay c)]) =
  (((true&&(bif decide (c.Shape<0)then true else decide (c.Shape>=(↑m.Shapes.length:Int)))==false)=true->inX c.Shape m.Shapes.length)/\BB (bif bif decide (c.Shape<0)then true else decide (c.Shape>=(↑m.Shapes.length:Int))then true else decide ((↑c.Queue.length:Int) > (m.Shapes.getD c.Shape.toNat default).Room)) (LQ (Ac false) (Ac b)) (AA (fc Mp Lb f120 [] (Ac b)) [1,1,0,1,0] (Lq m c (0:Int)))):=kR
def XI (b:Bool)(m:D.Model)(p:D.Process){a}(c:a=m.Procs.getD p.Type_.toNat default):(fc Mp AI f121 [] (Ac b)).goal (St.init [] [.agg (Ae m),.agg (Aw p)]) =
  (BB (bif bif decide (p.Type_<0)then true else decide (p.Type_>=(↑m.Procs.length:Int))then true else p.Type_==m.Claim) (LQ (Ac false) (Ac b)) (inX p.Type_ m.Procs.length/\∃(y:Bool),((true&&(bif bif decide (p.Loc>=0)then decide (p.Loc<(↑a.Locs.length:Int))else false then p.Prio==a.Prio else false)==true)=true->VC 119 [AH true a.Frame,Ad true p.Frame] (Ac y))/\LQ (Ac (bif bif bif decide (p.Loc>=0)then decide (p.Loc<(↑a.Locs.length:Int))else false then p.Prio==a.Prio else false then y else false)) (Ac b))):=by subst c;kernel_rfl
def ZU (b:Bool)(m:D.Model)(s:D.State):(fc Mp HU f100 [] (Ac b)).goal (St.init [] [.agg (Ae m),.agg (Mb false s)]) =
  (∃(y:Bool),VC 119 [AH true m.Globals,Ad true s.Globals] (Ac y)/\BB (bif bif bif bif bif bif !y then true else decide ((↑s.Chans.length:Int) > 32)then true else decide ((↑s.Procs.length:Int) > 16)then true else decide (s.Last<0)then true else decide (s.Last>=16)then true else decide (s.Alone<(-1:Int))then true else decide (s.Alone>=(↑s.Procs.length:Int))) (LQ (Ac false) (Ac b)) (AA (fc Mp HU f100 [] (Ac b)) [1,1,0,1,0] (PZ m s (0:Int)))):=kR
def Am9 (b:Bool)(m:D.Model):(fc Mp AI f21 [] (Ac b)).goal (St.init [] [.agg (Ae m)]) =
  (∃(y:Int×Int×Int),VC 19 [VV.agg (Ae m)] (VV.tup [Aa y.fst,Aa y.snd.fst,Aa y.snd.snd])/\LQ (Ac (y.fst==0)) (Ac b)):=kR
def WV (r:Int)(m:D.Model)(s:D.State):(fc Mp AI f74 [] (Aa r)).goal (St.init [] [.agg (Ae m),.agg (Ag s)]) =
  (∃(y:Bool),VC 21 [VV.agg (Ae m)] (Ac y)/\BB (!y) (LQ (Aa 40) (Aa r)) (∃(y:Bool),VC 100 [VV.agg (Ae m),VV.agg (Ag s)] (Ac y)/\BB (!y) (LQ (Aa 41) (Aa r)) (LQ (Aa 0) (Aa r)))):=kR
def ZK (b:Bool)(t:List D.Type)(l:List Int)(k:Int)(J:St->Prop):((fc Mp OQ f119 [] (Ac b)).loop [1,1,0,1,0] J).goal (PT t l k) =
  (BB (decide (k<(↑l.length:Int))) (inX k l.length/\inX k t.length/\∃(y:Bool),VC 89 [VV.agg (De (t.getD k.toNat default)),Aa (l.getD k.toNat 0)] (Ac y)/\BB (!y) (LQ (Ac false) (Ac b)) (J (PT t l (i64.wrap (k+(1:Int)))))) (LQ (Ac true) (Ac b))):=kR
def VP (b:Bool)(m:D.Model)(c:D.Chan)(k:Int)(J:St->Prop):((fc Mp Lb f120 [] (Ac b)).loop [1,1,0,1,0] J).goal (Lq m c k) =
  (BB (decide (k<(↑c.Queue.length:Int))) (inX k c.Queue.length/\inX c.Shape m.Shapes.length/\∃(y:Bool),VC 119 [AH true (m.Shapes.getD c.Shape.toNat default).Fields,Ad true (c.Queue.getD k.toNat [])] (Ac y)/\BB (!y) (LQ (Ac false) (Ac b)) (J (Lq m c (i64.wrap (k+(1:Int)))))) (LQ (Ac true) (Ac b))):=kR
def WT (b:Bool)(m:D.Model)(s:D.State)(k:Int)(J:St->Prop):((fc Mp HU f100 [] (Ac b)).loop [1,1,0,1,0] J).goal (PZ m s k) =
  (BB (decide (k<(↑s.Chans.length:Int))) (inX k s.Chans.length/\∃(y:Bool),VC 120 [VV.agg (Ae m),VV.agg (Ay (s.Chans.getD k.toNat default))] (Ac y)/\BB (!y) (LQ (Ac false) (Ac b)) (J (PZ m s (i64.wrap (k+(1:Int)))))) (AA (fc Mp HU f100 [] (Ac b)) [1,1,1,0,1,0] (PY m s (0:Int)))):=kR
def WS (b:Bool)(m:D.Model)(s:D.State)(k:Int)(J:St->Prop):((fc Mp HU f100 [] (Ac b)).loop [1,1,1,0,1,0] J).goal (PY m s k) =
  (BB (decide (k<(↑s.Procs.length:Int))) (inX k s.Procs.length/\∃(y:Bool),VC 121 [VV.agg (Ae m),VV.agg (Aw (s.Procs.getD k.toNat default))] (Ac y)/\BB (!y) (LQ (Ac false) (Ac b)) (J (PY m s (i64.wrap (k+(1:Int)))))) (BB (decide (m.Claim<0)) (LQ (Ac (s.Claim==(-1:Int))) (Ac b)) (((true&&decide (s.Claim>=0)==true)=true->inX m.Claim m.Procs.length)/\LQ (Ac (bif decide (s.Claim>=0)then decide (s.Claim<(↑(m.Procs.getD m.Claim.toNat default).Locs.length:Int))else false)) (Ac b)))):=kR
end Go.Proofs.YtddhibmbpmcnpaaGreatDoor
namespace Go.Proofs.YtddhibmbpmcnpaaGreatDoor
open Go.RowKit Go.Proofs.Tryz
open IntKind(i64)
def Vz {xs ys:List VV}(b:ys.length=xs.length)(h:∀(j:Nat) x y,xs[j]?=some x->ys[j]?=some y->leS x y):leS (.agg xs) (.agg ys):=by
 intro w E m v c hv;obtain⟨vs,rfl,h1,h2⟩:=hv.agg_inv;refine .agg (h1.trans b.symm) λj y d=>?_
 have a:j<xs.length:=gD
 exact h j _ y (Asf a) d w E m _ c (h2 j _ (Asf a))
def Fc {k:Nat}{P:Nat->Prop}(a:∀i,i<k->P i)(h:P k):∀i,i<k+1->P i:=gD
def Len (n:Nat):Prop:=n<=1099511627776
def Ml {t:List D.Type}{l:List Int}(f:Len l.length):Ah prog 119 [] [AH true t,Ad true l] [] (Ac (B5 t l)):=by
 unfold Len at f;refine Ap func119 (Ad9 _ t l) ⟨λh=>AB ?_,λh=>?_⟩
 .unfold B5;grind
 .have c:t.length=l.length:=by simp at h;omega
  have e:B5 t l=EC l.length λi=>Ec (t.getD i default) (l.getD i 0):=by unfold B5;grind
  rw[e];refine Ar l.length (λk=>PT t l k) (λk=>∀i,i<k->Ec (t.getD i default) (l.getD i 0)=true) (λi hi=>oM) ?_;intro k m g J next
  refine Asm (ZK _ t l k J) ⟨λb=>?_,λj=>AB ?_⟩
  .have a:k<l.length:=by have:=A0 b;omega
   refine⟨⟨oM,oM⟩,⟨oM,oM⟩,Ec (t.getD k default) (l.getD k 0),OH _ _,λd=>AB ?_,λd=>next _ a (Fc g (by simpa using d)) (Up.of ?_)⟩
   .grind[DY]
   grind[Al]
  grind[A1,BC]
structure Alu (c:D.Chan):Prop where
 q:Len c.Queue.length
 m:∀x∈c.Queue,Len x.length
def VO {m:D.Model}{c:D.Chan}(f:Alu c):Ah prog 120 [] [.agg (Ae m),.agg (Ay c)] [] (Ac (DX m c)):=by
 have j:=f.q;unfold Len at j;refine Ap func120 (YN _ m c) ⟨λh=>?_,λh=>AB ?_,λh=>?_⟩
 .simp at h;omega
 .symm;rw[AsW];intro b;unfold DX at b;simp only[Ar2,Asc]at b;have:=Cn.1 b.1.1;have l:(CF m c.Shape).Room=(m.Shapes.getD c.Shape.toNat default).Room:=rfl;grind
 .have hs:0<=c.Shape/\c.Shape<m.Shapes.length/\(c.Queue.length:Int)<=(CF m c.Shape).Room:=by
   have l:(CF m c.Shape).Room=(m.Shapes.getD c.Shape.toNat default).Room:=rfl;grind
  have e:DX m c=EC c.Queue.length λi=>B5 (CF m c.Shape).Fields (c.Queue.getD i []):=by
   unfold DX;grind[Cn]
  rw[e];refine Ar c.Queue.length (λk=>Lq m c k) (λk=>∀i,i<k->B5 (CF m c.Shape).Fields (c.Queue.getD i [])=true) (λi hi=>oM) ?_;intro k p n J next
  refine Asm (VP _ m c k J) ⟨λd=>?_,λo=>AB ?_⟩
  .have a:k<c.Queue.length:=by have:=A0 d;omega
   refine⟨⟨oM,oM⟩,⟨hs.1,hs.2.1⟩,B5 (CF m c.Shape).Fields (c.Queue.getD k []),Ml (f.m _ (As a)),λg=>AB ?_,λg=>next _ a (Fc n (by simpa using g)) (Up.of ?_)⟩
   .grind[DY]
   grind[Al]
  grind[A1,BC]
def Vj {m:D.Model}{p:D.Process}(hp:Len p.Frame.length):Ah prog 121 [] [.agg (Ae m),.agg (Aw p)] [] (Ac (Bc m p)):=by
 have a:(A7 m p.Type_)=m.Procs.getD p.Type_.toNat default:=rfl;refine Ap func121 (XI _ m p rfl) ⟨λh=>AB ?_,λh=>⟨?_,B5 (A7 m p.Type_).Frame p.Frame,λ_=>Ml hp,AB ?_⟩⟩
 .unfold Bc DL;grind
 .simp at h;omega
 .unfold Bc DL inP;grind
structure BO (s:D.State):Prop where
 g:Len s.Globals.length
 c:Len s.Chans.length
 p:Len s.Procs.length
 cs:∀c∈s.Chans,Alu c
 ps:∀p∈s.Procs,Len p.Frame.length
def UU {m:D.Model}{s:D.State}(hs:BO s)(r:m.Claim<m.Procs.length):Ah prog 100 [] [.agg (Ae m),.agg (Mb false s)] [] (Ac (D6 m s)):=by
 have t:=hs.c;have hp:=hs.p;unfold Len at t hp;have u:(bif bif bif bif bif bif !(B5 m.Globals s.Globals)then true else decide ((s.Chans.length:Int) > 32)then true else decide ((s.Procs.length:Int) > 16)then true else decide (s.Last<0)then true else decide (s.Last>=16)then true else decide (s.Alone<(-1:Int))then true else decide (s.Alone>=(s.Procs.length:Int)))=!(L9 m s):=by
  unfold L9;grind
 refine Ap func100 (ZU _ m s) ⟨B5 m.Globals s.Globals,Ml hs.g,?_⟩;rw[u];have d:D6 m s=(L9 m s&&(EC s.Chans.length λi=>DX m (s.Chans.getD i default))&&(EC s.Procs.length λi=>Bc m (s.Procs.getD i default))&&DW m s):=rfl;generalize D6 m s=b at d |-;refine⟨λh=>AB ?_,λh=>?_⟩
 .grind
 rw[show L9 m s=true by simpa using h,As5]at d;refine Ar s.Chans.length (λk=>PZ m s k) (λk=>∀i,i<k->DX m (s.Chans.getD i default)=true) (λi hi=>oM) ?_;intro k v l J next
 refine Asm (WT _ m s k J) ⟨λe=>?_,λj=>?_⟩
 .have a:k<s.Chans.length:=by have:=A0 e;omega
  refine⟨⟨oM,oM⟩,DX m (s.Chans.getD k default),VO (hs.cs _ (As a)),λo=>AB ?_,λo=>next _ a (Fc l (by simpa using o)) (Up.of ?_)⟩
  .grind[DY]
  grind[Al]
 have q:s.Chans.length<=k:=by have:=A1 j;omega
 rw[(BC (n:=s.Chans.length) (f:=λi=>DX m (s.Chans.getD i default))).2 λi hi=>l i oM,As5]at d;clear l next
 refine Ar s.Procs.length (λk=>PY m s k) (λk=>∀i,i<k->Bc m (s.Procs.getD i default)=true) (λi hi=>oM) ?_;intro k v l J next
 refine Asm (WS _ m s k J) ⟨λe=>?_,λj=>?_⟩
 .have a:k<s.Procs.length:=by have:=A0 e;omega
  refine⟨⟨oM,oM⟩,Bc m (s.Procs.getD k default),Vj (hs.ps _ (As a)),λo=>AB ?_,λo=>next _ a (Fc l (by simpa using o)) (Up.of ?_)⟩
  .grind[DY]
  grind[Al]
 have q:s.Procs.length<=k:=by have:=A1 j;omega
 rw[(BC (n:=s.Procs.length) (f:=λi=>Bc m (s.Procs.getD i default))).2 λi hi=>l i oM,As5]at d;unfold DW at d;refine⟨λh2=>AB ?_,λh2=>⟨λ_=>⟨?_,r⟩,AB ?_⟩⟩
 .grind
 .grind
 .rw[h2,Ar1]at d;rw[d,B3]<;>rfl
def WR {m:D.Model}{s:D.State}(hs:BO s)(c:m.Claim<m.Procs.length):Ah prog 100 [] [.agg (Ae m),.agg (Ag s)] [] (Ac (D6 m s)):=by
 refine(UU hs c).frz rfl λj x y a b=>?_
 match j,a,b with
 | 0,a,b=>grind[Asq,Ar4,DV]
 | 1,a,b =>
  simp only[AsY,Asq,Ar4]at a b;subst a b;refine Vz rfl λj x y a b=>?_
  match j,a,b with
  | 0,a,b=>simp only[Ag,Mb,Asq,Ar4]at a b;subst a b;exact DV _
  | 1,a,b=>simp only[Ag,Mb,AsY,Asq,Ar4]at a b;subst a b;exact KI
  | 2,a,b=>simp only[Ag,Mb,AsY,Asq,Ar4]at a b;subst a b;exact KI
  | 3,a,b=>simp only[Ag,Mb,AsY,Asq,Ar4]at a b;subst a b;exact DV _
  | 4,a,b=>simp only[Ag,Mb,AsY,Asq,Ar4]at a b;subst a b;exact DV _
  | 5,a,b=>simp only[Ag,Mb,AsY,Asq,Ar4]at a b;subst a b;exact DV _
  | j+6,a,b=>simp[Ag]at a
 | j+2,a,b=>simp at a
def RC {m:D.Model}(a:AF m):Ah prog 21 [] [.agg (Ae m)] [] (Ac (DU m)) :=
 Ap func21 (Am9 _ m) ⟨CO m,MR a,AB (ieq _ _)⟩
def DS {m:D.Model}{s:D.State}(b:AF m)(hs:BO s)(a:DU m=true->m.Claim<m.Procs.length):Ah prog 74 [] [.agg (Ae m),.agg (Ag s)] [] (Aa (BH m s)):=by
 refine Ap func74 (WV _ m s) ⟨DU m,RC b,λh=>Bp ?_,λh=>⟨D6 m s,WR hs (a (by simpa using h)),λh2=>Bp ?_,λh2=>Bp ?_⟩⟩
 .unfold BH;grind
 .unfold BH;grind
 .unfold BH;grind
def Fit.small {s:D.State}(h:Fit s):BO s:=by
 have hg:=h.g;have a:=h.c;have hp:=h.p;refine⟨by unfold Len;omega,by unfold Len;omega,by unfold Len;omega,λc a=>⟨by have:=(h.q c a).1;unfold Len;omega,λx b=>by have:=(h.q c a).2 x b;unfold Len;omega⟩,λp hp=>by have:=h.f p hp;unfold Len;omega⟩
def MQ {m:D.Model}{s:D.State}(h:BH m s=0):DU m=true/\D6 m s=true:=by
 unfold BH at h;grind
def Aqk {w:World}{b:Nat}{o:Obj}(h:w.heap[b]?=some o):b<w.heap.size:=lt_of_block h
def CC {w:World}{b i:Nat}{cs:Array Value}{t:TypeId}{v:Value}(h:w.heap[b]?=some (.cells cs t (0,0)))(hi:cs[i]?=some v):w.cell? ⟨b,i,none⟩=some v:=by
 simp[World.cell?,h,hi]
def El {w:World}{b i:Nat}{cs:Array Value}{t:TypeId}(h:w.heap[b]?=some (.cells cs t (0,0))):w.frozen? ⟨b,i,none⟩=false:=by
 simp[World.frozen?,h]
def N0 {w:World}{b i:Nat}{cs:Array Value}{t:TypeId}(h:w.heap[b]?=some (.cells cs t (0,0)))(u:Value):(w.setCell ⟨b,i,none⟩ u).heap[b]?=some (.cells (cs.setIfInBounds i u) t (0,0)) :=
 heap_setCell_same w b i cs t u h
def FA {P:Program}{t:TypeId}{z:Value}{s b:Nat}(h:(P.info? t).map (λi=>(i.zero,i.size,i.bytes))=some (some z,s,b)):∃i,P.info? t=some i/\i.zero=some z/\i.size=s/\i.bytes=b:=by
 cases hi:P.info? t with
 | none=>rw[hi]at h;cases h
 | some i=>rw[hi]at h;simp only[AtV,Ar4,AsJ]at h;exact⟨i,rfl,h⟩
def Ye:(prog.info? 2).map (λi=>(i.zero,i.size,i.bytes))=some (some (.int .i64 0),1,8):=kR
def Am1 {w:World}{n0:Nat}{e:TypeId}{v:Value}{n:Nat}{xs:List Value}(h:w.ownsRow n0 e 1 v n xs) :
  ∃ao cap,v=.slice ao n cap/\n<=cap/\cap<=maxLen/\(0<n->∃g,ao=some ⟨g,0,none⟩/\n0<=g/\g<w.heap.size/\∀j,j<n->w.cell? ⟨g,j,none⟩=xs[j]?):=by
 rcases h.2 with⟨rfl,rfl⟩ | ⟨g,cap,cur,rfl,a,hg,h1,h2,_⟩
 .exact⟨none,0,rfl,Ar6 _,Ar9 _,λh=>oM⟩
 .exact⟨_,cap,rfl,h1,h2,λ_=>⟨g,rfl,a,Aqk hg,λj b=>h.cellAt j oM⟩⟩
def Wx {w:World}{E:AP}{m:Option Phi}{n0:Nat}{v:Value}{xs:List Int}(h:w.ownsRow n0 2 1 v xs.length (xs.map (Value.int .i64)))(c:∀k,E.fz k->k<n0):V w E m (Ad true xs) v:=by
 obtain⟨ao,cap,rfl,h1,h2,h3⟩:=Am1 h;refine At6 h1 h2 λhp=>?_
 obtain⟨g,rfl,hg,b,d⟩:=h3 hp;refine⟨g,0,rfl,b,λe=>by have:=c g e;omega,λi _=>rfl,λi _=>.int .i64 (xs.getD i 0),λi j y hi a=>?_,λi j y hi a=>?_⟩
 .match j,a with
  | 0,_ =>
   have:=d i hi;simp only[AsI,Nat.mul_one,Atl];rw[this];simp[List.getD,hi]
  | j+1,a=>simp at a
 .match j,a with
  | 0,a=>simp only[Asq,Ar4]at a;subst a;exact .sc
  | j+1,a=>simp at a
set_option maxHeartbeats 1000000 in
def PB {w:World}{ao:Option Addr}{cap:Nat}{xs:List Int}(h1:xs.length<=cap)(h2:cap<=maxLen)(t:xs.length*8<=140737488355328)(h3:0<xs.length->∃a,ao=some a/\∀i,i<xs.length->w.cell? (a.add i)=some (.int .i64 (xs.getD i 0))) :
  Calls prog 22 #[.slice ao xs.length cap] w λe w'=>∃h,e=.returned h/\w'.ownsRow w.heap.size 2 1 h xs.length (xs.map (Value.int .i64))/\Below w.heap.size w w':=by
 have q:∀(w:World)(a:Option Addr)(n c m c':Nat),(binOp .eql 23 (.slice a n c) (.slice none m c')).run prog w=.ok (.bool a.isNone) w:=λw a n c m c'=>Lib.run_eql_slice_nil w _ _ a n c m c' underlying23
 obtain⟨ki,khi,khz0,khz1,khz2⟩:=FA Ye;cases ao with
 | none =>
  have h0:xs=[]:=by
   apply AsO;apply Ase;intro hp;obtain⟨_,e,_⟩:=h3 oM;cases e
  subst h0;clear h3
  go_enter func22,ntmps22
  go_wp2
  go_ret
  exact⟨_,rfl,World.ownsRow_nil _ _ _ _,Below.refl _ _⟩
 | some a =>
  have o:∀(j:Nat)(u:Value),(xs.map (Value.int .i64))[j]?=some u->w.cell? (a.add j)=some u:=by
   intro j u l;have d:j<xs.length:=by have:=(Asa.1 l).1;simpa using this
   obtain⟨v,e,r⟩:=h3 oM;simp only[Ar4]at e;subst e;rw[r j d,<- l];simp[List.getD,d]
  have HN:=Lib.hid o;clear h3 o;have f:=h2;unfold maxLen at f
  go_enter func22,ntmps22
  go_wp2_with (at_builtin;refine wpList_append_own _ rfl _ _ 23 rfl w.heap.size 2 ki (.int .i64 0) 1 8 underlying23 khi khz0 khz1 khz2 rfl dZ _ _ _ rfl (World.ownsRow_made w #[] 0 (Ar6 _) (Ar9 _) sM) a xs.length cap (xs.map (Value.int .i64)) rfl ?qc1 ?qc2 ?qc3 ?qc4 ?qc5 ?qc6 ?_)
  case qc1=>simp
  case qc2=>intro j u l;have:=HN.out j u l;exact Lib.cell?_alloc_some _ this
  case qc3=>intro u p;simp at p;obtain⟨x,_,rfl⟩:=p;rfl
  case qc4=>unfold maxLen;omega
  case qc5=>omega
  case qc6=>simp
  intro h y g b _
  go_wp2
  go_ret
  exact⟨h,rfl,by simpa using g,((Below.refl _ w).alloc (Ar6 _) _).grown b sM (by intro k s;simp[Value.ownBlock]at s;omega)⟩
def AbN {xs:List Int}(c:xs.length*8<=140737488355328):Ah prog 22 [] [Ad true xs] [] (Ad true xs):=by
 refine Ah.hand ⟨_,func22,rfl,kR⟩ λw E vs d m _ _ hs=>?_
 obtain⟨n,us1,rfl,f,hs⟩:=hs.cons_inv;obtain rfl:=hs.nil_inv;obtain⟨ao,cap,rfl,h1,h2,h3⟩:=V.sl_inv f;refine(PB h1 h2 c λhp=>?_).mono ?_
 .obtain⟨b,off,rfl,_,_,_,u,g,hv⟩:=h3 hp;refine⟨_,rfl,λi hi=>?_⟩;have a:=g i 0 _ hi rfl;have h:=(hv i 0 _ hi rfl).sc_inv;rw[Addr.add_lit];rw[h]at a;simpa using a
 .rintro e w' ⟨j,rfl,k,l⟩;exact⟨j,rfl,Wx k d,l⟩
def DN (f:FuncId):Shp :=
 bif Nat.beq f 158||Nat.beq f 223||Nat.beq f 208||Nat.beq f 47 then SF
 else bif Nat.beq f 128||Nat.beq f 212||Nat.beq f 184||Nat.beq f 205||Nat.beq f 207||Nat.beq f 182||Nat.beq f 183||Nat.beq f 186||Nat.beq f 181||Nat.beq f 206||Nat.beq f 187||Nat.beq f 159||Nat.beq f 210||Nat.beq f 211 then Aod
 else bif Nat.beq f 180 then Aaf
 else bif Nat.beq f 22||Nat.beq f 111 then Apc else Mp f
def Si:Ann:={keep:=fun
  | [0,1,0,1,1,1,1,1,1]=>[0,8,10,46,47,48]
  | _=>[]}
def N3:Ann:={keep:=fun
  | [0,1,0,1,1,1,1,1,1]=>[0,3,8,9,51,52,53]
  | _=>[]}
def JS:Ann:={keep:=fun
  | [0,1,0,1]=>[0,9,10,11]
  | _=>[]}
def OY:Ann:={keep:=fun
  | [0,1,0,1]=>[0,1,7,8]
  | _=>[]}
def Sp:Ann:={keep:=fun
  | [0,1,0,1]=>[1,2,3,12,13,14]
  | _=>[]}
def Sm:Ann:={keep:=fun
  | [0,1,0,1,1]=>[0,1,21,22,23]
  | _=>[]}
def Ef:Ann:={cut:=(λ| 1::0::1::1::0::0::0::0::q=>Nat.beq q.length 29 | 1::0::1::1::1::0::0::0::0::q=>Nat.beq q.length 29 | _=>false),keep:=fun
  | 1::0::1::1::0::0::0::0::q=>bif Nat.beq q.length 29 then[0,6,21,26]else[]
  | 1::0::1::1::1::0::0::0::0::q=>bif Nat.beq q.length 29 then[0,6,21,30]else[]
  | _=>[]}
def Am0:List Nat:=[1,1,0,1,0,0,0,0,0,0,0,0,0,0,0,0,0,0,0,0,0,0,0,0,0,0,0,0,0,0,0,0,0,1,1,0,1]
def AfB:List Nat:=[1,1,0,1,0,0,0,0,0,0,0,0,0,0,0,0,0,0,0,0,0,0,0,0,0,0,0,0,0,0,0,0,0,1,1,1,0,1]
def Iy (e:D.Env)(x:D.Expr)(i:Nat)(b:Bool):St:=An [(0,.tp (Ai e)),(6,.bp 0 0),(21,Aa x.Op),(i,Ac b)] [.box (AG x)]
def QY (e:D.Env)(ds:List D.Dim)(who at' k:Int):St:=An [(0,.tp (Ai e)),(8,Aa who),(10,Aa at'),(46,Bi true ds),(47,Aa ds.length),(48,Aa k)] []
def ZY (e:D.Env)(x:D.Expr)(c:D.Chan)(l:List Int)(k:Int):St:=An [(0,.tp (Ai e)),(3,.bp 0 0),(8,.bp 1 0),(9,.ow 2 0 l.length),(51,Ad true x.Args),(52,Aa x.Args.length),(53,Aa k)] [.box (AG x),.box (Ay c),.arr true 0 l.length 1 (AO l)]
def U1 (e:D.Env)(k:Int):St:=An [(0,.tp (Ai e)),(9,Av true e.S.Procs),(10,Aa e.S.Procs.length),(11,Aa k)] []
def Acq (l:List Int)(v k:Int):St:=An [(0,Ad true l),(1,Aa v),(7,Aa l.length),(8,Aa k)] []
def U3 (c:D.Chan)(l mt:List Int)(any:Bool)(k:Int):St:=An [(1,Ad false l),(2,Ad true mt),(3,Ac any),(12,BF true c.Queue),(13,Aa c.Queue.length),(14,Aa k)] []
def U2 (x l mt:List Int)(k:Int):St:=An [(0,Ad true x),(1,Ad false l),(21,Ad true mt),(22,Aa mt.length),(23,Aa k)] []
def Yy (r:Int)(e:D.Env)(x:Int):(fc DN AI f158 [] (Aa r)).goal (St.init [] [.agg (Ai e),Aa x]) =
  (∃(y:Int),VC 74 [VV.agg (Ae e.M),VV.agg (Ag e.S)] (Aa y)/\BB (y != 0) (LQ (Aa y) (Aa r)) (BB (bif bif bif decide (e.Pid<(-1:Int))then true else decide (e.Pid>=(↑e.S.Procs.length:Int))then true else decide (x<0)then true else decide (x>=(↑e.M.Exprs.length:Int))) (LQ (Aa 42) (Aa r)) (LQ (Aa 0) (Aa r)))):=kR
def Agx (v r:Int)(e:D.Env)(x:Int):(fc DN AI f128 [] (.tup [Aa v,Aa r])).goal (St.init [] [.agg (Ai e),Aa x]) =
  (∃(y:Int),VC 158 [VV.agg (Ai e),Aa x] (Aa y)/\BB (y != 0) (LQ (VV.tup [Aa 0,Aa y]) (VV.tup [Aa v,Aa r])) (∃(y:Int×Int),VC 159 [VV.tp (Ai e),Aa x] (VV.tup [Aa y.fst,Aa y.snd])/\LQ (VV.tup [Aa y.fst,Aa y.snd]) (VV.tup [Aa v,Aa r]))):=kR
def Agy (v r:Int)(e:D.Env)(x:Int):(fc DN AI f212 [] (.tup [Aa v,Aa r])).goal (St.init [] [.agg (Ai e),Aa x]) =
  (∃(y:Int),VC 158 [VV.agg (Ai e),Aa x] (Aa y)/\BB (y != 0) (LQ (VV.tup [Aa 0,Aa y]) (VV.tup [Aa v,Aa r])) (∃(y:Int×Int),VC 207 [VV.tp (Ai e),Aa x] (VV.tup [Aa y.fst,Aa y.snd])/\LQ (VV.tup [Aa y.fst,Aa y.snd]) (VV.tup [Aa v,Aa r]))):=kR
def Aed (v r:Int)(c:Bool):(fc DN AI f184 [] (.tup [Aa v,Aa r])).goal (St.init [] [Ac c]) =
  (BB c (LQ (VV.tup [Aa 1,Aa 0]) (VV.tup [Aa v,Aa r])) (LQ (VV.tup [Aa 0,Aa 0]) (VV.tup [Aa v,Aa r]))):=kR
def Abi (v r:Int)(e:D.Env)(x:D.Var){c}(d:c=LQ (VV.tup [Aa 0,Aa 42]) (VV.tup [Aa v,Aa r])){a}(f:a=[Aa v,Aa r]):(fc DN AI f205 [] (.tup [Aa v,Aa r])).goal (St.init [] [.tp (Ai e),.agg (CV x)]) =
  (BB (x.Scope==0) (∃(y:Int),VC 98 [.agg (CV x)] (Aa y)/\BB (decide (y > (↑e.S.Globals.length:Int))) c (LQ (.tup [Aa (-1),Aa 0]) (.tup a))) (BB (x.Scope==1) (∃(y:Int),((true&&decide (e.Pid<0)==false)=true->VC 98 [.agg (CV x)] (Aa y))/\((true&&decide (e.Pid<0)==false)=true->inX e.Pid e.S.Procs.length)/\BB (bif decide (e.Pid<0)then true else decide (y > (↑(e.S.Procs.getD e.Pid.toNat default).Frame.length:Int))) c (LQ (.tup [Aa e.Pid,Aa 0]) (.tup a))) (∃(y:Int×Int),VC 159 [.tp (Ai e),Aa x.Who] (.tup [Aa y.fst,Aa y.snd])/\BB (y.snd != 0) (LQ (.tup [Aa 0,Aa y.snd]) (.tup a)) (((true&&(bif decide (y.fst<0)then true else decide (y.fst>=(↑e.S.Procs.length:Int)))==false)=true->inX y.fst e.S.Procs.length)/\BB (bif bif decide (y.fst<0)then true else decide (y.fst>=(↑e.S.Procs.length:Int))then true else(e.S.Procs.getD y.fst.toNat default).Type_ != x.Type_) (LQ (.tup [Aa 0,Aa 52]) (.tup a)) (∃(b:Int),VC 98 [.agg (CV x)] (Aa b)/\inX y.fst e.S.Procs.length/\BB (decide (b > (↑(e.S.Procs.getD y.fst.toNat default).Frame.length:Int))) c (LQ (.tup [Aa y.fst,Aa 0]) (.tup a))))))):=by subst d f;kernel_rfl
def Ah2 (p k r:Int)(e:D.Env)(x:Int){a}(c:a=e.M.Exprs.getD x.toNat default){b}(d:b=[Aa p,Aa k,Aa r]):(fc DN Si f180 [] (.tup [Aa p,Aa k,Aa r])).goal (St.init [] [.tp (Ai e),Aa x]) =
  (inX x e.M.Exprs.length/\inX x e.M.Exprs.length/\BB (a.Op != 2) (LQ (.tup [Aa 0,Aa 0,Aa 42]) (.tup b)) (∃(y:Int×Int),VC 205 [.tp (Ai e),.agg (CV a.V)] (.tup [Aa y.fst,Aa y.snd])/\BB (y.snd != 0) (LQ (.tup [Aa 0,Aa 0,Aa y.snd]) (.tup b)) (AA (fc DN Si f180 [] (.tup b)) [1,1,1,1,1,1,0,1,0] (QY e a.V.Dims y.fst a.V.Slot (0:Int))))):=by subst c d;kernel_rfl
def AdO (v r:Int)(e:D.Env)(x:Int):(fc DN AI f207 [] (.tup [Aa v,Aa r])).goal (St.init [] [.tp (Ai e),Aa x]) =
  (∃(y:Int×Int),VC 159 [VV.tp (Ai e),Aa x] (VV.tup [Aa y.fst,Aa y.snd])/\BB (y.snd != 0) (LQ (VV.tup [Aa 0,Aa y.snd]) (VV.tup [Aa v,Aa r])) (BB (bif decide (y.fst<1)then true else decide (y.fst > (↑e.S.Chans.length:Int))) (LQ (VV.tup [Aa 0,Aa 49]) (VV.tup [Aa v,Aa r])) (LQ (VV.tup [Aa y.fst,Aa 0]) (VV.tup [Aa v,Aa r])))):=kR
def Alk (v r:Int)(e:D.Env)(x:D.Expr){f}(g:f=λ(y:Int×Int)=>e.S.Chans.getD (i64.wrap (y.fst-(1:Int))).toNat default){b}(h:b=λ(a:Int×Int)=>[Aa a.fst,Aa a.snd]){l}(i:l=[Aa v,Aa r]){d}(j:d=λ(y:Int×Int)=>(↑(f y).Queue.length:Int)){c}(k:c=VV.tup l):(fc DN AI f182 [] (.tup [Aa v,Aa r])).goal (St.init [] [.tp (Ai e),.agg (AG x)]) =
  (∃(y:Int×Int),VC 207 [.tp (Ai e),Aa x.A] (.tup [Aa y.fst,Aa y.snd])/\BB (y.snd != 0) (LQ (.tup [Aa 0,Aa y.snd]) c) (inX (i64.wrap (y.fst-(1:Int))) e.S.Chans.length/\inX (f y).Shape e.M.Shapes.length/\BB (x.Op==25) (LQ (.tup [Aa (d y),Aa 0]) c) (BB (x.Op==26) (∃(a:Int×Int),VC 184 [Ac (decide ((d y)>=(e.M.Shapes.getD (f y).Shape.toNat default).Room))] (.tup (b a))/\LQ (.tup (b a)) c) (BB (x.Op==28) (∃(a:Int×Int),VC 184 [Ac (decide ((d y)<(e.M.Shapes.getD (f y).Shape.toNat default).Room))] (.tup (b a))/\LQ (.tup (b a)) c) (BB (x.Op==27) (∃(a:Int×Int),VC 184 [Ac ((d y)==0)] (.tup (b a))/\LQ (.tup (b a)) c) (∃(a:Int×Int),VC 184 [Ac (decide ((d y) > 0))] (.tup (b a))/\LQ (.tup (b a)) c)))))):=by subst g h i j k;kernel_rfl
def AiX (v r:Int)(e:D.Env)(x:D.Expr):(fc DN N3 f183 [] (.tup [Aa v,Aa r])).goal (St.init [] [.tp (Ai e),.agg (AG x)]) =
  (∃(y:Int×Int),VC 207 [VV.tp (Ai e),Aa x.A] (VV.tup [Aa y.fst,Aa y.snd])/\BB (y.snd != 0) (LQ (VV.tup [Aa 0,Aa y.snd]) (VV.tup [Aa v,Aa r])) (inX (i64.wrap (y.fst-(1:Int))) e.S.Chans.length/\inX (e.S.Chans.getD (i64.wrap (y.fst-(1:Int))).toNat default).Shape e.M.Shapes.length/\BB ((↑(e.M.Shapes.getD (e.S.Chans.getD (i64.wrap (y.fst-(1:Int))).toNat default).Shape.toNat default).Fields.length:Int) != (↑x.Args.length:Int)) (LQ (VV.tup [Aa 0,Aa 49]) (VV.tup [Aa v,Aa r])) (((0:Int)<=(↑x.Args.length:Int)/\(↑x.Args.length:Int)<=(↑x.Args.length:Int)/\(↑x.Args.length:Int)*(↑8:Int)<=140737488355328)/\AA (fc DN N3 f183 [] (VV.tup [Aa v,Aa r])) [1,1,1,1,1,1,0,1,0] (An [(0,VV.tp (Ai e)),(3,VV.bp 0 0),(8,VV.bp 1 0),(9,VV.ow 2 0 (↑x.Args.length:Int).toNat),(51,Ad true x.Args),(52,Aa (↑x.Args.length:Int)),(53,Aa 0)] [Ob.box (AG x),Ob.box (Ay (e.S.Chans.getD (i64.wrap (y.fst-(1:Int))).toNat default)),Ob.arr true 0 (↑x.Args.length:Int).toNat 1 λ(_:Nat)=>((fc DN N3 f183 [] (VV.tup [Aa v,Aa r])).T 2).zero])))):=kR
def Aax (v r:Int)(e:D.Env)(x:D.Expr):(fc DN AI f186 [] (.tup [Aa v,Aa r])).goal (St.init [] [.tp (Ai e),.agg (AG x)]) =
  (∃(y:Int×Int),VC 159 [VV.tp (Ai e),Aa x.A] (VV.tup [Aa y.fst,Aa y.snd])/\BB (y.snd != 0) (LQ (VV.tup [Aa 0,Aa y.snd]) (VV.tup [Aa v,Aa r])) (((true&&(bif decide (y.fst<0)then true else decide (y.fst>=(↑e.S.Procs.length:Int)))==false&&(x.Op==38)==true)=true->inX y.fst e.S.Procs.length)/\BB (bif bif decide (y.fst<0)then true else decide (y.fst>=(↑e.S.Procs.length:Int))then true else bif x.Op==38 then(e.S.Procs.getD y.fst.toNat default).Type_ != x.N else false) (LQ (VV.tup [Aa 0,Aa 52]) (VV.tup [Aa v,Aa r])) (BB (x.Op==37) (inX y.fst e.S.Procs.length/\LQ (VV.tup [Aa (e.S.Procs.getD y.fst.toNat default).Loc,Aa 0]) (VV.tup [Aa v,Aa r])) (inX y.fst e.S.Procs.length/\∃(a:Bool),VC 209 [Ad true x.Args,Aa (e.S.Procs.getD y.fst.toNat default).Loc] (Ac a)/\∃(y:Int×Int),VC 184 [Ac a] (VV.tup [Aa y.fst,Aa y.snd])/\LQ (VV.tup [Aa y.fst,Aa y.snd]) (VV.tup [Aa v,Aa r]))))):=kR
def AfW (v r:Int)(e:D.Env)(x:D.Expr){c}(d:c=λ(y:Int×Int)=>∃(a:Int×Int),VC 184 [Ac (y.fst != 0)] (VV.tup [Aa a.fst,Aa a.snd])/\LQ (VV.tup [Aa a.fst,Aa a.snd]) (VV.tup [Aa v,Aa r])){b}(f:b=λ(y:Int×Int)=>[Aa y.fst,Aa y.snd]):(fc DN AI f181 [] (.tup [Aa v,Aa r])).goal (St.init [] [.tp (Ai e),.agg (AG x)]) =
  (∃(y:Int×Int),VC 159 [.tp (Ai e),Aa x.A] (.tup (b y))/\BB (y.snd != 0) (LQ (.tup [Aa 0,Aa y.snd]) (.tup [Aa v,Aa r])) (BB (bif x.Op==24 then y.fst != 0 else false) (∃(y:Int×Int),VC 206 [Aa x.B,.tp [.tp (Ai e)]] (.tup (b y))/\LQ (.tup (b y)) (.tup [Aa v,Aa r])) (BB (x.Op==24) (∃(y:Int×Int),VC 206 [Aa x.C,.tp [.tp (Ai e)]] (.tup (b y))/\LQ (.tup (b y)) (.tup [Aa v,Aa r])) (BB (bif bif x.Op==22 then y.fst==0 else false then true else bif x.Op==23 then y.fst != 0 else false) (c y) (∃(y:Int×Int),VC 206 [Aa x.B,.tp [.tp (Ai e)]] (.tup (b y))/\BB (y.snd != 0) (LQ (.tup [Aa 0,Aa y.snd]) (.tup [Aa v,Aa r])) (c y)))))):=by subst d f;kernel_rfl
def AhE (v r:Int)(e:D.Env)(x:D.Expr):(fc DN AI f187 [] (.tup [Aa v,Aa r])).goal (St.init [] [.tp (Ai e),.agg (AG x)]) =
  (∃(y:Int×Int),VC 159 [VV.tp (Ai e),Aa x.A] (VV.tup [Aa y.fst,Aa y.snd])/\BB (y.snd != 0) (LQ (VV.tup [Aa 0,Aa y.snd]) (VV.tup [Aa v,Aa r])) (BB (bif bif x.Op==3 then true else x.Op==4 then true else x.Op==5) (∃(a:Int×Int),VC 210 [Aa x.Op,Aa y.fst] (VV.tup [Aa a.fst,Aa a.snd])/\LQ (VV.tup [Aa a.fst,Aa a.snd]) (VV.tup [Aa v,Aa r])) (∃(a:Int×Int),VC 159 [VV.tp (Ai e),Aa x.B] (VV.tup [Aa a.fst,Aa a.snd])/\BB (a.snd != 0) (LQ (VV.tup [Aa 0,Aa a.snd]) (VV.tup [Aa v,Aa r])) (∃(b:Int×Int),VC 211 [Aa x.Op,Aa y.fst,Aa a.fst] (VV.tup [Aa b.fst,Aa b.snd])/\LQ (VV.tup [Aa b.fst,Aa b.snd]) (VV.tup [Aa v,Aa r]))))):=kR
def Vi (b:Bool)(e:D.Env):(fc DN JS f185 [] (Ac b)).goal (St.init [] [.tp (Ai e)]) =
  (AA (fc DN JS f185 [] (Ac b)) [1,0,1,0] (U1 e (0:Int))):=kR
def Akw (v r:Int)(e:D.Env)(x:Int){a}(c:a=e.M.Exprs.getD x.toNat default){b}(d:b=fc DN Ef f159 [] (VV.tup [Aa v,Aa r])):(fc DN Ef f159 [] (.tup [Aa v,Aa r])).goal (St.init [] [.tp (Ai e),Aa x]) =
  (inX x e.M.Exprs.length/\BB (a.Op==1) (LQ (.tup [Aa a.N,Aa 0]) (.tup [Aa v,Aa r])) (BB (a.Op==2) (∃(y:Int×Int×Int),VC 180 [.tp (Ai e),Aa x] (.tup [Aa y.fst,Aa y.snd.fst,Aa y.snd.snd])/\BB (y.snd.snd != 0) (LQ (.tup [Aa 0,Aa y.snd.snd]) (.tup [Aa v,Aa r])) (BB (decide (y.fst<0)) (inX y.snd.fst e.S.Globals.length/\LQ (.tup [Aa (e.S.Globals.getD y.snd.fst.toNat 0),Aa 0]) (.tup [Aa v,Aa r])) (inX y.fst e.S.Procs.length/\inX y.snd.fst (e.S.Procs.getD y.fst.toNat default).Frame.length/\LQ (.tup [Aa ((e.S.Procs.getD y.fst.toNat default).Frame.getD y.snd.fst.toNat 0),Aa 0]) (.tup [Aa v,Aa r])))) (BB (a.Op==22) (AA b Am0 (Iy e a 26 (a.Op==22))) (BB (a.Op==23) (AA b Am0 (Iy e a 26 (a.Op==23))) (AA b Am0 (Iy e a 26 (a.Op==24))))))):=by subst c d;kernel_rfl
def VK (b:Bool)(l:List Int)(v:Int):(fc DN AI f209 [] (Ac b)).goal (St.init [] [Ad true l,Aa v]) =
  (∃(y:Int),VC 223 [Ad true l,Aa v] (Aa y)/\LQ (Ac (decide (y>=0))) (Ac b)):=kR
def Af5 (r:Int)(l:List Int)(v:Int):(fc DN OY f223 [] (Aa r)).goal (St.init [] [Ad true l,Aa v]) =
  (AA (fc DN OY f223 [] (Aa r)) [1,0,1,0] (Acq l v (0:Int))):=kR
def Akr (r:Int)(c:D.Chan)(l mt:List Int)(some':Bool):(fc DN Sp f208 [] (Aa r)).goal (St.init [] [.agg (Ay c),Ad false l,Ad true mt,Ac some']) =
  (AA (fc DN Sp f208 [] (Aa r)) [1,0,1,0] (U3 c l mt some' (0:Int))):=kR
def AjT (b:Bool)(x l mt:List Int):(fc DN Sm f222 [] (Ac b)).goal (St.init [] [Ad true x,Ad false l,Ad true mt]) =
  (BB (bif decide ((↑x.length:Int)<(↑mt.length:Int))then true else decide ((↑l.length:Int)<(↑mt.length:Int))) (LQ (Ac false) (Ac b)) (AA (fc DN Sm f222 [] (Ac b)) [1,1,0,1,0] (U2 x l mt (0:Int)))):=kR
def Agq (v r:Int)(e:D.Env)(x:D.Expr)(b:Bool){a}(c:a=fc DN Ef f159 [] (VV.tup [Aa v,Aa r])):((fc DN Ef f159 [] (.tup [Aa v,Aa r])).cut Am0).goal (Iy e x 26 b) =
  (BB b (∃(y:Int×Int),VC 181 [.tp (Ai e),.agg (AG x)] (.tup [Aa y.fst,Aa y.snd])/\LQ (.tup [Aa y.fst,Aa y.snd]) (.tup [Aa v,Aa r])) (BB (x.Op==25) (AA a AfB (Iy e x 30 (x.Op==25))) (BB (x.Op==26) (AA a AfB (Iy e x 30 (x.Op==26))) (BB (x.Op==27) (AA a AfB (Iy e x 30 (x.Op==27))) (BB (x.Op==28) (AA a AfB (Iy e x 30 (x.Op==28))) (AA a AfB (Iy e x 30 (x.Op==29)))))))):=by subst c;kernel_rfl
def Agp (v r:Int)(e:D.Env)(x:D.Expr)(b:Bool){f}(g:f=[Aa v,Aa r]){d}(h:d=[VV.tp (Ai e),VV.agg (AG x)]){i}(j:i=(∃(y:Int×Int),VC 186 d (VV.tup [Aa y.fst,Aa y.snd])/\LQ (VV.tup [Aa y.fst,Aa y.snd]) (VV.tup f))){c}(k:c=VV.tup f):((fc DN Ef f159 [] (.tup [Aa v,Aa r])).cut AfB).goal (Iy e x 30 b) =
  (BB b (∃(y:Int×Int),VC 182 d (.tup [Aa y.fst,Aa y.snd])/\LQ (.tup [Aa y.fst,Aa y.snd]) c) (BB (x.Op==30) (∃(y:Int×Int),VC 183 d (.tup [Aa y.fst,Aa y.snd])/\LQ (.tup [Aa y.fst,Aa y.snd]) c) (BB (x.Op==31) (LQ (.tup [Aa e.Pid,Aa 0]) c) (BB (x.Op==32) (LQ (.tup [Aa e.S.Last,Aa 0]) c) (BB (x.Op==33) (LQ (.tup [Aa (↑e.S.Procs.length:Int),Aa 0]) c) (BB (x.Op==34) (∃(y:Bool),VC 185 [.tp (Ai e)] (Ac y)/\∃(a:Int×Int),VC 184 [Ac !y] (.tup [Aa a.fst,Aa a.snd])/\LQ (.tup [Aa a.fst,Aa a.snd]) c) (BB (x.Op==35) (∃(y:Int×Int),VC 184 [Ac e.Timeout] (.tup [Aa y.fst,Aa y.snd])/\LQ (.tup [Aa y.fst,Aa y.snd]) c) (BB (x.Op==36) (∃(y:Int×Int),VC 159 [.tp (Ai e),Aa x.A] (.tup [Aa y.fst,Aa y.snd])/\BB (y.snd != 0) (LQ (.tup [Aa 0,Aa y.snd]) c) (((true&&(bif decide (y.fst>=0)then decide (y.fst<(↑e.Able.length:Int))else false)==true)=true->inX y.fst e.Able.length)/\∃(a:Int×Int),VC 184 [Ac (bif bif decide (y.fst>=0)then decide (y.fst<(↑e.Able.length:Int))else false then e.Able.getD y.fst.toNat false else false)] (.tup [Aa a.fst,Aa a.snd])/\LQ (.tup [Aa a.fst,Aa a.snd]) c)) (BB (x.Op==37) i (BB (x.Op==38) i (BB (x.Op==39) (LQ (.tup [Aa 0,Aa 42]) c) (∃(y:Int×Int),VC 187 d (.tup [Aa y.fst,Aa y.snd])/\LQ (.tup [Aa y.fst,Aa y.snd]) c)))))))))))):=by subst g h j k;kernel_rfl
def AeF (p k r:Int)(e:D.Env)(_:Int)(ds:List D.Dim)(who at' i:Int)(J:St->Prop){a}(c:a=ds.getD i.toNat default){b}(d:b=[Aa p,Aa k,Aa r]):((fc DN Si f180 [] (.tup [Aa p,Aa k,Aa r])).loop [1,1,1,1,1,1,0,1,0] J).goal (QY e ds who at' i) =
  (BB (decide (i<(↑ds.length:Int))) (inX i ds.length/\∃(y:Int×Int),VC 159 [.tp (Ai e),Aa a.I] (.tup [Aa y.fst,Aa y.snd])/\BB (y.snd != 0) (LQ (.tup [Aa 0,Aa 0,Aa y.snd]) (.tup b)) (BB (bif decide (y.fst<0)then true else decide (y.fst>=a.Len)) (LQ (.tup [Aa 0,Aa 0,Aa 47]) (.tup b)) (J (QY e ds who (i64.wrap (at'+i64.wrap (y.fst*a.Stride))) (i64.wrap (i+(1:Int))))))) (LQ (.tup [Aa who,Aa at',Aa 0]) (.tup b))):=by subst c d;kernel_rfl
def Afy (v r:Int)(e:D.Env)(x:D.Expr)(c:D.Chan)(l:List Int)(k:Int)(J:St->Prop):((fc DN N3 f183 [] (.tup [Aa v,Aa r])).loop [1,1,1,1,1,1,0,1,0] J).goal (ZY e x c l k) =
  (BB (decide (k<(↑x.Args.length:Int))) (inX k x.Args.length/\inX k x.Match.length/\BB (x.Match.getD k.toNat 0 != 1) (J (ZY e x c l (i64.wrap (k+(1:Int))))) (∃(y:Int×Int),VC 159 [VV.tp (Ai e),Aa (x.Args.getD k.toNat 0)] (VV.tup [Aa y.fst,Aa y.snd])/\inX k l.length/\BB (y.snd != 0) (LQ (VV.tup [Aa 0,Aa y.snd]) (VV.tup [Aa v,Aa r])) (J (An [(0,VV.tp (Ai e)),(3,VV.bp 0 0),(8,VV.bp 1 0),(9,VV.ow 2 0 l.length),(51,Ad true x.Args),(52,Aa (↑x.Args.length:Int)),(53,Aa (i64.wrap (k+(1:Int))))] [Ob.box (AG x),Ob.box (Ay c),Ob.arr true 0 l.length 1 λ(j:Nat)=>bif j.beq k.toNat then[Aa y.fst]else[Aa (l.getD j 0)]])))) (∃(y:Int),VC 208 [VV.agg (Ay c),Ad false l,Ad true x.Match,Ac (x.N==1)] (Aa y)/\∃(a:Int×Int),VC 184 [Ac (decide (y>=0))] (VV.tup [Aa a.fst,Aa a.snd])/\LQ (VV.tup [Aa a.fst,Aa a.snd]) (VV.tup [Aa v,Aa r]))):=kR
def SK (b:Bool)(e:D.Env)(k:Int)(J:St->Prop){z1}(a:z1=e.S.Procs.getD k.toNat default):((fc DN JS f185 [] (Ac b)).loop [1,0,1,0] J).goal (U1 e k) =
  (BB (decide (k<(↑e.S.Procs.length:Int))) (inX k e.S.Procs.length/\inX z1.Type_ e.M.Procs.length/\inX z1.Loc (e.M.Procs.getD z1.Type_.toNat default).Locs.length/\BB ((e.M.Procs.getD z1.Type_.toNat default).Locs.getD z1.Loc.toNat default).Progress (LQ (Ac true) (Ac b)) (J (U1 e (i64.wrap (k+(1:Int)))))) (LQ (Ac false) (Ac b))):=by subst a;kernel_rfl
def Abg (r:Int)(l:List Int)(v k:Int)(J:St->Prop):((fc DN OY f223 [] (Aa r)).loop [1,0,1,0] J).goal (Acq l v k) =
  (BB (decide (k<(↑l.length:Int))) (inX k l.length/\BB (v==l.getD k.toNat 0) (LQ (Aa k) (Aa r)) (J (Acq l v (i64.wrap (k+(1:Int)))))) (LQ (Aa (-1)) (Aa r))):=kR
def Agl (r:Int)(c:D.Chan)(l mt:List Int)(any:Bool)(k:Int)(J:St->Prop):((fc DN Sp f208 [] (Aa r)).loop [1,0,1,0] J).goal (U3 c l mt any k) =
  (BB (decide (k<(↑c.Queue.length:Int))) (inX k c.Queue.length/\∃(y:Bool),VC 222 [Ad true (c.Queue.getD k.toNat []),Ad false l,Ad true mt] (Ac y)/\BB y (LQ (Aa k) (Aa r)) (BB (!any) (LQ (Aa (-1)) (Aa r)) (J (U3 c l mt any (i64.wrap (k+(1:Int))))))) (LQ (Aa (-1)) (Aa r))):=kR
def AfM (b:Bool)(x l mt:List Int)(k:Int)(J:St->Prop):((fc DN Sm f222 [] (Ac b)).loop [1,1,0,1,0] J).goal (U2 x l mt k) =
  (BB (decide (k<(↑mt.length:Int))) (inX k mt.length/\((true&&(mt.getD k.toNat 0==1)==true)=true->inX k x.length)/\((true&&(mt.getD k.toNat 0==1)==true)=true->inX k l.length)/\BB (bif mt.getD k.toNat 0==1 then x.getD k.toNat 0 != l.getD k.toNat 0 else false) (LQ (Ac false) (Ac b)) (J (U2 x l mt (i64.wrap (k+(1:Int)))))) (LQ (Ac true) (Ac b))):=kR
def AfU (v r:Int)(e:D.Env)(x:Int):(fc DN AI f206 [] (.tup [Aa v,Aa r])).goal (St.init [] [Aa x,.tp [.tp (Ai e)]]) =
  (∃(y:Int×Int),VC 159 [VV.tp (Ai e),Aa x] (VV.tup [Aa y.fst,Aa y.snd])/\LQ (VV.tup [Aa y.fst,Aa y.snd]) (VV.tup [Aa v,Aa r])):=kR
end Go.Proofs.YtddhibmbpmcnpaaGreatDoor
namespace Go.Proofs.YtddhibmbpmcnpaaGreatDoor
open Go.RowKit Go.Proofs.Tryz
open IntKind(i64)
def MI (b:Int)(s:Bool)(v:Int):Int :=
 if 1<=b/\b<=32 then(if s then(v+2 ^ b.toNat / 2) % 2 ^ b.toNat-2 ^ b.toNat / 2 else v % 2 ^ b.toNat)else 0
def Anp (b v:Int)(s:Bool)(h:b<1\/32<b):MI b s v=0:=by
 unfold MI;rw[Asv oM]
def Yq (b v:Int)(h1:1<=b)(h2:b<=32):wrap64 (v*2 ^ (64-b).toNat) / 2 ^ (64-b).toNat=MI b true v:=by
 have a:b=1\/b=2\/b=3\/b=4\/b=5\/b=6\/b=7\/b=8\/b=9\/b=10\/b=11\/b=12\/b=13\/b=14\/b=15\/b=16\/b=17\/b=18\/b=19\/b=20\/b=21\/b=22\/b=23\/b=24\/b=25\/b=26\/b=27\/b=28\/b=29\/b=30\/b=31\/b=32:=oM
 unfold wrap64 MI;rcases a with h|h|h|h|h|h|h|h|h|h|h|h|h|h|h|h|h|h|h|h|h|h|h|h|h|h|h|h|h|h|h|h <;>
  subst h<;>simp<;>omega
def Y0 (v:Int)(m:Nat)(f:m<32):bits .and .i64 v (((2 ^ (m+1):Nat):Int)-1)=v % ((2 ^ (m+1):Nat):Int):=by
 show i64.wrap ((BitVec.ofInt 64 v &&& BitVec.ofInt 64 (((2 ^ (m+1):Nat):Int)-1)).toNat:Int)=_;have hp:2 ^ (m+1)<=2 ^ 32:=Atd dZ oM;have a:0<2 ^ (m+1):=Nat.two_pow_pos _;have c:(((2 ^ (m+1):Nat):Int)-1)=((2 ^ (m+1)-1:Nat):Int):=oM
 rw[BitVec.toNat_and,c,BitVec.ofInt_natCast,BitVec.toNat_ofNat,BitVec.toNat_ofInt];have d:(2 ^ (m+1)-1) % 2 ^ 64=2 ^ (m+1)-1:=Nat.mod_eq_of_lt oM;rw[d,At1];have e:(v % ((2 ^ 64:Nat):Int)).toNat % 2 ^ (m+1)<2 ^ (m+1):=AtJ _ a;rw[IntWalk.i64_in _ oM];have b:0<=v % ((2 ^ 64:Nat):Int):=Int.emod_nonneg _ dZ;have hd:((2 ^ (m+1):Nat):Int) ∣ ((2 ^ 64:Nat):Int):=by
  have:2 ^ (m+1) ∣ 2 ^ 64:=Nat.pow_dvd_pow 2 oM;exact Int.natCast_dvd_natCast.2 this
 rw[Int.natCast_emod,Int.toNat_of_nonneg b];exact Int.emod_emod_of_dvd _ hd
def Akp (b v:Int)(h1:1<=b)(h2:b<=32):bits .and .i64 v (wrap64 (wrap64 (2 ^ b.toNat)-1))=MI b false v:=by
 obtain⟨m,rfl⟩:∃m:Nat,b=(m:Int)+1:=⟨(b-1).toNat,oM⟩;have c:m<32:=oM
 have e:((m:Int)+1).toNat=m+1:=oM
 have hp:2 ^ (m+1)<=2 ^ 32:=Atd dZ oM;have a:0<2 ^ (m+1):=Nat.two_pow_pos _;have ec:(2:Int) ^ (m+1)=((2 ^ (m+1):Nat):Int):=sM
 unfold MI;rw[AsE ⟨h1,h2⟩,e,ec,IntWalk.wrap64_in ((2 ^ (m+1):Nat):Int) oM,IntWalk.wrap64_in _ oM,Y0 v m c];simp
def ApN (b:Int)(h1:1<=b)(h2:b<=32):(2:Int)<=2 ^ b.toNat/\(2:Int) ^ b.toNat<=4294967296:=by
 obtain⟨m,a⟩:∃m:Nat,b.toNat=m+1:=⟨b.toNat-1,oM⟩;rw[a];have hp:2 ^ (m+1)<=2 ^ 32:=Atd dZ oM;have c:2 ^ 1<=2 ^ (m+1):=Atd dZ oM;have ec:(2:Int) ^ (m+1)=((2 ^ (m+1):Nat):Int):=sM
 rw[ec];omega
def BQ (n:Int):-2147483648<=wrap32 n/\wrap32 n<=2147483647:=by unfold wrap32;omega
def AdW {n:Int}(h:-2147483648<=n)(a:n<=2147483647):wrap32 n=n:=by unfold wrap32;omega
def H6 (n:Int):wrap64 (wrap32 n)=wrap32 n:=by have:=BQ n;exact IntWalk.wrap64_in _ oM
def Qs (n:Int):wrap32 n % 4294967296=n % 4294967296:=by unfold wrap32;omega
def SX {m n:Int}(h:m % 4294967296=n % 4294967296):wrap32 m=wrap32 n:=by unfold wrap32;omega
def AlF (a b:Int):wrap32 (wrap32 a*b)=wrap32 (a*b):=SX (by rw[Int.mul_emod,Qs,<- Int.mul_emod])
def UK (a b:Int):wrap32 (a-wrap32 b)=wrap32 (a-b):=SX (by rw[Int.sub_emod,Qs,<- Int.sub_emod])
def Ach (x y:Int)(h1:-2147483648<=x)(h2:x<=2147483647):-2147483648<=x.tmod y/\x.tmod y<=2147483647:=by
 by_cases h:0<=x
 .have a:=Int.tmod_nonneg y h;have b:x.tmod y<=x:=by
   have:=Int.emod_nonneg;rw[Int.tmod_eq_emod_of_nonneg h]
   by_cases c:y=0
   .subst c;simp
   .have f:x % y=x-y*(x / y):=by have:=Int.emod_def x y;omega
    have:0<=y*(x / y):=by
     rcases Int.lt_or_gt_of_ne c with g|hp
     .exact Int.mul_nonneg_of_nonpos_of_nonpos oM (Int.ediv_nonpos_of_nonneg_of_nonpos h oM)
     .exact Int.mul_nonneg oM (Int.ediv_nonneg h oM)
    omega
  omega
 .have e:x.tmod y=-((-x).tmod y):=by rw[Int.neg_tmod];omega
  have d:0<=-x:=oM
  have a:=Int.tmod_nonneg y d;have b:(-x).tmod y<=-x:=by
   rw[Int.tmod_eq_emod_of_nonneg d]
   by_cases c:y=0
   .subst c;simp
   .have f:-x % y=-x-y*(-x / y):=by have:=Int.emod_def (-x) y;omega
    have:0<=y*(-x / y):=by
     rcases Int.lt_or_gt_of_ne c with g|hp
     .exact Int.mul_nonneg_of_nonpos_of_nonpos oM (Int.ediv_nonpos_of_nonneg_of_nonpos d oM)
     .exact Int.mul_nonneg oM (Int.ediv_nonneg d oM)
    omega
  omega
def Ams (x y:Int)(h1:-2147483648<=x)(h2:x<=2147483647):wrap32 (x-wrap32 (wrap32 (x.tdiv y)*y))=x.tmod y:=by
 have a:=Ach x y h1 h2;rw[UK,<- UK,AlF,UK];have e:x-x.tdiv y*y=x.tmod y:=by have:=Int.tmod_add_mul_tdiv x y;rw[Int.mul_comm]at this;omega
 rw[e];exact AdW a.1 a.2
def IY (b:Bool):Int:=if b then 1 else 0
def Iz (a n:Int):Int:=if 0<=n then wrap32 (a*2 ^ min n.toNat 32)else a / 2 ^ min (-n).toNat 32
def EX (op a b:Int):Int :=
 if op=6 then wrap32 (wrap32 a*wrap32 b)
 else if op=7 then(if wrap32 b=0 then 0 else wrap32 ((wrap32 a).tdiv (wrap32 b)))
 else if op=8 then(if wrap32 b=0 then 0 else(wrap32 a).tmod (wrap32 b))
 else if op=9 then wrap32 (wrap32 a+wrap32 b)
 else if op=10 then wrap32 (wrap32 a-wrap32 b)
 else if op=11 then Iz (wrap32 a) (wrap32 b)
 else if op=12 then Iz (wrap32 a) (-wrap32 b)
 else if op=13 then IY (decide (wrap32 a<wrap32 b))
 else if op=14 then IY (decide (wrap32 a<=wrap32 b))
 else if op=15 then IY (decide (wrap32 b<wrap32 a))
 else if op=16 then IY (decide (wrap32 b<=wrap32 a))
 else if op=17 then IY (wrap32 a==wrap32 b)
 else if op=18 then IY (wrap32 a != wrap32 b)
 else if op=19 then bits .and .i32 (wrap32 a) (wrap32 b)
 else if op=20 then bits .xor .i32 (wrap32 a) (wrap32 b)
 else if op=21 then bits .or .i32 (wrap32 a) (wrap32 b)
 else 0
def Iv (op b:Int):Int :=
 if(op=7\/op=8)/\wrap32 b=0 then 48 else if 6<=op/\op<=21 then 0 else 42
def Ou (op a:Int):Int :=
 if op=3 then wrap32 (-wrap32 a)else if op=4 then IY (wrap32 a==0)else if op=5 then -wrap32 a-1 else 0
def AaU (op:Int):Int:=if op=3\/op=4\/op=5 then 0 else 42
def FB (op:BinOp)(c:op=.and\/op=.or\/op=.xor)(a b:Int):-2147483648<=bits op .i32 a b/\bits op .i32 a b<=2147483647:=by
 rcases c with rfl|rfl|rfl
 all_goals
  unfold bits;simp only[];rw[IntKind.wrap_i32];omega
def Ah3 (a:Int)(k:Nat):(a / 2 ^ k) / 2=a / 2 ^ (k+1):=by
 rw[Int.ediv_ediv_of_nonneg (Int.le_of_lt (Int.pow_pos dZ)),Int.pow_succ]
def AoZ (a:Int)(k:Nat)(h1:-2147483648<=a)(h2:a<=2147483647):-2147483648<=a / 2 ^ k/\a / 2 ^ k<=2147483647:=by
 induction k with
 | zero=>simp;omega
 | succ k ih=>rw[<- Ah3];omega
def Ls (a n:Int)(h:-2147483648<=a/\a<=2147483647):-2147483648<=Iz a n/\Iz a n<=2147483647:=by
 unfold Iz;split
 .exact BQ _
 .exact AoZ a _ h.1 h.2
def Agf (x:Int)(h:-2147483648<=x/\x<=2147483647):bits .xor .i32 (-1) x=-x-1:=by
 show IntKind.i32.wrap ((BitVec.ofInt 32 (-1) ^^^ BitVec.ofInt 32 x).toNat:Int)=_;have e:BitVec.ofInt 32 (-1)=BitVec.allOnes 32:=dZ
 rw[e,BitVec.allOnes_xor,BitVec.toNat_not,BitVec.toNat_ofInt,IntKind.wrap_i32];have:(((2:Nat) ^ 32:Nat):Int)=4294967296:=dZ
 rw[this];omega
def Akl (a:Int):wrap64 (bits .xor .i32 (-1) (wrap32 a))=-wrap32 a-1:=by
 have h:=BQ a;rw[Agf _ h];exact IntWalk.wrap64_in _ oM
def Ez (b:Bool):Int×Int:=(bif b then 1 else 0,0)
abbrev Evl:=Int->Int×Int
section
variable (e : D.Env) (ev:Evl)
def Em (a:Int):Int×Int :=
 bif decide ((ev a).2≠0)then(0,(ev a).2)else bif decide ((ev a).1<1)||decide ((e.S.Chans.length:Int)<(ev a).1)then(0,49)else((ev a).1,0)
def CB (n:Int):D.Chan:=e.S.Chans.getD (n-1).toNat default
def Aqn (op room many:Int):Int×Int :=
 if op=25 then(many,0)else if op=26 then Ez (decide (room<=many))else if op=28 then Ez (decide (many<room))else if op=27 then Ez (decide (many=0))else Ez (decide (0<many))
def Uy (x:D.Expr):Int×Int :=
 bif decide ((Em e ev x.A).2≠0)then(0,(Em e ev x.A).2)else Aqn x.Op (CF e.M (CB e (Em e ev x.A).1).Shape).Room (CB e (Em e ev x.A).1).Queue.length
def AbD:Nat->(Nat->Int)->Int
 | 0,_=>0
 | n+1,f=>bif decide (AbD n f≠0)then AbD n f else f n
def E6 (a m:Int):Int×Int:=bif decide (m=1)then ev a else(0,0)
def N9 (args mt:List Int):List Int:=(List.range args.length).map λi=>(E6 ev (args.getD i 0) (mt.getD i 0)).1
def FD (args mt:List Int)(n:Nat):Int:=AbD n λi=>(E6 ev (args.getD i 0) (mt.getD i 0)).2
def I0 (x l mt:List Int):Bool:=decide (mt.length<=x.length)&&decide (mt.length<=l.length)&&EC mt.length λi=>!(decide (mt.getD i 0=1)&&decide (x.getD i 0≠l.getD i 0))
def Ui (l mt:List Int)(any:Bool):Nat->List (List Int)->Int
 | _,[]=>-1
 | k,x::q=>bif I0 x l mt then(k:Int)else bif any then Ui l mt any (k+1) q else -1
def KR (c:D.Chan)(l mt:List Int)(any:Bool):Int:=Ui l mt any 0 c.Queue
def TI (x:D.Expr):Int×Int :=
 bif decide ((Em e ev x.A).2≠0)then(0,(Em e ev x.A).2)
 else bif decide ((CF e.M (CB e (Em e ev x.A).1).Shape).Fields.length≠x.Args.length)then(0,49)
 else bif decide (FD ev x.Args x.Match x.Args.length≠0)then(0,FD ev x.Args x.Match x.Args.length)
 else Ez (decide (0<=KR (CB e (Em e ev x.A).1) (N9 ev x.Args x.Match) x.Match (decide (x.N=1))))
def EK (n:Int):D.Process:=e.S.Procs.getD n.toNat default
def Lu (x:D.Expr):Int×Int :=
 bif decide ((ev x.A).2≠0)then(0,(ev x.A).2)
 else bif decide ((ev x.A).1<0)||(decide ((e.S.Procs.length:Int)<=(ev x.A).1)||(decide (x.Op=38)&&decide ((EK e (ev x.A).1).Type_≠x.N)))then(0,52)
 else bif decide (x.Op=37)then((EK e (ev x.A).1).Loc,0)else Ez (decide ((EK e (ev x.A).1).Loc∈x.Args))
def Ox (x:D.Expr):Int×Int :=
 bif decide ((ev x.A).2≠0)then(0,(ev x.A).2)
 else bif decide (x.Op=24)then(bif decide ((ev x.A).1≠0)then ev x.B else ev x.C)
 else bif(decide (x.Op=22)&&decide ((ev x.A).1=0))||(decide (x.Op=23)&&decide ((ev x.A).1≠0))then Ez (decide ((ev x.A).1≠0))
 else bif decide ((ev x.B).2≠0)then(0,(ev x.B).2)else Ez (decide ((ev x.B).1≠0))
def Tf (x:D.Expr):Int×Int :=
 bif decide ((ev x.A).2≠0)then(0,(ev x.A).2)
 else bif decide (x.Op=3)||(decide (x.Op=4)||decide (x.Op=5))then(Ou x.Op (ev x.A).1,AaU x.Op)
 else bif decide ((ev x.B).2≠0)then(0,(ev x.B).2)else(EX x.Op (ev x.A).1 (ev x.B).1,Iv x.Op (ev x.B).1)
def D4 (v:D.Var):Int×Int :=
 bif decide (v.Scope=0)then(bif decide ((e.S.Globals.length:Int)<FK v)then(0,42)else(-1,0))
 else bif decide (v.Scope=1)then(bif decide (e.Pid<0)||decide (((EK e e.Pid).Frame.length:Int)<FK v)then(0,42)else(e.Pid,0))
 else bif decide ((ev v.Who).2≠0)then(0,(ev v.Who).2)
 else bif decide ((ev v.Who).1<0)||(decide ((e.S.Procs.length:Int)<=(ev v.Who).1)||decide ((EK e (ev v.Who).1).Type_≠v.Type_))then(0,52)
 else bif decide (((EK e (ev v.Who).1).Frame.length:Int)<FK v)then(0,42)else((ev v.Who).1,0)
def GM:Int->List D.Dim->Int×Int
 | n,[]=>(n,0)
 | n,d::l=>bif decide ((ev d.I).2≠0)then(0,(ev d.I).2)else bif decide ((ev d.I).1<0)||decide (d.Len<=(ev d.I).1)then(0,47)else GM (n+(ev d.I).1*d.Stride) l
def B8 (x:D.Expr):Int×Int×Int :=
 bif decide (x.Op≠2)then(0,0,42)
 else bif decide ((D4 e ev x.V).2≠0)then(0,0,(D4 e ev x.V).2)
 else bif decide ((GM ev x.V.Slot x.V.Dims).2≠0)then(0,0,(GM ev x.V.Slot x.V.Dims).2)else((D4 e ev x.V).1,(GM ev x.V.Slot x.V.Dims).1,0)
def AcE (x:D.Expr):Int×Int :=
 bif decide ((B8 e ev x).2.2≠0)then(0,(B8 e ev x).2.2)
 else bif decide ((B8 e ev x).1<0)then(e.S.Globals.getD (B8 e ev x).2.1.toNat 0,0)else((EK e (B8 e ev x).1).Frame.getD (B8 e ev x).2.1.toNat 0,0)
def Gj:Bool:=!(EC e.S.Procs.length λi=>!((E0 e.M (e.S.Procs.getD i default).Type_).getD (e.S.Procs.getD i default).Loc.toNat default).Progress)
def Adr (x:D.Expr):Int×Int :=
 bif decide ((ev x.A).2≠0)then(0,(ev x.A).2)
 else Ez (decide (0<=(ev x.A).1)&&(decide ((ev x.A).1<e.Able.length)&&e.Able.getD (ev x.A).1.toNat false))
def Dy (x:D.Expr):Int×Int :=
 if x.Op=1 then(x.N,0)else if x.Op=2 then AcE e ev x else if x.Op=22\/x.Op=23\/x.Op=24 then Ox ev x
 else if x.Op=25\/x.Op=26\/x.Op=27\/x.Op=28\/x.Op=29 then Uy e ev x else if x.Op=30 then TI e ev x
 else if x.Op=31 then(e.Pid,0)else if x.Op=32 then(e.S.Last,0)else if x.Op=33 then(e.S.Procs.length,0)else if x.Op=34 then Ez (!Gj e)
 else if x.Op=35 then Ez e.Timeout else if x.Op=36 then Adr e ev x else if x.Op=37\/x.Op=38 then Lu e ev x else if x.Op=39 then(0,42)else Tf ev x
end
def Ma (e:D.Env):Nat->Evl
 | 0,_=>(0,0)
 | n+1,a=>Dy e (Ma e n) (Az e.M a)
def FX (e:D.Env):Evl:=Ma e (e.M.Exprs.length-1)
def Co (e:D.Env)(x:Int):Int :=
 bif decide (BH e.M e.S≠0)then BH e.M e.S
 else bif decide (e.Pid < -1)||(decide ((e.S.Procs.length:Int)<=e.Pid)||(decide (x<0)||decide ((e.M.Exprs.length:Int)<=x)))then 42 else 0
def Bh (e:D.Env)(x:Int):Int×Int:=bif decide (Co e x≠0)then(0,Co e x)else Dy e (FX e) (Az e.M x)
def AT (e:D.Env)(x:Int):Int×Int:=bif decide (Co e x≠0)then(0,Co e x)else Em e (Ma e e.M.Exprs.length) x
def idxP (v:Int):Nat->List Int->Int
 | _,[]=>-1
 | k,y::l=>bif decide (v=y)then(k:Int)else idxP v (k+1) l
def Af6 {v y:Int}{k:Nat}{l:List Int}:idxP v k (y::l)=bif decide (v=y)then(k:Int)else idxP v (k+1) l:=rfl
def Ac9 {v:Int}:∀{l:List Int}{k:Nat},decide (v∈l)=decide (idxP v k l>=0)
 | [],k=>by simp[idxP]
 | y::l,k=>by
  unfold idxP
  by_cases h:v=y
  .simp[h]
  .have:=Ac9 (v:=v) (l:=l) (k:=k+1);simp only[h,decide_false,Ar1,<- this];simp[h]
section
variable {P : Program} {a:Act} {w:World} {Q:Exit->Act->World->Prop}
def Hj {c rest:Code}(l:Nat)(g:findLabel c l=some rest)
  (h:∀J:Act->World->Prop,(∀a w,rest.wp P (Exit.noGoto Q) a w->J a w)->c.wp P (Exit.jump l J Q) a w):(Code.scope c).wp P Q a w:=by
 refine wp_scope_jumps l (λa w=>rest.wp P (Exit.noGoto Q) a w) (λ_ _=>0) g (h _ λ_ _ h=>h) ?_;intro a w i b k cs;obtain⟨e,j,m,d,f⟩:=i b k cs;refine⟨e,j,m,?_,f⟩;cases e with
 | goto l=>exact d.elim
 | normal=>exact d
 | exit _=>exact d
 | ret=>exact d
 | panic _=>exact d
 | outgrown=>exact d
@[go_sem] theorem Aon (l:Nat) (J:Act->World->Prop):Exit.jump l J Q .normal a w=Q .normal a w:=rfl
@[go_sem] theorem Aqt (l:Nat) (J:Act->World->Prop) (id:Nat):Exit.jump l J Q (.exit id) a w=Q (.exit id) a w:=rfl
@[go_sem] theorem Art (l:Nat) (J:Act->World->Prop):Exit.jump l J Q .ret a w=Q .ret a w:=rfl
@[go_sem] theorem Ap2 (l:Nat) (J:Act->World->Prop) (ch:List PanicEntry):Exit.jump l J Q (.panic ch) a w=Q (.panic ch) a w:=rfl
end
def Ic {k:IntKind}{a b:Int}(h:a=b):Ending.returned (.int k a)=.returned (.int k b):=by rw[h]
def JN (w:World)(o:Obj):Below w.heap.size w (w.alloc o):=(Below.refl _ _).alloc (Ar6 _) _
set_option maxHeartbeats 400000 in
def AoJ (b v:Int)(w:World)(h1:1<=b)(h2:b<=32) :
  Calls prog 47 #[.agg #[.int .i64 b,.bool true],.int .i64 v] w λe w'=>e=.returned (.int .i64 (MI b true v))/\Below w.heap.size w w':=by
 have d1:decide (b<1)=false:=by simp;omega
 have d2:decide (32<b)=false:=by simp;omega
 go_enter func47,ntmps47
 go_wp2
 go_quiet (fail)
 go_wp2
 go_ret
 exact⟨Ic (Yq b v h1 h2),below_drewN (JN _ _) _⟩
set_option maxHeartbeats 400000 in
def AoI (b v:Int)(w:World)(h1:1<=b)(h2:b<=32) :
  Calls prog 47 #[.agg #[.int .i64 b,.bool false],.int .i64 v] w λe w'=>e=.returned (.int .i64 (MI b false v))/\Below w.heap.size w w':=by
 have d1:decide (b<1)=false:=by simp;omega
 have d2:decide (32<b)=false:=by simp;omega
 go_enter func47,ntmps47
 go_wp2
 go_ret
 exact⟨Ic (Akp b v h1 h2),JN _ _⟩
set_option maxHeartbeats 400000 in
def AoH (b v:Int)(s:Bool)(w:World)(h1:b<1\/32<b) :
  Calls prog 47 #[.agg #[.int .i64 b,.bool s],.int .i64 v] w λe w'=>e=.returned (.int .i64 (MI b s v))/\Below w.heap.size w w':=by
 have HF:=Lib.hid (Anp b v s h1);rcases h1 with h1|h1
 .go_enter func47,ntmps47
  go_wp2
  go_ret
  exact⟨Ic HF.out.symm,JN _ _⟩
 .have d1:decide (b<1)=false:=by simp;omega
  go_enter func47,ntmps47
  go_wp2
  go_ret
  exact⟨Ic HF.out.symm,JN _ _⟩
def ArM (b v:Int)(s:Bool)(w:World) :
  Calls prog 47 #[.agg #[.int .i64 b,.bool s],.int .i64 v] w λe w'=>e=.returned (.int .i64 (MI b s v))/\Below w.heap.size w w':=by
 by_cases h:1<=b/\b<=32
 .cases s
  .exact AoI b v w h.1 h.2
  .exact AoJ b v w h.1 h.2
 .exact AoH b v s w oM
def Ho {k l:IntKind}{a b c d:Int}(h:a=b)(e:c=d):Ending.returned (.tuple #[.int k a,.int l c])=.returned (.tuple #[.int k b,.int l d]):=by rw[h,e]
set_option maxHeartbeats 400000 in
def ZF (b:Bool)(w:World) :
  Calls prog 224 #[.bool b] w λe w'=>e=.returned (.int .i64 (IY b))/\w=w':=by
 cases b
 all_goals
  go_enter func224,ntmps224
  go_wp2
  go_ret
  exact⟨rfl,rfl⟩
set_option maxHeartbeats 400000 in
def Ahg (a n:Int)(w:World)(h0:-2147483648<=n)(h1:n<=2147483648) :
  Calls prog 225 #[.int .i32 a,.int .i64 n] w λe w'=>e=.returned (.int .i32 (Iz a n))/\w=w':=by
 by_cases c:0<=n
 .have HP:Hid (Iz a n=wrap32 (a*2 ^ min n.toNat 32)):=by unfold Hid Iz;rw[AsE c]
  by_cases b:63<n
  .go_enter func225,ntmps225
   go_wp2
   go_ret
   exact⟨Ic (by rw[HP.out,show min n.toNat 32=32 by omega];first | rfl | (rw[IntKind.wrap_i32]<;>rfl)),rfl⟩
  .go_enter func225,ntmps225
   go_wp2
   go_ret
   exact⟨Ic (by rw[HP.out]),rfl⟩
 .have HP:Hid (Iz a n=a / 2 ^ min (-n).toNat 32):=by unfold Hid Iz;rw[Asv c]
  have d:n<=0:=oM
  by_cases b:63 < -n
  .go_enter func225,ntmps225
   go_wp2
   go_ret
   exact⟨Ic (by rw[HP.out,show min (-n).toNat 32=32 by omega]<;>rfl),rfl⟩
  .go_enter func225,ntmps225
   go_wp2
   go_ret
   exact⟨Ic HP.out.symm,rfl⟩
set_option maxHeartbeats 400000 in
def AoD (a b:Int)(w:World) :
  Calls prog 211 #[.int .i64 7,.int .i64 a,.int .i64 b] w λe w'=>e=.returned (.tuple #[.int .i64 (EX 7 a b),.int .i64 (Iv 7 b)])/\w=w':=by
 have f:=BQ b;have g:=BQ a
 by_cases h0:wrap32 b=0
 .have HV:Hid (EX 7 a b=0):=by unfold Hid;simp[EX,h0]
  have HE:Hid (Iv 7 b=48):=by unfold Hid;simp[Iv,h0]
  have c:(wrap32 b==0)=true:=by simpa using h0
  clear h0
  go_enter func211,ntmps211
  go_wp2
  refine Hj 0 rfl (λJ d=>?_)
  go_wp2
  go_step3
  refine⟨rfl,d _ _ ?_⟩
  go_wp2
  rw[Exit.noGoto_ret]
  go_ret2
  exact⟨Ho HV.out.symm HE.out.symm,rfl⟩
 .have HV:Hid (EX 7 a b=wrap32 ((wrap32 a).tdiv (wrap32 b))):=by unfold Hid;simp[EX,h0]
  have HE:Hid (Iv 7 b=0):=by unfold Hid;simp[Iv,h0]
  have c:(wrap32 b==0)=false:=by simpa using h0
  go_enter func211,ntmps211
  go_wp2
  go_step3
  go_wp2
  rw[Exit.noGoto_ret]
  go_ret2
  exact⟨Ho (by rw[HV.out];exact H6 _) HE.out.symm,rfl⟩
set_option maxHeartbeats 400000 in
def AoC (a b:Int)(w:World) :
  Calls prog 211 #[.int .i64 8,.int .i64 a,.int .i64 b] w λe w'=>e=.returned (.tuple #[.int .i64 (EX 8 a b),.int .i64 (Iv 8 b)])/\w=w':=by
 have g:=BQ b;have d:=BQ a
 by_cases h0:wrap32 b=0
 .have HV:Hid (EX 8 a b=0):=by unfold Hid;simp[EX,h0]
  have HE:Hid (Iv 8 b=48):=by unfold Hid;simp[Iv,h0]
  have c:(wrap32 b==0)=true:=by simpa using h0
  clear h0
  go_enter func211,ntmps211
  go_wp2
  refine Hj 0 rfl (λJ f=>?_)
  go_wp2
  go_step3
  refine⟨rfl,f _ _ ?_⟩
  go_wp2
  rw[Exit.noGoto_ret]
  go_ret2
  exact⟨Ho HV.out.symm HE.out.symm,rfl⟩
 .have HV:Hid (EX 8 a b=(wrap32 a).tmod (wrap32 b)):=by unfold Hid;simp[EX,h0]
  have HE:Hid (Iv 8 b=0):=by unfold Hid;simp[Iv,h0]
  have c:(wrap32 b==0)=false:=by simpa using h0
  go_enter func211,ntmps211
  go_wp2
  go_step3
  go_wp2
  rw[Exit.noGoto_ret]
  go_ret2
  exact⟨Ho (by rw[HV.out];rw[H6];exact Ams _ _ d.1 d.2) HE.out.symm,rfl⟩
set_option maxHeartbeats 4000000 in
def AoB (op a b:Int)(w:World)(c:op=6\/op=9\/op=10\/op=11\/op=12\/op=19\/op=20\/op=21) :
  Calls prog 211 #[.int .i64 op,.int .i64 a,.int .i64 b] w λe w'=>e=.returned (.tuple #[.int .i64 (EX op a b),.int .i64 (Iv op b)])/\w=w':=by
 have f:=BQ b;rcases c with rfl|rfl|rfl|rfl|rfl|rfl|rfl|rfl
 all_goals
  go_enter func211,ntmps211
  go_wp2
  go_step3
  go_wp2_with (first | (go_at_call 225;(with_reducible refine(Ahg _ _ _ oM oM).mono ?_);rintro e d ⟨rfl,rfl⟩) | (go_at_call 224;(with_reducible refine(ZF _ _).mono ?_);rintro e d ⟨rfl,rfl⟩))
  rw[Exit.noGoto_ret]
  go_ret2
  refine⟨Ho ?_ (by simp[Iv]),rfl⟩
  first
   | (simp[EX,H6];done)
   | (have h:=Ls (wrap32 a) (wrap32 b) (BQ a);simp only[EX];exact IntWalk.wrap64_in _ oM)
   | (have h:=Ls (wrap32 a) (-wrap32 b) (BQ a);simp only[EX];exact IntWalk.wrap64_in _ oM)
   | (have h:=FB .and sM (wrap32 a) (wrap32 b);simp only[EX];exact IntWalk.wrap64_in _ oM)
   | (have h:=FB .xor sM (wrap32 a) (wrap32 b);simp only[EX];exact IntWalk.wrap64_in _ oM)
   | (have h:=FB .or sM (wrap32 a) (wrap32 b);simp only[EX];exact IntWalk.wrap64_in _ oM)
set_option maxHeartbeats 4000000 in
def AoA (op a b:Int)(w:World)(c:op=13\/op=14\/op=15\/op=16\/op=17\/op=18) :
  Calls prog 211 #[.int .i64 op,.int .i64 a,.int .i64 b] w λe w'=>e=.returned (.tuple #[.int .i64 (EX op a b),.int .i64 (Iv op b)])/\w=w':=by
 have g:=BQ b;rcases c with rfl|rfl|rfl|rfl|rfl|rfl
 all_goals
  go_enter func211,ntmps211
  go_wp2
  refine Hj 1 rfl (λJ d=>?_)
  go_wp2
  go_step3
  refine⟨rfl,d _ _ ?_⟩
  go_wp2_with (first | (go_at_call 225;(with_reducible refine(Ahg _ _ _ oM oM).mono ?_);rintro e f ⟨rfl,rfl⟩) | (go_at_call 224;(with_reducible refine(ZF _ _).mono ?_);rintro e f ⟨rfl,rfl⟩))
  rw[Exit.noGoto_ret]
  go_ret2
  exact⟨Ho (by simp only[EX];rfl) (by simp[Iv]),rfl⟩
set_option maxHeartbeats 400000 in
def AlG (op:Int)(a b:Int)(w:World)(c:op<6\/21<op) :
  Calls prog 211 #[.int .i64 op,.int .i64 a,.int .i64 b] w λe w'=>e=.returned (.tuple #[.int .i64 (EX op a b),.int .i64 (Iv op b)])/\w=w':=by
 have r:=BQ b;have HV:Hid (EX op a b=0):=by unfold Hid EX;repeat (rw[Asv oM])
 have HE:Hid (Iv op b=42):=by unfold Hid Iv;rw[Asv oM,Asv oM]
 have s:(op==6)=false:=by simp;omega
 have t:(op==7)=false:=by simp;omega
 have u:(op==8)=false:=by simp;omega
 have v:(op==9)=false:=by simp;omega
 have d:(op==10)=false:=by simp;omega
 have f:(op==11)=false:=by simp;omega
 have g:(op==12)=false:=by simp;omega
 have h:(op==13)=false:=by simp;omega
 have i:(op==14)=false:=by simp;omega
 have j:(op==15)=false:=by simp;omega
 have k:(op==16)=false:=by simp;omega
 have l:(op==17)=false:=by simp;omega
 have m:(op==18)=false:=by simp;omega
 have n:(op==19)=false:=by simp;omega
 have o:(op==20)=false:=by simp;omega
 have p:(op==21)=false:=by simp;omega
 clear c
 go_enter func211,ntmps211
 go_wp2
 refine Hj 1 rfl (λJ q=>?_)
 go_wp2
 go_step3
 refine⟨rfl,q _ _ ?_⟩
 go_wp2
 rw[Exit.noGoto_ret]
 go_ret2
 exact⟨Ho HV.out.symm HE.out.symm,rfl⟩
def ArK (op a b:Int)(w:World) :
  Calls prog 211 #[.int .i64 op,.int .i64 a,.int .i64 b] w λe w'=>e=.returned (.tuple #[.int .i64 (EX op a b),.int .i64 (Iv op b)])/\w=w':=by
 by_cases c:op<6\/21<op
 .exact AlG op a b w c
 by_cases h7:op=7
 .subst h7;exact AoD a b w
 by_cases d:op=8
 .subst d;exact AoC a b w
 by_cases f:13<=op/\op<=18
 .exact AoA op a b w oM
 .exact AoB op a b w oM
set_option maxHeartbeats 1000000 in
def ArL (op a:Int)(w:World) :
  Calls prog 210 #[.int .i64 op,.int .i64 a] w λe w'=>e=.returned (.tuple #[.int .i64 (Ou op a),.int .i64 (AaU op)])/\w=w':=by
 by_cases b:op=3\/op=4\/op=5
 .rcases b with rfl|rfl|rfl
  all_goals
   have c:=BQ a
   go_enter func210,ntmps210
   go_wp2_with (go_at_call 224;(with_reducible refine(ZF _ _).mono ?_);rintro e d ⟨rfl,rfl⟩)
   go_ret2
   exact⟨Ho (by simp only[Ou];first | rfl | exact H6 _ | exact(Akl a) | (simp;omega)) (by simp[AaU]),rfl⟩
 have HV:Hid (Ou op a=0):=by unfold Hid Ou;repeat (rw[Asv oM])
 have HE:Hid (AaU op=42):=by unfold Hid AaU;rw[Asv oM]
 have f:(op==3)=false:=by simp;omega
 have g:(op==4)=false:=by simp;omega
 have h:(op==5)=false:=by simp;omega
 clear b
 go_enter func210,ntmps210
 go_wp2
 go_ret2
 exact⟨Ho HV.out.symm HE.out.symm,rfl⟩
def Lk {m:D.Model}(h:CU m=(0,0)):FT m<0:=by
 unfold CU at h;grind
structure Cq (e:D.Env):Prop where
 fits:D6 e.M e.S=true
 may:DU e.M=true
 wf:AF e.M
 pid:-1<=e.Pid/\e.Pid<e.S.Procs.length
section
variable {e : D.Env}
def Cq.fit (h:Cq e):Fit e.S:=VI h.may h.fits
def Cq.tab (h:Cq e):Aou e.M:=QQ (Cg h.may).1
def Cq.expr (h:Cq e):∀i:Nat,i<e.M.Exprs.length->DM e.M i=true:=NR (Lk (Cg h.may).1)
def Cq.chan (h:Cq e){c:D.Chan}(a:c∈e.S.Chans):DX e.M c=true:=by
 have h:=h.fits;unfold D6 at h;simp only[Ar2]at h;exact(CP (d:=default) (f:=λc=>DX e.M c)).1 h.1.1.2 c a
def Cq.proc (h:Cq e){p:D.Process}(hp:p∈e.S.Procs):Bc e.M p=true:=by
 have h:=h.fits;unfold D6 at h;simp only[Ar2]at h;exact(CP (d:=default) (f:=λc=>Bc e.M c)).1 h.1.2 p hp
def Cq.globals (h:Cq e):e.S.Globals.length=e.M.Globals.length/\B5 e.M.Globals e.S.Globals=true:=by
 have h:=h.fits;unfold D6 L9 at h;simp only[Ar2]at h;grind[Gc]
def D0 {m:D.Model}{p:D.Process}(h:Bc m p=true):(0<=p.Type_/\p.Type_<m.Procs.length)/\(0<=p.Loc/\p.Loc<(A7 m p.Type_).Locs.length)/\p.Frame.length=(A7 m p.Type_).Frame.length/\B5 (A7 m p.Type_).Frame p.Frame=true/\p.Prio=(A7 m p.Type_).Prio/\p.Type_≠m.Claim:=by
 unfold Bc DL at h;simp only[Ar2,Asc]at h;grind[Cn,Gc]
def Gt {m:D.Model}{c:D.Chan}(h:DX m c=true):(0<=c.Shape/\c.Shape<m.Shapes.length)/\(c.Queue.length:Int)<=(CF m c.Shape).Room/\∀x∈c.Queue,B5 (CF m c.Shape).Fields x=true:=by
 unfold DX at h;simp only[Ar2,Asc]at h;exact⟨Cn.1 h.1.1,h.1.2,λx a=>(CP (d:=[]) (f:=λx=>B5 (CF m c.Shape).Fields x)).1 h.2 x a⟩
end
abbrev vII (p:Int×Int):VV:=.tup [Aa p.1,Aa p.2]
abbrev Mj (p:Int×Int×Int):VV:=.tup [Aa p.1,Aa p.2.1,Aa p.2.2]
def BI {a b:Int}{q:Int×Int}(h:(a,b)=q):leO [] []/\VV.le (.tup [.sc (.int .i64 a),.sc (.int .i64 b)]) (.tup [.sc (.int .i64 q.1),.sc (.int .i64 q.2)]):=by
 subst h;exact⟨trivial,lR⟩
def NJ {a b c:Int}{q:Int×Int×Int}(h:(a,b,c)=q):leO [] []/\VV.le (.tup [.sc (.int .i64 a),.sc (.int .i64 b),.sc (.int .i64 c)]) (.tup [.sc (.int .i64 q.1),.sc (.int .i64 q.2.1),.sc (.int .i64 q.2.2)]):=by
 subst h;exact⟨trivial,lR⟩
def ct {α:Type}{c:Bool}{a b x:α}(h:c=true)(k:x=a):x=bif c then a else b:=by rw[h];exact k
def cf {α:Type}{c:Bool}{a b x:α}(h:c=false)(k:x=b):x=bif c then a else b:=by rw[h];exact k
def it {α:Type}{c:Prop}[Decidable c]{a b x:α}(h:c)(k:x=a):x=if c then a else b:=by rw[AsE h];exact k
def ie {α:Type}{c:Prop}[Decidable c]{a b x:α}(h:¬c)(k:x=b):x=if c then a else b:=by rw[Asv h];exact k
abbrev EvS (e:D.Env)(a:Int)(p:Int×Int):Prop:=Ah prog 159 [] [.tp (Ai e),Aa a] [] (vII p)
def DA {b:Bool}:Ah prog 184 [] [Ac b] [] (vII (Ez b)) :=
 Ap func184 (Aed _ _ b) ⟨λh=>BI (by rw[h]<;>rfl),λh=>BI (by rw[h];rfl)⟩
def A2 (a b:Int):(a != b)=decide (a≠b):=by rw[AsU];simp
def Mf {e:D.Env}{ev:Evl}{a:Int}(h:EvS e a (ev a)):Ah prog 207 [] [.tp (Ai e),Aa a] [] (vII (Em e ev a)):=by
 refine Ap func207 (AdO _ _ e a) ⟨ev a,h,λh=>BI (ct (by simpa using h) rfl),λh=>⟨λh2=>BI (cf (by simpa using h) (ct ?_ rfl)),λh2=>BI (cf (by simpa using h) (cf ?_ rfl))⟩⟩
 .rw[Ce]at h2;exact h2
 grind
def VQ {e:D.Env}{ev:Evl}{a:Int}(b:Cq e)(h:¬(Em e ev a).2≠0):1<=(Em e ev a).1/\(Em e ev a).1<=e.S.Chans.length/\e.S.Chans.length<=32:=by
 have d:=b.fit.c;unfold Em at h |-;grind
def Abf {l:List Int}{v:Int}(i:Len l.length):Ah prog 223 [] [Ad true l,Aa v] [] (Aa (idxP v 0 l)):=by
 unfold Len at i;refine Ap func223 (Af5 _ l v) ?_;refine Ar l.length (λk=>Acq l v k) (λk=>idxP v 0 l=idxP v k (l.drop k)) rfl ?_;intro k m c J next
 refine Asm (Abg _ l v k J) ⟨λf=>?_,λg=>Bp ?_⟩
 .have a:k<l.length:=by have:=A0 f;omega
  have h:(k:Int).toNat=k:=oM
  rw[h];rw[A9 (d:=0) a]at c;rw[Af6]at c;refine⟨oM,λj=>Bp ?_,λj=>next _ a ?_ (Up.of ?_)⟩
  .grind
  .grind
  grind[Al]
 .have b:l.length<=k:=by have:=A1 g;omega
  rw[c,Asr b]<;>rfl
def SO {l:List Int}{v:Int}(a:Len l.length):Ah prog 209 [] [Ad true l,Aa v] [] (Ac (decide (v∈l))) :=
 Ap func209 (VK _ l v) ⟨_,Abf a,AB (by rw[Ac9 (k:=0)])⟩
def AgZ {e:D.Env}{ev:Evl}{x:D.Expr}(a:Cq e)(h:EvS e x.A (ev x.A)):Ah prog 182 [] [.tp (Ai e),.agg (AG x)] [] (vII (Uy e ev x)):=by
 refine Ap func182 (Alk _ _ e x rfl rfl rfl rfl rfl) ⟨Em e ev x.A,Mf h,λh=>BI (ct (by simpa using h) rfl),λh=>?_⟩;have h0:decide ((Em e ev x.A).2≠0)=false:=by simpa using h
 have b:Uy e ev x=Aqn x.Op (CF e.M (CB e (Em e ev x.A).1).Shape).Room (CB e (Em e ev x.A).1).Queue.length:=by unfold Uy;rw[h0]<;>rfl
 rw[b];have c:=VQ a (Asn h0);generalize(Em e ev x.A).1=n at c;rw[B9 oM oM];have f:=a.chan (As (d:=default) (show(n-1).toNat<e.S.Chans.length by omega));have hs:=(Gt f).1;refine⟨oM,hs,λh1=>BI (it (by simpa using h1) rfl),λh1=>⟨λh2=>⟨_,DA,BI (ie (by simpa using h1) (it (by simpa using h2) rfl))⟩,λh2=>⟨λh3=>⟨_,DA,BI (ie (by simpa using h1) (ie (by simpa using h2) (it (by simpa using h3) rfl)))⟩,λh3=>⟨λh4=>⟨_,DA,BI (ie (by simpa using h1) (ie (by simpa using h2) (ie (by simpa using h3) (it (by simpa using h4) ?_))))⟩,λh4=>⟨_,DA,BI (ie (by simpa using h1) (ie (by simpa using h2) (ie (by simpa using h3) (ie (by simpa using h4) ?_))))⟩⟩⟩⟩⟩
 .rw[ieq]<;>rfl
 .rfl
def XC {e:D.Env}{ev:Evl}{x:D.Expr}(h:EvS e x.A (ev x.A))(a:Len x.Args.length):Ah prog 186 [] [.tp (Ai e),.agg (AG x)] [] (vII (Lu e ev x)):=by
 refine Ap func186 (Aax _ _ e x) ⟨ev x.A,h,λh=>BI (ct (by simpa using h) rfl),λh=>?_⟩;have h0:decide ((ev x.A).2≠0)=false:=by simpa using h
 have b:Lu e ev x=bif decide ((ev x.A).1<0)||(decide ((e.S.Procs.length:Int)<=(ev x.A).1)||(decide (x.Op=38)&&decide ((EK e (ev x.A).1).Type_≠x.N)))then(0,52)
   else bif decide (x.Op=37)then((EK e (ev x.A).1).Loc,0)else Ez (decide ((EK e (ev x.A).1).Loc∈x.Args)):=by unfold Lu;rw[h0]<;>rfl
 rw[b];generalize(ev x.A).1=n;refine⟨λh1=>?_,λh1=>?_,λh1=>⟨λh2=>⟨?_,BI (cf ?_ (ct (by simpa using h2) rfl))⟩,λh2=>⟨?_,_,SO a,_,DA,BI (cf ?_ (cf (by simpa using h2) rfl))⟩⟩⟩
 .simp at h1;omega
 .simp only[Ce,B3,ieq,A2,AtQ,AtX]at h1;exact BI (ct h1 rfl)
 .simp at h1;omega
 .grind
 .simp at h1;omega
 .simp only[Ce,B3,ieq,A2,AtQ,AtX]at h1;exact h1
def MB {e:D.Env}{a:Int}{p:Int×Int}(h:EvS e a p):Ah prog 206 [] [Aa a,.tp [.tp (Ai e)]] [] (vII p) :=
 Ap func206 (AfU _ _ e a) ⟨p,h,BI rfl⟩
def RG {e:D.Env}{ev:Evl}{x:D.Expr}(h:EvS e x.A (ev x.A))(hB:EvS e x.B (ev x.B))(b:x.Op=24->EvS e x.C (ev x.C)):Ah prog 181 [] [.tp (Ai e),.agg (AG x)] [] (vII (Ox ev x)):=by
 refine Ap func181 (AfW _ _ e x rfl rfl) ⟨ev x.A,h,λh=>BI (ct (by simpa using h) rfl),λh=>?_⟩;have h0:decide ((ev x.A).2≠0)=false:=by simpa using h
 have c:Ox ev x=bif decide (x.Op=24)then(bif decide ((ev x.A).1≠0)then ev x.B else ev x.C)
   else bif(decide (x.Op=22)&&decide ((ev x.A).1=0))||(decide (x.Op=23)&&decide ((ev x.A).1≠0))then Ez (decide ((ev x.A).1≠0))
   else bif decide ((ev x.B).2≠0)then(0,(ev x.B).2)else Ez (decide ((ev x.B).1≠0)):=by unfold Ox;rw[h0]<;>rfl
 rw[c];generalize(ev x.A).1=n;refine⟨λh1=>⟨_,MB hB,?_⟩,λh1=>⟨λh2=>⟨_,MB (b (by simpa using h2)),?_⟩,λh2=>⟨λh3=>⟨_,DA,?_⟩,λh3=>⟨_,MB hB,λh4=>?_,λh4=>⟨_,DA,?_⟩⟩⟩⟩⟩
 .simp only[B3,ieq,A2,Ar2]at h1;exact BI (ct h1.1 (ct h1.2 rfl))
 .have a:decide (x.Op=24)=true:=by simpa using h2
  simp only[B3,ieq,A2,a,As5]at h1;exact BI (ct a (cf h1 rfl))
 .have a:decide (x.Op=24)=false:=by simpa using h2
  simp only[B3,Ce,ieq,A2]at h3;rw[A2];exact BI (cf a (ct h3 rfl))
 .have a:decide (x.Op=24)=false:=by simpa using h2
  simp only[B3,Ce,ieq,A2]at h3;exact BI gD
 .have a:decide (x.Op=24)=false:=by simpa using h2
  simp only[B3,Ce,ieq,A2]at h3;rw[A2];exact BI gD
def AfG {op a:Int}:Ah prog 210 [] [Aa op,Aa a] [] (vII (Ou op a,AaU op)):=by
 refine Ah.hand ⟨_,func210,rfl,kR⟩ λw E vs c d _ _ hs=>?_
 obtain⟨f,us1,rfl,b,hs⟩:=hs.cons_inv;obtain⟨g,us2,rfl,v2,hs⟩:=hs.cons_inv;obtain rfl:=hs.nil_inv;rw[b.sc_inv,v2.sc_inv];refine(ArL op a w).mono ?_;rintro e w' ⟨rfl,rfl⟩;exact⟨_,rfl,Ahy .sc .sc,Below.refl _ _⟩
def Aec {op a b:Int}:Ah prog 211 [] [Aa op,Aa a,Aa b] [] (vII (EX op a b,Iv op b)):=by
 refine Ah.hand ⟨_,func211,rfl,kR⟩ λw E vs f g _ _ hs=>?_
 obtain⟨h,us1,rfl,c,hs⟩:=hs.cons_inv;obtain⟨i,us2,rfl,v2,hs⟩:=hs.cons_inv;obtain⟨j,us3,rfl,d,hs⟩:=hs.cons_inv;obtain rfl:=hs.nil_inv;rw[c.sc_inv,v2.sc_inv,d.sc_inv];refine(ArK op a b w).mono ?_;rintro e w' ⟨rfl,rfl⟩;exact⟨_,rfl,Ahy .sc .sc,Below.refl _ _⟩
def Te {e:D.Env}{ev:Evl}{x:D.Expr}(h:EvS e x.A (ev x.A))(hB:¬(x.Op=3\/x.Op=4\/x.Op=5)->EvS e x.B (ev x.B)):Ah prog 187 [] [.tp (Ai e),.agg (AG x)] [] (vII (Tf ev x)):=by
 refine Ap func187 (AhE _ _ e x) ⟨ev x.A,h,λh=>BI (ct (by simpa using h) rfl),λh=>?_⟩;have h0:decide ((ev x.A).2≠0)=false:=by simpa using h
 have a:Tf ev x=bif decide (x.Op=3)||(decide (x.Op=4)||decide (x.Op=5))then(Ou x.Op (ev x.A).1,AaU x.Op)
   else bif decide ((ev x.B).2≠0)then(0,(ev x.B).2)else(EX x.Op (ev x.A).1 (ev x.B).1,Iv x.Op (ev x.B).1):=by unfold Tf;rw[h0]<;>rfl
 rw[a];generalize(ev x.A).1=n;refine⟨λh1=>⟨_,AfG,BI (ct ?_ rfl)⟩,λh1=>⟨ev x.B,hB ?_,λh2=>BI (cf ?_ (ct (by simpa using h2) rfl)),λh2=>⟨_,Aec,BI (cf ?_ (cf (by simpa using h2) rfl))⟩⟩⟩
 .grind
 .simp at h1;omega
 .grind
 grind
def AfL {x l mt:List Int}(n:Len mt.length):Ah prog 222 [] [Ad true x,Ad false l,Ad true mt] [] (Ac (I0 x l mt)):=by
 unfold Len at n;refine Ap func222 (AjT _ x l mt) ⟨λh=>AB ?_,λh=>?_⟩
 .symm;unfold I0;rw[Ce]at h;rw[AsW];intro o;simp only[Ar2,Asc]at o;simp at h;omega
 .have g:mt.length<=x.length/\mt.length<=l.length:=by simp at h;omega
  have p:I0 x l mt=EC mt.length λi=>!(decide (mt.getD i 0=1)&&decide (x.getD i 0≠l.getD i 0)):=by
   unfold I0;rw[Asx g.1,Asx g.2]<;>rfl
  rw[p];refine Ar mt.length (λk=>U2 x l mt k) (λk=>∀i,i<k->(!(decide (mt.getD i 0=1)&&decide (x.getD i 0≠l.getD i 0)))=true) (λi hi=>oM) ?_;intro k q j J next
  refine Asm (AfM _ x l mt k J) ⟨λc=>?_,λd=>AB ?_⟩
  .have a:k<mt.length:=by have:=A0 c;omega
   have e:(k:Int).toNat=k:=oM
   rw[e];refine⟨oM,λ_=>oM,λ_=>oM,λb=>AB ?_,λb=>next _ a (Fc j ?_) (Up.of ?_)⟩
   .simp only[B3,ieq,A2]at b;exact(DY (f:=λi=>!(decide (mt.getD i 0=1)&&decide (x.getD i 0≠l.getD i 0))) a (by rw[b]<;>rfl)).symm
   .simp only[B3,ieq,A2]at b;rw[b]<;>rfl
   .rw[Al oM]<;>rfl
  .have m:mt.length<=k:=by have:=A1 d;omega
   exact(BC.2 λi hi=>j i oM).symm
def Aby {l mt:List Int}{any:Bool}{k:Nat}{x:List Int}{q:List (List Int)}:Ui l mt any k (x::q)=bif I0 x l mt then(k:Int)else bif any then Ui l mt any (k+1) q else -1:=rfl
def Ug {c:D.Chan}{l mt:List Int}{any:Bool}(m:Len c.Queue.length)(n:Len mt.length):Ah prog 208 [] [.agg (Ay c),Ad false l,Ad true mt,Ac any] [] (Aa (KR c l mt any)):=by
 unfold Len at m;refine Ap func208 (Akr _ c l mt any) ?_;unfold KR;refine Ar c.Queue.length (λk=>U3 c l mt any k) (λk=>Ui l mt any 0 c.Queue=Ui l mt any k (c.Queue.drop k)) rfl ?_;intro k o b J next
 refine Asm (Agl _ c l mt any k J) ⟨λg=>?_,λh=>Bp ?_⟩
 .have a:k<c.Queue.length:=by have:=A0 g;omega
  have i:(k:Int).toNat=k:=oM
  rw[i];rw[A9 (d:=[]) a,Aby]at b;refine⟨oM,_,AfL n,λf=>Bp ?_,λf=>⟨λj=>Bp ?_,λj=>next _ a ?_ (Up.of ?_)⟩⟩
  .rw[b,f,Ar3]
  .rw[b,f,Ar1,show any=false by simpa using j,Ar1]
  .rw[b,f,Ar1,show any=true by simpa using j,Ar3]
  .rw[Al oM]<;>rfl
 .have e:c.Queue.length<=k:=by have:=A1 h;omega
  rw[b,Asr e]<;>rfl
def LJ {f:Nat->Int}:∀{n:Nat},(∀i,i<n->f i=0)->AbD n f=0
 | 0,_=>rfl
 | n+1,h=>by
  unfold AbD;rw[LJ λi hi=>h i oM,h n oM]<;>rfl
theorem RZ {f:Nat->Int}{k:Nat}(h:∀i,i<k->f i=0)(b:f k≠0):∀{n:Nat},k<n->AbD n f=f k
 | 0,hk=>oM
 | n+1,hk=>by
  unfold AbD
  by_cases a:k=n
  .subst a;rw[LJ h]<;>rfl
  .rw[RZ h b (n:=n) oM,Asx b,Ar3]
def Cs (ev:Evl)(args mt:List Int)(k:Nat):List Int:=(List.range args.length).map λi=>if i<k then(E6 ev (args.getD i 0) (mt.getD i 0)).1 else 0
theorem C1 {ev:Evl}{args mt:List Int}{k:Nat}:(Cs ev args mt k).length=args.length:=by simp[Cs]
def Ga {ev:Evl}{args mt:List Int}{k i:Nat}(hi:i<args.length):(Cs ev args mt k).getD i 0=if i<k then(E6 ev (args.getD i 0) (mt.getD i 0)).1 else 0:=by
 simp[Cs,List.getD,hi]
def Qz {ev:Evl}{args mt:List Int}:Cs ev args mt args.length=N9 ev args mt:=by
 unfold Cs N9;apply AtT;intro i hi;rw[AsE (As8.1 hi)]
def Afx {e:D.Env}{ev:Evl}{x:D.Expr}(t:Cq e)(h:EvS e x.A (ev x.A))(I:∀a∈x.Args,EvS e a (ev a))(O:x.Args.length<=8)(P:x.Match.length=x.Args.length):Ah prog 183 [] [.tp (Ai e),.agg (AG x)] [] (vII (TI e ev x)):=by
 refine Ap func183 (AiX _ _ e x) ⟨Em e ev x.A,Mf h,λh=>BI (ct (by simpa using h) rfl),λh=>?_⟩;have h0:decide ((Em e ev x.A).2≠0)=false:=by simpa using h
 have p:TI e ev x=bif decide ((CF e.M (CB e (Em e ev x.A).1).Shape).Fields.length≠x.Args.length)then(0,49)
   else bif decide (FD ev x.Args x.Match x.Args.length≠0)then(0,FD ev x.Args x.Match x.Args.length)
   else Ez (decide (0<=KR (CB e (Em e ev x.A).1) (N9 ev x.Args x.Match) x.Match (decide (x.N=1)))):=by unfold TI;rw[h0]<;>rfl
 rw[p];have J:=VQ t (Asn h0);generalize(Em e ev x.A).1=n at J;rw[B9 oM oM];have r:=As (d:=default) (show(n-1).toNat<e.S.Chans.length by omega);have H:=t.chan r;have hs:=(Gt H).1;have u:=(t.fit.q _ r).1;refine⟨oM,hs,λh1=>BI (ct ?_ rfl),λh1=>⟨oM,?_⟩⟩
 .rw[A2]at h1;have:=Asd h1;rw[Asc];intro v;apply this;have w:(e.M.Shapes.getD (e.S.Chans.getD (n-1).toNat default).Shape.toNat default).Fields.length=x.Args.length:=v;rw[w]
 have y:decide ((CF e.M (CB e n).Shape).Fields.length≠x.Args.length)=false:=by
  rw[A2]at h1;have:=Asn h1;rw[AsF];intro v;apply this;intro h2;apply v;exact Int.ofNat.inj h2
 rw[y,Ar1];have g:e.S.Chans.getD (n-1).toNat default=CB e n:=rfl;clear p h1 hs H;generalize CB e n=c at g;have K:c.Queue.length<=16:=by rw[<- g];exact u
 refine Aq (λgg st=>∃k:Nat,k<=x.Args.length/\gg=x.Args.length-k/\(∀i,i<k->(E6 ev (x.Args.getD i 0) (x.Match.getD i 0)).2=0)/\st=ZY e x c (Cs ev x.Args x.Match k) k)
  ⟨x.Args.length,Up.mk (l':=[(0,.tp (Ai e)),(3,.bp 0 0),(8,.bp 1 0),(9,.ow 2 0 (Cs ev x.Args x.Match 0).length),(51,Ad true x.Args),(52,Aa x.Args.length),(53,Aa ((0:Nat):Int))])
   (hs':=[.box (AG x),.box (Ay c),.arr true 0 (Cs ev x.Args x.Match 0).length 1 (AO (Cs ev x.Args x.Match 0))]) ?_ ?_ ⟨0,Ar9 _,rfl,λi hi=>oM,rfl⟩⟩ ?_
 .rw[C1];exact AR _
 .rw[C1];refine⟨Ob.le_refl _,by rw[<- g];exact Ob.le_refl _,Asw λi hi=>AN ?_,trivial⟩;have o:AO (Cs ev x.Args x.Match 0) i=[Aa 0]:=by
   unfold AO;rw[Ga oM,Asv (AsQ _)]
  refine Eq.trans ?_ o.symm;rfl
 .rintro gg st ⟨k,Q,rfl,s,rfl⟩;refine Asm (Afy _ _ e x c _ k _) ⟨λz=>?_,λB=>?_⟩
  .have j:k<x.Args.length:=by have:=A0 z;omega
   have C:(k:Int).toNat=k:=oM
   rw[C];refine⟨oM,oM,λl=>?_,λl=>⟨ev (x.Args.getD k 0),I _ (As j),by rw[C1];omega,λo=>BI ?_,λo=>?_⟩⟩
   .rw[A2]at l;have h1:=Asd l;have hv:E6 ev (x.Args.getD k 0) (x.Match.getD k 0)=(0,0):=by unfold E6;rw[Asu h1]<;>rfl
    have L:Cs ev x.Args x.Match k=Cs ev x.Args x.Match (k+1):=by
     unfold Cs;apply AtT;intro i _
     by_cases E:i=k
     .subst E;rw[Asv (Aua _),AsE (Ata _),hv]
     .by_cases b:i<k
      .rw[AsE b,AsE oM]
      .rw[Asv b,Asv oM]
    rw[L,Al oM];exact⟨x.Args.length-(k+1),oM,Up.of ⟨k+1,oM,rfl,Fc s (by rw[hv]),rfl⟩⟩
   .have m:decide (x.Match.getD k 0=1)=true:=by rw[A2]at l;simpa using l
    have hv:E6 ev (x.Args.getD k 0) (x.Match.getD k 0)=ev (x.Args.getD k 0):=by unfold E6;rw[m]<;>rfl
    have F:(E6 ev (x.Args.getD k 0) (x.Match.getD k 0)).2≠0:=by rw[hv];simpa using o
    have G:FD ev x.Args x.Match x.Args.length=(ev (x.Args.getD k 0)).2:=by
     unfold FD;rw[RZ (f:=λi=>(E6 ev (x.Args.getD i 0) (x.Match.getD i 0)).2) s F j,hv]
    rw[G];exact ct (by simpa using o) rfl
   .have m:decide (x.Match.getD k 0=1)=true:=by rw[A2]at l;simpa using l
    have hv:E6 ev (x.Args.getD k 0) (x.Match.getD k 0)=ev (x.Args.getD k 0):=by unfold E6;rw[m]<;>rfl
    have h2:(ev (x.Args.getD k 0)).2=0:=by simpa using o
    rw[Al oM];refine⟨x.Args.length-(k+1),oM,Up.mk (l':=[(0,.tp (Ai e)),(3,.bp 0 0),(8,.bp 1 0),(9,.ow 2 0 (Cs ev x.Args x.Match (k+1)).length),(51,Ad true x.Args),(52,Aa x.Args.length),(53,Aa ((k+1:Nat):Int))])
     (hs':=[.box (AG x),.box (Ay c),.arr true 0 (Cs ev x.Args x.Match (k+1)).length 1 (AO (Cs ev x.Args x.Match (k+1)))]) ?_ ?_ ⟨k+1,oM,rfl,Fc s (by rw[hv];exact h2),rfl⟩⟩
    .rw[C1,C1];exact AR _
    .rw[C1,C1];refine⟨Ob.le_refl _,Ob.le_refl _,Asw λi hi=>AN ?_,trivial⟩;show(bif i.beq k then[Aa (ev (x.Args.getD k 0)).1]else[Aa ((Cs ev x.Args x.Match k).getD i 0)])=[Aa ((Cs ev x.Args x.Match (k+1)).getD i 0)];rw[Ga hi,Ga hi];cases p:i.beq k with
     | true =>
      have:=Ar5 p;subst this;rw[Ar3,AsE (Ata _),hv]
     | false =>
      have:i≠k:=Nat.ne_of_beq_eq_false p;rw[Ar1]
      by_cases b:i<k
      .rw[AsE b,AsE oM]
      .rw[Asv b,Asv oM]
  .obtain rfl:k=x.Args.length:=by have:=A1 B;omega
   have G:FD ev x.Args x.Match x.Args.length=0:=LJ s;rw[G,Qz];refine⟨_,Ug (by unfold Len;omega) (by unfold Len;omega),_,DA,BI (cf rfl ?_)⟩;rw[ieq]
def Yk {e:D.Env}{ev:Evl}{v:D.Var}(a:Cq e)(hv:Kd v)(b:¬(v.Scope=0\/v.Scope=1)->EvS e v.Who (ev v.Who)):Ah prog 205 [] [.tp (Ai e),.agg (CV v)] [] (vII (D4 e ev v)):=by
 have hp:=a.pid;refine Ap func205 (Abi _ _ e v rfl rfl) ⟨λh=>⟨_,HC hv,λh1=>BI ?_,λh1=>BI ?_⟩,λh=>⟨λh1=>⟨_,λ_=>HC hv,λh2=>?_,λh2=>BI ?_,λh2=>BI ?_⟩,λh1=>⟨_,b ?_,λh2=>BI ?_,λh2=>⟨λh3=>?_,λh3=>BI ?_,λh3=>⟨_,HC hv,?_,λh4=>BI ?_,λh4=>BI ?_⟩⟩⟩⟩⟩
 .exact ct (by simpa using h) (ct h1 rfl)
 .exact ct (by simpa using h) (cf h1 rfl)
 .simp at h2;omega
 .exact cf (by simpa using h) (ct (by simpa using h1) (ct (by rw[Ce]at h2;exact h2) rfl))
 .exact cf (by simpa using h) (ct (by simpa using h1) (cf (by rw[Ce]at h2;exact h2) rfl))
 .simp at h h1;omega
 .exact cf (by simpa using h) (cf (by simpa using h1) (ct (by simpa using h2) rfl))
 .simp at h3;omega
 .refine cf (by simpa using h) (cf (by simpa using h1) (cf (by simpa using h2) (ct ?_ rfl)));simp only[Ce,A2,AtQ,AtX]at h3;exact h3
 .simp at h3;omega
 .refine cf (by simpa using h) (cf (by simpa using h1) (cf (by simpa using h2) (cf ?_ (ct h4 rfl))));simp only[Ce,A2,AtQ,AtX]at h3;exact h3
 .refine cf (by simpa using h) (cf (by simpa using h1) (cf (by simpa using h2) (cf ?_ (cf h4 rfl))));simp only[Ce,A2,AtQ,AtX]at h3;exact h3
def R3 {ev:Evl}{n:Int}{d:D.Dim}{l:List D.Dim}:GM ev n (d::l)=bif decide ((ev d.I).2≠0)then(0,(ev d.I).2)else bif decide ((ev d.I).1<0)||decide (d.Len<=(ev d.I).1)then(0,47)else GM ev (n+(ev d.I).1*d.Stride) l:=rfl
structure Alw (d:D.Dim):Prop where
 l1:1<=d.Len
 l2:d.Len<=128
 s1:0<=d.Stride
 s2:d.Stride<=128
def AjS {i s n:Int}(h0:0<=i)(h1:i<n)(h2:n<=128)(d:0<=s)(s1:s<=128):0<=i*s/\i*s<=(n-1)*s/\(n-1)*s<=16384:=by
 have a:=Int.mul_nonneg h0 d;have b:=Int.mul_le_mul_of_nonneg_right (show i<=n-1 by omega) d;have c:=Int.mul_le_mul (show n-1<=128 by omega) s1 d oM;omega
def AeE {e:D.Env}{ev:Evl}{x:Int}(w:Cq e)(u:0<=x/\x<e.M.Exprs.length)(hv:Kd (Az e.M x).V)(o:(Az e.M x).Op=2->¬((Az e.M x).V.Scope=0\/(Az e.M x).V.Scope=1)->EvS e (Az e.M x).V.Who (ev (Az e.M x).V.Who))
  (hs:(Az e.M x).Op=2->0<=(Az e.M x).V.Slot/\(Az e.M x).V.Slot<=128/\(Az e.M x).V.Dims.length<=4) (hd:(Az e.M x).Op=2->∀d∈(Az e.M x).V.Dims,Alw d/\EvS e d.I (ev d.I)):Ah prog 180 [] [.tp (Ai e),Aa x] [] (Mj (B8 e ev (Az e.M x))):=by
 refine Ap func180 (Ah2 _ _ _ e x rfl rfl) ⟨u,u,λh=>NJ (ct (by simpa[Az]using h) rfl),λh=>?_⟩;have h0:(Az e.M x).Op=2:=by simpa[Az]using h
 change ∃y:Int×Int,Ah prog 205 [] [.tp (Ai e),.agg (CV (Az e.M x).V)] [] (vII y)/\_
 replace o:=o h0
 replace hs:=hs h0
 replace hd:=hd h0
 have v:B8 e ev (Az e.M x)=bif decide ((D4 e ev (Az e.M x).V).2≠0)then(0,0,(D4 e ev (Az e.M x).V).2)
   else bif decide ((GM ev (Az e.M x).V.Slot (Az e.M x).V.Dims).2≠0)then(0,0,(GM ev (Az e.M x).V.Slot (Az e.M x).V.Dims).2)else((D4 e ev (Az e.M x).V).1,(GM ev (Az e.M x).V.Slot (Az e.M x).V.Dims).1,0):=by
  unfold B8;rw[Asu (by rw[h0];simp)];rfl
 rw[v];refine⟨_,Yk w hv o,λh1=>NJ (ct (by simpa using h1) rfl),λh1=>?_⟩;have j:decide ((D4 e ev (Az e.M x).V).2≠0)=false:=by simpa using h1
 rw[j,Ar1];generalize(D4 e ev (Az e.M x).V).1=who;have l:=hs.1;have f:=hs.2;change AA _ [1,1,1,1,1,1,0,1,0] (QY e (Az e.M x).V.Dims who (Az e.M x).V.Slot 0);clear v o hv h h1 j hs;generalize(Az e.M x).V.Dims=ds at hd f |-;generalize(Az e.M x).V.Slot=sl at l f |-;generalize z:GM ev sl ds=R;refine Aq (λgg st=>∃(k:Nat)(n:Int),k<=ds.length/\gg=ds.length-k/\0<=n/\n<=128+16384*k/\GM ev n (ds.drop k)=R/\st=QY e ds who n k)
  ⟨ds.length,Up.of ⟨0,sl,Ar9 _,rfl,l,oM,z,rfl⟩⟩ ?_
 rintro gg st ⟨k,n,E,rfl,A,B,b,rfl⟩;refine Asm (AeF _ _ _ e x ds who n k _ rfl rfl) ⟨λq=>?_,λr=>?_⟩
 .have g:k<ds.length:=by have:=A0 q;omega
  have t:(k:Int).toNat=k:=oM
  rw[t];obtain⟨p,m⟩:=hd _ (As (d:=default) g);rw[A9 (d:=default) g,R3]at b;generalize ds.getD k default=d at p m b |-;refine⟨oM,_,m,λh2=>NJ ?_,λh2=>⟨λh3=>NJ ?_,λh3=>?_⟩⟩
  .have a:decide ((ev d.I).2≠0)=true:=by simpa using h2
   rw[a,Ar3]at b;subst b;exact ct a rfl
  .have a:decide ((ev d.I).2≠0)=false:=by simpa using h2
   rw[Ce]at h3;rw[a,Ar1]at b;have c:(decide ((ev d.I).1<0)||decide (d.Len<=(ev d.I).1))=true:=h3;rw[c,Ar3]at b;subst b;exact ct rfl rfl
  .have a:decide ((ev d.I).2≠0)=false:=by simpa using h2
   rw[Ce]at h3;have c:(decide ((ev d.I).1<0)||decide (d.Len<=(ev d.I).1))=false:=h3;rw[a,Ar1,c,Ar1]at b;simp only[Ass,AsF]at c;have F:=AjS (i:=(ev d.I).1) (s:=d.Stride) (n:=d.Len) oM oM p.l2 p.s1 p.s2;have C:k<4:=oM
   rw[B9 (n:=(ev d.I).1*d.Stride) oM oM,B9 oM oM,Al oM];exact⟨ds.length-(k+1),oM,Up.of ⟨k+1,n+(ev d.I).1*d.Stride,oM,rfl,oM,oM,b,rfl⟩⟩
 .obtain rfl:k=ds.length:=by have:=A1 r;omega
  rw[AtS]at b;subst b;exact NJ (cf rfl rfl)
def SJ {e:D.Env}(j:Cq e):Ah prog 185 [] [.tp (Ai e)] [] (Ac (Gj e)):=by
 have n:=j.fit.p;refine Ap func185 (Vi _ e) ?_;refine Ar e.S.Procs.length (λk=>U1 e k) (λk=>∀i,i<k->(!((E0 e.M (e.S.Procs.getD i default).Type_).getD (e.S.Procs.getD i default).Loc.toNat default).Progress)=true) (λi hi=>oM) ?_;intro k q o J next
 refine Asm (SK _ e k J rfl) ⟨λb=>?_,λc=>AB ?_⟩
 .have a:k<e.S.Procs.length:=by have:=A0 b;omega
  have g:(k:Int).toNat=k:=oM
  rw[g];have l:=D0 (j.proc (As (d:=default) a));refine⟨oM,l.1,l.2.1,λh=>AB ?_,λh=>next _ a (Fc o ?_) (Up.of ?_)⟩
  .unfold Gj;rw[DY (f:=λi=>!((E0 e.M (e.S.Procs.getD i default).Type_).getD (e.S.Procs.getD i default).Loc.toNat default).Progress) a (by show(!_)=false;unfold E0;rw[h]<;>rfl)];rfl
  .show(!_)=true;unfold E0;rw[h]<;>rfl
  grind[Al]
 .have m:e.S.Procs.length<=k:=by have:=A1 c;omega
  unfold Gj;grind[BC]
structure Zb (m:D.Model) (k:Int) (x:D.Expr):Prop where
 op:1<=x.Op/\x.Op<=39
 a:1<=BV x.Op->0<=x.A/\x.A<k
 b:2<=BV x.Op->0<=x.B/\x.B<k
 c:3<=BV x.Op->0<=x.C/\x.C<k
 num:x.Op=1->Ec ⟨32,true⟩ x.N=true
 var:x.Op=2->D5 m k x.V=true
 poll:x.Op=30->Dc m k x.Args x.Match=true
def Vm {k op p:Int}{i:Nat}(h:FP k op i p=true)(hi:i<BV op):0<=p/\p<k:=by
 unfold FP at h;simp_all[Asx,Cn]
def Yz {m:D.Model}{k:Int}(h:DM m k=true):Zb m k (Az m k):=by
 unfold DM at h;simp only[Ar2,Asc]at h;obtain⟨⟨h1,⟨b,hB⟩,c⟩,h3⟩:=h;refine⟨h1,λhi=>Vm b oM,λhi=>Vm hB oM,λhi=>Vm c oM,λa=>?_,λa=>?_,λa=>?_⟩
 .grind
 .grind
 grind
def TW {k:Int}{l:List Int}(h:Ee k l=true):∀a∈l,0<=a/\a<k:=λa b =>
 Cn.1 ((CP (d:=0) (f:=λa=>inP k a)).1 h a b)
structure Y7 (m:D.Model) (k:Int) (v:D.Var):Prop where
 scope:0<=v.Scope/\v.Scope<=2
 slot:0<=v.Slot/\v.Slot<=128
 dims:v.Dims.length<=4
 who:v.Scope=2->0<=v.Who/\v.Who<k
 dim:∀d∈v.Dims,Alw d/\0<=d.I/\d.I<k
def Kg {m:D.Model}{k:Int}{v:D.Var}(h:D5 m k v=true):Y7 m k v:=by
 unfold D5 at h;simp only[Ar2,Asc]at h;obtain⟨⟨⟨⟨⟨⟨h1,h2⟩,h3⟩,h4⟩,h5⟩,h6⟩,h7⟩:=h;refine⟨⟨h1,h2⟩,⟨h3,h4⟩,h5,λhs=>?_,λd hd=>?_⟩
 .simp_all[Asx,Cn]
 .have:=(CP (d:=default) (f:=λd=>SN k d)).1 h7 d hd;unfold SN at this;simp only[Ar2,Asc]at this;obtain⟨⟨⟨⟨a,b⟩,c⟩,a4⟩,e⟩:=this;have:=Cn.1 a;exact⟨⟨b,c,a4,e⟩,this⟩
def Adi {ev:Evl}:∀{l:List D.Dim}{n r k:Int},(∀d∈l,Alw d)->0<=n->n<r->(GM ev n l).2=0->(GM ev n l).1=k->0<=k/\k<Gi r l
 | [],n,r,k,_,h0,h1,_,b=>by subst b;exact⟨h0,h1⟩
 | d::l,n,r,k,hd,h0,h1,h2,b=>by
  have a:=hd d (Ar8 ..);rw[R3]at h2 b;cases e:decide ((ev d.I).2≠0)with
  | true=>grind
  | false =>
   rw[e,Ar1]at h2 b;cases c:(decide ((ev d.I).1<0)||decide (d.Len<=(ev d.I).1))with
   | true=>grind
   | false =>
    rw[c,Ar1]at h2 b;simp only[Ass,AsF]at c;have f:=AjS (i:=(ev d.I).1) (s:=d.Stride) (n:=d.Len) oM oM a.l2 a.s1 a.s2;have:=Adi (r:=r+(d.Len-1)*d.Stride) gD oM oM h2 b;have g:MP d=false:=by
     have:=a.l1;have:=a.l2;have:=a.s1;have:=a.s2;unfold MP;simp;omega
    show 0<=k/\k<Gi r (d::l);unfold Gi;grind
structure Sy (e:D.Env) (who k:Int):Prop where
 glob:who<0->0<=k/\k<e.S.Globals.length
 own:0<=who->who<e.S.Procs.length/\0<=k/\k<(EK e who).Frame.length
def Afk {m:D.Model}{k:Int}{v:D.Var}(h:Y7 m k v):FK v=Gi (v.Slot+1) v.Dims:=by
 have h1:=h.slot;have h2:=h.dims;unfold FK;grind
def U6 {e:D.Env}{ev:Evl}{x:D.Expr}{k:Int}(i:Cq e)(hv:x.Op=2->Y7 e.M k x.V)(h:(B8 e ev x).2.2=0):Sy e (B8 e ev x).1 (B8 e ev x).2.1:=by
 have b:=i.pid;unfold B8 at h |-;cases g:decide (x.Op≠2)with
 | true=>grind
 | false =>
  rw[g,Ar1]at h;rw[Ar1];have hv:=hv (by simpa using g);have j:=Afk hv;cases a:decide ((D4 e ev x.V).2≠0)with
  | true=>grind
  | false =>
   rw[a,Ar1]at h;rw[Ar1];cases m:decide ((GM ev x.V.Slot x.V.Dims).2≠0)with
   | true=>grind
   | false =>
    rw[Ar1];have hd:=Adi (ev:=ev) (l:=x.V.Dims) (n:=x.V.Slot) (r:=x.V.Slot+1) (λd hd=>(hv.dim d hd).1) hv.slot.1 oM (by simpa using m) rfl;rw[<- j]at hd;show Sy e (D4 e ev x.V).1 (GM ev x.V.Slot x.V.Dims).1;generalize(GM ev x.V.Slot x.V.Dims).1=n at hd;unfold D4 at a |-;cases d1:decide (x.V.Scope=0)with
    | true =>
     rw[d1,Ar3]at a;rw[Ar3];cases d2:decide ((e.S.Globals.length:Int)<FK x.V)with
     | true=>grind
     | false =>
      have:=Asn d2;exact⟨λ_=>⟨hd.1,oM⟩,λh=>by simp at h⟩
    | false =>
     rw[d1,Ar1]at a;rw[Ar1];cases d2:decide (x.V.Scope=1)with
     | true =>
      rw[d2,Ar3]at a;rw[Ar3];cases c:(decide (e.Pid<0)||decide (((EK e e.Pid).Frame.length:Int)<FK x.V))with
      | true=>grind
      | false =>
       simp only[Ass,AsF]at c;exact(show Sy e e.Pid n from⟨λh=>absurd h c.1,λ_=>⟨b.2,hd.1,oM⟩⟩)
     | false =>
      rw[d2,Ar1]at a;rw[Ar1];cases c:decide ((ev x.V.Who).2≠0)with
      | true=>grind
      | false =>
       rw[c,Ar1]at a;rw[Ar1];cases f:(decide ((ev x.V.Who).1<0)||(decide ((e.S.Procs.length:Int)<=(ev x.V.Who).1)||decide ((EK e (ev x.V.Who).1).Type_≠x.V.Type_)))with
       | true=>grind
       | false =>
        rw[f,Ar1]at a;rw[Ar1];simp only[Ass,AsF]at f;cases o:decide (((EK e (ev x.V.Who).1).Frame.length:Int)<FK x.V)with
        | true=>grind
        | false =>
         have:=Asn o;exact(show Sy e (ev x.V.Who).1 n from⟨λh=>absurd h f.1,λ_=>⟨oM,hd.1,oM⟩⟩)
def P4 {m:D.Model}{k:Int}{a t:List Int}(h:Dc m k a t=true):a.length<=8/\t.length=a.length/\∀x∈a,0<=x/\x<k:=by
 unfold Dc at h;simp only[Ar2,Asc]at h;exact⟨h.1.1.1.2,h.1.1.2,TW h.1.2⟩
def AbA {m:D.Model}{x:Int}(a:0<=x/\x<m.Exprs.length):Az m x∈m.Exprs:=As (d:=default) oM
def Alm {e:D.Env}{x:Int}(a:Cq e)(b:0<=x/\x<e.M.Exprs.length):Len (Az e.M x).Args.length:=by
 have:=(a.wf.Exprs.2 _ (AbA b)).Args.1;unfold Len;omega
def Acv {e:D.Env}{ev:Evl}{x:Int}(g:Cq e)(h:0<=x/\x<e.M.Exprs.length)(b:Zb e.M x (Az e.M x))(c:∀a,0<=a->a<x->EvS e a (ev a)):Ah prog 180 [] [.tp (Ai e),Aa x] [] (Mj (B8 e ev (Az e.M x))):=by
 refine AeE g h (g.wf.Exprs.2 _ (AbA h)).V (λf hs=>?_) (λf=>?_) (λf d hd=>?_)
 .have hv:=Kg (b.var f);have h1:=hv.scope;exact c _ (hv.who oM).1 (hv.who oM).2
 .have hv:=Kg (b.var f);exact⟨hv.slot.1,hv.slot.2,hv.dims⟩
 .have hv:=Kg (b.var f);exact⟨(hv.dim d hd).1,c _ (hv.dim d hd).2.1 (hv.dim d hd).2.2⟩
def Afj {e:D.Env}{ev:Evl}{x:Int}(g:Cq e)(c:(e.M.Exprs.getD x.toNat default).Op=2)(d:Zb e.M x (Az e.M x))(f:Ah prog 180 [] [.tp (Ai e),Aa x] [] (Mj (B8 e ev (Az e.M x)))) :
  ∃y:Int×Int×Int,Ah prog 180 [] [.tp (Ai e),Aa x] [] (Mj y)/\((y.2.2 != 0)=true->leO [] []/\VV.le (.tup [.sc (.int .i64 0),.sc (.int .i64 y.2.2)]) (vII (Dy e ev (Az e.M x))))/\((y.2.2 != 0)=false ->
   (decide (y.1<0)=true->(0<=y.2.1/\y.2.1<(e.S.Globals.length:Int))/\leO [] []/\VV.le (.tup [.sc (.int .i64 (e.S.Globals.getD y.2.1.toNat 0)),.sc (.int .i64 0)]) (vII (Dy e ev (Az e.M x)))) /\
   (decide (y.1<0)=false->(0<=y.1/\y.1<(e.S.Procs.length:Int))/\(0<=y.2.1/\y.2.1<((e.S.Procs.getD y.1.toNat default).Frame.length:Int))/\leO [] []/\VV.le (.tup [.sc (.int .i64 ((e.S.Procs.getD y.1.toNat default).Frame.getD y.2.1.toNat 0)),.sc (.int .i64 0)]) (vII (Dy e ev (Az e.M x))))):=by
 have a:(Az e.M x).Op=2:=c;have i:Dy e ev (Az e.M x)=AcE e ev (Az e.M x):=by unfold Dy;rw[a]<;>rfl
 rw[i];have b:=U6 (e:=e) (ev:=ev) g (λj=>Kg (d.var j));refine⟨B8 e ev (Az e.M x),f,λh=>BI (ct (by simpa using h) rfl),λh=>⟨λh1=>?_,λh1=>?_⟩⟩
 .have h0:decide ((B8 e ev (Az e.M x)).2.2≠0)=false:=by simpa using h
  exact⟨(b (by simpa using h0)).glob (Asd h1),BI (cf h0 (ct h1 rfl))⟩
 .have h0:decide ((B8 e ev (Az e.M x)).2.2≠0)=false:=by simpa using h
  have hi:=b (by simpa using h0);have:=Asn h1;exact⟨⟨oM,(hi.own oM).1⟩,(hi.own oM).2,BI (cf h0 (cf h1 rfl))⟩
def Ag3 {e:D.Env}{ev:Evl}{x:Int}(b:(e.M.Exprs.getD x.toNat default).Op=36)(h:EvS e (Az e.M x).A (ev (Az e.M x).A)) :
  ∃y:Int×Int,Ah prog 159 [] [.tp (Ai e),Aa (Az e.M x).A] [] (vII y)/\((y.2 != 0)=true->leO [] []/\VV.le (.tup [.sc (.int .i64 0),.sc (.int .i64 y.2)]) (vII (Dy e ev (Az e.M x))))/\((y.2 != 0)=false ->
   ((true&&(bif decide (y.1>=0)then decide (y.1<(e.Able.length:Int))else false)==true)=true->0<=y.1/\y.1<(e.Able.length:Int)) /\
   ∃c:Int×Int,Ah prog 184 [] [Ac (bif bif decide (y.1>=0)then decide (y.1<(e.Able.length:Int))else false then e.Able.getD y.1.toNat false else false)] [] (vII c)/\leO [] []/\VV.le (vII c) (vII (Dy e ev (Az e.M x)))):=by
 have a:(Az e.M x).Op=36:=b;have d:Dy e ev (Az e.M x)=Adr e ev (Az e.M x):=by unfold Dy;rw[a]<;>rfl
 rw[d];refine⟨_,h,λh1=>BI (ct (by simpa using h1) rfl),λh1=>⟨λh2=>?_,_,DA,BI (cf (by simpa using h1) ?_)⟩⟩
 .simp at h2;omega
 grind
def AjM {o:Int}(h:1<=o/\o<=39):o=1\/o=2\/o=3\/o=4\/o=5\/o=6\/o=7\/o=8\/o=9\/o=10\/o=11\/o=12\/o=13\/o=14\/o=15\/o=16\/o=17\/o=18\/o=19\/o=20\/o=21\/o=22\/o=23\/o=24\/o=25\/o=26\/o=27\/o=28\/o=29\/o=30\/o=31\/o=32\/o=33\/o=34\/o=35\/o=36\/o=37\/o=38\/o=39:=oM
set_option maxHeartbeats 4000000 in
def Um {e:D.Env}{ev:Evl}{x:Int}(j:Cq e)(l:0<=x/\x<e.M.Exprs.length)(g:∀a,0<=a->a<x->EvS e a (ev a)):EvS e x (Dy e ev (Az e.M x)):=by
 have m:((x.toNat:Nat):Int)=x:=oM
 have f:Zb e.M x (Az e.M x):=Yz (by have:=j.expr x.toNat oM;rwa [m]at this);have n:=Acv j l f g;have i:1<=BV (Az e.M x).Op->EvS e (Az e.M x).A (ev (Az e.M x).A):=λh=>g _ (f.a h).1 (f.a h).2
 have hB:2<=BV (Az e.M x).Op->EvS e (Az e.M x).B (ev (Az e.M x).B):=λh=>g _ (f.b h).1 (f.b h).2
 have q:3<=BV (Az e.M x).Op->EvS e (Az e.M x).C (ev (Az e.M x).C):=λh=>g _ (f.c h).1 (f.c h).2
 have r:=λb=>GC (c:=BR prog tb DN Ef true f159 [] (vII (Dy e ev (Az e.M x)))) Aj Ak kR (Agq _ _ e (Az e.M x) b rfl)
 have s:=λb=>GC (c:=BR prog tb DN Ef true f159 [] (vII (Dy e ev (Az e.M x)))) Aj Ak kR (Agp _ _ e (Az e.M x) b rfl rfl rfl rfl)
 refine Ap func159 (Akw _ _ e x rfl rfl) ⟨l,?_⟩;rcases AjM (o:=(Az e.M x).Op) (by have:=f.op;omega)with d|d|d|d|d|d|d|d|d|d|d|d|d|d|d|d|d|d|d|d|d|d|d|d|d|d|d|d|d|d|d|d|d|d|d|d|d|d|d
 all_goals
  have k:(e.M.Exprs.getD x.toNat default).Op=_:=d
  repeat (first
   | refine⟨λh=>absurd h (by(first | rw[k] | rw[d]);decide),λ_=>?_⟩
   | refine⟨λ_=>?_,gD⟩
   | refine r _ ?_
   | refine s _ ?_)
  first
   | exact BI (by unfold Dy;rw[d]<;>rfl)
   | exact⟨_,Te (i (by rw[d];decide)) (λh=>absurd oM h),BI (by unfold Dy;rw[d]<;>rfl)⟩
   | exact⟨_,Te (i (by rw[d];decide)) (λ_=>hB (by rw[d];decide)),BI (by unfold Dy;rw[d]<;>rfl)⟩
   | exact⟨_,RG (i (by rw[d];decide)) (hB (by rw[d];decide)) (λh=>absurd h (by rw[d];decide)),BI (by unfold Dy;rw[d]<;>rfl)⟩
   | exact⟨_,RG (i (by rw[d];decide)) (hB (by rw[d];decide)) (λ_=>q (by rw[d];decide)),BI (by unfold Dy;rw[d]<;>rfl)⟩
   | exact⟨_,AgZ j (i (by rw[d];decide)),BI (by unfold Dy;rw[d]<;>rfl)⟩
   | exact⟨_,XC (i (by rw[d];decide)) (Alm j l),BI (by unfold Dy;rw[d]<;>rfl)⟩
   | exact⟨_,DA,BI (by unfold Dy;rw[d]<;>rfl)⟩
   | exact⟨_,SJ j,_,DA,BI (by unfold Dy;rw[d]<;>rfl)⟩
   | exact Afj j k f n
   | exact Ag3 k (i (by rw[d];decide))
   | exact⟨_,Afx j (i (by rw[d];decide)) (λa p=>g _ ((P4 (f.poll d)).2.2 a p).1 ((P4 (f.poll d)).2.2 a p).2) (P4 (f.poll d)).1 (P4 (f.poll d)).2.1,BI (by unfold Dy;rw[d]<;>rfl)⟩
def MM {e:D.Env}(b:Cq e):∀(n:Nat)(x:Int),0<=x->x<e.M.Exprs.length->x<n->EvS e x (Ma e n x)
 | 0,x,h0,_,h2=>oM
 | n+1,x,h0,h1,h2=>Um b ⟨h0,h1⟩ λa c d=>MM b n a c oM oM
def Tg {e:D.Env}(b:Cq e){x a:Int}(c:x<e.M.Exprs.length)(h0:0<=a)(h1:a<x):EvS e a (FX e a):=MM b _ a h0 oM oM
def AbB {e:D.Env}(a:Cq e){x:Int}(b:0<=x/\x<e.M.Exprs.length):EvS e x (Dy e (FX e) (Az e.M x)):=Um a b λ_ h0 h1=>Tg a b.2 h0 h1
def JB {e:D.Env}(a:AF e.M)(hs:BO e.S)(x:Int):Ah prog 158 [] [.agg (Ai e),Aa x] [] (Aa (Co e x)):=by
 refine Ap func158 (Yy _ e x) ⟨_,DS a hs (λh=>(CI h).clp),λh=>Bp (ct (by simpa using h) rfl),λh=>⟨λh1=>Bp (cf (by simpa using h) (ct ?_ rfl)),λh1=>Bp (cf (by simpa using h) (cf ?_ rfl))⟩⟩
 .simp only[Ce,AtQ,AtX]at h1;exact h1
 .simp only[Ce,AtQ,AtX]at h1;exact h1
def MN {e:D.Env}{x:Int}(c:AF e.M)(h:Co e x=0):Cq e/\0<=x/\x<e.M.Exprs.length:=by
 unfold Co at h;cases a:decide (BH e.M e.S≠0)with
 | true=>rw[a,Ar3]at h;exact absurd h (Asd a)
 | false =>
  rw[a,Ar1]at h;obtain⟨h1,h2⟩:=MQ (show BH e.M e.S=0 by simpa using a);cases b:(decide (e.Pid < -1)||(decide ((e.S.Procs.length:Int)<=e.Pid)||(decide (x<0)||decide ((e.M.Exprs.length:Int)<=x))))with
  | true=>rw[b,Ar3]at h;simp at h
  | false =>
   simp only[Ass,AsF]at b;exact⟨⟨h2,h1,c,oM,oM⟩,oM,oM⟩
def HO {e:D.Env}(a:AF e.M)(hs:BO e.S)(x:Int):Ah prog 128 [] [.agg (Ai e),Aa x] [] (vII (Bh e x)):=by
 refine Ap func128 (Agx _ _ e x) ⟨_,JB a hs x,λh=>BI (ct (by simpa using h) rfl),λh=>?_⟩;obtain⟨b,c⟩:=MN (x:=x) a (by simpa using h);exact⟨_,AbB b c,BI (cf (by simpa using h) rfl)⟩
def JF {e:D.Env}(b:AF e.M)(hs:BO e.S)(x:Int):Ah prog 212 [] [.agg (Ai e),Aa x] [] (vII (AT e x)):=by
 refine Ap func212 (Agy _ _ e x) ⟨_,JB b hs x,λh=>BI (ct (by simpa using h) rfl),λh=>?_⟩;obtain⟨c,a⟩:=MN (x:=x) b (by simpa using h);exact⟨_,Mf (MM c _ x a.1 a.2 a.2),BI (cf (by simpa using h) rfl)⟩
def B33 (n:Int):Prop:=-2147483648<=n/\n<=4294967295
def Q33 (t:Bool)(p:Int×Int):Prop:=p.2=0->B33 p.1/\(t=true->p.1=0\/p.1=1)
def FL {t b:Bool}:Q33 t (Ez b):=by cases b<;>simp[Q33,B33,Ez]
def AcG {t:Bool}{a c:Int}(h:c≠0):Q33 t (a,c):=λb=>absurd b h
def Kv {t:Bool}{a c:Int}(h:decide (c≠0)=true):Q33 t (a,c):=AcG (Asd h)
def FM {t c:Bool}{p q:Int×Int}(h1:c=true->Q33 t p)(h2:c=false->Q33 t q):Q33 t (bif c then p else q):=by
 cases c
 .exact h2 rfl
 .exact h1 rfl
def GK {t:Bool}{c:Prop}[Decidable c]{p q:Int×Int}(h1:c->Q33 t p)(h2:¬c->Q33 t q):Q33 t (if c then p else q):=by
 split
 .rename_i h;exact h1 h
 .rename_i h;exact h2 h
def Po {t:Bool}{a c:Int}(h:B33 a)(b:t=false):Q33 t (a,c):=λ_=>⟨h,λh=>by rw[b]at h;cases h⟩
def Vd {t:Bool}{p:Int×Int}(h:Q33 t p):Q33 false p:=λh0=>⟨(h h0).1,λh=>by cases h⟩
def Yp {t:D.Type}{v:Int}(h:Ec t v=true):B33 v:=by
 unfold Ec H1 at h;simp only[Ar2,Asc]at h;obtain⟨⟨h1,h2,h3⟩,h4⟩:=h;have hp:=ApN t.Bits h1 h2;unfold B33;cases hs:t.Signed with
 | false=>rw[hs]at h4;simp at h4;omega
 | true =>
  rw[hs]at h3 h4;simp at h3 h4;rcases h3 with h3|h3
  .rw[h3]at h4;simp at h4;omega
  .rw[h3]at h4;simp at h4;omega
def WB {t:List D.Type}{l:List Int}{k:Nat}(h:B5 t l=true)(a:k<l.length):B33 (l.getD k 0):=by
 unfold B5 at h;simp only[Ar2,Asc]at h;exact Yp (BC.1 h.2 k a)
def Vq {b:Bool}:IY b=0\/IY b=1:=by cases b<;>simp[IY]
def An2 (n:Int):Prop:=-2147483648<=n/\n<=2147483647
def DG {c:Prop}[Decidable c]{a b:Int}(h1:An2 a)(h2:An2 b):An2 (if c then a else b):=by
 split
 .exact h1
 .exact h2
def AoM (op a b:Int):-2147483648<=EX op a b/\EX op a b<=2147483647:=by
 have c:∀b:Bool,-2147483648<=IY b/\IY b<=2147483647:=λb=>by rcases Vq (b:=b)with h|h<;>rw[h]<;>decide
 have d:(-2147483648:Int)<=0/\(0:Int)<=2147483647:=dZ
 show An2 (EX op a b);unfold EX;exact DG (BQ _) (DG (DG d (BQ _)) (DG (DG d (Ach _ _ (BQ _).1 (BQ _).2)) (DG (BQ _) (DG (BQ _) (DG (Ls _ _ (BQ _)) (DG (Ls _ _ (BQ _)) (DG (c _) (DG (c _) (DG (c _) (DG (c _) (DG (c _) (DG (c _) (DG (FB .and (.inl rfl) _ _) (DG (FB .xor (.inr (.inr rfl)) _ _) (DG (FB .or (.inr (.inl rfl)) _ _) d)))))))))))))))
def Aeb {op a b:Int}(h:13<=op/\op<=18):EX op a b=0\/EX op a b=1:=by
 obtain⟨h1,h2⟩:=h;have:op=13\/op=14\/op=15\/op=16\/op=17\/op=18:=oM
 rcases this with rfl|rfl|rfl|rfl|rfl|rfl<;>exact Vq
def Am4 (op a:Int):-2147483648<=Ou op a/\Ou op a<=2147483647:=by
 have c:=BQ a;unfold Ou;split
 .exact BQ _
 split
 .rcases Vq (b:=wrap32 a==0)with h|h<;>rw[h]<;>decide
 split
 .omega
 .decide
def Lj (op:Int):Bool:=decide (13<=op/\op<=18)||(decide (op=4)||(decide (op=22)||(decide (op=23)||(decide (26<=op/\op<=30)||(decide (op=34)||(decide (op=35)||(decide (op=36)||decide (op=38))))))))
section
variable {e : D.Env} {ev:Evl}
def AnU {op a b:Int}:B33 (EX op a b):=by have:=AoM op a b;unfold B33;omega
def AnV {op a:Int}:B33 (Ou op a):=by have:=Am4 op a;unfold B33;omega
def ApG {x:D.Expr}{t:Bool}(b:t=true->x.Op=4\/(13<=x.Op/\x.Op<=18)):Q33 t (Tf ev x):=by
 unfold Tf;refine FM Kv λ_=>FM (λh _=>⟨AnV,λa=>?_⟩) λh=>FM Kv λ_=>λ_=>⟨AnU,λa=>?_⟩
 .rcases b a with h4|h4
  .show Ou x.Op _=0\/Ou x.Op _=1;rw[h4];exact Vq
  .simp at h;omega
 .rcases b a with h4|h4
  .rw[h4]at h;simp at h
  .exact Aeb h4
def Amu {x:D.Expr}{t:Bool}(b:t=true->x.Op≠24)(hB:Q33 false (ev x.B))(c:x.Op=24->Q33 false (ev x.C)):Q33 t (Ox ev x):=by
 unfold Ox;refine FM Kv λ_=>FM (λh=>?_) λh=>FM (λ_=>FL) λ_=>FM Kv λ_=>FL
 have a:=Asd h;cases t with
 | true=>exact absurd a (b rfl)
 | false=>exact FM (λ_=>hB) λ_=>c a
def AkY (a:Cq e)(n:Int):(CB e n).Queue.length<=16:=by
 unfold CB
 by_cases h:(n-1).toNat<e.S.Chans.length
 .exact(a.fit.q _ (As h)).1
 .rw[List.getD,AsS (show e.S.Chans.length<=(n-1).toNat by omega)];exact Ar9 _
def ApJ {x:D.Expr}{t:Bool}(a:Cq e)(b:t=true->x.Op≠25):Q33 t (Uy e ev x):=by
 have c:=AkY a (Em e ev x.A).1;unfold Uy;refine FM Kv λ_=>?_
 unfold Aqn;refine GK (λh=>?_) λ_=>GK (λ_=>FL) λ_=>GK (λ_=>FL) λ_=>GK (λ_=>FL) λ_=>FL
 refine Po (by unfold B33;omega) ?_;cases t with
 | true=>exact absurd h (b rfl)
 | false=>rfl
def ApI {x:D.Expr}{t:Bool}:Q33 t (TI e ev x):=by
 unfold TI;exact FM Kv λ_=>FM (λ_=>AcG dZ) λ_=>FM Kv λ_=>FL
def ApK {x:D.Expr}{t:Bool}:Q33 t (Adr e ev x):=by
 unfold Adr;exact FM Kv λ_=>FL
def AiJ {x:D.Expr}{t:Bool}(a:Cq e)(c:t=true->x.Op≠37):Q33 t (Lu e ev x):=by
 unfold Lu;refine FM Kv λ_=>FM (λ_=>AcG dZ) λh2=>FM (λh=>?_) λ_=>FL
 simp only[Ass,AsF]at h2;have hp:=D0 (a.proc (p:=EK e (ev x.A).1) (As (d:=default) (show(ev x.A).1.toNat<e.S.Procs.length by omega)));have f:=(CI a.may).locs _ hp.1.1 hp.1.2;have b:=hp.2.1;refine Po (by unfold B33;omega) ?_;cases t with
 | true=>exact absurd (Asd h) (c rfl)
 | false=>rfl
def ApH {x:D.Expr}{k:Int}(a:Cq e)(hv:x.Op=2->Y7 e.M k x.V):Q33 false (AcE e ev x):=by
 unfold AcE;refine FM Kv λh=>?_
 have hs:=U6 a hv (by simpa using h);refine FM (λh1=>?_) λh1=>?_
 .have:=hs.glob (Asd h1);exact Po (WB a.globals.2 oM) rfl
 .have h0:0<=(B8 e ev x).1:=by have:=Asn h1;omega
  have:=hs.own h0;have hp:=D0 (a.proc (p:=EK e (B8 e ev x).1) (As (d:=default) (show(B8 e ev x).1.toNat<e.S.Procs.length by omega)));exact Po (WB hp.2.2.2.1 oM) rfl
def YB {x:D.Expr}{k:Int}(b:Cq e)(f:Zb e.M k x)(hB:2<=BV x.Op->Q33 false (ev x.B))(i:3<=BV x.Op->Q33 false (ev x.C))(s:0<=e.S.Last/\e.S.Last<16):Q33 (Lj x.Op) (Dy e ev x):=by
 have g:=b.pid;have j:=b.fit.p;have tt:∀{o:Int},Lj o=true->(13<=o/\o<=18)\/o=4\/o=22\/o=23\/(26<=o/\o<=30)\/o=34\/o=35\/o=36\/o=38:=λh=>by
  simpa only[Lj,Atk,Asc]using h
 unfold Dy;refine GK (λh=>Po (Yp (f.num h)) (by rw[h]<;>rfl)) λn1=>GK (λh=>?_) λn2=>GK (λh=>?_) λt=>GK (λh=>?_) λu=>GK (λ_=>ApI) λv =>
  GK (λh=>Po (by unfold B33;omega) (by rw[h]<;>rfl)) λw=>GK (λh=>Po (by unfold B33;omega) (by rw[h];rfl)) λy=>GK (λh=>Po (by unfold B33;omega) (by rw[h];rfl)) λz=>GK (λ_=>FL) λA=>GK (λ_=>FL) λl=>GK (λ_=>ApK) λm=>GK (λh=>?_) λn=>GK (λ_=>AcG dZ) λq=>?_
 .rw[show Lj x.Op=false by rw[h]<;>rfl];exact ApH b λr=>Kg (f.var r)
 .refine Amu (λa c=>by rw[c]at a;cases a) (hB ?_) λd=>i (by rw[d];decide)
  rcases h with h|h|h<;>rw[h]<;>decide
 .exact ApJ b λa c=>by rw[c]at a;cases a
 .exact AiJ b λa c=>by rw[c]at a;cases a
 .refine ApG λa=>?_
  have:=tt a;omega
end
def Cq.last {e:D.Env}(h:Cq e):0<=e.S.Last/\e.S.Last<16:=by
 have h:=h.fits;unfold D6 L9 at h;simp only[Ar2,Asc]at h;exact⟨h.1.1.1.1.1.1.2,h.1.1.1.1.1.2⟩
def LI {e:D.Env}(d:Cq e):∀(n:Nat)(x:Int),0<=x->x<e.M.Exprs.length->x<n->Q33 (Lj (Az e.M x).Op) (Ma e n x)
 | 0,x,h0,_,h2=>oM
 | n+1,x,h0,h1,h2=>by
  have f:((x.toNat:Nat):Int)=x:=oM
  have a:Zb e.M x (Az e.M x):=Yz (by have:=d.expr x.toNat oM;rwa [f]at this);exact YB d a (λh=>Vd (LI d n _ (a.b h).1 (by have:=a.b h;omega) (by have:=a.b h;omega))) (λh=>Vd (LI d n _ (a.c h).1 (by have:=a.c h;omega) (by have:=a.c h;omega))) d.last
def Ago {e:D.Env}(g:AF e.M)(x:Int):Q33 (Lj (Az e.M x).Op) (Bh e x):=by
 unfold Bh;refine FM Kv λh=>?_
 obtain⟨d,h0,h1⟩:=MN (x:=x) g (by simpa using h);have f:((x.toNat:Nat):Int)=x:=oM
 have a:Zb e.M x (Az e.M x):=Yz (by have:=d.expr x.toNat oM;rwa [f]at this);exact YB d a (λh=>Vd (LI d _ _ (a.b h).1 (by have:=a.b h;omega) (by have:=a.b h;omega))) (λh=>Vd (LI d _ _ (a.c h).1 (by have:=a.c h;omega) (by have:=a.c h;omega))) d.last
def I4 (t:D.Type)(v:Int):Int:=MI t.Bits t.Signed v
def setG (m:D.Model)(s:D.State)(k v:Int):D.State:={s with Globals:=s.Globals.set k.toNat (I4 (m.Globals.getD k.toNat default) v)}
def Q8 (m:D.Model)(p:D.Process)(k v:Int):D.Process:={p with Frame:=p.Frame.set k.toNat (I4 ((A7 m p.Type_).Frame.getD k.toNat default) v)}
def setO (m:D.Model)(s:D.State)(who k v:Int):D.State:={s with Procs:=s.Procs.set who.toNat (Q8 m (s.Procs.getD who.toNat default) k v)}
def IA (m:D.Model)(s:D.State)(who k v:Int):D.State:=bif decide (who<0)then setG m s k v else setO m s who k v
def Ba (e:D.Env)(x v:Int):D.State×Int :=
 bif decide (Co e x≠0)then(default,Co e x)
 else bif decide ((B8 e (FX e) (Az e.M x)).2.2≠0)then(default,(B8 e (FX e) (Az e.M x)).2.2)
 else(IA e.M e.S (B8 e (FX e) (Az e.M x)).1 (B8 e (FX e) (Az e.M x)).2.1 v,0)
def GB {α:Type}{l:List α}{i:Nat}{a x:α}(h:x∈l.set i a):x∈l\/x=a:=List.mem_or_eq_of_mem_set h
def Fit.setG {s:D.State}(h:Fit s)(m:D.Model)(k v:Int):Fit (setG m s k v):=⟨by show(List.set _ _ _).length<=_;rw[AsH];exact h.g,h.c,h.q,h.p,h.f⟩
def Fit.setO {s:D.State}(h:Fit s)(m:D.Model)(who k v:Int)(a:who.toNat<s.Procs.length):Fit (setO m s who k v):=by
 refine⟨h.g,h.c,h.q,by show(List.set _ _ _).length<=_;rw[AsH];exact h.p,λp hp=>?_⟩;rcases GB hp with hp|rfl
 .exact h.f p hp
 .show(List.set _ _ _).length<=_;rw[AsH];exact h.f _ (As (d:=default) a)
def Px:Fit (default:D.State):=⟨dZ,dZ,λc a=>(by cases a),dZ,λp hp=>(by cases hp)⟩
section
variable {e : D.Env} {x:Int}
def Akv (b:Cq e)(h0:0<=x)(h1:x<e.M.Exprs.length):Zb e.M x (Az e.M x):=by
 have a:((x.toNat:Nat):Int)=x:=oM
 exact Yz (by have:=b.expr x.toNat oM;rwa [a]at this)
def Oj (a:Cq e)(h0:0<=x)(h1:x<e.M.Exprs.length){ev:Evl}(h:(B8 e ev (Az e.M x)).2.2=0):Sy e (B8 e ev (Az e.M x)).1 (B8 e ev (Az e.M x)).2.1 :=
 U6 a (λb=>Kg ((Akv a h0 h1).var b)) h
def ZT (b:AF e.M)(v:Int):Fit (Ba e x v).1:=by
 unfold Ba;cases c:decide (Co e x≠0)with
 | true=>exact Px
 | false =>
  obtain⟨a,h0,h1⟩:=MN (x:=x) b (by simpa using c);rw[Ar1];cases d:decide ((B8 e (FX e) (Az e.M x)).2.2≠0)with
  | true=>exact Px
  | false =>
   rw[Ar1];have hs:=Oj a h0 h1 (ev:=FX e) (by simpa using d);show Fit (IA _ _ _ _ _);unfold IA;cases f:decide ((B8 e (FX e) (Az e.M x)).1<0)with
   | true=>exact a.fit.setG _ _ _
   | false =>
    have g:0<=(B8 e (FX e) (Az e.M x)).1:=by have:=Asn f;omega
    exact a.fit.setO _ _ _ _ (by have:=hs.own g;omega)
end
structure Pn where
 pid:Int
 esc:Int
 way:Int
deriving DecidableEq
instance : Inhabited Pn:=⟨⟨0,0,0⟩⟩
structure Ab where
 is:Bool
 err:Int
 wth:List Pn
instance : Inhabited Ab:=⟨⟨false,0,[]⟩⟩
structure Wy where
 Esc:Int
 Way:Int
 With:Int
 WithEsc:Int
 WithWay:Int
 Err:Int
deriving DecidableEq
instance : Inhabited Wy:=⟨⟨0,0,0,0,0,0⟩⟩
section
variable (e : D.Env)
def F5:Int:=bif decide (BH e.M e.S≠0)then BH e.M e.S else bif decide (e.Pid<0)||decide ((e.S.Procs.length:Int)<=e.Pid)then 42 else 0
def D8:D.Proc:=A7 e.M (EK e e.Pid).Type_
def DJ:D.Loc:=(D8 e).Locs.getD (EK e e.Pid).Loc.toNat default
def DD (x:Int):Bool:=decide (0<=x)&&decide ((Az e.M x).Op=39)
def YD:Nat->List (List D.Trans)->List (Int×List D.Trans)
 | _,[]=>[]
 | k,w::r=>((k:Int),w)::YD (k+1) r
def G2 (l:D.Loc):List (Int×List D.Trans):=YD 0 l.Esc++[(-1,l.Out)]
def J6 (ev:Evl):List Int->List Int->List Int×Int
 | out,[]=>(out,0)
 | out,x::l=>bif decide ((ev x).2≠0)then([],(ev x).2)else J6 ev (out++[(ev x).1]) l
def B4 (l:List Int):List Int×Int:=J6 (Bh e) [] l
def PH (f:List D.Type)(l:List Int):List Int:=(List.range l.length).map λi=>I4 (f.getD i default) (l.getD i 0)
def BD (c:Int):List D.Type:=(CF e.M (CB e c).Shape).Fields
def AK (s:D.Stmt):Int×List Int×Int :=
 bif decide ((AT e s.A).2≠0)then(0,[],(AT e s.A).2)
 else bif decide ((BD e (AT e s.A).1).length≠s.Args.length)then(0,[],49)
 else bif decide ((B4 e s.Args).2≠0)then(0,[],(B4 e s.Args).2)
 else((AT e s.A).1,PH (BD e (AT e s.A).1) (B4 e s.Args).1,0)
def Dk (s:D.Stmt):List Int×Int :=
 bif decide (FD (Bh e) s.Args s.Match s.Args.length≠0)then([],FD (Bh e) s.Args s.Match s.Args.length)else(N9 (Bh e) s.Args s.Match,0)
def A5 (s:D.Stmt):Int×Int×Int :=
 bif decide ((AT e s.A).2≠0)then(0,-1,(AT e s.A).2)
 else bif decide ((BD e (AT e s.A).1).length≠s.Args.length)then(0,-1,49)
 else bif decide ((Dk e s).2≠0)then(0,-1,(Dk e s).2)
 else((AT e s.A).1,KR (CB e (AT e s.A).1) (Dk e s).1 s.Match (decide (s.N.tmod 2=1)),0)
def FG (s:D.Stmt)(c:Int)(m:List Int):Bool :=
 bif decide (s.Kind≠6)||(decide (1<s.N)||decide (s.Args.length≠m.length))then false
 else bif decide ((AT e s.A).2≠0)||decide ((AT e s.A).1≠c)then false
 else bif decide ((Dk e s).2≠0)then false else decide (KR ⟨0,[m]⟩ (Dk e s).1 s.Match false=0)
def Pk:Ab:=⟨decide (e.S.Procs.length<16),0,[]⟩
def GY (mt:Int->List Int->List Pn)(s:D.Stmt)(self:Bool):Ab :=
 bif decide ((AT e s.A).2≠0)then⟨true,(AT e s.A).2,[]⟩
 else bif decide ((BD e (AT e s.A).1).length≠s.Args.length)then⟨true,49,[]⟩
 else bif decide (0<(CF e.M (CB e (AT e s.A).1).Shape).Room)then⟨decide (((CB e (AT e s.A).1).Queue.length:Int)<(CF e.M (CB e (AT e s.A).1).Shape).Room),0,[]⟩
 else bif self then⟨false,0,[]⟩
 else bif decide ((AK e s).2.2≠0)then⟨true,(AK e s).2.2,[]⟩
 else⟨decide (0<(mt (AT e s.A).1 (AK e s).2.1).length),0,mt (AT e s.A).1 (AK e s).2.1⟩
def DB (mt:Int->List Int->List Pn)(s:D.Stmt)(self:Bool):Ab :=
 if s.Kind=1 then(bif DD e s.A then Pk e else⟨decide ((Bh e s.A).1≠0)||decide ((Bh e s.A).2≠0),(Bh e s.A).2,[]⟩)
 else if s.Kind=2 then(bif DD e s.B then Pk e else⟨true,0,[]⟩)
 else if s.Kind=9 then⟨decide (e.S.Chans.length<32),0,[]⟩
 else if s.Kind=5 then GY e mt s self
 else if s.Kind=6 then⟨decide (0<=(A5 e s).2.1)||decide ((A5 e s).2.2≠0),(A5 e s).2.2,[]⟩
 else if s.Kind=7 then⟨false,0,[]⟩else⟨true,0,[]⟩
def F0 (mt:Int->List Int->List Pn)(ways:List D.Trans)(self:Bool):Nat->Bool
 | 0=>false
 | n+1=>F0 mt ways self n||(DB e mt (ways.getD n default).S self).is
def F6 (mt:Int->List Int->List Pn)(ways:List D.Trans)(self:Bool)(i:Nat):Ab :=
 let x:=DB e mt (ways.getD i default).S self
 bif decide ((ways.getD i default).S.Kind=7)&&!(F0 e mt ways self ways.length)then{x with is:=true}else x
def Dv (mt:Int->List Int->List Pn)(ways:List D.Trans)(self:Bool):List Ab:=(List.range ways.length).map (F6 e mt ways self)
def Rv:Int->List Int->List Pn:=λ_ _=>[]
def isSome (l:List Ab):Bool:=l.any Ab.is
def DK (c:Int)(m:List Int)(i:Int):Nat->List D.Trans->List Pn
 | _,[]=>[]
 | k,t::r=>(bif FG e t.S c m then[⟨e.Pid,i,k⟩]else[])++DK c m i (k+1) r
def Hf (c:Int)(m:List Int):List (Int×List D.Trans)->List Pn
 | []=>[]
 | (i,ws)::r=>bif decide (0<(DK e c m i 0 ws).length)||isSome (Dv e Rv ws true)then DK e c m i 0 ws else Hf c m r
def Bx:Bool×Int:=bif decide ((D8 e).Provided<0)then(true,0)else(decide ((Bh e (D8 e).Provided).1≠0),(Bh e (D8 e).Provided).2)
def F1 (c:Int)(m:List Int):List Pn:=bif !(Bx e).1||decide ((Bx e).2≠0)then[]else Hf e c m (G2 (DJ e))
def BA (q:Int):D.Env:={e with Pid:=q}
def D1 (c:Int)(m:List Int):Nat->List Pn
 | 0=>[]
 | n+1=>D1 c m n++bif decide ((n:Int)≠e.Pid)then F1 (BA e n) c m else[]
def B6 (c:Int)(m:List Int):List Pn:=D1 e c m e.S.Procs.length
def L5 (err:Int):Wy:=⟨-1,-1,-1,-1,-1,err⟩
def Kc (i:Int)(k:Nat)(err:Int)(p:Pn):Wy:=⟨i,k,p.pid,p.esc,p.way,err⟩
def Hv (i:Int)(k:Nat)(x:Ab):List Wy:=(bif x.is&&decide (x.wth.length=0)then[⟨i,k,-1,-1,-1,x.err⟩]else[])++x.wth.map (Kc i k x.err)
def Eo (i:Int):Nat->List Ab->List Wy
 | _,[]=>[]
 | k,x::r=>Hv i k x++Eo i (k+1) r
def Fy:List (Int×List D.Trans)->List Wy
 | []=>[]
 | (i,ws)::r=>bif decide (0<(Eo i 0 (Dv e (B6 e) ws false)).length)then Eo i 0 (Dv e (B6 e) ws false)else Fy r
def Bz:List Wy :=
 bif decide ((EK e e.Pid).Loc=(D8 e).Final)then(bif decide (e.Pid=(e.S.Procs.length:Int)-1)then[L5 0]else[])
 else bif decide ((Bx e).2≠0)then[L5 (Bx e).2]
 else bif !(Bx e).1 then[]else Fy e (G2 (DJ e))
def ED:List Wy×Int:=bif decide (F5 e≠0)then([],F5 e)else(Bz e,0)
end
def CH (l:D.Loc)(esc:Int):List D.Trans:=bif decide (esc<0)then l.Out else l.Esc.getD esc.toNat []
def X2:∀{r:List (List D.Trans)} {k:Nat} {i:Int} {ws:List D.Trans},(i,ws)∈YD k r->∃j:Nat,i=((k+j:Nat):Int)/\r[j]?=some ws
 | [],k,i,ws,h=>by cases h
 | w::r,k,i,ws,h=>by
  rcases AsN.1 h with h|h
  .simp only[AsJ]at h;obtain⟨rfl,rfl⟩:=h;exact⟨0,oM,rfl⟩
  .obtain⟨j,b,a⟩:=X2 h;exact⟨j+1,oM,by simpa using a⟩
def IZ {l:D.Loc}{i:Int}{ws:List D.Trans}(h:(i,ws)∈G2 l):CH l i=ws/\-1<=i/\i<l.Esc.length/\(ws=l.Out\/ws∈l.Esc):=by
 rcases Ast.1 h with h|h
 .obtain⟨j,rfl,a⟩:=X2 h;obtain⟨b,rfl⟩:=Asa.1 a;refine⟨?_,oM,oM,.inr (AtR _)⟩;unfold CH;grind
 .simp only[Asp,AsJ]at h;obtain⟨rfl,rfl⟩:=h;exact⟨rfl,oM,oM,.inl rfl⟩
section
variable {e : D.Env} {mt:Int->List Int->List Pn} {ws:List D.Trans} {self:Bool}
def AhF {s:D.Stmt}(h:(DB e mt s self).is=false):(DB e mt s self).wth=[]:=by
 unfold DB at h |-;split
 .cases DD e s.A<;>rfl
 .rename_i n1;rw[Asv n1]at h;split
  .cases DD e s.B<;>rfl
  .rename_i n2;rw[Asv n2]at h;split
   .rfl
   .rename_i a;rw[Asv a]at h;split
    .rename_i b;rw[AsE b]at h;unfold GY at h |-;cases c:decide ((AT e s.A).2≠0)with
     | true=>rfl
     | false =>
     rw[c,Ar1]at h;rw[Ar1];cases d:decide ((BD e (AT e s.A).1).length≠s.Args.length)with
     | true=>rfl
     | false =>
     rw[d,Ar1]at h;rw[Ar1];cases f:decide (0<(CF e.M (CB e (AT e s.A).1).Shape).Room)with
     | true=>rfl
     | false =>
     rw[f,Ar1]at h;rw[Ar1];cases g:self with
     | true=>rfl
     | false =>
     rw[g,Ar1]at h;rw[Ar1];cases i:decide ((AK e s).2.2≠0)with
     | true=>rfl
     | false =>
     simp_all
    grind
def Aeo {s:D.Stmt}(h:s.Kind=7):DB e mt s self=⟨false,0,[]⟩:=by
 unfold DB;grind
def Xh:∀{n:Nat},F0 e mt ws self n=false->∀j,j<n->(DB e mt (ws.getD j default).S self).is=false
 | 0,_,j,a=>absurd a (AsQ j)
 | n+1,h,j,a=>by
  unfold F0 at h;rw[Ass]at h;rcases AtU.1 a with b|rfl
  .exact Xh h.1 j b
  .exact h.2
def An3 (x:Ab):Prop:=x.is=true\/x.wth≠[]
def Ak4 {j:Nat}(a:(ws.getD j default).S.Kind=7)(h:An3 (F6 e mt ws self j)):F0 e mt ws self ws.length=false:=by
 unfold F6 at h;rw[Aeo a,show decide ((ws.getD j default).S.Kind=7)=true by simpa using a]at h;cases hs:F0 e mt ws self ws.length with
 | false=>rfl
 | true =>
  rw[hs]at h;rcases h with h|h
  .cases h
  .exact absurd rfl h
def Ak3 {j:Nat}(b:j<ws.length)(hs:F0 e mt ws self ws.length=false)(h:An3 (F6 e mt ws self j)):(ws.getD j default).S.Kind=7:=by
 refine Ase λc=>?_
 have a:=Xh hs j b;have d:=AhF a;unfold F6 at h;rw[show decide ((ws.getD j default).S.Kind=7)=false by simpa using c]at h;rcases h with h|h
 .grind
 .exact h d
def AfO {i:Int}{k:Nat}{x:Ab}{w:Wy}(h:w∈Hv i k x):w.Esc=i/\w.Way=k/\An3 x:=by
 rcases Ast.1 h with h|h
 .cases c:(x.is&&decide (x.wth.length=0))with
  | false=>rw[c]at h;cases h
  | true =>
   rw[c]at h;obtain rfl:=Asp.1 h;simp only[Ar2]at c;exact⟨rfl,rfl,.inl c.1⟩
 .obtain⟨p,hp,rfl⟩:=Atp.1 h;refine⟨rfl,rfl,.inr ?_⟩;grind
def Rz {i:Int}:∀{l:List Ab}{k:Nat}{w:Wy},w∈Eo i k l->∃(j:Nat)(x:Ab),l[j]?=some x/\w.Esc=i/\w.Way=((k+j:Nat):Int)/\An3 x
 | [],k,w,h=>by cases h
 | x::r,k,w,h=>by
  rcases Ast.1 (show w∈Hv i k x++Eo i (k+1) r from h)with h|h
  .obtain⟨h1,h2,h3⟩:=AfO h;exact⟨0,x,rfl,h1,h2,h3⟩
  .obtain⟨j,y,h1,h2,h3,h4⟩:=Rz h;exact⟨j+1,y,h1,h2,by rw[h3];congr 1;omega,h4⟩
def VR {j:Nat}{x:Ab}(h:(Dv e mt ws self)[j]?=some x):j<ws.length/\x=F6 e mt ws self j:=by
 unfold Dv at h;grind
theorem Pp:∀{r:List (Int×List D.Trans)},Fy e r=[]\/∃i ws,(i,ws)∈r/\Fy e r=Eo i 0 (Dv e (B6 e) ws false)
 | []=>.inl rfl
 | (i,ws)::r=>by
  have a:Fy e ((i,ws)::r)=bif decide (0<(Eo i 0 (Dv e (B6 e) ws false)).length)then Eo i 0 (Dv e (B6 e) ws false)else Fy e r:=rfl
  rw[a];cases decide (0<(Eo i 0 (Dv e (B6 e) ws false)).length)with
  | true=>exact .inr ⟨i,ws,Ar8,rfl⟩
  | false =>
   rcases Pp (r:=r)with h|⟨b,ws',h1,h2⟩
   .exact .inl h
   .exact .inr ⟨b,ws',Asi _ h1,h2⟩
def Ie:Bz e=[]\/(∃er,Bz e=[L5 er])\/∃i ws,(i,ws)∈G2 (DJ e)/\Bz e=Eo i 0 (Dv e (B6 e) ws false):=by
 unfold Bz;grind[Pp]
def Wn {w:Wy}(a:w∈Bz e) :
  (w.Way<0->(Bz e).length=1)/\(0<=w.Way->-1<=w.Esc/\w.Esc<(DJ e).Esc.length/\∀w'∈Bz e,w'.Esc=w.Esc/\0<=w'.Way/\w'.Way<(CH (DJ e) w.Esc).length /\
   (((CH (DJ e) w.Esc).getD w.Way.toNat default).S.Kind=7->((CH (DJ e) w.Esc).getD w'.Way.toNat default).S.Kind=7)):=by
 rcases Ie (e:=e)with h|⟨er,h⟩|⟨i,ws,hi,h⟩
 .rw[h]at a;cases a
 .rw[h]at a;obtain rfl:=Asp.1 a;exact⟨λ_=>by rw[h]<;>rfl,λh0=>by unfold L5 at h0;simp at h0⟩
 .rw[h]at a |-;obtain⟨g,h1,h2,_⟩:=IZ hi;obtain⟨j,x,k,l,d,a4⟩:=Rz a;obtain⟨b1,rfl⟩:=VR k;refine⟨λm=>by rw[d]at m;omega,λ_=>⟨oM,oM,λw' b=>?_⟩⟩;obtain⟨n,x',o,p,c,q⟩:=Rz b;obtain⟨d1,rfl⟩:=VR o;rw[l,g];refine⟨p,by rw[c];omega,by rw[c];omega,λf=>?_⟩;rw[show w.Way.toNat=j by rw[d];omega]at f;rw[show w'.Way.toNat=n by rw[c];omega];exact Ak3 d1 (Ak4 f a4) q
end
def stE (e:D.Env)(x v:Int):D.Env:=bif decide ((Ba e x v).2=0)then{e with S:=(Ba e x v).1}else e
def E3 (m mt:List Int):Nat->List Int->D.Env->D.Env×Int
 | _,[],e=>(e,0)
 | k,x::r,e=>bif decide (mt.getD k 0≠0)then E3 m mt (k+1) r e
   else bif decide ((Ba e x (m.getD k 0)).2≠0)then(e,(Ba e x (m.getD k 0)).2)else E3 m mt (k+1) r (stE e x (m.getD k 0))
def Dt (e:D.Env)(s:D.Stmt)(m:List Int):D.Env×Int:=E3 m s.Match 0 s.Args e
structure PN (e e':D.Env):Prop where
 M:e'.M=e.M
 pid:e'.Pid=e.Pid
 t:e'.Timeout=e.Timeout
 a:e'.Able=e.Able
 chans:e'.S.Chans=e.S.Chans
 procs:e'.S.Procs.length=e.S.Procs.length
def PN.refl (e:D.Env):PN e e:=⟨rfl,rfl,rfl,rfl,rfl,rfl⟩
def PN.trans {a b c:D.Env}(h:PN a b)(k:PN b c):PN a c:=⟨k.M.trans h.M,k.pid.trans h.pid,k.t.trans h.t,k.a.trans h.a,k.chans.trans h.chans,k.procs.trans h.procs⟩
def AeR (m:D.Model)(s:D.State)(who k v:Int):(IA m s who k v).Chans=s.Chans/\(IA m s who k v).Procs.length=s.Procs.length:=by
 unfold IA;cases decide (who<0)with
 | true=>exact⟨rfl,rfl⟩
 | false=>exact⟨rfl,by simp[setO]⟩
def ZS {e:D.Env}{x v:Int}(h:(Ba e x v).2=0):(Ba e x v).1.Chans=e.S.Chans/\(Ba e x v).1.Procs.length=e.S.Procs.length:=by
 unfold Ba at h |-;cases a:decide (Co e x≠0)with
 | true =>
  grind
 | false =>
  rw[a,Ar1]at h;rw[Ar1];cases b:decide ((B8 e (FX e) (Az e.M x)).2.2≠0)with
  | true =>
   grind
  | false=>rw[Ar1];exact AeR _ _ _ _ _
def Q0 (e:D.Env)(x v:Int):PN e (stE e x v):=by
 unfold stE;cases c:decide ((Ba e x v).2=0)with
 | true =>
  obtain⟨h1,h2⟩:=ZS (Asd c);exact⟨rfl,rfl,rfl,rfl,h1,h2⟩
 | false=>exact PN.refl e
def KM (m mt:List Int):∀(l:List Int)(k:Nat)(e:D.Env),PN e (E3 m mt k l e).1
 | [],_,e=>PN.refl e
 | x::r,k,e=>by
  unfold E3;cases decide (mt.getD k 0≠0)with
  | true=>exact KM m mt r (k+1) e
  | false =>
   rw[Ar1];cases decide ((Ba e x (m.getD k 0)).2≠0)with
   | true=>exact PN.refl e
   | false=>exact(Q0 e x _).trans (KM m mt r (k+1) _)
def TA {e:D.Env}{c:Int}{m:List Int}{i:Int}{p:Pn}:∀{ws:List D.Trans}{k:Nat},p∈DK e c m i k ws->p.pid=e.Pid/\p.esc=i/\∃j:Nat,p.way=((k+j:Nat):Int)/\j<ws.length/\FG e (ws.getD j default).S c m=true
 | [],_,h=>by cases h
 | t::r,k,h=>by
  rcases Ast.1 (show p∈(bif FG e t.S c m then[(⟨e.Pid,i,k⟩:Pn)]else[])++DK e c m i (k+1) r from h)with h|h
  .cases q:FG e t.S c m with
   | false=>rw[q]at h;cases h
   | true =>
    rw[q]at h;obtain rfl:=Asp.1 h;exact⟨rfl,rfl,0,rfl,Nat.succ_pos _,q⟩
  .obtain⟨h1,h2,j,h3,h4,h5⟩:=TA h;exact⟨h1,h2,j+1,by rw[h3];congr 1;omega,Nat.succ_lt_succ h4,h5⟩
def Ty {e:D.Env}{c:Int}{m:List Int}{p:Pn}:∀{l:List (Int×List D.Trans)},p∈Hf e c m l->∃i ws,(i,ws)∈l/\p∈DK e c m i 0 ws
 | [],h=>by cases h
 | (i,ws)::r,h=>by
  have b:Hf e c m ((i,ws)::r)=bif decide (0<(DK e c m i 0 ws).length)||isSome (Dv e Rv ws true)then DK e c m i 0 ws else Hf e c m r:=rfl
  rw[b]at h;cases a:(decide (0<(DK e c m i 0 ws).length)||isSome (Dv e Rv ws true))with
  | true=>rw[a]at h;exact⟨i,ws,Ar8,h⟩
  | false =>
   rw[a]at h;obtain⟨d,ws',h1,h2⟩:=Ty h;exact⟨d,ws',Asi _ h1,h2⟩
def Afi {e:D.Env}{c:Int}{m:List Int}{p:Pn}(h:p∈F1 e c m):p.pid=e.Pid/\-1<=p.esc/\p.esc<(DJ e).Esc.length/\0<=p.way/\p.way<(CH (DJ e) p.esc).length /\
  ((CH (DJ e) p.esc).getD p.way.toNat default).S.Kind=6/\((CH (DJ e) p.esc).getD p.way.toNat default).S.Args.length=m.length:=by
 unfold F1 at h;cases b:(!(Bx e).1||decide ((Bx e).2≠0))with
 | true=>rw[b]at h;cases h
 | false =>
  rw[b,Ar1]at h;obtain⟨i,ws,hi,hp⟩:=Ty h;obtain⟨d,f,j,a,l,g⟩:=TA hp;obtain⟨l1,l2,k,_⟩:=IZ hi;rw[f,l1];refine⟨d,l2,k,by rw[a];omega,by rw[a];omega,?_⟩;rw[show p.way.toNat=j by rw[a];omega];unfold FG at g;grind
def RA {e:D.Env}{c:Int}{m:List Int}{p:Pn}:∀{n:Nat},p∈D1 e c m n->∃q:Nat,q<n/\(q:Int)≠e.Pid/\p∈F1 (BA e q) c m
 | 0,h=>by cases h
 | n+1,h=>by
  rcases Ast.1 (show p∈D1 e c m n++(bif decide ((n:Int)≠e.Pid)then F1 (BA e n) c m else[])from h)with h|h
  .obtain⟨q,h1,h2⟩:=RA h;exact⟨q,oM,h2⟩
  .cases a:decide ((n:Int)≠e.Pid)with
   | true=>rw[a]at h;exact⟨n,Ata _,Asd a,h⟩
   | false=>rw[a]at h;cases h
def Y2 {ev:Evl}:∀{l out:List Int},(J6 ev out l).2=0->(J6 ev out l).1.length=out.length+l.length
 | [],out,_=>rfl
 | x::l,out,h=>by
  have a:J6 ev out (x::l)=bif decide ((ev x).2≠0)then([],(ev x).2)else J6 ev (out++[(ev x).1]) l:=rfl
  rw[a]at h |-;cases c:decide ((ev x).2≠0)with
  | true=>rw[c]at h;exact absurd h (Asd c)
  | false =>
   rw[c,Ar1]at h;rw[Ar1,Y2 h];simp;omega
theorem KF {e:D.Env}{s:D.Stmt}(h:(AK e s).2.2=0):(AK e s).2.1.length=s.Args.length:=by
 unfold AK at h |-;cases b:decide ((AT e s.A).2≠0)with
 | true=>grind
 | false =>
  rw[b,Ar1]at h;rw[Ar1];cases a:decide ((BD e (AT e s.A).1).length≠s.Args.length)with
  | true=>rw[a]at h;cases h
  | false =>
   rw[a,Ar1]at h;rw[Ar1];cases c:decide ((B4 e s.Args).2≠0)with
   | true=>grind
   | false =>
    rw[Ar1];have h0:(B4 e s.Args).2=0:=by simpa using c
    have:=Y2 (ev:=Bh e) (l:=s.Args) (out:=[]) h0;rw[AsX,AsI]at this;show(PH _ _).length=_;unfold PH;rw[AsR,AtZ];exact this
def Aen {e:D.Env}{mt:Int->List Int->List Pn}{s:D.Stmt}{self:Bool}{p:Pn}(h:p∈(DB e mt s self).wth):s.Kind=5/\(AK e s).2.2=0/\p∈mt (AT e s.A).1 (AK e s).2.1:=by
 have no:∀{q:Prop},p∈([]:List Pn)->q:=λh=>by cases h
 unfold DB at h;split at h
 .cases q:DD e s.A<;>rw[q]at h<;>exact no h
 split at h
 .cases q:DD e s.B<;>rw[q]at h<;>exact no h
 split at h
 .exact no h
 split at h
 .rename_i a;refine⟨a,?_⟩;unfold GY at h;grind
 grind
def AjU {e:D.Env}{w:Wy}(f:w∈Bz e) :
  (w.With<0->w.WithEsc=-1/\w.WithWay=-1) /\
  (0<=w.With->0<=w.Way/\w.With≠e.Pid/\w.With<e.S.Procs.length/\((CH (DJ e) w.Esc).getD w.Way.toNat default).S.Kind=5/\-1<=w.WithEsc/\w.WithEsc<(DJ (BA e w.With)).Esc.length/\0<=w.WithWay /\
   w.WithWay<(CH (DJ (BA e w.With)) w.WithEsc).length/\((CH (DJ (BA e w.With)) w.WithEsc).getD w.WithWay.toNat default).S.Kind=6 /\
   ((CH (DJ e) w.Esc).getD w.Way.toNat default).S.Args.length=((CH (DJ (BA e w.With)) w.WithEsc).getD w.WithWay.toNat default).S.Args.length):=by
 rcases Ie (e:=e)with h|⟨er,h⟩|⟨i,ws,hi,h⟩
 .rw[h]at f;cases f
 .rw[h]at f;obtain rfl:=Asp.1 f;exact⟨λ_=>⟨rfl,rfl⟩,λh0=>by unfold L5 at h0;simp at h0⟩
 .rw[h]at f;obtain⟨z,h1,h2,_⟩:=IZ hi;have key:∀{l:List Ab}{k:Nat},w∈Eo i k l->∃(j:Nat)(x:Ab),l[j]?=some x/\w∈Hv i (k+j) x:=by
   intro l
   induction l with
   | nil=>intro k h;cases h
   | cons x r ih =>
    intro k h;rcases Ast.1 (show w∈Hv i k x++Eo i (k+1) r from h)with h|h
    .exact⟨0,x,rfl,h⟩
    .obtain⟨j,y,a,b⟩:=ih h;exact⟨j+1,y,a,gD⟩
  obtain⟨j,x,o,d⟩:=key f;obtain⟨b1,rfl⟩:=VR o;rw[AsI]at d;rcases Ast.1 d with d|d
  .cases c:((F6 e (B6 e) ws false j).is&&decide ((F6 e (B6 e) ws false j).wth.length=0))with
   | false=>rw[c]at d;cases d
   | true =>
    grind
  .obtain⟨p,hp,rfl⟩:=Atp.1 d;have g:(F6 e (B6 e) ws false j).wth=(DB e (B6 e) (ws.getD j default).S false).wth:=by
    unfold F6;grind
   rw[g]at hp;obtain⟨s1,s2,s⟩:=Aen hp;obtain⟨q,A,B,t⟩:=RA (show p∈D1 e _ _ e.S.Procs.length from s);obtain⟨u,r2,C,E,F,G,H⟩:=Afi t;have m:p.pid=q:=u;have v:BA e p.pid=BA e q:=by rw[m]
   refine⟨λh0=>?_,λ_=>?_⟩
   .have n:p.pid<0:=h0;rw[m]at n;omega
   .show 0<=(j:Int)/\p.pid≠e.Pid/\p.pid<e.S.Procs.length/\((CH (DJ e) i).getD (j:Int).toNat default).S.Kind=5/\-1<=p.esc/\p.esc<(DJ (BA e p.pid)).Esc.length/\0<=p.way/\p.way<(CH (DJ (BA e p.pid)) p.esc).length /\
     ((CH (DJ (BA e p.pid)) p.esc).getD p.way.toNat default).S.Kind=6/\((CH (DJ e) i).getD (j:Int).toNat default).S.Args.length=((CH (DJ (BA e p.pid)) p.esc).getD p.way.toNat default).S.Args.length
    grind[KF]
end Go.Proofs.YtddhibmbpmcnpaaGreatDoor
namespace Go.Proofs.YtddhibmbpmcnpaaGreatDoor.Ch
open  Go.Proofs.Tryz
open IntKind(i64)
def lessP:List Int->List Int->Bool
 | a::aa,b::bs=>if a=b then lessP aa bs else decide (a<b)
 | [],_::_=>true
 | _,[]=>false
def MC:∀(n:Nat)(xs ys:List Int),n<=xs.length->n<=ys.length->(∀j,j<n->xs.getD j 0=ys.getD j 0)->lessP xs ys=lessP (xs.drop n) (ys.drop n)
 | 0,_,_,_,_,_=>rfl
 | n+1,a::aa,b::bs,h1,h2,h=>by
  have h0:=h 0 oM;simp only[List.getD_cons_zero]at h0;subst h0;rw[lessP,AsE rfl,List.drop_succ_cons,List.drop_succ_cons];exact MC n aa bs (by simpa using h1) (by simpa using h2) λj c=>by simpa using h (j+1) oM
 | n+1,[],_,h1,_,_=>by simp at h1
 | n+1,_::_,[],_,h2,_=>by simp at h2
def Qf {α:Type}[Inhabited α](xs:List α)(n:Nat)(d:α)(h:n<xs.length):xs.drop n=xs.getD n d::xs.drop (n+1):=by
 rw[List.drop_eq_getElem_cons h];simp[List.getD,h]
def lessP_differ (n:Nat)(xs ys:List Int)(h1:n<xs.length)(h2:n<ys.length)(h:∀j,j<n->xs.getD j 0=ys.getD j 0)(a:xs.getD n 0≠ys.getD n 0):lessP xs ys=decide (xs.getD n 0<ys.getD n 0):=by
 rw[MC n xs ys oM oM h,Qf xs n 0 h1,Qf ys n 0 h2,lessP,Asv a]
def lessP_end (n:Nat)(xs ys:List Int)(h1:n<=xs.length)(h2:n<=ys.length)(h3:n=xs.length\/n=ys.length)(h:∀j,j<n->xs.getD j 0=ys.getD j 0):lessP xs ys=decide (xs.length<ys.length):=by
 rw[MC n xs ys h1 h2 h]
 by_cases b:n=xs.length
 .rw[b,AtS]
  by_cases a:xs.length<ys.length
  .rw[Qf ys _ 0 a,lessP];simp[a]
  .rw[Atu oM,lessP];simp[a]
 .have a:n=ys.length:=oM
  subst a;rw[AtS,Qf xs _ 0 oM,lessP];simp;omega
def firstP (x:List Int):List (List Int)->Nat
 | []=>0
 | y::q=>if lessP x y then 0 else firstP x q+1
def firstP_le (x:List Int):∀q,firstP x q<=q.length
 | []=>Ar6 _
 | y::q=>by
  unfold firstP;have:=firstP_le x q;split<;>simp;omega
def firstP_hit (x:List Int):∀(q:List (List Int)) (k:Nat) (y:List Int),q[k]?=some y->(∀j a,j<k->q[j]?=some a->lessP x a=false)->lessP x y=true->firstP x q=k
 | [],k,y,h,_,_=>by simp at h
 | z::q,0,y,h,_,h2=>by
  simp at h;subst h;simp[firstP,h2]
 | z::q,k+1,y,h,h1,h2=>by
  have h0:=h1 0 z oM rfl;rw[firstP,h0];simp only[AtY,if_false];rw[firstP_hit x q k y (by simpa using h) (λj a c b=>h1 (j+1) a oM (by simpa using b)) h2]
def firstP_miss (x:List Int):∀(q:List (List Int)),(∀(j:Nat)(a:List Int),q[j]?=some a->lessP x a=false)->firstP x q=q.length
 | [],_=>rfl
 | z::q,h=>by
  rw[firstP,h 0 z rfl];simp only[AtY,if_false];rw[firstP_miss x q λj a b=>h (j+1) a (by simpa using b)];rfl
def idxP (x:List Int)(q:List (List Int)):Int:=if firstP x q<q.length then firstP x q else -1
end Go.Proofs.YtddhibmbpmcnpaaGreatDoor.Ch
namespace Go.Proofs.YtddhibmbpmcnpaaGreatDoor.Ch
open Go.RowKit Go.Proofs.Tryz
open IntKind(i64)
def putAt {α:Type}(l:List α)(i:Nat)(x:α):List α:=l.take i++x::l.drop i
def putAt_len {α:Type}{l:List α}{i:Nat}{x:α}(h:i<=l.length):(putAt l i x).length=l.length+1:=by
 unfold putAt;simp;omega
def putAt_lo {α:Type}{l:List α}{i j:Nat}{x:α}(h:i<=l.length)(a:j<i):(putAt l i x)[j]?=l[j]?:=by
 unfold putAt;rw[Asg (by simp;omega),As4,AsE a]
def putAt_at {α:Type}{l:List α}{i:Nat}{x:α}(h:i<=l.length):(putAt l i x)[i]?=some x:=by
 unfold putAt;rw[Asy (by simp;omega)];simp[show i-min i l.length=0 by omega]
def putAt_hi {α:Type}{l:List α}{i j:Nat}{x:α}(h:i<=l.length)(a:i<j):(putAt l i x)[j]?=l[j-1]?:=by
 unfold putAt;rw[Asy (by simp;omega),As6,show min i l.length=i by omega,show j-i=(j-1-i)+1 by omega,AsY,AsP]
 congr 1;omega
def putAt_end {α:Type}(l:List α)(x:α):putAt l l.length x=l++[x]:=by simp[putAt]
def cutAt {α:Type}(l:List α)(i:Nat):List α:=l.take i++l.drop (i+1)
def cutAt_len {α:Type}{l:List α}{i:Nat}(h:i<l.length):(cutAt l i).length=l.length-1:=by
 unfold cutAt;simp;omega
def cutAt_lo {α:Type}{l:List α}{i j:Nat}(h:i<l.length)(a:j<i):(cutAt l i)[j]?=l[j]?:=by
 unfold cutAt;rw[Asg (by simp;omega),As4,AsE a]
def cutAt_hi {α:Type}{l:List α}{i j:Nat}(h:i<l.length)(a:i<=j):(cutAt l i)[j]?=l[j+1]?:=by
 unfold cutAt;rw[Asy (by simp;omega),As6,AsP]
 congr 1;omega
def typeP (t:D.Type):Bool:=decide (1<=t.Bits)&&decide (t.Bits<=32)&&(!t.Signed||decide (t.Bits=16)||decide (t.Bits=32))
def Small (q:List (List Int)):Prop:=q.length*24<=140737488355328/\∀m∈q,m.length*8<=140737488355328
def Ael {α:Type}{q:List α}{k:Nat}{m:α}(h:q[k]?=some m):q.take (k+1)=q.take k++[m]:=by
 obtain⟨a,rfl⟩:=Asa.1 h;rw[List.take_succ_eq_append_getElem a]
def fitM (fs:List D.Type)(m:List Int):List Int:=List.zipWith (λt v=>MI t.Bits t.Signed v) fs m
def putE (room:Int)(fs:List D.Type)(q:List (List Int))(m:List Int):Int :=
 if m.length≠fs.length then 42 else if fs.all typeP=false then 42 else if room<=q.length then 45 else 0
def putX (fs:List D.Type)(q:List (List Int))(m:List Int)(sorted:Bool):List (List Int):=putAt q (if sorted then firstP (fitM fs m) q else q.length) (fitM fs m)
def putSh (room:Int)(fs:List D.Type)(q:List (List Int))(m:List Int)(sh:Int):Int:=if putE room fs q m=0 then sh else 0
def putQ (room:Int)(fs:List D.Type)(q:List (List Int))(m:List Int)(sorted:Bool):List (List Int):=if putE room fs q m=0 then putX fs q m sorted else[]
def putSh_bad {room sh:Int}{fs:List D.Type}{q:List (List Int)}{m:List Int}{e:Int}(h:putE room fs q m=e)(a:e≠0):putSh room fs q m sh=0:=by unfold putSh;rw[h,Asv a]
def putQ_bad {room:Int}{fs:List D.Type}{q:List (List Int)}{m:List Int}{sorted:Bool}{e:Int}(h:putE room fs q m=e)(a:e≠0):putQ room fs q m sorted=[]:=by unfold putQ;rw[h,Asv a]
def fitTo (fs:List D.Type)(m:List Int)(k:Nat):List Int:=(fitM fs m).take k++List.replicate (m.length-k) 0
def fitM_len {fs:List D.Type}{m:List Int}(h:m.length=fs.length):(fitM fs m).length=m.length:=by simp[fitM,h]
def fitTo_len {fs:List D.Type}{m:List Int}{k:Nat}(h:m.length=fs.length)(a:k<=m.length):(fitTo fs m k).length=m.length:=by
 simp[fitTo,fitM_len h];omega
def fitTo_all {fs:List D.Type}{m:List Int}(h:m.length=fs.length):fitTo fs m m.length=fitM fs m:=by
 simp[fitTo];rw[<- fitM_len h,AsZ]
def fitTo_set {fs:List D.Type}{m:List Int}{k:Nat}(h:m.length=fs.length)(a:k<m.length)(t:D.Type)(b:fs[k]?=some t) :
  (fitTo fs m k).set k (MI t.Bits t.Signed (m.getD k 0))=fitTo fs m (k+1):=by
 have d:=fitM_len h;have c:(fitM fs m)[k]?=some (MI t.Bits t.Signed (m.getD k 0)):=by
  simp[fitM,List.getElem?_zipWith,b,List.getD,a]
 unfold fitTo;rw[List.set_append_right _ _ (by simp;omega),Ael c,show m.length-k=(m.length-(k+1))+1 by omega,List.replicate_succ];simp[show k-min k (fitM fs m).length=0 by omega]
end Go.Proofs.YtddhibmbpmcnpaaGreatDoor.Ch
namespace Go.Proofs.YtddhibmbpmcnpaaGreatDoor
open Go.RowKit Go.Proofs.Tryz
open IntKind(i64)
def MU (f:List D.Type)(args init:List Int)(k:Nat):List Int:=(List.range init.length).map λi=>if i<k then I4 (f.getD i default) (args.getD i 0)else init.getD i 0
def Gw (m:D.Model)(typ:Int)(args:List Int):D.Process:=⟨typ,(A7 m typ).Start,(A7 m typ).Prio,MU (A7 m typ).Frame args (A7 m typ).Init args.length⟩
def AjQ:D.Process:=⟨0,0,0,[]⟩
def EE (m:D.Model)(typ:Int)(args:List Int):D.Process×Int :=
 bif !DU m then(AjQ,40)
 else bif decide (typ<0)||(decide ((m.Procs.length:Int)<=typ)||(decide (typ=m.Claim)||decide ((args.length:Int)≠(A7 m typ).Params)))then(AjQ,42)
 else(Gw m typ args,0)
def N5 (e:D.Env)(p:D.Process):D.Env:={e with S:={e.S with Procs:=e.S.Procs++[p]}}
def BS (e:D.Env)(x:Int):D.Env×Int×Int :=
 bif decide ((B4 e (Az e.M x).Args).2≠0)then(e,0,(B4 e (Az e.M x).Args).2)
 else bif decide ((EE e.M (Az e.M x).N (B4 e (Az e.M x).Args).1).2≠0)then(e,0,(EE e.M (Az e.M x).N (B4 e (Az e.M x).Args).1).2)
 else(N5 e (EE e.M (Az e.M x).N (B4 e (Az e.M x).Args).1).1,e.S.Procs.length,0)
def CE (e:D.Env)(x v:Int):D.Env×Int:=(stE e x v,(Ba e x v).2)
def Hd (e:D.Env)(s:D.Stmt):D.Env×Int :=
 bif DD e s.B then(bif decide ((BS e s.B).2.2≠0)then((BS e s.B).1,(BS e s.B).2.2)else CE (BS e s.B).1 s.A (BS e s.B).2.1)
 else bif decide ((Bh e s.B).2≠0)then(e,(Bh e s.B).2)else CE e s.A (Bh e s.B).1
def H9 (e:D.Env)(c:Int)(k:D.Chan):D.Env:={e with S:={e.S with Chans:=e.S.Chans.set (c-1).toNat k}}
def D3 (k:D.Chan)(n:Int):D.Chan×List Int×Int :=
 bif decide (n<0)||decide ((k.Queue.length:Int)<=n)then(⟨0,[]⟩,[],46)else(⟨k.Shape,Ch.cutAt k.Queue n.toNat⟩,k.Queue.getD n.toNat [],0)
def EZ (e:D.Env)(s:D.Stmt):D.Env×Int :=
 bif decide ((A5 e s).2.2≠0)then(e,(A5 e s).2.2)
 else bif decide ((D3 (CB e (A5 e s).1) (A5 e s).2.1).2.2≠0)then(e,(D3 (CB e (A5 e s).1) (A5 e s).2.1).2.2)
 else Dt (bif decide (s.N<2)then H9 e (A5 e s).1 (D3 (CB e (A5 e s).1) (A5 e s).2.1).1 else e) s (D3 (CB e (A5 e s).1) (A5 e s).2.1).2.1
def SI (m:D.Model)(k:D.Chan)(l:List Int)(sorted:Bool):D.Chan×Int :=
 (⟨Ch.putSh (CF m k.Shape).Room (CF m k.Shape).Fields k.Queue l k.Shape,Ch.putQ (CF m k.Shape).Room (CF m k.Shape).Fields k.Queue l sorted⟩,Ch.putE (CF m k.Shape).Room (CF m k.Shape).Fields k.Queue l)
def Acx (e:D.Env)(s:D.Stmt):D.Env×Int :=
 (H9 e (AK e s).1 (SI e.M (CB e (AK e s).1) (AK e s).2.1 (decide (s.N=1))).1,(SI e.M (CB e (AK e s).1) (AK e s).2.1 (decide (s.N=1))).2)
def C0 (e:D.Env)(w:Wy):D.Trans:=(CH (DJ e) w.Esc).getD w.Way.toNat default
def Hl (e:D.Env)(w:Wy):D.Trans:=(CH (DJ (BA e w.With)) w.WithEsc).getD w.WithWay.toNat default
def He (e:D.Env)(s:D.Stmt)(w:Wy):D.Env×Int :=
 bif decide ((AK e s).2.2≠0)then(e,(AK e s).2.2)
 else bif decide (0<=w.With)then({e with S:=(Dt (BA e w.With) (Hl e w).S (AK e s).2.1).1.S},(Dt (BA e w.With) (Hl e w).S (AK e s).2.1).2)
 else Acx e s
def F7 (e:D.Env)(n:Int):D.Env:={e with S:={e.S with Chans:=e.S.Chans++[⟨n,[]⟩]}}
def GF (e:D.Env)(s:D.Stmt):Int:=bif decide ((Bh e s.A).2=0)&&decide ((Bh e s.A).1=0)then 50 else(Bh e s.A).2
def Dj (pr:ByteArray->List Int->ByteArray)(e:D.Env)(s:D.Stmt)(w:Wy):D.Env×ByteArray×Int :=
 if s.Kind=1 then(bif DD e s.A then((BS e s.A).1,⟨#[]⟩,(BS e s.A).2.2)else(e,⟨#[]⟩,0))
 else if s.Kind=2 then((Hd e s).1,⟨#[]⟩,(Hd e s).2)
 else if s.Kind=3 then(e,⟨#[]⟩,GF e s)
 else if s.Kind=4 then(e,bif decide ((B4 e s.Args).2≠0)then⟨#[]⟩else pr s.Text (B4 e s.Args).1,(B4 e s.Args).2)
 else if s.Kind=9 then((CE (F7 e s.N) s.A (e.S.Chans.length+1:Nat)).1,⟨#[]⟩,(CE (F7 e s.N) s.A (e.S.Chans.length+1:Nat)).2)
 else if s.Kind=5 then((He e s w).1,⟨#[]⟩,(He e s w).2)
 else if s.Kind=6 then((EZ e s).1,⟨#[]⟩,(EZ e s).2)
 else(e,⟨#[]⟩,0)
def Fw (l:List D.Process)(k to:Int):List D.Process:=l.set k.toNat {l.getD k.toNat default with Loc:=to}
def Ig (e:D.Env)(w:Wy)(s:D.State):D.State :=
 {s with Procs:=Fw (bif decide (0<=w.With)then Fw s.Procs w.With (Hl e w).To else s.Procs) e.Pid (C0 e w).To,Last:=e.Pid}
def Agu (e:D.Env):D.State:={e.S with Procs:=e.S.Procs.take e.Pid.toNat,Last:=e.Pid,Alone:=bif decide (e.Pid<=e.S.Alone)then -1 else e.S.Alone}
def SS:D.State:=⟨[],[],[],0,0,0⟩
def goE (pr:ByteArray->List Int->ByteArray)(e:D.Env)(w:Wy):D.State×ByteArray×Int :=
 bif decide (w.Err≠0)then(SS,⟨#[]⟩,w.Err)else bif decide (w.Way<0)then(Agu e,⟨#[]⟩,0)
 else bif decide ((Dj pr e (C0 e w).S w).2.2≠0)then(SS,⟨#[]⟩,(Dj pr e (C0 e w).S w).2.2)
 else(Ig e w (Dj pr e (C0 e w).S w).1.S,(Dj pr e (C0 e w).S w).2.1,0)
end Go.Proofs.YtddhibmbpmcnpaaGreatDoor
namespace Go.Proofs.YtddhibmbpmcnpaaGreatDoor
open Go.RowKit Go.Proofs.Tryz
open IntKind(i64)
structure Ft (m:D.Model) (s:D.State):Prop where
 g:B5 m.Globals s.Globals=true
 cl:s.Chans.length<=32
 pl:s.Procs.length<=16
 l:0<=s.Last/\s.Last<16
 a:-1<=s.Alone/\s.Alone<s.Procs.length
 c:∀c∈s.Chans,DX m c=true
 p:∀p∈s.Procs,Bc m p=true
 k:DW m s=true
def Eb {m:D.Model}{s:D.State}:D6 m s=true↔Ft m s:=by
 unfold D6 L9;simp only[Ar2,Asc];rw[CP (d:=default) (f:=λc=>DX m c),CP (d:=default) (f:=λp=>Bc m p)];exact⟨λ⟨⟨⟨⟨⟨⟨⟨⟨⟨h1,h2⟩,h3⟩,h4⟩,h5⟩,h6⟩,h7⟩,e⟩,i⟩,b⟩=>⟨h1,h2,h3,⟨h4,h5⟩,⟨h6,h7⟩,e,i,b⟩,
  λh=>⟨⟨⟨⟨⟨⟨⟨⟨⟨h.g,h.cl⟩,h.pl⟩,h.l.1⟩,h.l.2⟩,h.a.1⟩,h.a.2⟩,h.c⟩,h.p⟩,h.k⟩⟩
structure GU (b:Int->Prop) (s t:D.State):Prop where
 last:t.Last=s.Last
 alone:t.Alone=s.Alone
 claim:t.Claim=s.Claim
 len:s.Procs.length<=t.Procs.length
 old:∀i:Nat,i<s.Procs.length->(t.Procs.getD i default).Type_=(s.Procs.getD i default).Type_/\(t.Procs.getD i default).Loc=(s.Procs.getD i default).Loc/\(¬b i->(t.Procs.getD i default).Frame=(s.Procs.getD i default).Frame)
def GU.refl {b:Int->Prop}{s:D.State}:GU b s s:=⟨rfl,rfl,rfl,Ar6 _,λ_ _=>⟨rfl,rfl,λ_=>rfl⟩⟩
def GU.trans {b:Int->Prop}{s t u:D.State}(h:GU b s t)(k:GU b t u):GU b s u :=
 ⟨k.last.trans h.last,k.alone.trans h.alone,k.claim.trans h.claim,Asz h.len k.len,λi hi=>by
  obtain⟨a,c,d⟩:=h.old i hi;obtain⟨b1,b2,b3⟩:=k.old i (AsC hi h.len);grind⟩
def GU.less {b c:Int->Prop}{s t:D.State}(h:GU b s t)(d:∀i,b i->c i):GU c s t :=
 ⟨h.last,h.alone,h.claim,h.len,λi hi=>⟨(h.old i hi).1,(h.old i hi).2.1,λe=>(h.old i hi).2.2 λa=>e (d _ a)⟩⟩
theorem RS {α:Type}{l:List α}{t j:Nat}{p d:α}:(l.set t p).getD j d=if t=j/\j<l.length then p else l.getD j d:=gD
theorem NP {t:D.Type}{v:Int}(h:H1 t=true):Ec t (I4 t v)=true:=by
 have h0:=h;unfold H1 at h;simp only[Ar2,Asc]at h;obtain⟨h1,h2,h3⟩:=h;unfold Ec I4 MI;rw[h0,AsE ⟨h1,h2⟩,As5];cases hs:t.Signed with
 | true =>
  rw[hs]at h3;simp at h3;rcases h3 with h3|h3<;>rw[h3]<;>simp<;>omega
 | false =>
  have hp:(0:Int)<2 ^ t.Bits.toNat:=Int.pow_pos dZ;simp_all[Int.emod_nonneg,Int.ne_of_gt,Int.emod_lt_of_pos]
theorem WD {t:D.Type}{v:Int}(h:Ec t v=true):H1 t=true:=by
 unfold Ec at h;grind
def Aea {t:List D.Type}{l:List Int}{k:Nat}(h:B5 t l=true)(a:k<l.length):Ec (t.getD k default) (l.getD k 0)=true:=by
 unfold B5 at h;simp only[Ar2,Asc]at h;exact BC.1 h.2 k a
def Ki {t:List D.Type}{l:List Int}(a:t.length=l.length)(h:∀k,k<l.length->Ec (t.getD k default) (l.getD k 0)=true):B5 t l=true:=by
 unfold B5;simp_all[BC]
def Td {t:List D.Type}{l:List Int}(h:B5 t l=true)(k:Nat)(v:Int):B5 t (l.set k (I4 (t.getD k default) v))=true:=by
 have a:=Gc h;refine Ki (by simp[a]) λi hi=>?_
 rw[AsH]at hi;have b:=Aea h hi;grind[RS,NP,WD]
section
variable {m : D.Model} {s:D.State}
def Ft.setP (h:Ft m s){l:List D.Process}(b:l.length=s.Procs.length)(hp:∀p∈l,Bc m p=true):Ft m {s with Procs:=l} :=
 ⟨h.g,h.cl,by show l.length<=16;rw[b];exact h.pl,h.l,⟨h.a.1,by show s.Alone<(l.length:Int);rw[b];exact h.a.2⟩,h.c,hp,h.k⟩
def Ft.addP (h:Ft m s){p:D.Process}(d:s.Procs.length<16)(hp:Bc m p=true):Ft m {s with Procs:=s.Procs++[p]}:=by
 refine⟨h.g,h.cl,gD,h.l,⟨h.a.1,?_⟩,h.c,λq b=>?_,h.k⟩
 .have:=h.a.2;grind
 .rcases Ast.1 b with b|b
  .exact h.p _ b
  grind
def Ft.setC (h:Ft m s){k:Nat}{c:D.Chan}(b:DX m c=true):Ft m {s with Chans:=s.Chans.set k c} :=
 ⟨h.g,by show(s.Chans.set k c).length<=32;rw[AsH];exact h.cl,h.pl,h.l,h.a,λx d=>(GB d).elim (h.c x) λe=>by rw[e];exact b,h.p,h.k⟩
def AaK {p:D.Process}{f:List Int}(h:Bc m p=true)(a:B5 (A7 m p.Type_).Frame f=true):Bc m {p with Frame:=f}=true:=by
 unfold Bc at h |-;grind
theorem AiR {p:D.Process}{to:Int}(h:Bc m p=true)(a:inP (A7 m p.Type_).Locs.length to=true):Bc m {p with Loc:=to}=true:=by
 unfold Bc at h |-;grind
def ApY {l:List D.Process}{i:Nat}(h:i<l.length):l.getD i default∈l:=As h
def Ft.put (h:Ft m s){who k v:Int}(hi:0<=who->who<s.Procs.length):Ft m (IA m s who k v):=by
 unfold IA;cases c:decide (who<0)with
 | true=>exact⟨Td h.g _ _,h.cl,h.pl,h.l,h.a,h.c,h.p,h.k⟩
 | false =>
  have h0:0<=who:=gD
  have d:=hi h0;refine h.setP (AsH ..) λp hp=>?_
  rcases GB hp with hp|rfl
  .exact h.p _ hp
  .have b:=h.p _ (ApY (i:=who.toNat) oM);exact AaK b (Td (D0 b).2.2.2.1 _ _)
def Af3 {who k v:Int}{b:Int->Prop}(d:0<=who->b who):GU b s (IA m s who k v):=by
 unfold IA;cases c:decide (who<0)with
 | true=>exact⟨rfl,rfl,rfl,Ar6 _,λ_ _=>⟨rfl,rfl,λ_=>rfl⟩⟩
 | false =>
  have h0:0<=who:=gD
  refine⟨rfl,rfl,rfl,by show s.Procs.length<=(s.Procs.set _ _).length;grind,λi hi=>?_⟩;show((s.Procs.set who.toNat (Q8 m (s.Procs.getD who.toNat default) k v)).getD i default).Type_=_/\((s.Procs.set who.toNat (Q8 m (s.Procs.getD who.toNat default) k v)).getD i default).Loc=_/\(_->((s.Procs.set who.toNat (Q8 m (s.Procs.getD who.toNat default) k v)).getD i default).Frame=_);rw[RS];split
  .rename_i a;obtain⟨rfl,_⟩:=a;exact⟨rfl,rfl,gD⟩
  grind
end
def Ah1 {e:D.Env}{ev:Evl}{x:D.Expr}(hs:x.V.Scope≠2)(h0:0<=x.V.Scope/\x.V.Scope<=2)(h:0<=(B8 e ev x).1)(h2:(B8 e ev x).2.2=0):(B8 e ev x).1=e.Pid:=by
 unfold B8 at h h2 |-;cases b:decide (x.Op≠2)with
 | true=>grind
 | false =>
 rw[b,Ar1]at h h2;rw[Ar1];cases a:decide ((D4 e ev x.V).2≠0)with
 | true=>grind
 | false =>
 rw[a,Ar1]at h h2;rw[Ar1];cases c:decide ((GM ev x.V.Slot x.V.Dims).2≠0)with
 | true=>grind
 | false =>
 rw[c,Ar1]at h;rw[Ar1];show(D4 e ev x.V).1=e.Pid;have h:0<=(D4 e ev x.V).1:=h;unfold D4 at h a |-;grind
theorem Th {e:D.Env}{x v:Int}(j:AF e.M)(hs:(Az e.M x).V.Scope≠2)(h:(Ba e x v).2=0):Ft e.M e.S/\Ft e.M (Ba e x v).1/\GU (λi=>i=e.Pid) e.S (Ba e x v).1:=by
 unfold Ba at h |-;cases f:decide (Co e x≠0)with
 | true=>grind
 | false =>
 rw[f,Ar1]at h;rw[Ar1];obtain⟨a,h0,h1⟩:=MN (x:=x) j (by simpa using f);cases k:decide ((B8 e (FX e) (Az e.M x)).2.2≠0)with
 | true=>grind
 | false =>
 rw[Ar1];have b:(B8 e (FX e) (Az e.M x)).2.2=0:=by simpa using k
 have c:=Oj a h0 h1 b;have g:=Eb.1 a.fits;have d:(Az e.M x).Op=2:=by
  unfold B8 at b;grind
 exact⟨g,g.put λhp=>(c.own hp).1,Af3 λhp=>Ah1 hs (Kg ((Akv a h0 h1).var d)).scope hp b⟩
def QN (y x:VV):Prop:=∀(w:World)(E:AP)(v:Value),V w E none y v->∀B,V w ⟨λ_=>False,B,0,[]⟩ none x v
def Kj:List VV->List VV->Prop
 | [],[]=>True
 | y::ys,x::xs=>QN y x/\Kj ys xs
 | _,_=>False
def IM:∀{ys xs:List VV},Kj ys xs->ys.length=xs.length
 | [],[],_=>rfl
 | y::ys,x::xs,h=>by simp[IM h.2]
 | [],_::_,h=>h.elim
 | _::_,[],h=>h.elim
def Hw:∀{ys xs:List VV},Kj ys xs->∀(j:Nat) x,xs[j]?=some x->∃y,ys[j]?=some y/\QN y x
 | y::ys,x::xs,h,0,z,hz=>by simp only[Asq,Ar4]at hz;subst hz;exact⟨y,rfl,h.1⟩
 | y::ys,x::xs,h,j+1,z,hz=>by simpa using Hw h.2 j z (by simpa using hz)
 | [],_::_,h,_,_,_=>h.elim
 | _,[],_,_,_,hz=>by simp at hz
def PP {u:Value}:QN (.sc u) (.sc u):=λw E v h B=>by
 obtain rfl:=h.sc_inv;exact .sc
def PO {b:Bool}{n s:Nat}{f l:Nat->List VV}(c:∀i,i<n->Kj (f i) (l i)):QN (.sl b n s f) (.sl true n s l):=λw E v h B=>by
 obtain⟨a,cap,rfl,h1,h2,h3⟩:=V.sl_inv h;refine At6 h1 h2 λhp=>?_
 obtain⟨g,off,rfl,m,_,o,u,p,hv⟩:=h3 hp;refine⟨g,off,rfl,m,λh=>h,λi hi=>by rw[<- IM (c i hi)];exact o i hi,u,λi j x hi d=>?_,λi j x hi d=>?_⟩
 .obtain⟨y,e,_⟩:=Hw (c i hi) j x d;exact p i j y hi e
 .obtain⟨y,e,k⟩:=Hw (c i hi) j x d;exact k _ _ _ (hv i j y hi e) _
def WG {ys xs:List VV}(b:Kj ys xs):QN (.agg ys) (.agg xs):=λw E v h B=>by
 obtain⟨vs,rfl,h1,h2⟩:=h.agg_inv;refine .agg (h1.trans (IM b)) λj x c=>?_
 obtain⟨y,d,a⟩:=Hw b j x c;exact a _ _ _ (h2 j y d) _
def Sz (r:VV):Prop:=∀(w:World)(E E':AP)(m m':Option Phi)(v:Value),V w E m r v->V w E' m' r v
def Kz {u:Value}:Sz (.sc u):=λw E E' m m' v h=>by
 obtain rfl:=h.sc_inv;exact .sc
def Lv {xs:List VV}(h:∀x∈xs,Sz x):Sz (.tup xs):=λw E E' m m' v hv=>by
 cases hv with
 | tup h1 h2=>exact .tup h1 λj x a=>h x (AsK a) _ _ _ _ _ _ (h2 j x a)
def Ah.thaw {P:Program}{f:FuncId}{xs ys:List VV}{r:VV}(h:Ah P f [] xs [] r)(c:Sz r)(a:Kj ys xs):Ah P f [] ys [] r:=by
 refine Ah.hand h.callable λw E vs l d hB m hs=>?_
 refine(h.start d hB ⟨hs.1.trans (IM a),λj x g=>?_⟩).mono ?_
 .obtain⟨y,i,k⟩:=Hw a j x g;exact k _ _ _ (hs.2 j y i) _
 .rintro e w' ⟨v,rfl,b,hv⟩;exact⟨v,rfl,c _ _ _ _ _ _ hv,b⟩
section
variable {P : Program} {w:World} {E:AP} {φ:Phi} {hs hs' hs1:List Ob} {xs:List VV} {r:VV} {f:FuncId}
def AcY (j:HRel E (Bq hs) φ w)(hφ:∀id,φ id≠none↔id<hs.length)(l:∀k,E.fz k->k<w.heap.size)(sz:Nat)(g:Nat->List VV) :
  HRel E (Bq (hs++[.arr true 0 0 sz g])) (addP φ hs.length [Pl.arr 0 0 none]) w/\Ext w φ w (addP φ hs.length [Pl.arr 0 0 none]) /\
   (∀id,addP φ hs.length [Pl.arr 0 0 none] id≠none↔id<(hs++[Ob.arr true 0 0 sz g]).length)/\addP φ hs.length [Pl.arr 0 0 none] hs.length=some (.arr 0 0 none):=by
 have c:φ hs.length=none:=Ase λm=>by have:=(hφ _).1 m;omega
 have d:Room w [Pl.arr 0 0 none] w:=Room.one (Below.refl _ _) λk h=>by obtain⟨_,n⟩:=h;cases n
 have b:∀i,i<[Ob.arr true 0 0 sz g].length->φ (hs.length+i)=none:=λi hi=>by
  simp only[AsG,AsX,AsI,Nat.lt_one_iff]at hi;subst hi;exact c
 have a:EW w E φ hs.length [Ob.arr true 0 0 sz g] [Pl.arr 0 0 none] w:=EW.one d ⟨rfl,rfl,rfl⟩;have e:addP φ hs.length [Pl.arr 0 0 none] hs.length=some (.arr 0 0 none):=Fh (i:=0) rfl;refine⟨j.news l a b (λk h=>?_) λi o p=>?_,a.ext b,λid=>?_,e⟩
 .have:=(hφ k).1 h;show Bq (hs++_) k=Bq hs k;simp[Bq,Asg this]
 .show Bq (hs++_) (hs.length+i)=o;unfold Bq;rw[Asj,Asy oM,show hs.length+i-hs.length=i by omega,p];rfl
 .simp only[Ar7,AsG,AsX]
  by_cases q:id=hs.length
  .subst q;rw[e];simp
  .rw[Ey (by simp;omega)];rw[hφ id];omega
def Ah.conv {r2:VV}{hs2:List Ob}(h:Ah P f hs xs hs1 r)
  (c:∀(w:World)(E:AP) (φ:Phi) (v:Value),HRel E (Bq hs1) φ w->(∀id,φ id≠none↔id<hs1.length)->(∀k,E.fz k->k<w.heap.size)->V w (E.up φ) (some φ) r v ->
   ∃φ',HRel E (Bq hs2) φ' w/\Ext w φ w φ'/\(∀id,φ' id≠none↔id<hs2.length)/\V w (E.up φ') (some φ') r2 v):Ah P f hs xs hs2 r2:=by
 refine⟨h.callable,λw E φ vs b d hφ a=>(h.call w E φ vs b d hφ a).mono ?_⟩;rintro e w' ⟨v,φ',rfl,h1,h2,h3,h4⟩;obtain⟨φ2,k1,k2,g,i⟩:=c w' E φ' v h1 h3 (λk j=>AsC (b.lt k j) h2.size) h4;exact⟨v,φ2,rfl,k1,h2.trans (Ati k2),g,i⟩
def Ah.ownR {ys:List VV}(h:Ah P f hs xs hs1 (.tup ys))(j:Nat)(c:ys[j]?=some .nl)(sz:Nat)(g:Nat->List VV):Ah P f hs xs (hs1++[.arr true 0 0 sz g]) (.tup (ys.set j (.ow hs1.length 0 0))):=by
 refine h.conv λw E φ v d hφ e hv=>?_
 obtain⟨h1,h2,h3,h4⟩:=AcY d hφ e sz g;refine⟨_,h1,h2,h3,?_⟩;cases hv with
 | tup k1 k2 =>
  refine .tup (by simp[k1]) λi x a=>?_
  rw[Atc]at a;split at a
  .rename_i b;subst b;split at a
   .simp only[Ar4]at a;subst a;rw[(k2 j _ c).nl_inv];exact .ow h4 (Ar6 _) (hd0:=none) ⟨rfl,rfl⟩ λ_=>⟨rfl,Ar6 _⟩
   .cases a
  .exact(k2 i x a).ext h2
def Fr.less {b a:Nat}{w w':World}{φ φ':Phi}(h:Fr b w φ w' φ')(c:a<=b):Fr a w φ w' φ' :=
 ⟨h.os,h.tape,h.output,h.size,h.block,h.new,λid p hi e=>h.kind id p (AsC hi c) e⟩
def Ah.ownB {i j:Nat}{cs:List VV}(hi:hs[i]?=some (.box cs))(u:cs[j]?=some .nl)(sz:Nat)(g:Nat->List VV)
  (h:Ah P f (hs.set i (.box (cs.set j (.ow hs.length 0 0)))++[.arr true 0 0 sz g]) xs hs' r):Ah P f hs xs hs' r:=by
 refine⟨h.callable,λw E φ vs s y hφ l=>?_⟩;obtain⟨h1,h2,h3,h4⟩:=AcY y hφ s.lt sz g;have m:i<hs.length:=(Asa.1 hi).1;refine(h.call w E _ vs (s.ext h2) ⟨h1.sub,λid p e=>?_,h1.inj,h1.free⟩ (λid=>by rw[h3 id];simp) ⟨l.1,λk x a=>(l.2 k x a).ext h2⟩).mono ?_
 .have d:=h1.ob id p e;show ObV w E _ (Bq (hs.set i _++_) id) p
  by_cases t:id=i
  .subst t;have n:Bq (hs++[Ob.arr true 0 0 sz g]) id=.box cs:=by simp[Bq,Asg m,hi]
   have z:Bq (hs.set id (.box (cs.set j (.ow hs.length 0 0)))++[Ob.arr true 0 0 sz g]) id=.box (cs.set j (.ow hs.length 0 0)):=by
    simp[Bq,Asg,m]
   rw[n]at d;rw[z];cases p with
   | arr=>exact d.elim
   | box b =>
    obtain⟨c,ty,k1,k2⟩:=d;refine⟨c,ty,k1,by simp[k2.1],λk x a=>?_⟩;rw[Atc]at a;split at a
    .rename_i o;subst o;split at a
     .simp only[Ar4]at a;subst a;rw[(k2.2 j _ u).nl_inv];exact .ow h4 (Ar6 _) (hd0:=none) ⟨rfl,rfl⟩ λ_=>⟨rfl,Ar6 _⟩
     .cases a
    .exact k2.2 k x a
  .have n:Bq (hs.set i (.box (cs.set j (.ow hs.length 0 0)))++[Ob.arr true 0 0 sz g]) id=Bq (hs++[Ob.arr true 0 0 sz g]) id:=by
    rcases AsL id hs.length with q|q
    .simp[Bq,Asg,q,List.getElem_set_ne (Ne.symm t)]
    .simp[Bq,Asy,q]
   rw[n];exact d
 .rintro e w' ⟨v,φ',rfl,k1,k2,A,B⟩;refine⟨v,φ',rfl,k1,(Ati h2).trans (k2.less sM),A,B⟩
end
def MO (x:Pn):List VV:=[Aa x.pid,Aa x.esc,Aa x.way]
def Gh (l:List Pn):Nat->List VV:=λi=>MO (l.getD i default)
def CW (fz:Bool)(l:List Pn):VV:=.sl fz l.length 3 λi=>MO (l.getD i default)
def BL (x:Ab):List VV:=[Ac x.is,Aa x.err,CW true x.wth]
def G0 (l:List Ab):Nat->List VV:=λi=>BL (l.getD i default)
def Cp (fz:Bool)(l:List Ab):VV:=.sl fz l.length 3 λi=>BL (l.getD i default)
def Bf (x:Wy):List VV:=[Aa x.Esc,Aa x.Way,Aa x.With,Aa x.WithEsc,Aa x.WithWay,Aa x.Err]
def Ks (l:List Wy):Nat->List VV:=λi=>Bf (l.getD i default)
def Br (fz:Bool)(l:List Wy):VV:=.sl fz l.length 6 λi=>Bf (l.getD i default)
def Be (x:D.Env):List VV:=[AH true x.M.Globals,Ad true x.M.Init,AJ true x.M.Shapes,Ad true x.M.Chans,AE true x.M.Procs,Aa x.M.Claim,AS true x.M.Exprs,Ad true x.S.Globals,AL false x.S.Chans,Av false x.S.Procs,Aa x.S.Last,Aa x.S.Alone,Aa x.S.Claim,Aa x.Pid,Ac x.Timeout,Bu true x.Able]
def AqS:Shp:={α:=List Pn,enc:=λy=>([],CW true y)}
def Aq3:Shp:={α:=Ab,enc:=λy=>([],.agg (BL y))}
def Apo:Shp:={α:=List Ab,enc:=λy=>([],Cp true y)}
def AqM:Shp:={α:=Wy,enc:=λy=>([],.agg (Bf y))}
def Ao0:Shp:={α:=List Wy,enc:=λy=>([],Br true y)}
def Apb:Shp:={α:=D.Loc,enc:=λy=>([],.agg (AW y))}
def Al3:Shp:={α:=D.Proc,enc:=λy=>([],.agg (AV y))}
def Ah4:Shp:={α:=D.Trans,enc:=λy=>([],.agg (CA y))}
def Aof:Shp:={α:=Bool×Int,enc:=λy=>([],.tup [Ac y.1,Aa y.2])}
def Ah6:Shp:={α:=Int×List Int×Int,enc:=λy=>([],.tup [Aa y.1,Ad true y.2.1,Aa y.2.2])}
def Aoc:Shp:={α:=List Int×Int,enc:=λy=>([],.tup [Ad true y.1,Aa y.2])}
def AqO:Shp:={α:=List Wy×Int,enc:=λy=>([],.tup [Br true y.1,Aa y.2])}
def Apn:Shp:={α:=List Int×Int,enc:=λy=>([.arr true 0 y.1.length 1 (AO y.1)],.tup [.ow 0 0 y.1.length,Aa y.2])}
def CX (f:FuncId):Shp :=
 bif Nat.beq f 153||Nat.beq f 171||Nat.beq f 234 then SF
 else bif Nat.beq f 149 then Apb
 else bif Nat.beq f 145 then Al3
 else bif Nat.beq f 156 then Ah4
 else bif Nat.beq f 172||Nat.beq f 230||Nat.beq f 231||Nat.beq f 154||Nat.beq f 232 then Q6
 else bif Nat.beq f 175 then Apn
 else bif Nat.beq f 201 then Ah6
 else bif Nat.beq f 214 then Aoc
 else bif Nat.beq f 192 then Aaf
 else bif Nat.beq f 226||Nat.beq f 213 then AqS
 else bif Nat.beq f 147 then Aof
 else bif Nat.beq f 190||Nat.beq f 170||Nat.beq f 191 then Aq3
 else bif Nat.beq f 151 then Apo
 else bif Nat.beq f 146 then AqM
 else bif Nat.beq f 124 then Ao0
 else bif Nat.beq f 152 then AqO
 else DN f
def hsR (e:D.Env)(c:Int)(m:List Int)(out:List Pn):List Ob:=[.box (Ai e),.box [Aa c],.box [Ad true m],.box [.ow 4 0 out.length],.arr true 0 out.length 3 (Gh out)]
def Aqi:VV:=.fn (.func 229) [.bp 0 0,.bp 1 0,.bp 2 0,.bp 3 0]
def shR (e:D.Env)(c:Int)(m:List Int)(f:FuncId):Shp :=
 bif Nat.beq f 229 then{α:=List Pn×Bool,enc:=λy=>(hsR e c m y.1,Ac y.2),lend:=true}
 else bif Nat.beq f 148 then{α:=List Pn,enc:=λy=>(hsR e c m y,.tup []),lend:=true}
 else CX f
def hsW (e:D.Env)(out:List Wy):List Ob:=[.box (Ai e),.box [.ow 2 0 out.length],.arr true 0 out.length 6 (Ks out)]
def Aqh:VV:=.fn (.func 150) [.bp 0 0,.bp 1 0]
def shW (e:D.Env)(f:FuncId):Shp :=
 bif Nat.beq f 150 then{α:=List Wy×Bool,enc:=λy=>(hsW e y.1,Ac y.2),lend:=true}
 else bif Nat.beq f 148 then{α:=List Wy,enc:=λy=>(hsW e y,.tup []),lend:=true}
 else CX f
def Sg:Ann:={keep:=fun
  | [0,1,0,1,1]=>[2,6,11,12,13]
  | _=>[]}
def Sf:Ann:={keep:=fun
  | [0,1,0,1,1,1,1,1,1,1]=>[7,9,10,53,54,55]
  | _=>[]}
def JP:Ann:={keep:=fun
  | [0,1,0,1,1]=>[2,3,6,16,17,18]
  | _=>[]}
def MV:Ann:={keep:=fun
  | [0,1,0,1,1]=>[1,2,3,7,13,14]
  | _=>[]}
def GQ:Ann:={cut:=(λ| [1,1,0,0,1,1,0,0,1,0,1,1,1]=>true | _=>false),keep:=fun
  | [0,1,0,1,1,1]=>[1,2,3,7,8,16,17,18]
  | [0,1,0,1,1,1,1]=>[7,8,40,41,42]
  | [1,1,0,0,1,1,0,0,1,0,1,1,1]=>[1,2,3,7,8,9,16,17,18]
  | _=>[]}
def OO:Ann:={keep:=fun
  | [0,1,0,1]=>[0,1,7,8]
  | _=>[]}
def ON:Ann:={keep:=fun
  | [0,1,0,1]=>[0,3,7,8]
  | _=>[]}
def K4:Ann:={base:=5,keep:=fun
  | [0,1,0,1]=>[1,2,7,8,9]
  | _=>[]}
def K2:Ann:={base:=3,keep:=fun
  | [0,1,0,1]=>[1,2,7,8,9]
  | _=>[]}
def Se:Ann:={base:=5,keep:=fun
  | [0,1,0,1]=>[0,1,2,3,4,5,11,12,13]
  | _=>[]}
def HT:Ann:={base:=3,keep:=fun
  | [0,1,0,1]=>[0,3,14,15,16]
  | [0,1,1,1,1,0,0,1,1,0,0,1,0,1]=>[0,3,9,14,15,16,39,40,41]
  | _=>[]}
def UX (e:D.Env)(l out:List Int)(k:Int):St:=An [(2,.bp 0 0),(6,.ow 1 0 out.length),(11,Ad true l),(12,Aa l.length),(13,Aa k)] [.box (Be e),.arr true 0 out.length 1 (AO out)]
def QW (c:Int)(f:List D.Type)(l:List Int)(k:Int):St:=An [(7,Aa c),(9,AH true f),(10,.ow 0 0 l.length),(53,.ow 0 0 l.length),(54,Aa l.length),(55,Aa k)] [.arr true 0 l.length 1 (AO l)]
def QU (e:D.Env)(s:D.Stmt)(want:List Int)(k:Int):St:=An [(2,.bp 0 0),(3,.bp 1 0),(6,.ow 2 0 want.length),(16,Ad true s.Args),(17,Aa s.Args.length),(18,Aa k)] [.box (Ai e),.box (Ax s),.arr true 0 want.length 1 (AO want)]
def Nc (e:D.Env)(c:Int)(m:List Int)(out:List Pn)(k:Int):St:=An [(1,Aa c),(2,Ad true m),(3,.bp 0 0),(7,.ow 1 0 out.length),(13,Aa e.S.Procs.length),(14,Aa k)] [.box (Ai e),.arr true 0 out.length 3 (Gh out)]
def UW (e:D.Env)(ws:List D.Trans)(self:Bool)(n:Nat)(F:Nat->List VV)(some:Bool)(k:Int):St:=An [(1,Ao true ws),(2,Ac self),(3,.bp 0 0),(7,.ow 1 0 n),(8,Ac some),(16,Ao true ws),(17,Aa ws.length),(18,Aa k)] [.box (Ai e),.arr true 0 n 3 F]
def UV (e:D.Env)(ws:List D.Trans)(self:Bool)(l:List Ab)(some:Bool)(i k:Int):St:=An [(1,Ao true ws),(2,Ac self),(3,.bp 0 0),(7,.ow 1 0 l.length),(8,Ac some),(9,Aa i),(16,Ao true ws),(17,Aa ws.length),(18,Aa k)] [.box (Ai e),.arr true 0 l.length 3 (G0 l)]
def Nd (ws:List D.Trans)(l:List Ab)(some:Bool)(k:Int):St:=An [(7,.ow 0 0 l.length),(8,Ac some),(40,Ao true ws),(41,Aa ws.length),(42,Aa k)] [.arr true 0 l.length 3 (G0 l)]
def PR (l:List Ab)(k:Int):St:=An [(0,Cp true l),(1,.fn (.func 232) []),(7,Aa l.length),(8,Aa k)] []
def PQ (l:List Wy)(w:Wy)(k:Int):St:=An [(0,Br true l),(3,.bp 0 0),(7,Aa l.length),(8,Aa k)] [.box (Bf w)]
def Lm (e:D.Env)(c:Int)(m:List Int)(out:List Pn)(l:D.Loc)(k:Int):St:=An [(1,Aqi),(2,.bp 5 0),(7,Bn true l.Esc),(8,Aa l.Esc.length),(9,Aa k)] (hsR e c m out++[.box (AW l)])
def Ll (e:D.Env)(out:List Wy)(l:D.Loc)(k:Int):St:=An [(1,Aqh),(2,.bp 3 0),(7,Bn true l.Esc),(8,Aa l.Esc.length),(9,Aa k)] (hsW e out++[.box (AW l)])
def QV (e:D.Env)(c:Int)(m:List Int)(out:List Pn)(i:Int)(ws:List D.Trans)(k:Int):St:=An [(0,Aa i),(1,Ao true ws),(2,.bp 0 0),(3,.bp 1 0),(4,.bp 2 0),(5,.bp 3 0),(11,Ao true ws),(12,Aa ws.length),(13,Aa k)] (hsR e c m out)
def Jn (e:D.Env)(out:List Wy)(i:Int)(l:List Ab)(k:Int):St:=An [(0,Aa i),(3,.bp 1 0),(14,Cp true l),(15,Aa l.length),(16,Aa k)] (hsW e out)
def Nb (e:D.Env)(out:List Wy)(i:Int)(l:List Ab)(k:Int)(w:Wy)(ps:List Pn)(j:Int):St:=An [(0,Aa i),(3,.bp 1 0),(9,.bp 3 0),(14,Cp true l),(15,Aa l.length),(16,Aa k),(39,CW true ps),(40,Aa ps.length),(41,Aa j)] (hsW e out++[.box (Bf w)])
def Alz (r:Int)(e:D.Env):(fc CX AI f153 [] (Aa r)).goal (St.init [] [.agg (Ai e)]) =
  (∃(y:Int),VC 74 [VV.agg (Ae e.M),VV.agg (Ag e.S)] (Aa y)/\BB (y != 0) (LQ (Aa y) (Aa r)) (BB (bif decide (e.Pid<0)then true else decide (e.Pid>=(↑e.S.Procs.length:Int))) (LQ (Aa 42) (Aa r)) (LQ (Aa 0) (Aa r)))):=kR
def Ahc (l:D.Loc)(e:D.Env){z1}(a:z1=e.S.Procs.getD e.Pid.toNat default):(fc CX AI f149 [] (.agg (AW l))).goal (St.init [] [.agg (Ai e)]) =
  (inX e.Pid e.S.Procs.length/\inX z1.Type_ e.M.Procs.length/\inX z1.Loc (e.M.Procs.getD z1.Type_.toNat default).Locs.length/\LQ (.agg (AW ((e.M.Procs.getD z1.Type_.toNat default).Locs.getD z1.Loc.toNat default))) (.agg (AW l))):=by subst a;kernel_rfl
def AdC (p:D.Proc)(e:D.Env):(fc CX AI f145 [] (.agg (AV p))).goal (St.init [] [.agg (Ai e)]) =
  (inX e.Pid e.S.Procs.length/\inX (e.S.Procs.getD e.Pid.toNat default).Type_ e.M.Procs.length/\LQ (VV.agg (AV (e.M.Procs.getD (e.S.Procs.getD e.Pid.toNat default).Type_.toNat default))) (VV.agg (AV p))):=kR
def Adx (b:Bool)(m:D.Model)(x:Int):(fc CX AI f172 [] (Ac b)).goal (St.init [] [.agg (Ae m),Aa x]) =
  (((true&&decide (x>=0)==true)=true->inX x m.Exprs.length)/\LQ (Ac (bif decide (x>=0)then(m.Exprs.getD x.toNat default).Op==39 else false)) (Ac b)):=kR
def Ahe (hs':List Ob)(r:VV)(e:D.Env)(l:List Int):(BR prog tb CX Sg false f175 hs' (r)).goal (St.init [] [.agg (Be e),Ad true l]) =
  (AA (BR prog tb CX Sg false f175 hs' r) [1,1,0,1,0] (An [(2,VV.bp 0 0),(6,VV.nl),(11,Ad true l),(12,Aa (↑l.length:Int)),(13,Aa 0)] [Ob.box (Be e)])):=kR
def Ahb (r:Int×List Int×Int)(e:D.Env)(s:D.Stmt){b}(d:b=[Aa r.fst,Ad true r.snd.fst,Aa r.snd.snd]){c}(f:c=λ(y:Int×Int)=>e.S.Chans.getD (i64.wrap (y.fst-(1:Int))).toNat default):(fc CX Sf f201 [] (.tup [Aa r.1,Ad true r.2.1,Aa r.2.2])).goal (St.init [] [.agg (Be e),.agg (Ax s)]) =
  (∃(y:Int×Int),VC 212 [.agg (Be e),Aa s.A] (vII y)/\BB (y.snd != 0) (LQ (.tup [Aa 0,.nl,Aa y.snd]) (.tup b)) (inX (i64.wrap (y.fst-(1:Int))) e.S.Chans.length/\inX (c y).Shape e.M.Shapes.length/\BB ((↑(e.M.Shapes.getD (c y).Shape.toNat default).Fields.length:Int) != (↑s.Args.length:Int)) (LQ (.tup [Aa 0,.nl,Aa 49]) (.tup b)) (∃(a:List Int×Int),Ah prog 175 [] [.agg (Be e),Ad true s.Args] [.arr true 0 a.fst.length 1 (AO a.fst)] (.tup [.ow 0 0 a.fst.length,Aa a.snd])/\BB (a.snd != 0) (LQ (.tup [Aa 0,.nl,Aa a.snd]) (.tup b)) (AA (fc CX Sf f201 [] (.tup b)) [1,1,1,1,1,1,1,0,1,0] (QW y.fst (e.M.Shapes.getD (c y).Shape.toNat default).Fields a.fst (0:Int)))))):=by subst d f;kernel_rfl
def Zc (r:List Int×Int)(e:D.Env)(s:D.Stmt){z1}(a:z1=(↑s.Args.length:Int)){b}(c:b=fc CX JP f214 [] (VV.tup [Ad true r.fst,Aa r.snd])):(fc CX JP f214 [] (.tup [Ad true r.1,Aa r.2])).goal (St.init [] [.agg (Ai e),.agg (Ax s)]) =
  (((0:Int)<=z1/\z1<=z1/\z1*(↑8:Int)<=140737488355328)/\AA b [1,1,0,1,0] (An [(2,.bp 0 0),(3,.bp 1 0),(6,.ow 2 0 z1.toNat),(16,Ad true s.Args),(17,Aa z1),(18,Aa 0)] [.box (Ai e),.box (Ax s),.arr true 0 z1.toNat 1 λ(_:Nat)=>(b.T 2).zero])):=by subst a c;kernel_rfl
def Zt (r:Int×Int×Int)(e:D.Env)(s:D.Stmt){b}(d:b=λ(y:Int×Int)=>i64.wrap (y.fst-(1:Int))):(fc CX AI f192 [] (.tup [Aa r.1,Aa r.2.1,Aa r.2.2])).goal (St.init [] [.agg (Ai e),.agg (Ax s)]) =
  (∃(y:Int×Int),VC 212 [.agg (Ai e),Aa s.A] (vII y)/\BB (y.snd != 0) (LQ (.tup [Aa 0,Aa (-1),Aa y.snd]) (Mj r)) (inX (b y) e.S.Chans.length/\inX (e.S.Chans.getD (b y).toNat default).Shape e.M.Shapes.length/\BB ((↑(e.M.Shapes.getD (e.S.Chans.getD (b y).toNat default).Shape.toNat default).Fields.length:Int) != (↑s.Args.length:Int)) (LQ (.tup [Aa 0,Aa (-1),Aa 49]) (Mj r)) (∃(a:List Int×Int),VC 214 [.agg (Ai e),.agg (Ax s)] (.tup [Ad true a.fst,Aa a.snd])/\BB (a.snd != 0) (LQ (.tup [Aa 0,Aa (-1),Aa a.snd]) (Mj r)) (inX (b y) e.S.Chans.length/\(2:Int)≠(0:Int)/\∃(c:Int),VC 208 [.agg (Ay (e.S.Chans.getD (b y).toNat default)),Ad true a.fst,Ad true s.Match,Ac (s.N.tmod (2:Int)==1)] (Aa c)/\LQ (.tup [Aa y.fst,Aa c,Aa 0]) (Mj r))))):=by subst d;kernel_rfl
def Zd (b:Bool)(e:D.Env)(s:D.Stmt)(c:Int)(m:List Int):(fc CX AI f230 [] (Ac b)).goal (St.init [] [.agg (Ai e),.agg (Ax s),Aa c,Ad true m]) =
  (BB (bif bif s.Kind != 6 then true else decide (s.N > 1)then true else(↑s.Args.length:Int) != (↑m.length:Int)) (LQ (Ac false) (Ac b)) (∃(y:Int×Int),VC 212 [VV.agg (Ai e),Aa s.A] (vII y)/\BB (bif y.snd != 0 then true else y.fst != c) (LQ (Ac false) (Ac b)) (∃(y:List Int×Int),VC 214 [VV.agg (Ai e),VV.agg (Ax s)] (VV.tup [Ad true y.fst,Aa y.snd])/\∃(a:Int),((true&&(y.snd==0)==true)=true->VC 208 [VV.agg [Aa 0,VV.sl true 1 1 λ(i:Nat)=>List.take 1 (List.drop (i*1) [Ad true m])],Ad true y.fst,Ad true s.Match,Ac false] (Aa a))/\LQ (Ac (bif y.snd==0 then a==0 else false)) (Ac b)))):=kR
def Zl (r:List Pn)(e:D.Env)(c:Int)(m:List Int):(fc CX MV f213 [] (CW true r)).goal (St.init [] [.agg (Ai e),Aa c,Ad true m]) =
  (AA (fc CX MV f213 [] (CW true r)) [1,1,0,1,0] (An [(1,Aa c),(2,Ad true m),(3,VV.bp 0 0),(7,VV.nl),(13,Aa (↑e.S.Procs.length:Int)),(14,Aa 0)] [Ob.box (Ai e)])):=kR
def AdB (r:Bool×Int)(e:D.Env):(fc CX AI f147 [] (.tup [Ac r.1,Aa r.2])).goal (St.init [] [.agg (Ai e)]) =
  (∃(y:D.Proc),VC 145 [VV.agg (Ai e)] (VV.agg (AV y))/\BB (decide (y.Provided<0)) (LQ (VV.tup [Ac true,Aa 0]) (VV.tup [Ac r.fst,Aa r.snd])) (∃(a:Int×Int),VC 128 [VV.agg (Ai e),Aa y.Provided] (vII a)/\LQ (VV.tup [Ac (a.fst != 0),Aa a.snd]) (VV.tup [Ac r.fst,Aa r.snd]))):=kR
def Ady (r:Ab)(e:D.Env):(fc CX AI f190 [] (.agg (BL r))).goal (St.init [] [.agg (Ai e)]) =
  (LQ (VV.agg [Ac (decide ((↑e.S.Procs.length:Int)<16)),Aa 0,VV.nl]) (VV.agg (BL r))):=kR
def Adu (r:Ab)(e:D.Env)(s:D.Stmt)(self:Bool){a}(b:a=VV.agg (BL r)){c}(d:c=(∃(y:Ab),VC 190 [VV.agg (Ai e)] (VV.agg (BL y))/\LQ (VV.agg (BL y)) a)){f}(g:f=LQ (VV.agg [Ac true,Aa 0,VV.nl]) a):(fc CX AI f170 [] (.agg (BL r))).goal (St.init [] [.agg (Ai e),.agg (Ax s),Ac self]) =
  (BB (s.Kind==1) (∃(y:Bool),VC 172 [.agg (Ae e.M),Aa s.A] (Ac y)/\BB y c (∃(y:Int×Int),VC 128 [.agg (Ai e),Aa s.A] (vII y)/\LQ (.agg [Ac (bif y.fst != 0 then true else y.snd != 0),Aa y.snd,.nl]) a)) (BB (s.Kind==2) (∃(y:Bool),VC 172 [.agg (Ae e.M),Aa s.B] (Ac y)/\BB y c f) (BB (s.Kind==9) (LQ (.agg [Ac (decide ((↑e.S.Chans.length:Int)<32)),Aa 0,.nl]) a) (BB (s.Kind==5) (∃(y:Ab),VC 191 [.agg (Ai e),.agg (Ax s),Ac self] (.agg (BL y))/\LQ (.agg (BL y)) a) (BB (s.Kind==6) (∃(y:Int×Int×Int),VC 192 [.agg (Ai e),.agg (Ax s)] (Mj y)/\LQ (.agg [Ac (bif decide (y.snd.fst>=0)then true else y.snd.snd != 0),Aa y.snd.snd,.nl]) a) (BB (s.Kind==7) (LQ (.agg [Ac false,Aa 0,.nl]) a) f)))))):=by subst b d g;kernel_rfl
def Zh (r:Ab)(e:D.Env)(s:D.Stmt)(self:Bool){d}(g:d=λ(y:Int×Int)=>e.S.Chans.getD (i64.wrap (y.fst-(1:Int))).toNat default){b}(h:b=VV.agg (BL r)){f}(i:f=λ(y:Int×Int)=>e.M.Shapes.getD (d y).Shape.toNat default):(fc CX AI f191 [] (.agg (BL r))).goal (St.init [] [.agg (Ai e),.agg (Ax s),Ac self]) =
  (∃(y:Int×Int),VC 212 [.agg (Ai e),Aa s.A] (vII y)/\BB (y.snd != 0) (LQ (.agg [Ac true,Aa y.snd,.nl]) b) (inX (i64.wrap (y.fst-(1:Int))) e.S.Chans.length/\inX (d y).Shape e.M.Shapes.length/\BB ((↑(f y).Fields.length:Int) != (↑s.Args.length:Int)) (LQ (.agg [Ac true,Aa 49,.nl]) b) (BB (decide ((f y).Room > 0)) (LQ (.agg [Ac (decide ((↑(d y).Queue.length:Int)<(f y).Room)),Aa 0,.nl]) b) (BB self (LQ (.agg [Ac false,Aa 0,.nl]) b) (∃(a:Int×List Int×Int),VC 201 [.agg (Ai e),.agg (Ax s)] (.tup [Aa a.fst,Ad true a.snd.fst,Aa a.snd.snd])/\BB (a.snd.snd != 0) (LQ (.agg [Ac true,Aa a.snd.snd,.nl]) b) (∃(c:List Pn),VC 213 [.agg (Ai e),Aa y.fst,Ad true a.snd.fst] (CW true c)/\LQ (.agg [Ac (decide ((↑c.length:Int) > 0)),Aa 0,CW true c]) b)))))):=by subst g h i;kernel_rfl
def Ahd (r:List Ab)(e:D.Env)(ws:List D.Trans)(self:Bool){z1}(a:z1=(↑ws.length:Int)){b}(c:b=fc CX GQ f151 [] (Cp true r)):(fc CX GQ f151 [] (Cp true r)).goal (St.init [] [.agg (Ai e),Ao true ws,Ac self]) =
  (((0:Int)<=z1/\z1<=z1/\z1*(↑40:Int)<=140737488355328)/\AA b [1,1,1,0,1,0] (An [(1,Ao true ws),(2,Ac self),(3,.bp 0 0),(7,.ow 1 0 z1.toNat),(8,Ac false),(16,Ao true ws),(17,Aa z1),(18,Aa 0)] [.box (Ai e),.arr true 0 z1.toNat 3 λ(_:Nat)=>(b.T 255).zero])):=by subst a c;kernel_rfl
def AdF (r:Wy)(err:Int):(fc CX AI f146 [] (.agg (Bf r))).goal (St.init [] [Aa err]) =
  (LQ (VV.agg [Aa (-1),Aa (-1),Aa (-1),Aa (-1),Aa (-1),Aa err]) (VV.agg (Bf r))):=kR
def AdU (r:List Wy×Int)(e:D.Env):(fc CX AI f152 [] (.tup [Br true r.1,Aa r.2])).goal (St.init [] [.agg (Ai e)]) =
  (∃(y:Int),VC 153 [VV.agg (Ai e)] (Aa y)/\BB (y != 0) (LQ (VV.tup [VV.nl,Aa y]) (VV.tup [Br true r.fst,Aa r.snd])) (∃(y:List Wy),VC 124 [VV.agg (Ai e)] (Br true y)/\LQ (VV.tup [Br true y,Aa 0]) (VV.tup [Br true r.fst,Aa r.snd]))):=kR
def Ag8 (t:D.Trans)(l:D.Loc)(esc i:Int):(fc CX AI f156 [] (.agg (CA t))).goal (St.init [] [.agg (AW l),Aa esc,Aa i]) =
  (BB (decide (esc<0)) (inX i l.Out.length/\LQ (VV.agg (CA (l.Out.getD i.toNat default))) (VV.agg (CA t))) (inX esc l.Esc.length/\inX i (l.Esc.getD esc.toNat []).length/\LQ (VV.agg (CA ((l.Esc.getD esc.toNat []).getD i.toNat default))) (VV.agg (CA t)))):=kR
def Zw (b:Bool)(l:List Ab):(fc CX AI f231 [] (Ac b)).goal (St.init [] [Cp true l,.fn (.func 232) []]) =
  (∃(y:Int),VC 234 [Cp true l,VV.fn (Fn.func (nat_lit 232)) []] (Aa y)/\LQ (Ac (decide (y>=0))) (Ac b)):=kR
def AdL (r:Int)(l:List Ab):(fc CX OO f234 [] (Aa r)).goal (St.init [] [Cp true l,.fn (.func 232) []]) =
  (AA (fc CX OO f234 [] (Aa r)) [1,0,1,0] (PR l (0:Int))):=kR
def AdJ (b:Bool)(x:Ab):(fc CX AI f232 [] (Ac b)).goal (St.init [] [.agg (BL x)]) =
  (LQ (Ac x.is) (Ac b)):=kR
def Zv (b:Bool)(l:List Wy)(w:Wy):(fc CX AI f154 [] (Ac b)).goal (St.init [] [Br true l,.agg (Bf w)]) =
  (∃(y:Int),VC 171 [Br true l,VV.agg (Bf w)] (Aa y)/\LQ (Ac (decide (y>=0))) (Ac b)):=kR
def AdK (r:Int)(l:List Wy)(w:Wy):(fc CX ON f171 [] (Aa r)).goal (St.init [] [Br true l,.agg (Bf w)]) =
  (AA (fc CX ON f171 [] (Aa r)) [1,0,1,0] (PQ l w (0:Int))):=kR
def Adz (r:List Pn)(e:D.Env)(c:Int)(m:List Int):(BR prog tb (shR e c m) AI true f226 [] (CW true r)).goal (St.init [] [.agg (Ai e),Aa c,Ad true m]) =
  (∃(y:Bool×Int),VC 147 [VV.agg (Ai e)] (VV.tup [Ac y.fst,Aa y.snd])/\BB (bif !y.fst then true else y.snd != 0) (LQ VV.nl (CW true r)) (∃(y:D.Loc),VC 149 [VV.agg (Ai e)] (VV.agg (AW y))/\∃(a:List Pn),Ah prog 148 [Ob.box (Ai e),Ob.box [Aa c],Ob.box [Ad true m],Ob.box [VV.nl]] [VV.agg (AW y),VV.fn (Fn.func (nat_lit 229)) [VV.bp 0 0,VV.bp 1 0,VV.bp 2 0,VV.bp 3 0]] (hsR e c m a) (VV.tup [])/\LQ (CW true a) (CW true r))):=kR
def Wb (r out:List Pn)(e:D.Env)(c:Int)(m:List Int)(l:D.Loc):(BR prog tb (shR e c m) K4 true f148 (hsR e c m r) (.tup [])).goal (St.init (hsR e c m out) [.agg (AW l),Aqi]) =
  (AA (fc (shR e c m) K4 f148 (hsR e c m r) (VV.tup [])) [1,0,1,0] (Lm e c m out l (0:Int))):=kR
def V9 (r out:List Wy)(e:D.Env)(l:D.Loc):(BR prog tb (shW e) K2 true f148 (hsW e r) (.tup [])).goal (St.init (hsW e out) [.agg (AW l),Aqh]) =
  (AA (fc (shW e) K2 f148 (hsW e r) (VV.tup [])) [1,0,1,0] (Ll e out l (0:Int))):=kR
def Ag9 (r out:List Pn)(b:Bool)(e:D.Env)(c:Int)(m:List Int)(i:Int)(ws:List D.Trans):(fc CX Se f229 (hsR e c m r) (Ac b)).goal (St.init (hsR e c m out) [Aa i,Ao true ws,.bp 0 0,.bp 1 0,.bp 2 0,.bp 3 0]) =
  (AA (fc CX Se f229 (hsR e c m r) (Ac b)) [1,0,1,0] (QV e c m out i ws (0:Int))):=kR
def Aha (r out:List Wy)(b:Bool)(e:D.Env)(i:Int)(ws:List D.Trans):(fc CX HT f150 (hsW e r) (Ac b)).goal (St.init (hsW e out) [Aa i,Ao true ws,.bp 0 0,.bp 1 0]) =
  (∃(y:List Ab),VC 151 [VV.agg (Ai e),Ao true ws,Ac false] (Cp true y)/\AA (fc CX HT f150 (hsW e r) (Ac b)) [1,0,1,0] (Jn e out i y (0:Int))):=kR
def Zk (r:List Wy)(e:D.Env){b}(c:b=Br true r):(BR prog tb (shW e) AI true f124 [] (Br true r)).goal (St.init [] [.agg (Ai e)]) =
  (inX e.Pid e.S.Procs.length/\∃(y:D.Proc),VC 145 [.agg (Ai e)] (.agg (AV y))/\BB ((e.S.Procs.getD e.Pid.toNat default).Loc==y.Final) (BB (e.Pid==i64.wrap ((↑e.S.Procs.length:Int)-(1:Int))) (∃(y:Wy),VC 146 [Aa 0] (.agg (Bf y))/\LQ (.sl true 1 6 λ(i:Nat)=>List.take 6 (List.drop (i*6) (Bf y))) b) (LQ .nl b)) (∃(y:Bool×Int),VC 147 [.agg (Ai e)] (.tup [Ac y.fst,Aa y.snd])/\BB (y.snd != 0) (∃(a:Wy),VC 146 [Aa y.snd] (.agg (Bf a))/\LQ (.sl true 1 6 λ(i:Nat)=>List.take 6 (List.drop (i*6) (Bf a))) b) (BB (!y.fst) (LQ .nl b) (∃(y:D.Loc),VC 149 [.agg (Ai e)] (.agg (AW y))/\∃(a:List Wy),Ah prog 148 [.box (Ai e),.box [.nl]] [.agg (AW y),.fn (Fn.func (nat_lit 150)) [.bp 0 0,.bp 1 0]] (hsW e a) (.tup [])/\LQ (Br true a) b)))):=by subst c;kernel_rfl
def AdS (hs':List Ob)(r:VV)(e:D.Env)(l out:List Int)(k:Int)(J:St->Prop):((BR prog tb CX Sg false f175 hs' (r)).loop [1,1,0,1,0] J).goal (UX e l out k) =
  (BB (decide (k<(↑l.length:Int))) (inX k l.length/\∃(y:Int×Int),VC 128 [VV.agg (Be e),Aa (l.getD k.toNat 0)] (vII y)/\BB (y.snd != 0) (leO [] hs'/\(VV.tup [VV.nl,Aa y.snd]).le r) ((out.length+1)*8<=140737488355328/\J (An [(2,VV.bp 0 0),(6,VV.ow 1 0 (out.length+1)),(11,Ad true l),(12,Aa (↑l.length:Int)),(13,Aa (i64.wrap (k+(1:Int))))] [Ob.box (Be e),Ob.arr true 0 (out.length+1) 1 λ(i:Nat)=>bif i.blt out.length then[Aa (out.getD i 0)]else(λ(i:Nat)=>List.take 1 (List.drop (i*1) [Aa y.fst])) (i-out.length)]))) (leO [Ob.arr true 0 out.length 1 (AO out)] hs'/\(VV.tup [VV.ow 0 0 out.length,Aa 0]).le r)):=kR
def AdH (r:Int×List Int×Int)(c:Int)(f:List D.Type)(l:List Int)(k:Int)(J:St->Prop):((fc CX Sf f201 [] (.tup [Aa r.1,Ad true r.2.1,Aa r.2.2])).loop [1,1,1,1,1,1,1,0,1,0] J).goal (QW c f l k) =
  (BB (decide (k<(↑l.length:Int))) (inX k l.length/\inX k f.length/\∃(y:Int),VC 47 [VV.agg (De (f.getD k.toNat default)),Aa (l.getD k.toNat 0)] (Aa y)/\inX k l.length/\J (An [(7,Aa c),(9,AH true f),(10,VV.ow 0 0 l.length),(53,VV.ow 0 0 l.length),(54,Aa (↑l.length:Int)),(55,Aa (i64.wrap (k+(1:Int))))] [Ob.arr true 0 l.length 1 λ(j:Nat)=>bif j.beq k.toNat then[Aa y]else[Aa (l.getD j 0)]])) (LQ (VV.tup [Aa c,Ad true l,Aa 0]) (VV.tup [Aa r.fst,Ad true r.snd.fst,Aa r.snd.snd]))):=kR
def V2 (r:List Int×Int)(e:D.Env)(s:D.Stmt)(want:List Int)(k:Int)(J:St->Prop):((fc CX JP f214 [] (.tup [Ad true r.1,Aa r.2])).loop [1,1,0,1,0] J).goal (QU e s want k) =
  (BB (decide (k<(↑s.Args.length:Int))) (inX k s.Args.length/\inX k s.Match.length/\BB (s.Match.getD k.toNat 0 != 1) (J (QU e s want (i64.wrap (k+(1:Int))))) (∃(y:Int×Int),VC 128 [VV.agg (Ai e),Aa (s.Args.getD k.toNat 0)] (vII y)/\BB (y.snd != 0) (LQ (VV.tup [VV.nl,Aa y.snd]) (VV.tup [Ad true r.fst,Aa r.snd])) (inX k want.length/\J (An [(2,VV.bp 0 0),(3,VV.bp 1 0),(6,VV.ow 2 0 want.length),(16,Ad true s.Args),(17,Aa (↑s.Args.length:Int)),(18,Aa (i64.wrap (k+(1:Int))))] [Ob.box (Ai e),Ob.box (Ax s),Ob.arr true 0 want.length 1 λ(j:Nat)=>bif j.beq k.toNat then[Aa y.fst]else[Aa (want.getD j 0)]])))) (LQ (VV.tup [Ad true want,Aa 0]) (VV.tup [Ad true r.fst,Aa r.snd]))):=kR
def V8 (r:List Pn)(e:D.Env)(c:Int)(m:List Int)(out:List Pn)(k:Int)(J:St->Prop):((fc CX MV f213 [] (CW true r)).loop [1,1,0,1,0] J).goal (Nc e c m out k) =
  (BB (decide (k<(↑e.S.Procs.length:Int))) (BB (k != e.Pid) (∃(y:List Pn),VC 226 [VV.agg [AH true e.M.Globals,Ad true e.M.Init,AJ true e.M.Shapes,Ad true e.M.Chans,AE true e.M.Procs,Aa e.M.Claim,AS true e.M.Exprs,Ad true e.S.Globals,AL true e.S.Chans,Av true e.S.Procs,Aa e.S.Last,Aa e.S.Alone,Aa e.S.Claim,Aa k,Ac e.Timeout,Bu true e.Able],Aa c,Ad true m] (CW true y)/\(out.length+y.length)*24<=140737488355328/\(∀(i:Nat),i<y.length->(Gh y i).all VV.mem1=true)/\J (An [(1,Aa c),(2,Ad true m),(3,VV.bp 0 0),(7,VV.ow 1 0 (out.length+y.length)),(13,Aa (↑e.S.Procs.length:Int)),(14,Aa (i64.wrap (k+(1:Int))))] [Ob.box (Ai e),Ob.arr true 0 (out.length+y.length) 3 λ(i:Nat)=>bif i.blt out.length then Gh out i else Gh y (i-out.length)])) (J (Nc e c m out (i64.wrap (k+(1:Int)))))) (LQ (CW true out) (CW true r))):=kR
def AdR (r:List Ab)(e:D.Env)(ws:List D.Trans)(self:Bool)(n:Nat)(F:Nat->List VV)(some:Bool)(k:Int)(J:St->Prop){a}(b:a=fc CX GQ f151 [] (Cp true r)):((fc CX GQ f151 [] (Cp true r)).loop [1,1,1,0,1,0] J).goal (UW e ws self n F some k) =
  (BB (decide (k<(↑ws.length:Int))) (inX k ws.length/\∃(y:Ab),VC 170 [.agg (Ai e),.agg (Ax (ws.getD k.toNat default).S),Ac self] (.agg (BL y))/\inX k n/\AA (a.loop [1,1,1,0,1,0] J) [1,1,0,0,1,1] (An [(1,Ao true ws),(2,Ac self),(3,.bp 0 0),(7,.ow 1 0 n),(8,Ac some),(9,Aa k),(16,Ao true ws),(17,Aa (↑ws.length:Int)),(18,Aa k)] [.box (Ai e),.arr true 0 n 3 λ(j:Nat)=>bif j.beq k.toNat then BL y else F j])) (AA a [1,1,1,1,0,1,0] (An [(7,.ow 0 0 n),(8,Ac some),(40,Ao true ws),(41,Aa (↑ws.length:Int)),(42,Aa 0)] [.arr true 0 n 3 F]))):=by subst b;kernel_rfl
def AdP (r:List Ab)(e:D.Env)(ws:List D.Trans)(self:Bool)(l:List Ab)(some:Bool)(i k:Int)(J:St->Prop):(((fc CX GQ f151 [] (Cp true r)).loop [1,1,1,0,1,0] J).cut [1,1,0,0,1,1]).goal (UV e ws self l some i k) =
  (((true&&some==false)=true->inX i l.length)/\J (An [(1,Ao true ws),(2,Ac self),(3,VV.bp 0 0),(7,VV.ow 1 0 l.length),(8,Ac (bif some then true else(l.getD i.toNat default).is)),(16,Ao true ws),(17,Aa (↑ws.length:Int)),(18,Aa (i64.wrap (k+(1:Int))))] [Ob.box (Ai e),Ob.arr true 0 l.length 3 (G0 l)])):=kR
def AdQ (r:List Ab)(ws:List D.Trans)(l:List Ab)(some:Bool)(k:Int)(J:St->Prop):((fc CX GQ f151 [] (Cp true r)).loop [1,1,1,1,0,1,0] J).goal (Nd ws l some k) =
  (BB (decide (k<(↑ws.length:Int))) (inX k ws.length/\BB (bif(ws.getD k.toNat default).S.Kind==7 then !some else false) (inX k l.length/\J (An [(7,VV.ow 0 0 l.length),(8,Ac some),(40,Ao true ws),(41,Aa (↑ws.length:Int)),(42,Aa (i64.wrap (k+(1:Int))))] [Ob.arr true 0 l.length 3 λ(j:Nat)=>bif j.beq k.toNat then[Ac true,Aa (l.getD k.toNat default).err,CW true (l.getD k.toNat default).wth]else BL (l.getD j default)])) (J (Nd ws l some (i64.wrap (k+(1:Int)))))) (LQ (Cp true l) (Cp true r))):=kR
def Zr (r:Int)(l:List Ab)(k:Int)(J:St->Prop):((fc CX OO f234 [] (Aa r)).loop [1,0,1,0] J).goal (PR l k) =
  (BB (decide (k<(↑l.length:Int))) (inX k l.length/\∃(y:Bool),VC 232 [VV.agg (BL (l.getD k.toNat default))] (Ac y)/\BB y (LQ (Aa k) (Aa r)) (J (PR l (i64.wrap (k+(1:Int)))))) (LQ (Aa (-1)) (Aa r))):=kR
def Zp (r:Int)(l:List Wy)(w:Wy)(k:Int)(J:St->Prop){z1}(a:z1=l.getD k.toNat default):((fc CX ON f171 [] (Aa r)).loop [1,0,1,0] J).goal (PQ l w k) =
  (BB (decide (k<(↑l.length:Int))) (inX k l.length/\BB (w.Esc==z1.Esc&&(w.Way==z1.Way&&(w.With==z1.With&&(w.WithEsc==z1.WithEsc&&(w.WithWay==z1.WithWay&&(w.Err==z1.Err&&true)))))) (LQ (Aa k) (Aa r)) (J (PQ l w (i64.wrap (k+(1:Int)))))) (LQ (Aa (-1)) (Aa r))):=by subst a;kernel_rfl
def UG (r:List Pn)(e:D.Env)(c:Int)(m:List Int)(out:List Pn)(l:D.Loc)(k:Int)(J:St->Prop):((BR prog tb (shR e c m) K4 true f148 (hsR e c m r) (.tup [])).loop [1,0,1,0] J).goal (Lm e c m out l k) =
  (BB (decide (k<(↑l.Esc.length:Int))) (inX k l.Esc.length/\∃(y:List Pn×Bool),Ah prog 229 (hsR e c m out) [Aa k,Ao true (l.Esc.getD k.toNat []),VV.bp 0 0,VV.bp 1 0,VV.bp 2 0,VV.bp 3 0] (hsR e c m y.fst) (Ac y.snd)/\BB y.snd (leO (hsR e c m y.fst) (hsR e c m r)/\(VV.tup []).le (VV.tup [])) (J (Lm e c m y.fst l (i64.wrap (k+(1:Int)))))) (∃(y:List Pn×Bool),Ah prog 229 (hsR e c m out) [Aa (-1),Ao true l.Out,VV.bp 0 0,VV.bp 1 0,VV.bp 2 0,VV.bp 3 0] (hsR e c m y.fst) (Ac y.snd)/\leO (hsR e c m y.fst) (hsR e c m r)/\(VV.tup []).le (VV.tup []))):=kR
def UE (r:List Wy)(e:D.Env)(out:List Wy)(l:D.Loc)(k:Int)(J:St->Prop):((BR prog tb (shW e) K2 true f148 (hsW e r) (.tup [])).loop [1,0,1,0] J).goal (Ll e out l k) =
  (BB (decide (k<(↑l.Esc.length:Int))) (inX k l.Esc.length/\∃(y:List Wy×Bool),Ah prog 150 (hsW e out) [Aa k,Ao true (l.Esc.getD k.toNat []),VV.bp 0 0,VV.bp 1 0] (hsW e y.fst) (Ac y.snd)/\BB y.snd (leO (hsW e y.fst) (hsW e r)/\(VV.tup []).le (VV.tup [])) (J (Ll e y.fst l (i64.wrap (k+(1:Int)))))) (∃(y:List Wy×Bool),Ah prog 150 (hsW e out) [Aa (-1),Ao true l.Out,VV.bp 0 0,VV.bp 1 0] (hsW e y.fst) (Ac y.snd)/\leO (hsW e y.fst) (hsW e r)/\(VV.tup []).le (VV.tup []))):=kR
def AdA (r:List Pn)(b:Bool)(e:D.Env)(c:Int)(m:List Int)(out:List Pn)(i:Int)(ws:List D.Trans)(k:Int)(J:St->Prop){d}(f:d=(true&&decide ((↑out.length:Int) > 0)==false)):((fc CX Se f229 (hsR e c m r) (Ac b)).loop [1,0,1,0] J).goal (QV e c m out i ws k) =
  (BB (decide (k<(↑ws.length:Int))) (inX k ws.length/\∃(y:Bool),VC 230 [.agg (Ai e),.agg (Ax (ws.getD k.toNat default).S),Aa c,Ad true m] (Ac y)/\BB y ((out.length+1)*24<=140737488355328/\J (An [(0,Aa i),(1,Ao true ws),(2,.bp 0 0),(3,.bp 1 0),(4,.bp 2 0),(5,.bp 3 0),(11,Ao true ws),(12,Aa (↑ws.length:Int)),(13,Aa (i64.wrap (k+(1:Int))))] [.box (Ai e),.box [Aa c],.box [Ad true m],.box [.ow 4 0 (out.length+1)],.arr true 0 (out.length+1) 3 λ(i_1:Nat)=>bif i_1.blt out.length then MO (out.getD i_1 default)else(λ(i_2:Nat)=>List.take 3 (List.drop (i_2*3) [Aa e.Pid,Aa i,Aa k])) (i_1-out.length)])) (J (QV e c m out i ws (i64.wrap (k+(1:Int)))))) (∃(y:List Ab),(d=true->VC 151 [.agg (Ai e),Ao true ws,Ac true] (Cp true y))/\∃(a:Bool),(d=true->VC 231 [Cp true y,.fn (Fn.func (nat_lit 232)) []] (Ac a))/\leO (hsR e c m out) (hsR e c m r)/\(Ac (bif decide ((↑out.length:Int) > 0)then true else a)).le (Ac b))):=by subst f;kernel_rfl
def AdE (r:List Wy)(b:Bool)(e:D.Env)(out:List Wy)(i:Int)(l:List Ab)(k:Int)(J:St->Prop){c}(d:c=[(0,Aa i),(3,VV.bp 1 0),(9,VV.bp 3 0),(14,Cp true l),(15,Aa (↑l.length:Int)),(16,Aa k),(39,CW true (l.getD k.toNat default).wth),(40,Aa (↑(l.getD k.toNat default).wth.length:Int)),(41,Aa 0)]){a}(f:a=[Aa i,Aa k,Aa (-1),Aa (-1),Aa (-1),Aa (l.getD k.toNat default).err]){g}(h:g=(fc CX HT f150 (hsW e r) (Ac b)).loop [1,0,1,0] J):((fc CX HT f150 (hsW e r) (Ac b)).loop [1,0,1,0] J).goal (Jn e out i l k) =
  (BB (decide (k<(↑l.length:Int))) (inX k l.length/\BB (bif(l.getD k.toNat default).is then(↑(l.getD k.toNat default).wth.length:Int)==0 else false) ((out.length+1)*48<=140737488355328/\AA g [1,1,0,0,1,1,1,1,0] (An c [.box (Ai e),.box [.ow 2 0 (out.length+1)],.arr true 0 (out.length+1) 6 λ(i_1:Nat)=>bif i_1.blt out.length then Bf (out.getD i_1 default)else(λ(i_2:Nat)=>List.take 6 (List.drop (i_2*6) a)) (i_1-out.length),.box a])) (AA g [1,1,0,0,1,1,1,1,0] (An c [.box (Ai e),.box [.ow 2 0 out.length],.arr true 0 out.length 6 (Ks out),.box a]))) (leO (hsW e out) (hsW e r)/\(Ac (decide ((↑out.length:Int) > 0))).le (Ac b))):=by subst d f h;kernel_rfl
def AdD (r:List Wy)(b:Bool)(e:D.Env)(out:List Wy)(i:Int)(l:List Ab)(k:Int)(w:Wy)(ps:List Pn)(j:Int)(J J2:St->Prop){a}(c:a=[Aa w.Esc,Aa w.Way,Aa (ps.getD j.toNat default).pid,Aa (ps.getD j.toNat default).esc,Aa (ps.getD j.toNat default).way,Aa w.Err]):(((fc CX HT f150 (hsW e r) (Ac b)).loop [1,0,1,0] J).loop [1,1,0,0,1,1,1,1,0] J2).goal (Nb e out i l k w ps j) =
  (BB (decide (j<(↑ps.length:Int))) (inX j ps.length/\(out.length+1)*48<=140737488355328/\J2 (An [(0,Aa i),(3,.bp 1 0),(9,.bp 3 0),(14,Cp true l),(15,Aa (↑l.length:Int)),(16,Aa k),(39,CW true ps),(40,Aa (↑ps.length:Int)),(41,Aa (i64.wrap (j+(1:Int))))] [.box (Ai e),.box [.ow 2 0 (out.length+1)],.arr true 0 (out.length+1) 6 λ(i:Nat)=>bif i.blt out.length then Bf (out.getD i default)else(λ(i:Nat)=>List.take 6 (List.drop (i*6) a)) (i-out.length),.box a])) (J (Jn e out i l (i64.wrap (k+(1:Int)))))):=by subst c;kernel_rfl
end Go.Proofs.YtddhibmbpmcnpaaGreatDoor
namespace Go.Proofs.YtddhibmbpmcnpaaGreatDoor
open Go.RowKit Go.Proofs.Tryz
open IntKind(i64)
structure CZ (e:D.Env):Prop where
 ok:Cq e
 p0:0<=e.Pid
section
variable {e : D.Env}
def Agn (b:AF e.M)(h:F5 e=0):CZ e:=by
 unfold F5 at h;cases a:decide (BH e.M e.S≠0)with
 | true=>grind
 | false =>
  rw[a,Ar1]at h;obtain⟨h1,h2⟩:=MQ (show BH e.M e.S=0 by simpa using a);cases c:(decide (e.Pid<0)||decide ((e.S.Procs.length:Int)<=e.Pid))with
  | true=>grind
  | false =>
   simp only[Ass,AsF]at c;exact⟨⟨h2,h1,b,oM,oM⟩,oM⟩
def CZ.small (h:CZ e):BO e.S:=h.ok.fit.small
def CZ.lt (h:CZ e):e.Pid.toNat<e.S.Procs.length:=by have:=h.ok.pid;have:=h.p0;omega
def CZ.mem (h:CZ e):EK e e.Pid∈e.S.Procs:=As h.lt
def CZ.facts (h:CZ e):(0<=(EK e e.Pid).Type_/\(EK e e.Pid).Type_<e.M.Procs.length)/\(0<=(EK e e.Pid).Loc/\(EK e e.Pid).Loc<(D8 e).Locs.length) :=
 let hp:=D0 (h.ok.proc h.mem);⟨hp.1,hp.2.1⟩
def CZ.wproc (h:CZ e):Hk (D8 e):=h.ok.wf.Procs.2 _ (As (by have:=h.facts.1;omega))
def CZ.wloc (h:CZ e):GV (DJ e):=h.wproc.Locs.2 _ (As (by have:=h.facts.2;omega))
def Wg (a:AF e.M)(hs:BO e.S):Ah prog 153 [] [.agg (Ai e)] [] (Aa (F5 e)):=by
 refine Ap func153 (Alz _ e) ⟨_,DS a hs (λh=>(CI h).clp),λh=>Bp (ct (by simpa using h) rfl),λh=>⟨λh1=>Bp (cf (by simpa using h) (ct ?_ rfl)),λh1=>Bp (cf (by simpa using h) (cf ?_ rfl))⟩⟩
 .grind
 grind
def Ld (h:CZ e):Ah prog 149 [] [.agg (Ai e)] [] (.agg (AW (DJ e))) :=
 Ap func149 (Ahc _ e rfl) ⟨⟨h.p0,h.ok.pid.2⟩,h.facts.1,h.facts.2,trivial,lR⟩
def Qo (h:CZ e):Ah prog 145 [] [.agg (Ai e)] [] (.agg (AV (D8 e))) :=
 Ap func145 (AdC _ e) ⟨⟨h.p0,h.ok.pid.2⟩,h.facts.1,trivial,lR⟩
def Jf {x:Int}(h:0<=x->x<e.M.Exprs.length):Ah prog 172 [] [.agg (Ae e.M),Aa x] [] (Ac (DD e x)):=by
 refine Ap func172 (Adx _ e.M x) ⟨λa=>?_,AB ?_⟩
 .grind
 .unfold DD Az;rw[B3,ieq]
def Qm:Ah prog 190 [] [.agg (Ai e)] [] (.agg (BL (Pk e))):=by
 refine Ap func190 (Ady _ e) ⟨trivial,As9 ⟨As3 ?_,lR,AsB,trivial⟩⟩;have:decide ((e.S.Procs.length:Int)<16)=decide (e.S.Procs.length<16):=gD
 rw[this]<;>rfl
def Qp {err:Int}:Ah prog 146 [] [Aa err] [] (.agg (Bf (L5 err))) :=
 Ap func146 (AdF _ err) ⟨trivial,lR⟩
def Adt {l:D.Loc}{esc i:Int}(h1:esc<0->0<=i/\i<l.Out.length)(h2:0<=esc->esc<l.Esc.length/\0<=i/\i<(l.Esc.getD esc.toNat []).length) :
  Ah prog 156 [] [.agg (AW l),Aa esc,Aa i] [] (.agg (CA ((bif decide (esc<0)then l.Out else l.Esc.getD esc.toNat []).getD i.toNat default))):=by
 refine Ap func156 (Ag8 _ l esc i) ⟨λh=>⟨h1 (by simpa using h),trivial,?_⟩,λh=>?_⟩
 .rw[h,Ar3];exact lR
 .have h0:0<=esc:=by simpa using h
  refine⟨⟨h0,(h2 h0).1⟩,(h2 h0).2,trivial,?_⟩;rw[h,Ar1];exact lR
def O0 {ev:Evl}{out:List Int}{x:Int}{l:List Int}:J6 ev out (x::l)=bif decide ((ev x).2≠0)then([],(ev x).2)else J6 ev (out++[(ev x).1]) l:=rfl
def Wh {l:List Int}{hs':List Ob}{r:VV}(c:∀x∈l,Ah prog 128 [] [.agg (Be e),Aa x] [] (vII (Bh e x)))(q:l.length<=1048576)
  (h1:∀er,B4 e l=([],er)->er≠0->leO [] hs'/\VV.le (.tup [.nl,Aa er]) r) (h2:∀out,B4 e l=(out,0)->leO [.arr true 0 out.length 1 (AO out)] hs'/\VV.le (.tup [.ow 0 0 out.length,Aa 0]) r) :
  Ah prog 175 [] [.agg (Be e),Ad true l] hs' r:=by
 refine Ap func175 (Ahe hs' r e l) ?_;refine AA.own 1 6 1 (AO []) rfl ?_;change AA _ _ (UX e l [] 0);refine Aq (λg st=>∃(k:Nat)(out:List Int),k<=l.length/\g=l.length-k/\out.length<=k/\J6 (Bh e) out (l.drop k)=B4 e l/\st=UX e l out k) ⟨_,Up.of ⟨0,[],Ar9 _,rfl,Ar9 _,rfl,rfl⟩⟩ ?_;rintro g st ⟨k,out,s,rfl,t,h,rfl⟩;refine Asm (AdS hs' r e l out k _) ⟨λj=>?_,λm=>?_⟩
 .have a:k<l.length:=by have:=A0 j;omega
  have o:(k:Int).toNat=k:=oM
  rw[o];rw[A9 (d:=0) a,O0]at h;refine⟨⟨oM,oM⟩,Bh e (l.getD k 0),c _ (As a),λp=>?_,λp=>⟨oM,l.length-(k+1),oM,Up.mk (hs':=[.box (Be e),.arr true 0 (out.length+1) 1 (AO (out++[(Bh e (l.getD k 0)).1]))]) (AR _) ⟨Ob.le_refl _,Asw λi hi=>AN (BW (f:=λn=>[Aa n]) (d:=0) (l:=out) (r:=[(Bh e (l.getD k 0)).1]) (F:=λi=>[.sc (.int .i64 (out.getD i 0))]) (λ_ _=>rfl) Ib (by simp;omega)),trivial⟩ ⟨k+1,out++[(Bh e (l.getD k 0)).1],oM,rfl,by simp;omega,?_,?_⟩⟩⟩
  .grind
  .grind
  .rw[Al oM];unfold UX;simp_all
 .have b:l.length<=k:=by have:=A1 m;omega
  rw[Asr b]at h;exact h2 out h.symm
def N7 {l:List Int}(a:∀x∈l,Ah prog 128 [] [.agg (Be e),Aa x] [] (vII (Bh e x)))(d:l.length<=1048576) :
  Ah prog 175 [] [.agg (Be e),Ad true l] [.arr true 0 (B4 e l).1.length 1 (AO (B4 e l).1)] (.tup [.ow 0 0 (B4 e l).1.length,Aa (B4 e l).2]):=by
 rcases c:B4 e l with⟨out,er⟩
 by_cases f:er=0
 .subst f;refine Wh a d (λer' h g=>?_) λout' h=>?_
  .grind
  .rw[c]at h;obtain rfl:out=out':=congrArg Prod.fst h;exact⟨⟨Ob.le_refl _,trivial⟩,lR⟩
 .have b:out=[]:=by
   have key:∀(l:List Int)(o:List Int),(J6 (Bh e) o l).2≠0->(J6 (Bh e) o l).1=[]:=by
    intro l
    induction l with
    | nil=>intro o h;exact absurd rfl h
    | cons x l ih =>
     intro o h;rw[O0]at h |-;grind
   have:=key l [] (by have:J6 (Bh e) [] l=(out,er):=c;rw[this];exact f);have i:J6 (Bh e) [] l=(out,er):=c;rw[i]at this;exact this
  subst b;have h:=Wh (hs':=[]) (r:=.tup [.nl,Aa er]) a d (λer' h g=>?_) λout' h=>?_
  .exact h.ownR 0 rfl 1 (AO [])
  .rw[c]at h;obtain rfl:er=er':=congrArg Prod.snd h;exact⟨trivial,lR⟩
  grind
end
def Bg {x:VV}(a:x.mem=true):QN x x:=λ_ E _ h B =>
 (h.mem (E':=⟨E.fz,B,0,[]⟩) (m':=none) a rfl).less (λ_ h=>h.elim) λ_ h=>h
def IL:∀{l:List VV},l.all VV.mem=true->Kj l l
 | [],_=>trivial
 | x::l,h=>by
  simp only[AtA,Ar2]at h;exact⟨Bg h.1,IL h.2⟩
def M9 {e:D.Env}:QN (.agg (Be e)) (.agg (Ai e)) :=
 WG ⟨Bg rfl,Bg rfl,Bg rfl,Bg rfl,Bg rfl,Bg rfl,Bg rfl,Bg rfl,PO λ_ _=>IL rfl,PO λ_ _=>IL rfl,Bg rfl,Bg rfl,Bg rfl,Bg rfl,Bg rfl,Bg rfl,trivial⟩
theorem Ano {e:D.Env}:leS (.agg (Ai e)) (.agg (Be e)):=by
 refine Vz rfl λj x y a c=>?_
 rcases AsL j 16 with b|b
 .rcases(show j=0\/j=1\/j=2\/j=3\/j=4\/j=5\/j=6\/j=7\/j=8\/j=9\/j=10\/j=11\/j=12\/j=13\/j=14\/j=15 by omega)with rfl|rfl|rfl|rfl|rfl|rfl|rfl|rfl|rfl|rfl|rfl|rfl|rfl|rfl|rfl|rfl <;>
   (obtain rfl:=Aso a;obtain rfl:=Aso c;first | exact DV _ | exact KI)
 .rw[AsS (by show(16:Nat)<=j;exact b)]at a;cases a
section
variable {e : D.Env}
def R2 (b:AF e.M)(hs:BO e.S)(x:Int):Ah prog 128 [] [.agg (Be e),Aa x] [] (vII (Bh e x)) :=
 (HO b hs x).thaw (Lv λx a=>by
  simp only[AsN,List.not_mem_nil,or_false]at a;rcases a with rfl|rfl<;>exact Kz) ⟨M9,PP,trivial⟩
def Aqe (b:AF e.M)(hs:BO e.S)(x:Int):Ah prog 212 [] [.agg (Be e),Aa x] [] (vII (AT e x)) :=
 (JF b hs x).thaw (Lv λx a=>by
  simp only[AsN,List.not_mem_nil,or_false]at a;rcases a with rfl|rfl<;>exact Kz) ⟨M9,PP,trivial⟩
def KP (t:D.Type)(v:Int):Ah prog 47 [] [.agg (De t),Aa v] [] (Aa (I4 t v)):=by
 refine Ah.hand ⟨_,func47,rfl,kR⟩ λw E vs g h hB _ c=>?_
 obtain⟨i,us1,rfl,d,c⟩:=c.cons_inv;obtain⟨j,us2,rfl,v2,c⟩:=c.cons_inv;obtain rfl:=c.nil_inv;obtain⟨a,b,rfl,va,vb⟩:=d.agg2_inv;rw[va.sc_inv,vb.sc_inv,v2.sc_inv];refine(ArM t.Bits v t.Signed w).mono ?_;rintro r w' ⟨rfl,f⟩;exact⟨_,rfl,.sc,f⟩
structure An5 (e:D.Env) (n:Int):Prop where
 ok:Cq e
 lo:1<=n
 hi:n<=e.S.Chans.length
 le:e.S.Chans.length<=32
 sh:0<=(CB e n).Shape/\(CB e n).Shape<e.M.Shapes.length
 q:(CB e n).Queue.length<=16
theorem KS (g:AF e.M){x:Int}(h:(AT e x).2=0):An5 e (AT e x).1:=by
 unfold AT at h |-;cases c:decide (Co e x≠0)with
 | true=>grind
 | false =>
  rw[c,Ar1]at h;rw[Ar1];obtain⟨b,_,_⟩:=MN (x:=x) g (by simpa using c);have d:=VQ b (a:=x) (by simpa using h);generalize(Em e (Ma e e.M.Exprs.length) x).1=n at d |-;have f:CB e n∈e.S.Chans:=As oM;exact⟨b,d.1,d.2.1,d.2.2,(Gt (b.chan f)).1,(b.fit.q _ f).1⟩
def HG {a b:Nat}:((a:Int) != (b:Int))=decide (a≠b):=gD
def Arm {a c:Int}{l:List Int}{r:Int×List Int×Int}(h:(a,l,c)=r):leO [] []/\VV.le (.tup [.sc (.int .i64 a),Ad true l,.sc (.int .i64 c)]) (.tup [.sc (.int .i64 r.1),Ad true r.2.1,.sc (.int .i64 r.2.2)]):=by
 subst h;exact⟨trivial,lR⟩
def Aa4 {a c:Int}{r:Int×List Int×Int}(h:(a,[],c)=r):leO [] []/\VV.le (.tup [.sc (.int .i64 a),.nl,.sc (.int .i64 c)]) (.tup [.sc (.int .i64 r.1),Ad true r.2.1,.sc (.int .i64 r.2.2)]):=by
 subst h;exact⟨trivial,Atv ⟨lR,AsB,lR,trivial⟩⟩
def Sv {l:List Int}(h:(B4 e l).2=0):(B4 e l).1.length=l.length:=by
 have key:∀(l o:List Int),(J6 (Bh e) o l).2=0->(J6 (Bh e) o l).1.length=o.length+l.length:=by
  intro l
  induction l with
  | nil=>intro o _;rfl
  | cons x l ih =>
   intro o h;rw[O0]at h |-;grind
 have:=key l [] h;simpa[B4]using this
def KQ (f:List D.Type)(l:List Int)(k:Nat):List Int:=(List.range l.length).map λi=>if i<k then I4 (f.getD i default) (l.getD i 0)else l.getD i 0
theorem LG {f:List D.Type}{l:List Int}{k:Nat}:(KQ f l k).length=l.length:=by simp[KQ]
def LH {f:List D.Type}{l:List Int}{k i:Nat}(hi:i<l.length):(KQ f l k).getD i 0=if i<k then I4 (f.getD i default) (l.getD i 0)else l.getD i 0:=by simp[KQ,List.getD,hi]
def Abs {f:List D.Type}{l:List Int}:KQ f l 0=l:=by
 apply List.ext_getElem (by simp[KQ]);intro i h1 h2;simp[KQ,List.getD,h2]
theorem Agg {f:List D.Type}{l:List Int}:KQ f l l.length=PH f l:=by
 unfold KQ PH;simp_all
def Qq {s:D.Stmt}(p:AF e.M)(hs:BO e.S)(w:s.Args.length<=1048576) :
  Ah prog 201 [] [.agg (Be e),.agg (Ax s)] [] (.tup [Aa (AK e s).1,Ad true (AK e s).2.1,Aa (AK e s).2.2]):=by
 have a:AK e s=bif decide ((AT e s.A).2≠0)then(0,[],(AT e s.A).2)
  else bif decide ((BD e (AT e s.A).1).length≠s.Args.length)then(0,[],49)
  else bif decide ((B4 e s.Args).2≠0)then(0,[],(B4 e s.Args).2)
  else((AT e s.A).1,PH (BD e (AT e s.A).1) (B4 e s.Args).1,0):=rfl
 generalize AK e s=r at a;refine Ap func201 (Ahb r e s rfl rfl) ⟨AT e s.A,Aqe p hs s.A,λh=>Aa4 ?_,λh=>?_⟩
 .grind
 have h0:(AT e s.A).2=0:=by simpa using h
 rw[h0]at a;have d:=KS p h0;generalize(AT e s.A).1=n at d a |-;have h1:=d.lo;have h2:=d.hi;have h3:=d.le;rw[B9 oM oM];refine⟨oM,d.sh,λb=>Aa4 ?_,λb=>⟨B4 e s.Args,N7 (λx _=>R2 p hs x) w,λq=>Aa4 ?_,λq=>?_⟩⟩
 .rw[HG]at b;rw[a];have:decide ((BD e n).length≠s.Args.length)=true:=b;rw[this]<;>rfl
 .rw[HG]at b;rw[a,show decide ((BD e n).length≠s.Args.length)=false from b,show decide ((B4 e s.Args).2≠0)=true by simpa using q]<;>rfl
 rw[HG]at b;have j:(B4 e s.Args).2=0:=by simpa using q
 have m:=Sv j;rw[show decide ((BD e n).length≠s.Args.length)=false from b,j]at a;have t:(BD e n).length=s.Args.length:=Classical.not_not.1 (Asn b);change AA _ _ (An [(7,Aa n),(9,AH true (BD e n)),(10,.ow 0 0 (B4 e s.Args).1.length),(53,.ow 0 0 (B4 e s.Args).1.length),(54,Aa (B4 e s.Args).1.length),(55,Aa 0)] [.arr true 0 (B4 e s.Args).1.length 1 (AO (B4 e s.Args).1)]);generalize BD e n=f at a t |-;generalize(B4 e s.Args).1=l at a m |-;change r=(n,PH f l,0)at a;refine Aq (λg st=>∃k:Nat,k<=l.length/\g=l.length-k/\st=QW n f (KQ f l k) k) ⟨_,Up.of ⟨0,Ar9 _,rfl,by unfold QW;rw[Abs]<;>rfl⟩⟩ ?_;rintro g st ⟨k,B,rfl,rfl⟩;refine Asm (AdH r n f _ k _) ⟨λo=>?_,λy=>Arm ?_⟩
 .rw[LG]at o;have c:k<l.length:=by have:=A0 o;omega
  have u:(k:Int).toNat=k:=oM
  rw[u,LG,LH c,Asv (Aua _)];refine⟨oM,oM,I4 (f.getD k default) (l.getD k 0),KP _ _,oM,l.length-(k+1),oM,Up.mk (hs':=[.arr true 0 l.length 1 (AO (KQ f l (k+1)))]) (AR _) ⟨Asw λi hi=>AN ?_,trivial⟩ ⟨k+1,oM,rfl,?_⟩⟩
  .by_cases v:i=k
   .subst v;simp only[AsV,Ar3];unfold AO;rw[LH c,AsE (Ata _)]<;>rfl
   .have z:Nat.beq i k=false:=by grind[Ar5]
    simp only[z,Ar1];unfold AO;rw[LH hi,LH hi]
    by_cases h:i<k
    .grind
    .rw[Asv h,Asv oM]<;>rfl
  .rw[Al oM];unfold QW;rw[LG]<;>rfl
 grind[LG,A1,Agg]
def AdG {s:D.Stmt}(a:AF e.M)(hs:BO e.S)(b:s.Args.length<=1048576) :
  Ah prog 201 [] [.agg (Ai e),.agg (Ax s)] [] (.tup [Aa (AK e s).1,Ad true (AK e s).2.1,Aa (AK e s).2.2]) :=
 (Qq a hs b).frz rfl λj x y c d=>by grind[Aso,Ano,DV]
end
def Arn {c:Int}{l:List Int}{r:List Int×Int}(h:(l,c)=r):leO [] []/\VV.le (.tup [Ad true l,.sc (.int .i64 c)]) (.tup [Ad true r.1,.sc (.int .i64 r.2)]):=by
 subst h;exact⟨trivial,lR⟩
def Ap1 {c:Int}{r:List Int×Int}(h:([],c)=r):leO [] []/\VV.le (.tup [.nl,.sc (.int .i64 c)]) (.tup [Ad true r.1,.sc (.int .i64 r.2)]):=by
 subst h;exact⟨trivial,Atv ⟨AsB,lR,trivial⟩⟩
section
variable {e : D.Env}
def O6 {s:D.Stmt}(p:AF e.M)(hs:BO e.S)(v:s.Args.length<=1048576)(w:s.Match.length=s.Args.length) :
  Ah prog 214 [] [.agg (Ai e),.agg (Ax s)] [] (.tup [Ad true (Dk e s).1,Aa (Dk e s).2]):=by
 have b:Dk e s=bif decide (FD (Bh e) s.Args s.Match s.Args.length≠0)then([],FD (Bh e) s.Args s.Match s.Args.length)else(N9 (Bh e) s.Args s.Match,0):=rfl
 generalize Dk e s=r at b;generalize f:Bh e=ev at b;have q:∀x,Ah prog 128 [] [.agg (Ai e),Aa x] [] (vII (ev x)):=λx=>by rw[<- f];exact HO p hs x
 refine Ap func214 (Zc r e s rfl rfl) ⟨⟨oM,oM,oM⟩,?_⟩;refine Aq (λgg st=>∃k:Nat,k<=s.Args.length/\gg=s.Args.length-k/\(∀i,i<k->(E6 ev (s.Args.getD i 0) (s.Match.getD i 0)).2=0)/\st=QU e s (Cs ev s.Args s.Match k) k)
  ⟨s.Args.length,Up.mk (l':=[(2,.bp 0 0),(3,.bp 1 0),(6,.ow 2 0 (Cs ev s.Args s.Match 0).length),(16,Ad true s.Args),(17,Aa s.Args.length),(18,Aa ((0:Nat):Int))])
   (hs':=[.box (Ai e),.box (Ax s),.arr true 0 (Cs ev s.Args s.Match 0).length 1 (AO (Cs ev s.Args s.Match 0))]) ?_ ?_ ⟨0,Ar9 _,rfl,λi hi=>oM,rfl⟩⟩ ?_
 .rw[C1];exact AR _
 .rw[C1];refine⟨Ob.le_refl _,Ob.le_refl _,Asw λi hi=>AN ?_,trivial⟩;have c:AO (Cs ev s.Args s.Match 0) i=[Aa 0]:=by
   unfold AO;rw[Ga oM,Asv (AsQ _)]
  refine Eq.trans ?_ c.symm;rfl
 .rintro gg st ⟨k,y,rfl,m,rfl⟩;refine Asm (V2 r e s _ k _) ⟨λg=>?_,λh=>Arn ?_⟩
  .have n:k<s.Args.length:=by have:=A0 g;omega
   have j:(k:Int).toNat=k:=oM
   rw[j];refine⟨oM,oM,λl=>?_,λl=>⟨ev (s.Args.getD k 0),q _,λc=>Ap1 ?_,λc=>⟨by rw[C1];omega,?_⟩⟩⟩
   .rw[A2]at l;have h1:=Asd l;have hv:E6 ev (s.Args.getD k 0) (s.Match.getD k 0)=(0,0):=by unfold E6;grind
    have t:Cs ev s.Args s.Match k=Cs ev s.Args s.Match (k+1):=by
     unfold Cs;grind
    rw[t,Al oM];exact⟨s.Args.length-(k+1),oM,Up.of gD⟩
   .have a:decide (s.Match.getD k 0=1)=true:=gD
    have hv:E6 ev (s.Args.getD k 0) (s.Match.getD k 0)=ev (s.Args.getD k 0):=by unfold E6;rw[a]<;>rfl
    have u:(E6 ev (s.Args.getD k 0) (s.Match.getD k 0)).2≠0:=by rw[hv];simpa using c
    have o:FD ev s.Args s.Match s.Args.length=(ev (s.Args.getD k 0)).2:=by
     unfold FD;grind[RZ]
    grind
   .have a:decide (s.Match.getD k 0=1)=true:=gD
    have hv:E6 ev (s.Args.getD k 0) (s.Match.getD k 0)=ev (s.Args.getD k 0):=by unfold E6;rw[a]<;>rfl
    have h2:(ev (s.Args.getD k 0)).2=0:=by simpa using c
    rw[Al oM];refine⟨s.Args.length-(k+1),oM,Up.mk (l':=[(2,.bp 0 0),(3,.bp 1 0),(6,.ow 2 0 (Cs ev s.Args s.Match (k+1)).length),(16,Ad true s.Args),(17,Aa s.Args.length),(18,Aa ((k+1:Nat):Int))])
     (hs':=[.box (Ai e),.box (Ax s),.arr true 0 (Cs ev s.Args s.Match (k+1)).length 1 (AO (Cs ev s.Args s.Match (k+1)))]) ?_ ?_ ⟨k+1,oM,rfl,Fc m (by rw[hv];exact h2),rfl⟩⟩
    .grind[C1,AR]
    .rw[C1,C1];refine⟨Ob.le_refl _,Ob.le_refl _,Asw λi hi=>AN ?_,trivial⟩;show(bif i.beq k then[Aa (ev (s.Args.getD k 0)).1]else[Aa ((Cs ev s.Args s.Match k).getD i 0)])=[Aa ((Cs ev s.Args s.Match (k+1)).getD i 0)];rw[Ga hi,Ga hi];cases b:i.beq k with
     | true =>
      simp_all
     | false =>
      have:i≠k:=Nat.ne_of_beq_eq_false b;rw[Ar1]
      by_cases d:i<k
      .grind
      .rw[Asv d,Asv oM]
  .obtain rfl:k=s.Args.length:=by have:=A1 h;omega
   have o:FD ev s.Args s.Match s.Args.length=0:=LJ m;rw[b,o,Qz]<;>rfl
def Ys {c:D.Chan}{l mt:List Int}{any:Bool}(d:Len c.Queue.length)(f:Len mt.length):Ah prog 208 [] [.agg (Ay c),Ad true l,Ad true mt,Ac any] [] (Aa (KR c l mt any)) :=
 (Ug d f).frz rfl λj x y a b=>by
  match j,a,b with
  | 0,a,b=>grind[Aso,DV]
  | 1,a,b=>obtain rfl:=Aso a;obtain rfl:=Aso b;exact KI
  | 2,a,b=>grind[Aso,DV]
  | 3,a,b=>grind[Aso,DV]
  | j+4,a,_=>simp at a
def O8 {s:D.Stmt}(f:AF e.M)(hs:BO e.S)(i:s.Args.length<=1048576)(j:s.Match.length=s.Args.length) :
  Ah prog 192 [] [.agg (Ai e),.agg (Ax s)] [] (Mj (A5 e s)):=by
 have b:A5 e s=bif decide ((AT e s.A).2≠0)then(0,-1,(AT e s.A).2)
  else bif decide ((BD e (AT e s.A).1).length≠s.Args.length)then(0,-1,49)
  else bif decide ((Dk e s).2≠0)then(0,-1,(Dk e s).2)
  else((AT e s.A).1,KR (CB e (AT e s.A).1) (Dk e s).1 s.Match (decide (s.N.tmod 2=1)),0):=rfl
 generalize A5 e s=r at b;refine Ap func192 (Zt r e s rfl) ⟨AT e s.A,JF f hs s.A,λh=>NJ ?_,λh=>?_⟩
 .grind
 have h0:(AT e s.A).2=0:=by simpa using h
 rw[h0]at b;have d:=KS f h0;generalize(AT e s.A).1=n at d b |-;have h1:=d.lo;have h2:=d.hi;have h3:=d.le;have h4:=d.q;rw[B9 oM oM];refine⟨oM,d.sh,λa=>NJ ?_,λa=>⟨Dk e s,O6 f hs i j,λg=>NJ ?_,λg=>⟨oM,dZ,KR (CB e n) (Dk e s).1 s.Match (s.N.tmod 2==1),Ys (c:=CB e n) (by unfold Len;omega) (by unfold Len;omega),NJ ?_⟩⟩⟩
 .rw[HG]at a;rw[b,show decide ((BD e n).length≠s.Args.length)=true from a]<;>rfl
 .rw[HG]at a;rw[b,show decide ((BD e n).length≠s.Args.length)=false from a,show decide ((Dk e s).2≠0)=true by simpa using g]<;>rfl
 .rw[HG]at a;rw[b,show decide ((BD e n).length≠s.Args.length)=false from a,show decide ((Dk e s).2≠0)=false by simpa using g,ieq]<;>rfl
def Aly {s:D.Stmt}(b:AF e.M)(hs:BO e.S)(c:s.Args.length<=1048576)(d:s.Match.length=s.Args.length) :
  Ah prog 192 [] [.agg (Be e),.agg (Ax s)] [] (Mj (A5 e s)) :=
 (O8 b hs c d).thaw (Lv λx a=>by
  simp only[AsN,List.not_mem_nil,or_false]at a;rcases a with rfl|rfl|rfl<;>exact Kz) ⟨M9,WG ⟨Bg rfl,Bg rfl,Bg rfl,Bg rfl,Bg rfl,Bg rfl,Bg rfl,trivial⟩,trivial⟩
def V3 {s:D.Stmt}{c:Int}{m:List Int}(d:AF e.M)(hs:BO e.S)(f:s.Args.length<=1048576)(g:s.Kind=6->s.Match.length=s.Args.length) :
  Ah prog 230 [] [.agg (Ai e),.agg (Ax s),Aa c,Ad true m] [] (Ac (FG e s c m)):=by
 have j:FG e s c m=bif decide (s.Kind≠6)||(decide (1<s.N)||decide (s.Args.length≠m.length))then false
  else bif decide ((AT e s.A).2≠0)||decide ((AT e s.A).1≠c)then false
  else bif decide ((Dk e s).2≠0)then false else decide (KR ⟨0,[m]⟩ (Dk e s).1 s.Match false=0):=rfl
 generalize FG e s c m=b at j;have k:(bif bif s.Kind != (6:Int)then true else decide (s.N > (1:Int))then true else(s.Args.length:Int) != (m.length:Int))=(decide (s.Kind≠6)||(decide (1<s.N)||decide (s.Args.length≠m.length))):=gD
 refine Ap func230 (Zd b e s c m) ⟨λh=>AB ?_,λh=>⟨AT e s.A,JF d hs s.A,λh2=>AB ?_,λh2=>?_⟩⟩
 .grind
 .grind
 .rw[k]at h;rw[Ce,A2,A2]at h2;have n:s.Kind=6:=gD
  have a:=g n;refine⟨Dk e s,O6 d hs f a,KR ⟨0,[m]⟩ (Dk e s).1 s.Match false,λ_=>?_,AB ?_⟩
  .have o:=Ys (c:=⟨0,[m]⟩) (l:=(Dk e s).1) (mt:=s.Match) (any:=false) (by unfold Len;simp) (by unfold Len;omega);refine o.le trivial ⟨As9 ⟨lR,As2 (.inl rfl) λi hi=>AN ?_,trivial⟩,lR,lR,lR,trivial⟩ trivial lR;grind
  grind
def Qn (h:CZ e):Ah prog 147 [] [.agg (Ai e)] [] (.tup [Ac (Bx e).1,Aa (Bx e).2]):=by
 have a:Bx e=bif decide ((D8 e).Provided<0)then(true,0)else(decide ((Bh e (D8 e).Provided).1≠0),(Bh e (D8 e).Provided).2):=rfl
 generalize Bx e=r at a;refine Ap func147 (AdB r e) ⟨D8 e,Qo h,λh1=>⟨trivial,?_⟩,λh1=>⟨Bh e (D8 e).Provided,HO h.ok.wf h.small _,trivial,?_⟩⟩
 .rw[a,h1];exact lR
 simp_all[A2,VV.le_refl]
end
def Pc {n:Nat}:∀{ws:List (List D.Trans)} {many k many':Nat},Jh n many k ws=some many'->∀w∈ws,w.length<=1024/\∀t∈w,inP n t.To=true
 | [],_,_,_,_,w,a=>by cases a
 | v::r,many,k,many',h,w,a=>by
  unfold Jh at h;cases g:(decide (0<k)&&decide (v.length=0))with
  | true=>grind
  | false =>
  cases b:decide (1024<many+v.length)with
  | true=>grind
  | false =>
  cases c:EC v.length (λi=>inP n (v.getD i default).To)with
  | false=>grind
  | true =>
   rw[g,b,c,Ar1,Ar1,Ar3]at h;rcases AsN.1 a with rfl|a
   .have:=Asn b;exact⟨oM,(CP (d:=default) (f:=λt:D.Trans=>inP n t.To)).1 c⟩
   .exact Pc h w a
def RH {n:Nat}{final:Int}:∀{ls:List D.Loc}{many i:Nat},KG n final many i ls=true->∀l∈ls,∀w∈C8 l,w.length<=1024/\∀t∈w,inP n t.To=true
 | [],_,_,_,l,a,_,_=>by cases a
 | v::r,many,i,h,l,a,w,hw=>by
  unfold KG at h;cases c:Vv final i v with
  | true=>grind
  | false =>
   rw[c,Ar1]at h;cases b:Jh n many 0 (C8 v)with
   | none=>rw[b]at h;cases h
   | some many' =>
    rw[b]at h;rcases AsN.1 a with rfl|a
    .exact Pc b w hw
    .exact RH h l a w hw
def RR {p:D.Proc}(h:E4 p=true):∀l∈p.Locs,∀w∈C8 l,w.length<=1024/\∀t∈w,inP p.Locs.length t.To=true:=by
 unfold E4 at h;simp only[Ar2]at h;exact RH h.2
def AiS {m:D.Model}(h:DU m=true)(i:Nat)(hi:i<m.Procs.length):CY m i=true:=by
 obtain⟨_,_,h3⟩:=Cg h;exact FW (f:=λi:Nat=>CY m i) (by unfold IC at h3;omega) i hi
def Aho {m:D.Model}(h:DU m=true){i:Nat}(hi:i<m.Procs.length){l:D.Loc}(a:l∈(m.Procs.getD i default).Locs){w:List D.Trans}(b:w∈C8 l){t:D.Trans}(c:t∈w):JZ m i t.S=true:=by
 have h1:=AiS h i hi;unfold CY at h1;simp only[Ar2]at h1;have h2:=(CP (d:=default) (f:=λl:D.Loc=>L0 m i l)).1 h1.1 l a;unfold L0 at h2;have h3:=(CP (d:=[]) (f:=λw=>GW m i w)).1 h2 w b;unfold GW at h3;exact(CP (d:=default) (f:=λt:D.Trans=>JZ m i t.S)).1 h3 t c
structure Fs (m:D.Model) (s:D.Stmt):Prop where
 st:AZ m s=true
 wf:UJ s
def Fs.args {m:D.Model}{s:D.Stmt}(h:Fs m s):s.Args.length<=1048576:=h.wf.Args.1
def Fs.k1 {m:D.Model}{s:D.Stmt}(h:Fs m s)(a:s.Kind=1):0<=s.A/\s.A<m.Exprs.length:=by
 have:=h.st;unfold AZ at this;rw[AsE (.inl a)]at this;simp only[Ar2]at this;exact Cn.1 this.1.1
def Fs.k2 {m:D.Model}{s:D.Stmt}(h:Fs m s)(a:s.Kind=2):0<=s.B/\s.B<m.Exprs.length:=by
 have:=h.st;unfold AZ at this;rw[Asv oM,AsE a]at this;simp only[Ar2]at this;exact Cn.1 this.1.2
def Fs.k6 {m:D.Model}{s:D.Stmt}(h:Fs m s)(a:s.Kind=6):s.Match.length=s.Args.length:=by
 have:=h.st;unfold AZ at this;rw[Asv oM,Asv oM,Asv oM,Asv oM,AsE a]at this;simp only[Ar2]at this;have:=this.1.1.1.2;unfold Jj Dc at this;grind
structure Ag4 (m:D.Model) (n:Nat) (ws:List D.Trans):Prop where
 len:ws.length<=1024
 st:∀t∈ws,Fs m t.S
 to:∀t∈ws,inP n t.To=true
section
variable {e : D.Env}
def CZ.ws (h:CZ e){ws:List D.Trans}(a:ws∈C8 (DJ e)):Ag4 e.M (D8 e).Locs.length ws:=by
 have f:=h.facts;have hi:(EK e e.Pid).Type_.toNat<e.M.Procs.length:=oM
 have d:DJ e∈(D8 e).Locs:=As oM;have hg:=RR (Ea (Cg h.ok.may).2.1 _ hi).2 _ d _ a;refine⟨hg.1,λt c=>⟨?_,?_⟩,hg.2⟩
 .have:=Aho h.ok.may hi d a c;unfold JZ at this;grind
 .have b:=h.wloc;rcases AsN.1 a with rfl|a
  .exact(b.Out.2 t c).S
  .exact((b.Esc.2 _ a).2 t c).S
def Aro {b:Bool}{er:Int}{l:List Pn}{r:Ab}(h:(⟨b,er,l⟩:Ab)=r):leO [] []/\VV.le (.agg [.sc (.bool b),.sc (.int .i64 er),CW true l]) (.agg (BL r)):=by
 subst h;exact⟨trivial,lR⟩
def HJ {b:Bool}{er:Int}{r:Ab}(h:(⟨b,er,[]⟩:Ab)=r):leO [] []/\VV.le (.agg [.sc (.bool b),.sc (.int .i64 er),.nl]) (.agg (BL r)):=by
 subst h;exact⟨trivial,As9 ⟨lR,lR,AsB,trivial⟩⟩
abbrev MtS (e:D.Env)(mt:Int->List Int->List Pn):Prop:=∀c m,Ah prog 213 [] [.agg (Ai e),Aa c,Ad true m] [] (CW true (mt c m))
def V4 {s:D.Stmt}{self:Bool}{mt:Int->List Int->List Pn}(h:CZ e)(hs:Fs e.M s)(i:self=false->MtS e mt) :
  Ah prog 191 [] [.agg (Ai e),.agg (Ax s),Ac self] [] (.agg (BL (GY e mt s self))):=by
 have j:=h.ok.wf;have d:=h.small;have c:GY e mt s self=bif decide ((AT e s.A).2≠0)then⟨true,(AT e s.A).2,[]⟩
  else bif decide ((BD e (AT e s.A).1).length≠s.Args.length)then⟨true,49,[]⟩
  else bif decide (0<(CF e.M (CB e (AT e s.A).1).Shape).Room)then⟨decide (((CB e (AT e s.A).1).Queue.length:Int)<(CF e.M (CB e (AT e s.A).1).Shape).Room),0,[]⟩
  else bif self then⟨false,0,[]⟩
  else bif decide ((AK e s).2.2≠0)then⟨true,(AK e s).2.2,[]⟩
  else⟨decide (0<(mt (AT e s.A).1 (AK e s).2.1).length),0,mt (AT e s.A).1 (AK e s).2.1⟩:=rfl
 generalize GY e mt s self=r at c;refine Ap func191 (Zh r e s self rfl rfl rfl) ⟨AT e s.A,JF j d s.A,λh1=>HJ ?_,λh1=>?_⟩
 .grind
 have h0:(AT e s.A).2=0:=by simpa using h1
 rw[h0]at c;have f:=KS j h0;generalize(AT e s.A).1=n at f c |-;have h2:=f.lo;have h3:=f.hi;have h4:=f.le;rw[B9 oM oM];refine⟨oM,f.sh,λb=>HJ ?_,λb=>⟨λg=>HJ ?_,λg=>⟨λa=>HJ ?_,λa=>⟨AK e s,AdG j d hs.args,λk=>HJ ?_,λk=>⟨mt n (AK e s).2.1,i a _ _,Aro ?_⟩⟩⟩⟩⟩
 .rw[HG]at b;rw[c,show decide ((BD e n).length≠s.Args.length)=true from b]<;>rfl
 .rw[HG]at b;rw[c,show decide ((BD e n).length≠s.Args.length)=false from b,show decide (0<(CF e.M (CB e n).Shape).Room)=true from g]<;>rfl
 .rw[HG]at b;rw[c,show decide ((BD e n).length≠s.Args.length)=false from b,show decide (0<(CF e.M (CB e n).Shape).Room)=false from g,a]<;>rfl
 .rw[HG]at b;rw[c,show decide ((BD e n).length≠s.Args.length)=false from b,show decide (0<(CF e.M (CB e n).Shape).Room)=false from g,a,show decide ((AK e s).2.2≠0)=true by simpa using k]<;>rfl
 .rw[HG]at b;rw[c,show decide ((BD e n).length≠s.Args.length)=false from b,show decide (0<(CF e.M (CB e n).Shape).Room)=false from g,a,show decide ((AK e s).2.2≠0)=false by simpa using k];simp_all
def Ze {s:D.Stmt}{self:Bool}{mt:Int->List Int->List Pn}(h:CZ e)(hs:Fs e.M s)(c:self=false->MtS e mt) :
  Ah prog 170 [] [.agg (Ai e),.agg (Ax s),Ac self] [] (.agg (BL (DB e mt s self))):=by
 have f:=h.ok.wf;have b:=h.small;have g:DB e mt s self=if s.Kind=1 then(bif DD e s.A then Pk e else⟨decide ((Bh e s.A).1≠0)||decide ((Bh e s.A).2≠0),(Bh e s.A).2,[]⟩)
  else if s.Kind=2 then(bif DD e s.B then Pk e else⟨true,0,[]⟩)
  else if s.Kind=9 then⟨decide (e.S.Chans.length<32),0,[]⟩
  else if s.Kind=5 then GY e mt s self
  else if s.Kind=6 then⟨decide (0<=(A5 e s).2.1)||decide ((A5 e s).2.2≠0),(A5 e s).2.2,[]⟩
  else if s.Kind=7 then⟨false,0,[]⟩else⟨true,0,[]⟩:=rfl
 generalize DB e mt s self=r at g;have lf:∀{a:Ab},a=r->leO [] []/\VV.le (.agg (BL a)) (.agg (BL r)):=λh=>by subst h;exact⟨trivial,lR⟩
 refine Ap func170 (Adu r e s self rfl rfl rfl) ⟨λk1=>⟨DD e s.A,Jf λ_=>(hs.k1 (by simpa using k1)).2,λd=>⟨Pk e,Qm,lf ?_⟩,λd=>⟨Bh e s.A,HO f b _,HJ ?_⟩⟩,
  λk1=>⟨λk2=>⟨DD e s.B,Jf λ_=>(hs.k2 (by simpa using k2)).2,λd=>⟨Pk e,Qm,lf ?_⟩,λd=>HJ ?_⟩,
  λk2=>⟨λi=>HJ ?_,λi=>⟨λj=>⟨GY e mt s self,V4 h hs c,lf ?_⟩,λj=>⟨λk6=>⟨A5 e s,O8 f b hs.args (hs.k6 (by simpa using k6)),HJ ?_⟩,λk6=>⟨λk=>HJ ?_,λk=>HJ ?_⟩⟩⟩⟩⟩⟩
 .grind
 .grind
 .grind
 .grind
 .rw[g,Asv (by simpa using k1),Asv (by simpa using k2),AsE (by simpa using i)];have:decide ((e.S.Chans.length:Int)<32)=decide (e.S.Chans.length<32):=gD
  rw[this]
 .grind
 .grind
 .grind
 grind
end
section
variable {e : D.Env} {mt:Int->List Int->List Pn} {ws:List D.Trans} {self:Bool}
def PJ (e:D.Env)(mt:Int->List Int->List Pn)(ws:List D.Trans)(self:Bool)(k:Nat):List Ab:=(List.range ws.length).map λi=>if i<k then DB e mt (ws.getD i default).S self else default
def NY (e:D.Env)(mt:Int->List Int->List Pn)(ws:List D.Trans)(self:Bool)(k:Nat):List Ab:=(List.range ws.length).map λi=>if i<k then F6 e mt ws self i else DB e mt (ws.getD i default).S self
def R7 {k:Nat}:(PJ e mt ws self k).length=ws.length:=by simp[PJ]
theorem NX {k:Nat}:(NY e mt ws self k).length=ws.length:=by simp[NY]
def NZ {k i:Nat}(hi:i<ws.length):(PJ e mt ws self k).getD i default=if i<k then DB e mt (ws.getD i default).S self else default:=by simp[PJ,List.getD,hi]
def R6 {k i:Nat}(hi:i<ws.length):(NY e mt ws self k).getD i default=if i<k then F6 e mt ws self i else DB e mt (ws.getD i default).S self:=by simp[NY,List.getD,hi]
theorem Ak5:NY e mt ws self ws.length=Dv e mt ws self:=by
 unfold NY Dv;simp_all
def Ak6:PJ e mt ws self ws.length=NY e mt ws self 0:=by
 unfold NY PJ;simp_all
def YP:(Dv e mt ws self).length=ws.length:=by simp[Dv]
def Alg {i k:Nat}(h:i≠k):Nat.beq i k=false:=by grind[Ar5]
def SW {n:Nat}(h:CZ e)(o:Ag4 e.M n ws)(m:self=false->MtS e mt) :
  Ah prog 151 [] [.agg (Ai e),Ao true ws,Ac self] [] (Cp true (Dv e mt ws self)):=by
 have p:=o.len;refine Ap func151 (Ahd _ e ws self rfl rfl) ⟨⟨oM,oM,oM⟩,?_⟩;refine Aq (λg st=>∃k:Nat,k<=ws.length/\g=ws.length-k/\st=UW e ws self ws.length (G0 (PJ e mt ws self k)) (F0 e mt ws self k) k)
  ⟨ws.length,Up.mk (l':=[(1,Ao true ws),(2,Ac self),(3,.bp 0 0),(7,.ow 1 0 ws.length),(8,Ac false),(16,Ao true ws),(17,Aa ws.length),(18,Aa ((0:Nat):Int))]) (hs':=[.box (Ai e),.arr true 0 ws.length 3 (G0 (PJ e mt ws self 0))]) (AR _) ⟨Ob.le_refl _,Asw λi hi=>?_,trivial⟩ ⟨0,Ar9 _,rfl,rfl⟩⟩ ?_
 .have q:G0 (PJ e mt ws self 0) i=BL default:=by
   unfold G0;rw[NZ oM,Asv (AsQ _)]
  rw[q];exact⟨lR,lR,AsB,trivial⟩
 rintro g st ⟨k,r,rfl,rfl⟩;refine Asm (AdR _ e ws self _ _ _ k _ rfl) ⟨λd=>?_,λj=>?_⟩
 .have a:k<ws.length:=by have:=A0 d;omega
  have b:(k:Int).toNat=k:=oM
  rw[b];refine⟨⟨oM,oM⟩,DB e mt (ws.getD k default).S self,Ze h (o.st _ (As a)) m,⟨oM,oM⟩,?_⟩;refine AA.le (hs':=[.box (Ai e),.arr true 0 ws.length 3 (G0 (PJ e mt ws self (k+1)))]) (AR _) ⟨Ob.le_refl _,Asw λi hi=>AN ?_,trivial⟩ ?_
  .unfold G0;rw[NZ hi,NZ hi]
   by_cases c:i=k
   .simp_all
   .rw[Alg c,Ar1];grind
  .have s:An [(1,Ao true ws),(2,Ac self),(3,.bp 0 0),(7,.ow 1 0 ws.length),(8,Ac (F0 e mt ws self k)),(9,Aa k),(16,Ao true ws),(17,Aa ws.length),(18,Aa k)] [.box (Ai e),.arr true 0 ws.length 3 (G0 (PJ e mt ws self (k+1)))]=UV e ws self (PJ e mt ws self (k+1)) (F0 e mt ws self k) k k:=by
    unfold UV;rw[R7]
   refine Eq.mpr (congrArg (AA _ _) s) ?_;refine GC Aj Ak kR (AdP _ e ws self _ _ k k _) ⟨λ_=>by rw[R7];omega,ws.length-(k+1),oM,Up.of ⟨k+1,a,rfl,?_⟩⟩;rw[Al oM,b,NZ a,AsE (Ata _),R7];have:F0 e mt ws self (k+1)=bif F0 e mt ws self k then true else(DB e mt (ws.getD k default).S self).is:=by
    rw[Ce]<;>rfl
   unfold UW;rw[this]<;>rfl
 .obtain rfl:k=ws.length:=by have:=A1 j;omega
  generalize f:F0 e mt ws self ws.length=some;refine Aq (λg st=>∃k:Nat,k<=ws.length/\g=ws.length-k/\st=Nd ws (NY e mt ws self k) some k) ⟨ws.length,Up.of ⟨0,Ar9 _,rfl,by unfold Nd;rw[NX,Ak6]<;>rfl⟩⟩ ?_;rintro g st ⟨k,r,rfl,rfl⟩;refine Asm (AdQ _ ws _ some k _) ⟨λd=>?_,λj=>⟨trivial,?_⟩⟩
  .have a:k<ws.length:=by have:=A0 d;omega
   have b:(k:Int).toNat=k:=oM
   rw[b];have ek:(bif(ws.getD k default).S.Kind==(7:Int)then !some else false)=(decide ((ws.getD k default).S.Kind=7)&&!(F0 e mt ws self ws.length)):=by rw[B3,ieq,f]
   have ea:F6 e mt ws self k=bif decide ((ws.getD k default).S.Kind=7)&&!(F0 e mt ws self ws.length)then{DB e mt (ws.getD k default).S self with is:=true}else DB e mt (ws.getD k default).S self:=rfl
   refine⟨⟨oM,oM⟩,λl=>⟨by rw[NX];omega,ws.length-(k+1),oM,Up.mk (hs':=[.arr true 0 (NY e mt ws self k).length 3 (G0 (NY e mt ws self (k+1)))]) (AR _) ⟨Asw λi hi=>AN ?_,trivial⟩ ⟨k+1,a,rfl,?_⟩⟩,λl=>⟨ws.length-(k+1),oM,Up.of ⟨k+1,a,rfl,?_⟩⟩⟩
   .rw[ek]at l;rw[NX]at hi;rw[R6 a,Asv (Aua _)];unfold G0;rw[R6 hi,R6 hi]
    by_cases c:i=k
    .subst c;rw[AsE (Ata _),AsV,Ar3,ea,l,Ar3]<;>rfl
    .rw[Alg c,Ar1];grind
   .rw[Al oM];unfold Nd;grind[NX]
   .rw[ek]at l;have em:NY e mt ws self k=NY e mt ws self (k+1):=by
     unfold NY;grind
    grind[Al]
  grind[A1,Ak5,VV.le_refl]
end
def Yh:Nat->List Ab->Int
 | _,[]=>-1
 | k,x::r=>bif x.is then(k:Int)else Yh (k+1) r
def T8 {k:Nat}{x:Ab}{r:List Ab}:Yh k (x::r)=bif x.is then(k:Int)else Yh (k+1) r:=rfl
def T7:∀{l:List Ab}{k:Nat},decide (Yh k l>=0)=isSome l
 | [],k=>by simp[Yh,isSome]
 | x::r,k=>by
  have ih:=T7 (l:=r) (k:=k+1);unfold isSome at *;rw[AtK,T8];grind
abbrev Aoo:VV:=.fn (.func 232) []
def Zn {x:Ab}:Ah prog 232 [] [.agg (BL x)] [] (Ac x.is) :=
 Ap func232 (AdJ _ x) (AB rfl)
def Zq {l:List Ab}(n:l.length<=1048576):Ah prog 234 [] [Cp true l,Aoo] [] (Aa (Yh 0 l)):=by
 refine Ap func234 (AdL _ l) ?_;refine Ar l.length (λk=>PR l k) (λk=>Yh 0 l=Yh k (l.drop k)) rfl ?_;intro k o i J next
 refine Asm (Zr _ l k J) ⟨λf=>?_,λg=>Bp ?_⟩
 .have a:k<l.length:=by have:=A0 f;omega
  have h:(k:Int).toNat=k:=oM
  rw[h];rw[A9 (d:=default) a,T8]at i;refine⟨oM,(l.getD k default).is,Zn,λj=>Bp ?_,λj=>next _ a ?_ (Up.of ?_)⟩
  .grind
  .grind
  grind[Al]
 .have b:l.length<=k:=by have:=A1 g;omega
  rw[i,Asr b]<;>rfl
def Wf {l:List Ab}(a:l.length<=1048576):Ah prog 231 [] [Cp true l,Aoo] [] (Ac (isSome l)) :=
 Ap func231 (Zw _ l) ⟨_,Zq a,AB T7⟩
section
variable {e : D.Env} {c:Int} {m:List Int}
def TB {i:Int}:∀{ws:List D.Trans}{k:Nat},(DK e c m i k ws).length<=ws.length
 | [],_=>Ar6 _
 | t::r,k=>by
  have:=TB (i:=i) (ws:=r) (k:=k+1);unfold DK;cases FG e t.S c m<;>simp<;>omega
def Aaz {i:Int}{k:Nat}{t:D.Trans}{r:List D.Trans}:DK e c m i k (t::r)=(bif FG e t.S c m then[⟨e.Pid,i,k⟩]else[])++DK e c m i (k+1) r:=rfl
def ApB {out:List Pn}{x:Pn}{G:Nat->List VV}(a:G 0=MO x){i:Nat}(hi:i<out.length+1):(bif i.blt out.length then Gh out i else G (i-out.length))=Gh (out++[x]) i :=
 BW (f:=MO) (d:=default) (l:=out) (r:=[x]) (F:=Gh out) (λ_ _=>rfl) gD (by simp;omega)
def SU {n:Nat}{i:Int}{ws:List D.Trans}(h:CZ e)(l:Ag4 e.M n ws) :
  Ah prog 229 (hsR e c m []) [Aa i,Ao true ws,.bp 0 0,.bp 1 0,.bp 2 0,.bp 3 0] (hsR e c m (DK e c m i 0 ws)) (Ac (decide (0<(DK e c m i 0 ws).length)||isSome (Dv e Rv ws true))):=by
 have s:=l.len;generalize t:DK e c m i 0 ws=r;refine Ap func229 (Ag9 r [] _ e c m i ws) ?_;refine Aq (λg st=>∃(k:Nat)(out:List Pn),k<=ws.length/\g=ws.length-k/\out.length<=k/\out++DK e c m i k (ws.drop k)=r/\st=QV e c m out i ws k) ⟨ws.length,Up.of ⟨0,[],Ar9 _,rfl,Ar9 _,t,rfl⟩⟩ ?_;rintro g st ⟨k,out,w,rfl,y,b,rfl⟩;refine Asm (AdA r _ e c m out i ws k _ rfl) ⟨λo=>?_,λp=>?_⟩
 .have a:k<ws.length:=by have:=A0 o;omega
  have q:(k:Int).toNat=k:=oM
  rw[q];rw[A9 (d:=default) a,Aaz]at b;have hs:=l.st _ (As (d:=default) a);refine⟨⟨oM,oM⟩,FG e (ws.getD k default).S c m,V3 h.ok.wf h.small hs.args hs.k6,λu=>⟨oM,ws.length-(k+1),oM,
   Up.mk (hs':=[.box (Ai e),.box [Aa c],.box [Ad true m],.box [.ow 4 0 (out.length+1)],.arr true 0 (out.length+1) 3 (Gh (out++[Pn.mk e.Pid i k]))]) (AR _) ⟨Ob.le_refl _,Ob.le_refl _,Ob.le_refl _,Ob.le_refl _,Asw λj v=>AN (ApB (x:=Pn.mk e.Pid i k) (G:=λj=>List.take 3 (List.drop (j*3) (MO (Pn.mk e.Pid i k)))) rfl v),trivial⟩ ⟨k+1,out++[Pn.mk e.Pid i k],a,rfl,by simp;omega,?_,?_⟩⟩,λu=>⟨ws.length-(k+1),oM,Up.of ⟨k+1,out,a,rfl,oM,?_,?_⟩⟩⟩
  .grind
  .rw[Al oM];unfold QV hsR;grind
  .grind
  grind[Al]
 .have f:ws.length<=k:=by have:=A1 p;omega
  rw[Asr f]at b;have b:out=r:=by simpa[DK]using b
  subst b;refine⟨Dv e Rv ws true,λ_=>SW h l (λh=>by cases h),isSome (Dv e Rv ws true),λ_=>Wf (by rw[YP];omega),⟨Ob.le_refl _,Ob.le_refl _,Ob.le_refl _,Ob.le_refl _,Ob.le_refl _,trivial⟩,As3 ?_⟩;grind
def Ms {i:Int}{ws:List D.Trans}{r:List (Int×List D.Trans)}:Hf e c m ((i,ws)::r)=bif decide (0<(DK e c m i 0 ws).length)||isSome (Dv e Rv ws true)then DK e c m i 0 ws else Hf e c m r:=rfl
def UF {n:Nat}{l:D.Loc}(h:CZ e)(t:l.Esc.length<=1048576)(q:∀ws∈C8 l,Ag4 e.M n ws) :
  Ah prog 148 (hsR e c m []) [.agg (AW l),Aqi] (hsR e c m (Hf e c m (G2 l))) (.tup []):=by
 generalize s:Hf e c m (G2 l)=r;refine Ap func148 (Wb r [] e c m l) ?_;refine Aq (λg st=>∃k:Nat,k<=l.Esc.length/\g=l.Esc.length-k/\Hf e c m (YD k (l.Esc.drop k)++[(-1,l.Out)])=r/\st=Lm e c m [] l k) ⟨l.Esc.length,Up.of ⟨0,Ar9 _,rfl,s,rfl⟩⟩ ?_;rintro g st ⟨k,u,rfl,b,rfl⟩;refine Asm (UG r e c m [] l k _) ⟨λj=>?_,λo=>?_⟩
 .have a:k<l.Esc.length:=by have:=A0 j;omega
  have p:(k:Int).toNat=k:=oM
  rw[p];rw[A9 (d:=[]) a]at b;unfold YD at b;rw[Atz,Ms]at b;refine⟨⟨oM,oM⟩,(DK e c m k 0 (l.Esc.getD k []),decide (0<(DK e c m k 0 (l.Esc.getD k [])).length)||isSome (Dv e Rv (l.Esc.getD k []) true)),SU h (q _ (Asi _ (As a))),λf=>?_,λf=>⟨l.Esc.length-(k+1),oM,Up.of ⟨k+1,a,rfl,?_,?_⟩⟩⟩
  .have f:(decide (0<(DK e c m k 0 (l.Esc.getD k [])).length)||isSome (Dv e Rv (l.Esc.getD k []) true))=true:=f;rw[f,Ar3]at b;subst b;exact⟨⟨Ob.le_refl _,Ob.le_refl _,Ob.le_refl _,Ob.le_refl _,Ob.le_refl _,trivial⟩,lR⟩
  .grind
  grind[Ass,AsO,Asn,Al]
 .have i:l.Esc.length<=k:=by have:=A1 o;omega
  rw[Asr i]at b;refine⟨(DK e c m (-1) 0 l.Out,decide (0<(DK e c m (-1) 0 l.Out).length)||isSome (Dv e Rv l.Out true)),SU h (q _ (Ar8 ..)),?_,lR⟩;have h0:DK e c m (-1) 0 l.Out=r:=by
   rw[<- b];show _=Hf e c m ([]++[(-1,l.Out)]);rw[Ato,Ms];cases f:(decide (0<(DK e c m (-1) 0 l.Out).length)||isSome (Dv e Rv l.Out true))with
   | true=>rfl
   | false =>
    rw[Ass]at f;exact AsO gD
  subst h0;exact⟨Ob.le_refl _,Ob.le_refl _,Ob.le_refl _,Ob.le_refl _,Ob.le_refl _,trivial⟩
def Tz {N:Nat}:∀{ls:List (Int×List D.Trans)},(∀p∈ls,p.2.length<=N)->(Hf e c m ls).length<=N
 | [],_=>Ar9 _
 | (i,ws)::r,h=>by
  have h1:=h _ (Ar8 ..);have h2:=Tz (ls:=r) λp hp=>h p (Asi _ hp)
  have h3:=TB (e:=e) (c:=c) (m:=m) (i:=i) (ws:=ws) (k:=0);rw[Ms];grind
def TV:∀{r:List (List D.Trans)} {k:Nat} {p:Int×List D.Trans},p∈YD k r->p.2∈r
 | [],_,_,h=>by cases h
 | w::r,k,p,h=>by
  rcases AsN.1 h with rfl|h
  .exact Ar8 ..
  .exact Asi _ (TV h)
def Aa2 {l:D.Loc}{p:Int×List D.Trans}(h:p∈G2 l):p.2∈C8 l:=by
 rcases Ast.1 h with h|h
 .exact Asi _ (TV h)
 .rw[Asp.1 h];exact Ar8 ..
def TC (h:CZ e):(F1 e c m).length<=1024:=by
 unfold F1;cases(!(Bx e).1||decide ((Bx e).2≠0))with
 | true=>exact Ar9 _
 | false=>exact Tz λp hp=>(h.ws (Aa2 hp)).len
def Zj (h:CZ e):Ah prog 226 [] [.agg (Ai e),Aa c,Ad true m] [] (CW true (F1 e c m)):=by
 have a:F1 e c m=bif !(Bx e).1||decide ((Bx e).2≠0)then[]else Hf e c m (G2 (DJ e)):=rfl
 generalize F1 e c m=r at a;refine Ap func226 (Adz r e c m) ⟨Bx e,Qn h,λh1=>?_,λh1=>⟨DJ e,Ld h,r,?_,trivial,lR⟩⟩
 .rw[Ce,A2]at h1;rw[h1,Ar3]at a;rw[a];exact⟨trivial,AsB⟩
 .rw[Ce,A2]at h1;rw[h1,Ar1]at a;rw[a];exact Ah.ownB (i:=3) (j:=0) (cs:=[.nl]) rfl rfl 3 (Gh []) (UF h h.wloc.Esc.1 λws b=>h.ws b)
def CZ.at (h:CZ e){k:Nat}(a:k<e.S.Procs.length):CZ (BA e k):=⟨⟨h.ok.fits,h.ok.may,h.ok.wf,by show -1<=(k:Int);omega,by show(k:Int)<_;exact Int.ofNat_lt.2 a⟩,by show 0<=(k:Int);omega⟩
def MA (h:CZ e):∀{n:Nat},n<=e.S.Procs.length->(D1 e c m n).length<=n*1024
 | 0,_=>Ar9 _
 | n+1,hn=>by
  have h1:=MA h (n:=n) oM;have h2:=TC (c:=c) (m:=m) (h.at (k:=n) oM);unfold D1;grind
def V7 (h:CZ e):MtS e (B6 e):=by
 intro c m;have hp:=h.ok.fit.p;refine Ap func213 (Zl _ e c m) ?_;refine AA.own 3 7 3 (Gh []) rfl ?_;refine Aq (λg st=>∃k:Nat,k<=e.S.Procs.length/\g=e.S.Procs.length-k/\st=Nc e c m (D1 e c m k) k) ⟨e.S.Procs.length,Up.of ⟨0,Ar9 _,rfl,rfl⟩⟩ ?_;rintro g st ⟨k,s,rfl,rfl⟩;have o:=MA (c:=c) (m:=m) h s;refine Asm (V8 _ e c m _ k _) ⟨λj=>?_,λn=>⟨trivial,?_⟩⟩
 .have a:k<e.S.Procs.length:=by have:=A0 j;omega
  have t:=TC (c:=c) (m:=m) (h.at a);refine⟨λb=>⟨F1 (BA e k) c m,Zj (h.at a),oM,λi _=>rfl,e.S.Procs.length-(k+1),oM,
   Up.mk (hs':=[.box (Ai e),.arr true 0 ((D1 e c m k).length+(F1 (BA e k) c m).length) 3 (Gh (D1 e c m k++F1 (BA e k) c m))]) (AR _) ⟨Ob.le_refl _,Asw λi hi=>AN ?_,trivial⟩ ⟨k+1,a,rfl,?_⟩⟩,λb=>⟨e.S.Procs.length-(k+1),oM,Up.of ⟨k+1,a,rfl,?_⟩⟩⟩
  .exact BW (f:=MO) (d:=default) (l:=D1 e c m k) (r:=F1 (BA e k) c m) (F:=Gh (D1 e c m k)) (λ_ _=>rfl) (λ_ _=>rfl) (by simpa using hi)
  .rw[A2]at b;have q:D1 e c m (k+1)=D1 e c m k++F1 (BA e k) c m:=by
    show D1 e c m k++(bif decide ((k:Int)≠e.Pid)then _ else _)=_;rw[b,Ar3]
   rw[Al oM,q];unfold Nc;grind
  .rw[A2]at b;have q:D1 e c m (k+1)=D1 e c m k:=by
    show D1 e c m k++(bif decide ((k:Int)≠e.Pid)then _ else _)=_;grind
   grind[Al]
 .obtain rfl:k=e.S.Procs.length:=by have:=A1 n;omega
  exact lR
end
section
variable {e : D.Env}
theorem Aa3 (h:CZ e){c:Int}{m:List Int}:(B6 e c m).length<=16384:=by
 have h1:=MA (c:=c) (m:=m) h (Ar6 _);have h2:=h.ok.fit.p;have h3:e.S.Procs.length*1024<=16*1024:=Ask _ h2;exact Asz h1 h3
theorem Aep (h:CZ e){s:D.Stmt}{self:Bool}:(DB e (B6 e) s self).wth.length<=16384:=by
 have a:([]:List Pn).length<=16384:=Ar9 _;unfold DB;split
 .cases DD e s.A<;>exact a
 split
 .cases DD e s.B<;>exact a
 split
 .exact a
 split
 .unfold GY;grind[Aa3]
 grind
theorem AgM {mt:Int->List Int->List Pn}{ws:List D.Trans}{self:Bool}{i:Nat}:(F6 e mt ws self i).wth=(DB e mt (ws.getD i default).S self).wth:=by
 unfold F6;grind
def YO (h:CZ e){ws:List D.Trans}{self:Bool}:∀x∈Dv e (B6 e) ws self,x.wth.length<=16384:=by
 intro x a;unfold Dv at a;grind[Atp,AgM,Aep]
def S7 {i:Int}{k:Nat}{x:Ab}{r:List Ab}:Eo i k (x::r)=Hv i k x++Eo i (k+1) r:=rfl
def Aix {out:List Wy}{x:Wy}{G:Nat->List VV}(a:G 0=Bf x){i:Nat}(hi:i<out.length+1):(bif i.blt out.length then Ks out i else G (i-out.length))=Ks (out++[x]) i :=
 BW (f:=Bf) (d:=default) (l:=out) (r:=[x]) (F:=Ks out) (λ_ _=>rfl) gD (by simp;omega)
def SV {n:Nat}{i:Int}{ws:List D.Trans}(h:CZ e)(O:Ag4 e.M n ws) :
  Ah prog 150 (hsW e []) [Aa i,Ao true ws,.bp 0 0,.bp 1 0] (hsW e (Eo i 0 (Dv e (B6 e) ws false))) (Ac (decide (0<(Eo i 0 (Dv e (B6 e) ws false)).length))):=by
 have Q:(Dv e (B6 e) ws false).length<=1024:=by rw[YP];exact O.len
 have l:=YO h (ws:=ws) (self:=false);have m:=SW h O (self:=false) (λ_=>V7 h);generalize Dv e (B6 e) ws false=L at Q l m;generalize R:Eo i 0 L=r;refine Ap func150 (Aha r [] _ e i ws) ⟨L,m,?_⟩;refine Aq (λg st=>∃(k:Nat)(out:List Wy),k<=L.length/\g=L.length-k/\out.length<=k*16385/\out++Eo i k (L.drop k)=r/\st=Jn e out i L k) ⟨L.length,Up.of ⟨0,[],Ar9 _,rfl,Ar9 _,R,rfl⟩⟩ ?_;rintro g st ⟨k,out,hk,rfl,S,f,rfl⟩;refine Asm (AdE r _ e out i L k _ rfl rfl rfl) ⟨λC=>?_,λE=>?_⟩
 .have b:k<L.length:=by have:=A0 C;omega
  have F:(k:Int).toNat=k:=oM
  rw[F];rw[A9 (d:=default) b,S7]at f;have T:=l _ (As (d:=default) b);generalize L.getD k default=x at f T |-;have U:k*16385<=1024*16385:=Ask _ oM;have key:∀(J:St->Prop)(out1:List Wy),out1.length<=k*16385+1->out1++(x.wth.map (Kc i k x.err)++Eo i (k+1) (L.drop (k+1)))=r ->
    (∀a,Up (λst=>∃out2:List Wy,out2.length<=(k+1)*16385/\out2++Eo i (k+1) (L.drop (k+1))=r/\st=Jn e out2 i L ((k+1:Nat):Int)) a->J a) ->
    AA ((BR prog tb CX HT true f150 (hsW e r) (Ac (decide (0<r.length)))).loop [1,0,1,0] J) [1,1,0,0,1,1,1,1,0] (Nb e out1 i L k ⟨i,k,-1,-1,-1,x.err⟩ x.wth 0):=by
   intro J out1 H I hJ;refine Aq (λg st=>∃(j:Nat)(w:Wy)(o:List Wy),j<=x.wth.length/\g=x.wth.length-j/\o.length<=k*16385+1+j/\o++((x.wth.drop j).map (Kc i k x.err)++Eo i (k+1) (L.drop (k+1)))=r/\(w.Esc=i/\w.Way=k/\w.Err=x.err)/\st=Nb e o i L k w x.wth j)
    ⟨x.wth.length,Up.of ⟨0,_,out1,Ar9 _,rfl,H,I,⟨rfl,rfl,rfl⟩,rfl⟩⟩ ?_
   rintro g st ⟨j,w,o,hj,rfl,V,u,⟨W,X,Y⟩,rfl⟩;refine Asm (AdD r _ e o i L k w x.wth j _ _ rfl) ⟨λv=>?_,λy=>?_⟩
   .have c:j<x.wth.length:=by have:=A0 v;omega
    have z:(j:Int).toNat=j:=oM
    rw[z];rw[A9 (d:=default) c,AsT,Atz]at u;generalize x.wth.getD j default=p at u |-;rw[W,X,Y];refine⟨⟨oM,oM⟩,oM,x.wth.length-(j+1),oM,Up.mk (hs':=[.box (Ai e),.box [.ow 2 0 (o.length+1)],.arr true 0 (o.length+1) 6 (Ks (o++[Kc i k x.err p])),.box (Bf (Kc i k x.err p))]) (AR _)
     ⟨Ob.le_refl _,Ob.le_refl _,Asw λt K=>AN (Aix (x:=Kc i k x.err p) (G:=λt=>List.take 6 (List.drop (t*6) (Bf (Kc i k x.err p)))) rfl K),Ob.le_refl _,trivial⟩ ⟨j+1,Kc i k x.err p,o++[Kc i k x.err p],c,rfl,by simp;omega,gD,⟨rfl,rfl,rfl⟩,?_⟩⟩
    rw[Al oM];unfold Nb hsW;grind
   .have N:x.wth.length<=j:=by have:=A1 y;omega
    grind[Asr,Ath,Ato,Up.of,Al]
  have next:∀a,Up (λst=>∃out2:List Wy,out2.length<=(k+1)*16385/\out2++Eo i (k+1) (L.drop (k+1))=r/\st=Jn e out2 i L ((k+1:Nat):Int)) a ->
    ∃P,P<L.length-k/\Up (λst=>∃(k:Nat)(out:List Wy),k<=L.length/\P=L.length-k/\out.length<=k*16385/\out++Eo i k (L.drop k)=r/\st=Jn e out i L k) a:=by
   rintro a ⟨Z,hc,out2,h1,h2,h3⟩;exact⟨L.length-(k+1),oM,Z,hc,k+1,out2,b,rfl,h1,h2,h3⟩
  have ez:((x.wth.length:Int)==0)=decide (x.wth.length=0):=gD
  refine⟨⟨oM,oM⟩,λA=>⟨oM,?_⟩,λA=>?_⟩
  .rw[B3,ez]at A;have q:Hv i k x=Wy.mk i k (-1) (-1) (-1) x.err::x.wth.map (Kc i k x.err):=by unfold Hv;rw[A]<;>rfl
   rw[q]at f;refine AA.le (hs':=[.box (Ai e),.box [.ow 2 0 (out.length+1)],.arr true 0 (out.length+1) 6 (Ks (out++[Wy.mk i k (-1) (-1) (-1) x.err])),.box (Bf (Wy.mk i k (-1) (-1) (-1) x.err))]) (AR _)
     ⟨Ob.le_refl _,Ob.le_refl _,Asw λt K=>AN (Aix (x:=Wy.mk i k (-1) (-1) (-1) x.err) (G:=λt=>List.take 6 (List.drop (t*6) (Bf (Wy.mk i k (-1) (-1) (-1) x.err)))) rfl K),Ob.le_refl _,trivial⟩ ?_
   have s:=key _ (out++[Wy.mk i k (-1) (-1) (-1) x.err]) (by simp;omega) (by rw[As0];exact f) next
   unfold Nb hsW at s;rw[Ar7]at s;exact s
  .rw[B3,ez]at A;have q:Hv i k x=x.wth.map (Kc i k x.err):=by unfold Hv;rw[A]<;>rfl
   rw[q]at f;exact key _ out (Nat.le_succ_of_le S) f next
 .have B:L.length<=k:=by have:=A1 E;omega
  rw[Asr B]at f;have f:out=r:=by simpa[Eo]using f
  subst f;refine⟨⟨Ob.le_refl _,Ob.le_refl _,Ob.le_refl _,trivial⟩,As3 ?_⟩;simp_all
def Ro {i:Int}{ws:List D.Trans}{r:List (Int×List D.Trans)}:Fy e ((i,ws)::r)=bif decide (0<(Eo i 0 (Dv e (B6 e) ws false)).length)then Eo i 0 (Dv e (B6 e) ws false)else Fy e r:=rfl
def UD {n:Nat}{l:D.Loc}(h:CZ e)(q:l.Esc.length<=1048576)(o:∀ws∈C8 l,Ag4 e.M n ws) :
  Ah prog 148 (hsW e []) [.agg (AW l),Aqh] (hsW e (Fy e (G2 l))) (.tup []):=by
 generalize p:Fy e (G2 l)=r;refine Ap func148 (V9 r [] e l) ?_;refine Aq (λg st=>∃k:Nat,k<=l.Esc.length/\g=l.Esc.length-k/\Fy e (YD k (l.Esc.drop k)++[(-1,l.Out)])=r/\st=Ll e [] l k) ⟨l.Esc.length,Up.of ⟨0,Ar9 _,rfl,p,rfl⟩⟩ ?_;rintro g st ⟨k,s,rfl,b,rfl⟩;refine Asm (UE r e [] l k _) ⟨λi=>?_,λj=>?_⟩
 .have a:k<l.Esc.length:=by have:=A0 i;omega
  have m:(k:Int).toNat=k:=oM
  rw[m];rw[A9 (d:=[]) a]at b;unfold YD at b;rw[Atz,Ro]at b;refine⟨⟨oM,oM⟩,(Eo k 0 (Dv e (B6 e) (l.Esc.getD k []) false),decide (0<(Eo k 0 (Dv e (B6 e) (l.Esc.getD k []) false)).length)),SV h (o _ (Asi _ (As a))),λc=>?_,λc=>⟨l.Esc.length-(k+1),oM,Up.of ⟨k+1,a,rfl,?_,?_⟩⟩⟩
  .have c:decide (0<(Eo k 0 (Dv e (B6 e) (l.Esc.getD k []) false)).length)=true:=c;rw[c,Ar3]at b;subst b;exact⟨⟨Ob.le_refl _,Ob.le_refl _,Ob.le_refl _,trivial⟩,lR⟩
  .grind
  grind[AsO,Asn,Al]
 .have f:l.Esc.length<=k:=by have:=A1 j;omega
  rw[Asr f]at b;refine⟨(Eo (-1) 0 (Dv e (B6 e) l.Out false),decide (0<(Eo (-1) 0 (Dv e (B6 e) l.Out false)).length)),SV h (o _ (Ar8 ..)),?_,lR⟩;have h0:Eo (-1) 0 (Dv e (B6 e) l.Out false)=r:=by
   rw[<- b];show _=Fy e ([]++[(-1,l.Out)]);rw[Ato,Ro];cases c:decide (0<(Eo (-1) 0 (Dv e (B6 e) l.Out false)).length)with
   | true=>rfl
   | false=>exact AsO gD
  subst h0;exact⟨Ob.le_refl _,Ob.le_refl _,Ob.le_refl _,trivial⟩
def Aj0 {w:Wy}{r:List Wy}(h:[w]=r):leO [] []/\VV.le (.sl true 1 6 λi=>List.take 6 (List.drop (i*6) (Bf w))) (Br true r):=by
 subst h;refine⟨trivial,As2 (.inl rfl) λi hi=>AN ?_⟩;obtain rfl:i=0:=oM
 rfl
def J9 (h:CZ e):Ah prog 124 [] [.agg (Ai e)] [] (Br true (Bz e)):=by
 have hp:=h.ok.fit.p;have a:Bz e=bif decide ((EK e e.Pid).Loc=(D8 e).Final)then(bif decide (e.Pid=(e.S.Procs.length:Int)-1)then[L5 0]else[])
  else bif decide ((Bx e).2≠0)then[L5 (Bx e).2]
  else bif !(Bx e).1 then[]else Fy e (G2 (DJ e)):=rfl
 generalize Bz e=r at a;refine Ap func124 (Zk r e rfl) ⟨⟨h.p0,h.ok.pid.2⟩,D8 e,Qo h,λh1=>⟨λh2=>⟨L5 0,Qp,Aj0 ?_⟩,λh2=>?_⟩,
  λh1=>⟨Bx e,Qn h,λh2=>⟨L5 (Bx e).2,Qp,Aj0 ?_⟩,λh2=>⟨λh3=>?_,λh3=>⟨DJ e,Ld h,Fy e (G2 (DJ e)),?_,?_⟩⟩⟩⟩
 .rw[ieq]at h1;rw[B9 oM oM,ieq]at h2;rw[a,show decide ((EK e e.Pid).Loc=(D8 e).Final)=true from h1,h2]<;>rfl
 .rw[ieq]at h1;rw[B9 oM oM,ieq]at h2;rw[a,show decide ((EK e e.Pid).Loc=(D8 e).Final)=true from h1,h2];exact⟨trivial,AsB⟩
 .rw[ieq]at h1;rw[A2]at h2;rw[a,show decide ((EK e e.Pid).Loc=(D8 e).Final)=false from h1,h2]<;>rfl
 .rw[ieq]at h1;rw[A2]at h2;rw[a,show decide ((EK e e.Pid).Loc=(D8 e).Final)=false from h1,h2,h3];exact⟨trivial,AsB⟩
 .exact Ah.ownB (i:=1) (j:=0) (cs:=[.nl]) rfl rfl 6 (Ks []) (UD h h.wloc.Esc.1 λws b=>h.ws b)
 .rw[ieq]at h1;rw[A2]at h2;rw[a,show decide ((EK e e.Pid).Loc=(D8 e).Final)=false from h1,h2,h3];exact⟨trivial,lR⟩
def Qr (b:AF e.M)(hs:BO e.S):Ah prog 152 [] [.agg (Ai e)] [] (.tup [Br true (ED e).1,Aa (ED e).2]):=by
 have a:ED e=bif decide (F5 e≠0)then([],F5 e)else(Bz e,0):=rfl
 generalize ED e=r at a;refine Ap func152 (AdU r e) ⟨F5 e,Wg b hs,λh1=>?_,λh1=>⟨Bz e,J9 (Agn b (by simpa using h1)),?_⟩⟩
 .rw[A2]at h1;rw[a,h1];exact⟨trivial,Atv ⟨AsB,lR,trivial⟩⟩
 .rw[A2]at h1;rw[a,h1];exact⟨trivial,lR⟩
def Yg (w:Wy):Nat->List Wy->Int
 | _,[]=>-1
 | k,x::r=>bif decide (w=x)then(k:Int)else Yg w (k+1) r
def T6 {w x:Wy}{k:Nat}{r:List Wy}:Yg w k (x::r)=bif decide (w=x)then(k:Int)else Yg w (k+1) r:=rfl
def Yf {w:Wy}:∀{l:List Wy}{k:Nat},decide (Yg w k l>=0)=decide (w∈l)
 | [],k=>by simp[Yg]
 | x::r,k=>by
  have ih:=Yf (w:=w) (l:=r) (k:=k+1);rw[T6];grind
def Aqu {w x:Wy}:(w.Esc==x.Esc&&(w.Way==x.Way&&(w.With==x.With&&(w.WithEsc==x.WithEsc&&(w.WithWay==x.WithWay&&(w.Err==x.Err&&true))))))=decide (w=x):=by
 obtain⟨a,b,c,a4,d,f⟩:=w;obtain⟨b1,b2,b3,b4,g,h⟩:=x;rw[AsU];simp
def Zo {l:List Wy}{w:Wy}(j:l.length<=1099511627776):Ah prog 171 [] [Br true l,.agg (Bf w)] [] (Aa (Yg w 0 l)):=by
 refine Ap func171 (AdK _ l w) ?_;refine Ar l.length (λk=>PQ l w k) (λk=>Yg w 0 l=Yg w k (l.drop k)) rfl ?_;intro k m h J next
 refine Asm (Zp _ l w k J rfl) ⟨λc=>?_,λf=>Bp ?_⟩
 .have a:k<l.length:=by have:=A0 c;omega
  have g:(k:Int).toNat=k:=oM
  rw[g,Aqu];rw[A9 (d:=default) a,T6]at h;refine⟨oM,λi=>Bp ?_,λi=>next _ a ?_ (Up.of ?_)⟩
  .grind
  .grind
  grind[Al]
 .have b:l.length<=k:=by have:=A1 f;omega
  rw[h,Asr b]<;>rfl
def We {l:List Wy}{w:Wy}(a:l.length<=1099511627776):Ah prog 154 [] [Br true l,.agg (Bf w)] [] (Ac (decide (w∈l))) :=
 Ap func154 (Zv _ l w) ⟨_,Zo a,AB Yf⟩
end
end Go.Proofs.YtddhibmbpmcnpaaGreatDoor
