/-
  Texts, joined: GdW4, GdW5, GdW6, CkP, CkS, CkA, CkH, CkW, Touch, StClone, ExS, ExA, ExH, ValPlain, TwoPlain, ExP, Scope, ExOne, ExW1, ExW2, ExW3, ExW4, ExW5, EbP, EbS, EcP, VjThaw, VjThawF, VjOwn, EcE, EcA, EcH, EcW1, EcW2, EcW3, EcW4, EcW5, EcW6, EcW7, CoP, CoV, CellRet, CoW, RfS, RfA.
-/
import Derived.Test.YtggokmjgegoanaaGreatDoorTkB
import Derived.KernelRfl
import Derived.WalkKit
import Derived.OneCell
import Derived.Deep.QuietTactic
import Derived.BigRegion
import Derived.Deep.RegionLaw
import Derived.Deep.AppendLies
import Derived.Lib.SliceRun
import Derived.Lib.Hide
import Derived.Test.YtggokmjgegoanaaGreatDoorProg
import Derived.WalkSpells
import Derived.WalkLawsBesides
import Derived.BigQuiet
import Derived.Laws.Rows
set_option linter.defProp false
set_option maxRecDepth 100000
namespace Go.Proofs.YtggokmjgegoanaaGreatDoor
open Go.RowKit Go.Proofs.Tryz
open IntKind(i64)
def leS (x y:VV):Prop:=∀(w:World)(E:A1)(m:Option Phi)(v:Value),(∀k,E.br k->E.fz k)->V w E m x v->V w E m y v
theorem Db (x):leS x x:=λ_ _ _ _ _ h=>h
def It {n sz}{f}:leS (.sl true n sz f) (.sl false n sz f):=by
 intro w E m v d h;obtain⟨a,cap,rfl,h1,h2,h3⟩:=V.sl_inv h;refine AsP h1 h2 λhp=>?_
 obtain⟨b,off,rfl,e,g,k,u,l,hv⟩:=h3 hp;exact⟨b,off,rfl,e,λc=>g (d b c),k,u,l,λi j x hi o=>(hv i j x hi o).less (λ_ h=>h) λ_ _=>trivial⟩
def Ai.frz {P}{f}{hs hs'}{xs ys}{r}(h:Ai P f hs xs hs' r)(d:ys.length=xs.length)(b:∀(j:Nat) x y,xs[j]?=some x->ys[j]?=some y->leS y x):Ai P f hs ys hs' r:=by
 refine⟨h.callable,λw E φ vs e c hφ a=>h.call w E φ vs e c hφ ⟨a.1.trans d,λj x g=>?_⟩⟩;have hj:j<ys.length:=gD
 exact b j x _ g (AqX hj) _ _ _ _ (λk hk=>hk.imp (c.sub k) λh=>h) (a.2 j _ (AqX hj))
def ieq (a b:Int):(a==b)=decide (a=b):=gD
def Be (a b):(bif a then b else false)=(a&&b):=by cases a<;>rfl
theorem Bp (a b):(bif a then true else b)=(a||b):=by cases a<;>rfl
def nge (n k:Nat):decide ((n:Int)>=k)=decide (k<=n):=gD
def nle (n k:Nat):decide ((n:Int)<=k)=decide (n<=k):=gD
def ge1 (n:Nat):decide ((n:Int)>=1)=decide (1<=n):=nge n 1
def le8 (n:Nat):decide ((n:Int)<=8)=decide (n<=8):=nle n 8
def Aqc (n:Nat):decide ((n:Int)<=256)=decide (n<=256):=nle n 256
def Ap9 (n:Nat):decide ((n:Int)=0)=decide (n=0):=gD
structure Pg (s:D.Stmt):Prop where
 a:s.Args.length<=1048576
 m:s.Match.length<=1048576
def Re {m}{s}(hs:Pg s):Ai prog 176 [] [tpM m,.agg (An s)] [] (Ad (AF m s)):=by
 have e:=hs.a;have f:=hs.m;have em:∀u v x:Bool,Ai prog 208 [] [.agg (An s),Ad u,Ad v,Ad x] [] (Ad (D4 s u v x)):=λu v x=>Acz e f
 have n1:∀x:Bool,(bif x then s.B==(-1:Int)else false)=(x&&decide (s.B=-1)):=λx=>by rw[ieq,Be]
 have c:∀{k:Int},(s.Kind==k)=true->s.Kind=k:=λh=>by simpa using h
 have i:∀{k:Int},(s.Kind==k)=false->s.Kind≠k:=λh=>by simpa using h
 refine Ax func176 (SW _ m s rfl rfl) ?_;have d:s.Kind=1\/s.Kind=3->AF m s=(DW m s.A&&decide (s.B=-1)&&D4 s true true true):=λh=>by unfold AF;rw[Ari h]
 have t2:s.Kind=2->AF m s=(B6 m s.A&&DW m s.B&&D4 s true true true):=λh=>by unfold AF;grind
 have j:s.Kind=4->AF m s=(decide (s.A=-1)&&decide (s.B=-1)&&CI m.Exprs.length s.Args&&decide (s.Match.length=0)&&decide (s.Text.size<=256)&&decide (s.N=0)):=λh=>by unfold AF;grind
 have g:s.Kind=5->AF m s=(DW m s.A&&decide (s.B=-1)&&decide (1<=s.Args.length)&&decide (s.Args.length<=8)&&CI m.Exprs.length s.Args&&decide (s.Match.length=0)&&(decide (s.N=0)||decide (s.N=1))&&decide (s.Text.size=0)):=λh=>by unfold AF;grind
 have t6:s.Kind=6->AF m s=(DW m s.A&&decide (s.B=-1)&&F8 m s&&decide (0<=s.N)&&decide (s.N<=3)&&decide (s.Text.size=0)):=λh=>by unfold AF;grind
 have l:s.Kind=7\/s.Kind=8->AF m s=(decide (s.A=-1)&&decide (s.B=-1)&&D4 s true true true):=λh=>by unfold AF;grind
 have t9:s.Kind=9->AF m s=(B6 m s.A&&decide (s.B=-1)&&decide (0<=s.N)&&decide (s.N<m.Shapes.length)&&D4 s true false true):=λh=>by unfold AF;grind
 have tx:¬(s.Kind=1\/s.Kind=3)->s.Kind≠2->s.Kind≠4->s.Kind≠5->s.Kind≠6->¬(s.Kind=7\/s.Kind=8)->s.Kind≠9->AF m s=false:=λh1 h2 h3 h4 h5 h6 h7=>by unfold AF;grind
 generalize AF m s=b at d t2 j g t6 l t9 tx |-;exact⟨λh1=>⟨λ_=>⟨_,Gf m s.A,_,λ_=>em true true true,AA gD⟩,λh=>bt h1 h⟩,λh1=>⟨λh3=>⟨_,Gf m s.A,_,λ_=>em true true true,AA gD⟩,λh3=>⟨λh2=>⟨_,Kh m s.A,_,λ_=>Gf m s.B,_,λ_=>em true true true,AA gD⟩,λh2=>⟨λh4=>⟨_,λ_=>Gp oM,AA (by simp_all[ieq,Aqc])⟩,λh4=>⟨λh5=>⟨_,Gf m s.A,_,λ_=>Gp oM,AA (by rw[g (c h5)];simp only[ieq,Be,Bp,Ap9,M8,le8,ge1])⟩,λh5=>⟨λh6=>⟨_,Gf m s.A,_,λ_=>ZV e f,AA (by rw[t6 (c h6)];simp only[ieq,Be,M8,Ar1])⟩,λh6=>⟨λh7=>⟨λ_=>⟨_,λ_=>em true true true,AA gD⟩,λh=>bt h7 h⟩,λh7=>⟨λn=>⟨_,λ_=>em true true true,AA gD⟩,λn=>⟨λo=>⟨_,Kh m s.A,_,λ_=>em true false true,AA gD⟩,λo=>AA gD⟩⟩⟩⟩⟩⟩⟩⟩⟩
def IV {x}(h1:x.Args.length<=1048576)(h2:x.V.Dims.length<=1048576):Ai prog 133 [] [.agg (AE x)] [] (Ac true (BR x)):=by
 have s:=RQ x.Op;have v:([x.A,x.B,x.C].take (A7 x.Op)).length=A7 x.Op:=by simp;omega
 have a:∀i,i<([x.A,x.B,x.C].take (A7 x.Op)).length->List.take 1 (List.drop (i*1) [VV.sc (.int .i64 x.A),.sc (.int .i64 x.B),.sc (.int .i64 x.C)])=[Aa (([x.A,x.B,x.C].take (A7 x.Op)).getD i 0)]:=by
  intro i hi;rw[v]at hi;have:([x.A,x.B,x.C].take (A7 x.Op)).getD i 0=[x.A,x.B,x.C].getD i 0:=gD
  rw[this];rcases(show i=0\/i=1\/i=2 by omega)with rfl|rfl|rfl<;>rfl
 have b:((A7 x.Op:Nat):Int).toNat=A7 x.Op:=oM
 have loop:∀(L:List Int),L.length<=2097152->L++x.V.Dims.map D.Dim.I=BR x->As (BM prog tb BX HX true f133 [] (Ac true (BR x))) [1,1,1,0,1,0,1,1,0] (Z7 x L 0):=by
  intro L H y;generalize BR x=R at y |-;refine Az x.V.Dims.length (λk=>Z7 x (L++(x.V.Dims.take k).map D.Dim.I) k) (λ_=>True) trivial ?_ |> λh=>by simpa using h
  intro k hk _ J next
  have m:(L++(x.V.Dims.take k).map D.Dim.I).length=L.length+k:=by simp;omega
  refine AqU (Ahm _ x _ k J) ⟨λt=>?_,λE=>⟨trivial,?_⟩⟩
  .have o:k<x.V.Dims.length:=by have:=AP t;omega
   have b:(k:Int).toNat=k:=oM
   rw[b];refine⟨⟨oM,oM⟩,by rw[m];omega,next _ o trivial ?_⟩;have c:(x.V.Dims.take (k+1)).map D.Dim.I=(x.V.Dims.take k).map D.Dim.I++[(x.V.Dims.getD k default).I]:=by grind[C1]
   have e:L++(x.V.Dims.take (k+1)).map D.Dim.I=(L++(x.V.Dims.take k).map D.Dim.I)++[(x.V.Dims.getD k default).I]:=by rw[c,Arx]
   rw[e,Al oM];generalize L++(x.V.Dims.take k).map D.Dim.I=M;generalize(x.V.Dims.getD k default).I=z;refine Up.mk (l':=[(3,.ow 0 0 (M++[z]).length),(45,Du true x.V.Dims),(46,Aa x.V.Dims.length),(47,Aa ((k+1:Nat):Int))]) (hs':=[.arr true 0 (M++[z]).length 1 (AC (M++[z]))]) ?_ ?_ rfl
   .grind[AK]
   .rw[show M.length+1=(M++[z]).length by simp];exact⟨Ard λi hi=>AN (Bu (f:=λn=>[Aa n]) (d:=0) (l:=M) (r:=[z]) (F:=λi=>[.sc (.int .i64 (M.getD i 0))]) (λi hi=>rfl) Ff hi),trivial⟩
  grind[AQ,Arr,VV.le_refl]
 refine Ax func133 (AkN _ x rfl rfl rfl rfl rfl rfl) ⟨(A7 x.Op:Nat),Fq _,?_⟩;rw[b];have p:A7 x.Op=([x.A,x.B,x.C].take (A7 x.Op)).length:=v.symm;generalize u:[x.A,x.B,x.C].take (A7 x.Op)=P at a p loop;have g:BR x=P++((if x.Op=30\/x.Op=39 then x.Args else[])++(if x.Op=2 then(if x.V.Scope=2 then[x.V.Who]else[])++x.V.Dims.map D.Dim.I else[])):=by unfold BR;rw[u]
 generalize BR x=R at g loop |-;rw[p]at s |-;refine⟨⟨oM,oM⟩,oM,λh=>⟨oM,λi hi=>rfl,λk=>?_,λk=>⟨trivial,?_⟩⟩,λh=>⟨λk=>⟨λq=>⟨oM,?_⟩,λq=>?_⟩,λk=>⟨trivial,?_⟩⟩⟩
 .simp at h k;omega
 .have e:R=P++x.Args:=gD
  subst e;rw[show P.length+x.Args.length=(P++x.Args).length by simp];exact ArJ (.inl rfl) λi hi=>AN (Bu (f:=λn=>[Aa n]) (d:=0) (l:=P) (r:=x.Args) (G:=λj=>[.sc (.int .i64 (x.Args.getD j 0))]) a (λi hi=>rfl) hi)
 .have w:¬(x.Op=30\/x.Op=39):=by simpa using h
  have e:(P++[x.V.Who])++x.V.Dims.map D.Dim.I=R:=gD
  refine As.le (l':=[(3,.ow 0 0 (P++[x.V.Who]).length),(45,Du true x.V.Dims),(46,Aa x.V.Dims.length),(47,Aa 0)]) (hs':=[.arr true 0 (P++[x.V.Who]).length 1 (AC (P++[x.V.Who]))]) ?_ ?_ (loop _ (by simp;omega) e)
  .grind[AK]
  .rw[show P.length+1=(P++[x.V.Who]).length by simp];exact⟨Ard λi hi=>AN (Bu (f:=λn=>[Aa n]) (d:=0) (l:=P) (r:=[x.V.Who]) a Ff hi),trivial⟩
 .have w:¬(x.Op=30\/x.Op=39):=by simpa using h
  have e:P++x.V.Dims.map D.Dim.I=R:=gD
  exact Afx (G:=AC P) (λi hi=>a i hi) (loop _ oM e)
 .have w:¬(x.Op=30\/x.Op=39):=by simpa using h
  have e:R=P:=gD
  subst e;exact ArJ (.inl rfl) λi hi=>AN (a i hi)
structure Fe (m:D.Model):Prop where
 wf:AR m
 ex:∀k:Nat,k<m.Exprs.length->Ey m k=true
def InE (m:D.Model)(l:List Int):Prop:=∀x∈l,0<=x/\x<m.Exprs.length
def NY {m}{k}(h0:0<=k)(h:k<m.Exprs.length):Ar m k∈m.Exprs:=Au oM
def Fe.at {m}(h:Fe m){k:Int}(h0:0<=k)(hk:k<m.Exprs.length):Ey m k:=by
 have:=h.ex k.toNat oM;grind
def Fe.held {m}(h:Fe m){k:Int}(h0:0<=k)(hk:k<m.Exprs.length):InE m (BR (Ar m k)):=λx a=>by
 have:=NT (h.at h0 hk) x a;omega
def Fe.small {m}(h:Fe m):∀x∈m.Exprs,x.Args.length<=1048576/\x.V.Dims.length<=1048576:=λx a =>
 ⟨(h.wf.Exprs.2 x a).Args.1,(h.wf.Exprs.2 x a).V.Dims.1⟩
def Fe.slots {m}(h:Fe m){k:Int}(h0:0<=k)(hk:k<m.Exprs.length)(h2:(Ar m k).Op=2):(Ar m k).V.Scope≠0->(Ar m k).V.Scope≠1->0<=(Ar m k).V.Type_/\(Ar m k).V.Type_<m.Procs.length:=by
 have a:=h.at h0 hk;unfold Ey at a;simp only[AqI]at a;obtain⟨_,c⟩:=a;generalize Ar m k=x at *;rw[AqY oM,Ari h2]at c;simp only[AqI,DI]at c;obtain⟨⟨⟨⟨⟨⟨d,hs2⟩,_⟩,_⟩,_⟩,e⟩,_⟩:=c;intro n0 n1;have hs:x.V.Scope=2:=by simp at d hs2;omega
 simp only[hs,decide_true,AqL,AqI]at e;have:=e.2;unfold CZ at this;simp at this;omega
structure Inv (m:D.Model) (i run:Int) (n:Nat) (b:Bool) (seen:List Bool) (todo:List Int) (k:Nat):Prop where
 sl:seen.length=m.Exprs.length
 le:k<=todo.length
 mem:InE m todo
 sum:todo.length+load m seen=n
 res:M6 m i run (todo.length-k+load m seen+1) seen (todo.drop k)=b
section
variable {m : D.Model} {i run:Int} {n:Nat} {b:Bool} {seen:List Bool} {todo:List Int} {k:Nat}
def Inv.at (h:Inv m i run n b seen todo k)(hk:k<todo.length):0<=todo.getD k 0/\todo.getD k 0<m.Exprs.length:=h.mem _ (Au hk)
def Inv.step (h:Inv m i run n b seen todo k)(hk:k<todo.length) :
  (bif seen.getD (todo.getD k 0).toNat false then M6 m i run (todo.length-(k+1)+load m seen+1) seen (todo.drop (k+1))else bif Fj m i run (todo.getD k 0)then false
   else M6 m i run (todo.length-(k+1)+load m seen+1) (seen.set (todo.getD k 0).toNat true) (todo.drop (k+1)++BR (Ar m (todo.getD k 0))))=b:=by
 have:=h.res;rw[Bq (d:=0) hk,show todo.length-k+load m seen+1=(todo.length-(k+1)+load m seen+1)+1 by omega]at this;exact this
def Inv.had (h:Inv m i run n b seen todo k)(hk:k<todo.length)(hs:seen.getD (todo.getD k 0).toNat false):Inv m i run n b seen todo (k+1):=by
 have:=h.step hk;rw[hs,AqL]at this;exact⟨h.sl,hk,h.mem,h.sum,this⟩
def Inv.bad (h:Inv m i run n b seen todo k)(hk:k<todo.length)(hs:seen.getD (todo.getD k 0).toNat false=false)(a:Fj m i run (todo.getD k 0)):false=b:=by
 have:=h.step hk;grind
def Inv.more (e:Fe m)(h:Inv m i run n b seen todo k)(hk:k<todo.length)(hs:seen.getD (todo.getD k 0).toNat false=false)(f:Fj m i run (todo.getD k 0)=false) :
  Inv m i run n b (seen.set (todo.getD k 0).toNat true) (todo++BR (Ar m (todo.getD k 0))) (k+1):=by
 have c:=h.at hk;have g:=AkA (m:=m) hs (by rw[h.sl];omega) h.sl;have:=h.step hk;rw[hs,AqJ,f,AqJ]at this;have d:=h.sum;have j:m.Exprs.getD (todo.getD k 0).toNat default=Ar m (todo.getD k 0):=rfl;rw[j]at g;refine⟨by simp[h.sl],by simp;omega,λx a=>?_,gD,?_⟩
 .rcases Arg.1 a with a|a
  .exact h.mem x a
  .exact e.held c.1 c.2 x a
 grind
end
def Tl (m)(i run k):Fj m i run k=((bif bif(Ar m k).Op==39 then k != run else false then true else bif i==m.Claim then bif bif(Ar m k).Op==31 then true else(Ar m k).Op==39 then true else bif(Ar m k).Op==2 then(Ar m k).V.Scope==1 else false else false) ||
  ((Ar m k).Op==2&&decide (FO m i (Ar m k).V<DV (Ar m k).V))):=by
 unfold Fj;grind
def Qp {l:List Bool}{t j:Nat}(hj:j<l.length):(bif j.beq t then[VV.sc (.bool true)]else[.sc (.bool (l.getD j false))])=[Ad ((l.set t true).getD j false)]:=by
 cases c:j.beq t with
 | true =>
  have:=AqM c;subst this;simp[List.getD,hj,Ad]
 | false =>
  have a:t≠j:=by rintro rfl;simp at c
  simp[List.getD,a,Ad]
def V2 {l r}{F:Nat->List VV}(a:∀i,i<l.length->F i=[Aa (l.getD i 0)]){i}(hi:i<(l++r).length):(bif i.blt l.length then F i else(λj=>[Aa (r.getD j 0)]) (i-l.length))=AC (l++r) i :=
 Bu (f:=λn=>[Aa n]) (d:=0) (l:=l) (r:=r) (G:=λj=>[Aa (r.getD j 0)]) a (λ_ _=>rfl) hi
def AeQ {m}{i run:Int}{list}(r:Fe m)(y:0<=i)(hi:i<m.Procs.length)(A:InE m list)(E:list.length<=2097152) :
  Ai prog 136 [] [tpM m,Aa i,Ac false list,Aa run] [] (Ad (Kc m i list run)):=by
 have K:=r.wf.Exprs.1;have B:=AmP r.small (Bg m);have F:m.Exprs.length*2097156<=1048576*2097156:=Arb _ K;generalize L:Kc m i list run=b;have inv0:Inv m i run (list.length+load m (Bg m)) b (Bg m) list 0:=⟨by simp[Bg],AqN _,A,rfl,by rw[<- L]<;>rfl⟩;generalize R:list.length+load m (Bg m)=n at inv0;have M:n<=4398046511104:=oM
 have small:∀{t:Int},0<=t->t<m.Exprs.length->(Ar m t).Args.length<=1048576/\(Ar m t).V.Dims.length<=1048576:=λh0 h1=>r.small _ (NY h0 h1)
 have wfv:∀{t:Int},0<=t->t<m.Exprs.length->Je (Ar m t).V:=λh0 h1=>(r.wf.Exprs.2 _ (NY h0 h1)).V
 refine Ax func136 (AiG _ m i list run) ?_;refine Tz Aj Ak 0 (λg st=>∃(seen:List Bool)(todo:List Int)(k:Nat),Inv m i run n b seen todo k/\g=todo.length-k+load m seen/\st=Ri m i list run seen todo k) kR kR kR kR (AqU (AeS _ m i list run _ rfl rfl rfl rfl) ?_) λg st h=>?_
 .have C:((m.Exprs.length:Int).toNat)=m.Exprs.length:=oM
  rw[C];have s:Int.toNat 0=0:=rfl;have G:∀j,j<m.Exprs.length->(Bg m).getD j false=false:=λj hj=>by simp[Bg,List.getD,hj]
  have N:(Bg m).length=m.Exprs.length:=by simp[Bg]
  refine⟨⟨oM,oM,oM⟩,oM,λ_ _=>rfl,λh=>AA ?_,λh=>?_⟩
  .have h0:list.length=0:=by simp at h;omega
   have:=inv0.res;rw[Ars h0]at this;rw[<- this]<;>rfl
  .have h0:0<list.length:=by simp at h;omega
   have f:=inv0.at h0;rw[s];have hs:=G (list.getD 0 0).toNat oM;have a:=Tl m i run (list.getD 0 0);have more:=λc=>inv0.more r h0 hs c
   have bad:=λc=>inv0.bad h0 hs c
   have d:=small f.1 f.2;have u:=wfv f.1 f.2;have z:=inv0.sum;have o:=r.slots f.1 f.2;refine⟨⟨oM,oM⟩,⟨oM,oM⟩,λh=>(by cases h),λ_=>⟨⟨oM,oM⟩,⟨oM,oM⟩,λp=>AA (bad (by rw[a,ArP];exact .inl p)),λp=>?_⟩⟩;have fin:Fj m i run (list.getD 0 0)=false->(list.length+(BR (Ar m (list.getD 0 0))).length)*8<=140737488355328/\∃g,Up (λst=>∃(seen:List Bool)(todo:List Int)(k:Nat),Inv m i run n b seen todo k/\g=todo.length-k+load m seen/\st=Ri m i list run seen todo k)
     (Aq [(0,tpM m),(1,Aa i),(2,Ac false list),(3,Aa run),(9,.ow 0 0 m.Exprs.length),(10,.ow 1 0 (list.length+(BR (Ar m (list.getD 0 0))).length)),(11,Aa (i64.wrap (0+1)))]
      [.arr true 0 m.Exprs.length 1 (λj=>bif j.beq (list.getD 0 0).toNat then[.sc (.bool true)]else[.sc (.bool false)]),.arr true 0 (list.length+(BR (Ar m (list.getD 0 0))).length) 1 (λj=>bif j.blt list.length then(λj=>[Aa (list.getD j 0)]) j else(λj=>[Aa ((BR (Ar m (list.getD 0 0))).getD j 0)]) (j-list.length))]):=by
    intro c;have q:=more c;have e:=q.sum;generalize BR (Ar m (list.getD 0 0))=H at q e |-;generalize(list.getD 0 0).toNat=t at q e |-;rw[AqT]at e;refine⟨oM,(list++H).length-(0+1)+load m ((Bg m).set t true),?_⟩;have O:i64.wrap (0+1)=((1:Nat):Int):=rfl;have v:m.Exprs.length=((Bg m).set t true).length:=by simp[Bg]
    refine Up.mk (l':=[(0,tpM m),(1,Aa i),(2,Ac false list),(3,Aa run),(9,.ow 0 0 ((Bg m).set t true).length),(10,.ow 1 0 (list++H).length),(11,Aa ((1:Nat):Int))])
     (hs':=[.arr true 0 ((Bg m).set t true).length 1 (EK ((Bg m).set t true)),.arr true 0 (list++H).length 1 (AC (list++H))]) ?_ ?_ ⟨_,_,_,q,rfl,rfl⟩
    .grind[AqT,AK]
    .rw[<- v,<- AqT];refine⟨Ard λj hj=>AN ?_,Ard λj hj=>AN (V2 (λi hi=>rfl) hj),trivial⟩;have:=Qp (l:=Bg m) (t:=t) (j:=j) oM;rw[G j hj]at this;exact this
   refine⟨λh2=>⟨_,Hv u,_,Rn (λ_=>⟨y,hi⟩) (o (eq_of_beq h2)),λh3=>AA (bad ?_),λh3=>?_⟩,λh2=>?_⟩
   .rw[a,ArP,AqI];exact .inr ⟨h2,h3⟩
   .have c:Fj m i run (list.getD 0 0)=false:=by
     rw[a,Aq1,ArY];exact⟨p,.inr h3⟩
    obtain⟨w,x⟩:=fin c;exact⟨BR (Ar m (list.getD 0 0)),IV d.1 d.2,w,λi hi=>rfl,x⟩
   .have c:Fj m i run (list.getD 0 0)=false:=by
     rw[a,Aq1,ArY];exact⟨p,.inl h2⟩
    obtain⟨w,x⟩:=fin c;exact⟨BR (Ar m (list.getD 0 0)),IV d.1 d.2,w,λi hi=>rfl,x⟩
 .obtain⟨seen,todo,k,inv,rfl,rfl⟩:=h;refine AqU (AeR _ m i list run seen todo k _ rfl rfl rfl) ⟨λh=>AA ?_,λh=>?_⟩
  .have h0:k=todo.length:=by simp at h;omega
   have:=inv.res;rw[ArV oM]at this;rw[<- this,M6]
  .have P:=inv.le;have h0:k<todo.length:=by simp at h;omega
   have f:=inv.at h0;have s:(k:Int).toNat=k:=oM
   rw[s];have a:=Tl m i run (todo.getD k 0);have d:=small f.1 f.2;have u:=wfv f.1 f.2;have z:=inv.sum;have I:=inv.sl;have o:=r.slots f.1 f.2;refine⟨⟨oM,oM⟩,⟨oM,oM⟩,λhs=>?_,λhs=>?_⟩
   .have Q:=inv.had h0 hs;refine⟨todo.length-(k+1)+load m seen,oM,Up.of ⟨seen,todo,k+1,Q,rfl,?_⟩⟩;grind[Al]
   have more:=λc=>inv.more r h0 hs c
   have bad:=λc=>inv.bad h0 hs c
   refine⟨⟨oM,oM⟩,⟨oM,oM⟩,λp=>AA (bad (by rw[a,ArP];exact .inl p)),λp=>?_⟩;have fin:Fj m i run (todo.getD k 0)=false->(todo.length+(BR (Ar m (todo.getD k 0))).length)*8<=140737488355328/\∃J,J<todo.length-k+load m seen/\Up (λst=>∃(seen:List Bool)(todo:List Int)(k:Nat),Inv m i run n b seen todo k/\J=todo.length-k+load m seen/\st=Ri m i list run seen todo k)
     (Aq [(0,tpM m),(1,Aa i),(2,Ac false list),(3,Aa run),(9,.ow 0 0 seen.length),(10,.ow 1 0 (todo.length+(BR (Ar m (todo.getD k 0))).length)),(11,Aa (i64.wrap (k+1)))]
      [.arr true 0 seen.length 1 (λj=>bif j.beq (todo.getD k 0).toNat then[.sc (.bool true)]else[.sc (.bool (seen.getD j false))]),.arr true 0 (todo.length+(BR (Ar m (todo.getD k 0))).length) 1 (λj=>bif j.blt todo.length then AC todo j else(λj=>[Aa ((BR (Ar m (todo.getD k 0))).getD j 0)]) (j-todo.length))]):=by
    intro c;have q:=more c;have e:=q.sum;generalize BR (Ar m (todo.getD k 0))=H at q e |-;generalize(todo.getD k 0).toNat=t at q e |-;rw[AqT]at e;refine⟨oM,(todo++H).length-(k+1)+load m (seen.set t true),gD,?_⟩;have v:seen.length=(seen.set t true).length:=sM
    refine Up.mk (l':=[(0,tpM m),(1,Aa i),(2,Ac false list),(3,Aa run),(9,.ow 0 0 (seen.set t true).length),(10,.ow 1 0 (todo++H).length),(11,Aa ((k+1:Nat):Int))])
     (hs':=[.arr true 0 (seen.set t true).length 1 (EK (seen.set t true)),.arr true 0 (todo++H).length 1 (AC (todo++H))]) ?_ ?_ ⟨_,_,_,q,rfl,rfl⟩
    .grind[Al,AqT,AK]
    .rw[<- v,<- AqT];exact⟨Ard λj hj=>AN (Qp hj),Ard λj hj=>AN (V2 (λi hi=>rfl) hj),trivial⟩
   refine⟨λh2=>⟨_,Hv u,_,Rn (λ_=>⟨y,hi⟩) (o (eq_of_beq h2)),λh3=>AA (bad ?_),λh3=>?_⟩,λh2=>?_⟩
   .rw[a,ArP,AqI];exact .inr ⟨h2,h3⟩
   .have c:Fj m i run (todo.getD k 0)=false:=by
     rw[a,Aq1,ArY];exact⟨p,.inr h3⟩
    obtain⟨w,x⟩:=fin c;exact⟨BR (Ar m (todo.getD k 0)),IV d.1 d.2,w,λi hi=>rfl,x⟩
   .have c:Fj m i run (todo.getD k 0)=false:=by
     rw[a,Aq1,ArY];exact⟨p,.inl h2⟩
    obtain⟨w,x⟩:=fin c;exact⟨BR (Ar m (todo.getD k 0)),IV d.1 d.2,w,λi hi=>rfl,x⟩
def Ac1 {m}{i run:Int}{list}{n}{F}(e:Fe m)(c:0<=i)(hi:i<m.Procs.length)(d:InE m list)(a:list.length<=2097152)(f:n=list.length)(g:∀j,j<list.length->F j=[Aa (list.getD j 0)]) :
  Ai prog 136 [] [tpM m,Aa i,.sl false n 1 F,Aa run] [] (Ad (Kc m i list run)):=by
 subst f;exact(AeQ e c hi d a).le trivial ⟨lR,lR,ArJ (.inl rfl) λj hj=>AN (g j hj),lR,trivial⟩ trivial lR
def Ca (s:D.Stmt):List Int:=s.Args++((if 0<=s.A then[s.A]else[])++(if 0<=s.B then[s.B]else[]))
def Hf {m}{a}(h:DW m a):0<=a/\a<m.Exprs.length:=CC.1 h
def Q8 {m}{a}(h:B6 m a):0<=a/\a<m.Exprs.length:=by
 unfold B6 at h;simp only[AqI]at h;exact Hf h.1.1
def Yx {m}{a}{args mt}(h:Cl m a args mt):1<=args.length/\args.length<=8/\mt.length=args.length/\∀x∈args,0<=x/\x<a:=by
 unfold Cl at h;simp_all[Fx]
def Ji {m}{s}(h:AF m s):InE m s.Args/\(0<=s.A->s.A<m.Exprs.length)/\(0<=s.B->s.B<m.Exprs.length):=by
 have none:∀{n t:Bool},D4 s true n t=true->InE m s.Args:=λc=>by
  unfold D4 at c;simp only[AqI,Ase,Asj,AqO]at c;have:s.Args=[]:=Ars oM;rw[this];intro x d;cases d
 unfold AF at h;split at h
 .simp_all[Hf]
 split at h
 .simp_all[Q8,Hf]
 split at h
 .simp only[AqI,AqO]at h;exact⟨Fx.1 h.1.1.1.2,λh0=>oM,λh0=>oM⟩
 split at h
 .simp only[AqI,AqO]at h;exact⟨Fx.1 h.1.1.1.2,λ_=>(Hf h.1.1.1.1.1.1.1).2,λh0=>oM⟩
 split at h
 .simp only[AqI,AqO]at h;have a:=h.1.1.1.2;unfold F8 at a;simp only[AqI]at a;exact⟨(Yx a.1).2.2.2,λ_=>(Hf h.1.1.1.1.1).2,λh0=>oM⟩
 split at h
 .grind
 simp_all[Q8]
def ZN {m}{s}(h:AF m s):InE m (Ca s):=by
 obtain⟨h1,h2,h3⟩:=Ji h;intro x a;unfold Ca at a;rcases Arg.1 a with a|a
 .exact h1 x a
 grind
def Aiv {m}{i:Int}{s}(z:Fe m)(u:0<=i)(hi:i<m.Procs.length)(hs:Pg s):Ai prog 135 [] [tpM m,Aa i,.agg (An s)] [] (Ad (L7 m i s)):=by
 have I:=hs.a;have e:∀{k:Int},(s.Kind==k)=true->s.Kind=k:=λh=>by simpa using h
 have c:∀{k:Int},(s.Kind==k)=false->s.Kind≠k:=λh=>by simpa using h
 have ec:(bif bif bif bif i==m.Claim then s.Kind != 1 else false then s.Kind != 3 else false then s.Kind != 7 else false then s.Kind != 8 else false)=(decide (i=m.Claim)&&(decide (s.Kind≠1)&&(decide (s.Kind≠3)&&(decide (s.Kind≠7)&&decide (s.Kind≠8))))):=gD
 refine Ax func135 (AlR _ m i s rfl rfl rfl rfl rfl) ⟨AF m s,Re hs,?_⟩;rw[ec];have ew:L7 m i s=(AF m s&&!(decide (i=m.Claim)&&(decide (s.Kind≠1)&&(decide (s.Kind≠3)&&(decide (s.Kind≠7)&&decide (s.Kind≠8)))))&&Kc m i (Ca s) (if s.Kind=1 then s.A else if s.Kind=2 then s.B else -1)):=rfl;generalize(decide (i=m.Claim)&&(decide (s.Kind≠1)&&(decide (s.Kind≠3)&&(decide (s.Kind≠7)&&decide (s.Kind≠8)))))=cl at ew |-;refine⟨λh=>AA ?_,λh=>?_⟩
 .grind
 .have v:AF m s=true:=gD
  have w:cl=false:=by rw[v]at h;simpa using h
  rw[v,w]at ew;simp only[Bool.not_false,Aro]at ew;have x:=ZN v;have go:∀(run:Int)(n:Nat)(F:Nat->List VV),n=(Ca s).length->(∀j,j<(Ca s).length->F j=[Aa ((Ca s).getD j 0)])->Ai prog 136 [] [tpM m,Aa i,.sl false n 1 F,Aa run] [] (Ad (Kc m i (Ca s) run)):=λrun n F C E =>
   Ac1 z u hi x (by unfold Ca;grind) C E
  have q:s.Kind=1->L7 m i s=Kc m i (Ca s) s.A:=λh=>by rw[ew,Ari h]
  have r2:s.Kind≠1->s.Kind=2->L7 m i s=Kc m i (Ca s) s.B:=λh y=>by rw[ew,AqY h,Ari y]
  have t:s.Kind≠1->s.Kind≠2->L7 m i s=Kc m i (Ca s) (-1):=λh y=>by rw[ew,AqY h,AqY y]
  generalize L7 m i s=b at q r2 t |-;refine⟨oM,λ_ _=>rfl,λG=>⟨oM,λhB=>⟨oM,?_⟩,λhB=>?_⟩,λG=>⟨λhB=>⟨oM,?_⟩,λhB=>?_⟩⟩
  .have p:Ca s=(s.Args++[s.A])++[s.B]:=by unfold Ca;grind
   have g:s.Args.length+1+1=(Ca s).length:=by rw[p];simp
   have H:s.Args.length+1=(s.Args++[s.A]).length:=sM
   have o:∀j,j<(Ca s).length->(bif Nat.blt j (s.Args.length+1)then(λj=>bif Nat.blt j s.Args.length then[VV.sc (.int .i64 (s.Args.getD j 0))]else(λi=>List.take 1 (List.drop (i*1) [VV.sc (.int .i64 s.A)])) (j-s.Args.length)) j else(λi=>List.take 1 (List.drop (i*1) [VV.sc (.int .i64 s.B)])) (j-(s.Args.length+1)))=[Aa ((Ca s).getD j 0)]:=by
    rw[p,H];exact λj hj=>Bu (f:=λn=>[Aa n]) (d:=0) (l:=s.Args++[s.A]) (r:=[s.B]) (F:=λj=>bif Nat.blt j s.Args.length then[VV.sc (.int .i64 (s.Args.getD j 0))]else(λi=>List.take 1 (List.drop (i*1) [VV.sc (.int .i64 s.A)])) (j-s.Args.length)) (λi hi=>Bu (f:=λn=>[Aa n]) (d:=0) (l:=s.Args) (r:=[s.A]) (F:=λj=>[.sc (.int .i64 (s.Args.getD j 0))]) (λi hi=>rfl) Ff hi) Ff hj
   exact⟨λk1=>⟨_,go _ _ _ g o,AA (q (e k1)).symm⟩,λk1=>⟨λk2=>⟨_,go _ _ _ g o,AA (r2 (c k1) (e k2)).symm⟩,λk2=>⟨_,go _ _ _ g o,AA (t (c k1) (c k2)).symm⟩⟩⟩
  .have p:Ca s=s.Args++[s.A]:=by unfold Ca;grind
   have g:s.Args.length+1=(Ca s).length:=by rw[p];simp
   have o:∀j,j<(Ca s).length->(bif Nat.blt j s.Args.length then[VV.sc (.int .i64 (s.Args.getD j 0))]else(λi=>List.take 1 (List.drop (i*1) [VV.sc (.int .i64 s.A)])) (j-s.Args.length))=[Aa ((Ca s).getD j 0)]:=by
    rw[p];exact λj hj=>Bu (f:=λn=>[Aa n]) (d:=0) (l:=s.Args) (r:=[s.A]) (F:=λj=>[.sc (.int .i64 (s.Args.getD j 0))]) (λi hi=>rfl) Ff hj
   exact⟨λk1=>⟨_,go _ _ _ g o,AA (q (e k1)).symm⟩,λk1=>⟨λk2=>⟨_,go _ _ _ g o,AA (r2 (c k1) (e k2)).symm⟩,λk2=>⟨_,go _ _ _ g o,AA (t (c k1) (c k2)).symm⟩⟩⟩
  .have p:Ca s=s.Args++[s.B]:=by unfold Ca;grind
   have g:s.Args.length+1=(Ca s).length:=by rw[p];simp
   have o:∀j,j<(Ca s).length->(bif Nat.blt j s.Args.length then[VV.sc (.int .i64 (s.Args.getD j 0))]else(λi=>List.take 1 (List.drop (i*1) [VV.sc (.int .i64 s.B)])) (j-s.Args.length))=[Aa ((Ca s).getD j 0)]:=by
    rw[p];exact λj hj=>Bu (f:=λn=>[Aa n]) (d:=0) (l:=s.Args) (r:=[s.B]) (F:=λj=>[.sc (.int .i64 (s.Args.getD j 0))]) (λi hi=>rfl) Ff hj
   exact⟨λk1=>⟨_,go _ _ _ g o,AA (q (e k1)).symm⟩,λk1=>⟨λk2=>⟨_,go _ _ _ g o,AA (r2 (c k1) (e k2)).symm⟩,λk2=>⟨_,go _ _ _ g o,AA (t (c k1) (c k2)).symm⟩⟩⟩
  .have p:Ca s=s.Args:=by unfold Ca;grind
   have g:s.Args.length=(Ca s).length:=by rw[p]
   have o:∀j,j<(Ca s).length->[Aa (s.Args.getD j 0)]=[Aa ((Ca s).getD j 0)]:=by rw[p];exact λ_ _=>rfl
   exact⟨λk1=>⟨_,go _ _ _ g o,AA (q (e k1)).symm⟩,λk1=>⟨λk2=>⟨_,go _ _ _ g o,AA (r2 (c k1) (e k2)).symm⟩,λk2=>⟨_,go _ _ _ g o,AA (t (c k1) (c k2)).symm⟩⟩⟩
def Air {t}(h:MX t):Pg t.S:=⟨h.S.Args.1,h.S.Match.1⟩
def AlN {l}(h:UE l):(B5 l).length<=1048577/\∀w∈B5 l,K4 w:=by
 refine⟨by have:=h.Esc.1;simp[B5];omega,λw a=>?_⟩;rcases Ary.1 a with rfl|a
 .exact h.Out
 .exact h.Esc.2 w a
def AgI {m}{i:Int}(G:Fe m)(q:0<=i)(hi:i<m.Procs.length)(H:(m.Procs.getD i.toNat default).Provided<m.Exprs.length) :
  Ai prog 83 [] [tpM m,Aa i] [] (Ad (DO m i)):=by
 have I:=G.wf.Procs.2 _ (Au (d:=default) (show i.toNat<m.Procs.length by omega));refine Ax func83 (Akh _ m i) ⟨⟨q,hi⟩,?_⟩;generalize F:DO m i=b;unfold DO at F;simp only at F;generalize m.Procs.getD i.toNat default=p at I H F |-;have Y:=I.Locs.1;have bad:∀k,k<p.Locs.length->Vx m i (p.Locs.getD k default)=false->false=b:=λk hk R=>by grind[BV]
 refine Az p.Locs.length (λk=>Nm m i p k) (λk=>∀j,j<k->Vx m i (p.Locs.getD j default)=true) (λi hi=>oM) ?_;intro k hk W J next
 refine AqU (AgL _ m i p k J) ⟨λK=>?_,λL=>⟨Kc m i [p.Provided] (-1),λr=>?_,AA ?_⟩⟩
 .have o:k<p.Locs.length:=by have:=AP K;omega
  have M:(k:Int).toNat=k:=oM
  rw[M];have t:=I.Locs.2 _ (Au (d:=default) o);have bad':=bad k o;have next':∀c,Vx m i (p.Locs.getD k default)=true->Up (λs=>s=Nm m i p ((k+1:Nat):Int)) c->J c:=gD;generalize p.Locs.getD k default=l at t bad' next' |-;obtain⟨N,v⟩:=AlN t;refine⟨⟨oM,oM⟩,B5 l,Tg t.Esc.1,?_⟩;unfold Vx at bad' next';generalize B5 l=ws at N v bad' next' |-;refine Az ws.length (λj=>Nl m i p k ws j) (λj=>∀x,x<j->Ke m i (ws.getD x [])=true) (λi hi=>oM) ?_;intro j hj X J2 next2;refine AqU (AgK _ m i p k ws j J J2) ⟨λz=>?_,λT=>?_⟩
  .have e:j<ws.length:=by have:=AP z;omega
   have A:(j:Int).toNat=j:=oM
   rw[A];have g:=v _ (Au (d:=[]) e);have bad2:Ke m i (ws.getD j [])=false->false=b:=λR=>bad' (BV (f:=λx=>Ke m i (ws.getD x [])) e R)
   have next2':∀c,Ke m i (ws.getD j [])=true->Up (λs=>s=Nl m i p k ws ((j+1:Nat):Int)) c->J2 c:=gD;generalize ws.getD j []=w at g bad2 next2' |-;have U:=g.1;refine⟨⟨oM,oM⟩,?_⟩;refine Az w.length (λh=>Qj m i p k ws j w h) (λh=>∀x,x<h->L7 m i (w.getD x default).S=true) (λi hi=>oM) ?_;intro h Z O J3 next3;refine AqU (AgJ _ m i p k ws j w h J J2 J3) ⟨λB=>?_,λC=>?_⟩
   .have a:h<w.length:=by have:=AP B;omega
    have E:(h:Int).toNat=h:=oM
    rw[E];have P:=Air (g.2 _ (Au (d:=default) a));refine⟨⟨oM,oM⟩,L7 m i (w.getD h default).S,Aiv G q hi P,λr=>AA ?_,λr=>next3 _ a (λx u=>?_) (Up.of ?_)⟩
    .exact bad2 (BV (f:=λx=>L7 m i (w.getD x default).S) a (by simpa using r))
    .grind
    grind[Al]
   .have Q:w.length<=h:=by have:=AQ C;omega
    refine next2' _ (AX.2 λx u=>O x oM) (Up.of ?_);grind[Al]
  grind[AQ,AX,Up.of,Al]
 .have h0:0<=p.Provided:=by simp at r;omega
  refine Ai.frz (Ac1 (list:=[p.Provided]) (n:=1) G q hi (λx u=>?_) sM rfl Ff) rfl ?_
  .grind
  .intro j x y u r
   match j with
   | 0=>grind[Db]
   | 1=>grind[Db]
   | 2=>simp only[ArA,Aq2,AqK]at u r;subst u r;exact It
   | 3=>grind[Db]
   | j+4=>simp at u
 .have V:p.Locs.length<=k:=by have:=AQ L;omega
  rw[<- F,(AX (n:=p.Locs.length) (f:=λk=>Vx m i (p.Locs.getD k default))).2 λj hj=>W j oM,Aro,Bp]
def Um {m}:∀(g i)(had),g+i=m.Exprs.length->Gm m g i had<0->∀j,i<=j->j<m.Exprs.length->Ey m j
 | 0,i,had,h,_,j,h1,h2=>oM
 | g+1,i,had,h,hn,j,h1,h2=>by
  unfold Gm at hn;cases c:Ey m i with
  | false=>grind
  | true =>
   rw[c,AqL]at hn;split at hn
   .rename_i a _
    by_cases b:i=j
    .subst b;exact c
    .exact Um g (i+1) a oM hn j oM h2
   .omega
def YQ {m}(h:JF m<0):∀k:Nat,k<m.Exprs.length->Ey m k:=λk hk=>Um _ 0 _ rfl h k (AqN _) hk
def ET {n}{f}(h:I0 n f<0):∀i,i<n->f i:=by grind[Sv]
def Ant {n}{f}:-1<=I0 n f:=by grind[Sv]
def WJ {m}(F:AR m):Ai prog 79 [] [tpM m] [] (.tup [Aa (Cj m).1,Aa (Cj m).2]):=by
 have S:=F.Globals.1;have Z:=F.Shapes.1;have hC:=F.Chans.1;have hE:=F.Exprs.1;refine Ax func79 (ZY _ _ m) ?_;have T:(bif decide ((m.Globals.length:Int) > 128)then true else(m.Init.length:Int) != (m.Globals.length:Int))=(decide (128<m.Globals.length)||!decide (m.Init.length=m.Globals.length)):=gD
 have t2:(bif decide ((m.Shapes.length:Int) > 32)then true else decide ((m.Chans.length:Int) > 32))=(decide (32<m.Shapes.length)||decide (32<m.Chans.length)):=gD
 have U:(bif bif bif bif decide ((m.Procs.length:Int)<1)then true else decide ((m.Procs.length:Int) > 16)then true else decide (m.Claim<(-1:Int))then true else decide (m.Claim>=(m.Procs.length:Int))then true else decide ((m.Exprs.length:Int) > 4096)) =
   (decide (m.Procs.length<1)||(decide (16<m.Procs.length)||(decide (m.Claim < -1)||(decide ((m.Procs.length:Int)<=m.Claim)||decide (4096<m.Exprs.length))))):=gD
 rw[T,t2];generalize z:Cj m=R;unfold Cj at z;refine⟨λh=>F4 gD,λh=>⟨E3 m.Globals m.Init,Q2 (by simp at h;omega) S,λh2=>F4 gD,λh2=>⟨λh3=>F4 ?_,λh3=>?_⟩⟩⟩
 .grind
 rw[h,AqJ,h2,AqJ,h3,AqJ]at z;refine Az m.Shapes.length (λk=>UX m k) (λk=>∀i,i<k->CW (m.Shapes.getD i default)=true) (λi hi=>oM) ?_;intro k hk A J next
 refine AqU (WN _ _ m k J) ⟨λc=>?_,λn=>?_⟩
 .have b:k<m.Shapes.length:=by have:=AP c;omega
  refine⟨⟨oM,oM⟩,CW (m.Shapes.getD k default),Z9 (F.Shapes.2 _ (Au b)),λu=>F4 ?_,λu=>next _ b (λi hi=>?_) (Up.of ?_)⟩
  .have e:G1 m=k:=EC (f:=λi=>CW (m.Shapes.getD i default)) A b (by simpa using u);grind
  .grind
  grind[Al]
 have w:m.Shapes.length<=k:=by have:=AQ n;omega
 have es:G1 m=-1:=DZ (f:=λi=>CW (m.Shapes.getD i default)) λi hi=>A i oM
 rw[es,show decide ((0:Int)<=-1)=false from rfl,AqJ]at z;clear A next
 refine Az m.Chans.length (λk=>UW m k) (λk=>∀i,i<k->inP m.Shapes.length (m.Chans.getD i 0)=true) (λi hi=>oM) ?_;intro k hk A J next
 refine AqU (WM _ _ m k J rfl rfl) ⟨λc=>?_,λn=>?_⟩
 .have b:k<m.Chans.length:=by have:=AP c;omega
  have q:(k:Int).toNat=k:=oM
  rw[q];have r:inP m.Shapes.length (m.Chans.getD k 0)=!(bif decide (m.Chans.getD k 0<0)then true else decide (m.Chans.getD k 0>=(m.Shapes.length:Int))):=by unfold inP;rw[ArF];simp
  refine⟨⟨oM,oM⟩,λu=>F4 ?_,λu=>next _ b (λi hi=>?_) (Up.of ?_)⟩
  .have e:JN m=k:=EC (f:=λi=>inP m.Shapes.length (m.Chans.getD i 0)) A b gD;grind
  .grind
  grind[Al]
 have w:m.Chans.length<=k:=by have:=AQ n;omega
 have ec:JN m=-1:=DZ (f:=λi=>inP m.Shapes.length (m.Chans.getD i 0)) λi hi=>A i oM
 rw[ec,show decide ((0:Int)<=-1)=false from rfl,AqJ]at z;rw[U];refine⟨λh4=>F4 gD,λh4=>⟨⟨oM,oM,oM⟩,?_⟩⟩;rw[h4,AqJ]at z;clear A next
 have G:((m.Exprs.length:Int).toNat)=(Bg m).length:=by simp[Bg]
 have H:(Bg m).length=m.Exprs.length:=by simp[Bg]
 refine As.le (l':=[(0,tpM m),(4,.bp 0 0),(10,.ow 1 0 (Bg m).length),(116,Aa m.Exprs.length),(117,Aa 0)]) (hs':=[.box (Ag m),.arr true 0 (Bg m).length 1 (EK (Bg m))]) ?_ ?_ ?_
 .rw[G];exact AK _
 .rw[G];refine⟨Ob.le_refl _,Ard λi hi=>AN ?_,trivial⟩;have:(Bg m).getD i false=false:=by
   have O:i<m.Exprs.length:=by rw[<- H];exact hi
   simp[Bg,List.getD,O]
  show _=[Ad ((Bg m).getD i false)];rw[this]<;>rfl
 generalize W:JF m=X at z;have fin:∀{y:Int×Int},(bif decide (0<=X)then((3:Int),X)else(0,0))=y->y=R:=λh=>by rw[<- h];exact z
 refine Ay (λg st=>∃(k:Nat)(had:List Bool),k<=m.Exprs.length/\g=m.Exprs.length-k/\had.length=m.Exprs.length/\Gm m (m.Exprs.length-k) k had=X/\st=Z5 m had k) ⟨_,Up.of ⟨0,Bg m,AqN _,rfl,H,W,rfl⟩⟩ ?_;rintro g st ⟨k,had,hk,rfl,P,v,rfl⟩;refine AqU (WL _ _ m had k _) ⟨λc=>?_,λn=>F4 (fin ?_)⟩
 .have b:k<m.Exprs.length:=by have:=AP c;omega
  have q:(k:Int).toNat=k:=oM
  rw[q];have s:K2 (m.Exprs.getD k default):=F.Exprs.2 _ (Au b);rw[show m.Exprs.length-k=(m.Exprs.length-(k+1))+1 by omega]at v;unfold Gm at v;refine⟨Ey m k,AhC oM oM (by unfold Ar;rw[q];exact s),λu=>F4 (fin ?_),λu=>⟨⟨oM,oM⟩,BR (m.Exprs.getD k default),IV s.Args.1 s.V.Dims.1,?_⟩⟩
  .grind
  .have I:Ey m k=true:=by simpa using u
   rw[I,AqL]at v;have r:=NT I;have B:=NS s.Args.1 s.V.Dims.1;unfold Ar at r;rw[q]at r;generalize BR (m.Exprs.getD k default)=l at r B v |-;generalize Y:S6 had l=o at v;refine Ay (λg st=>∃(j:Nat)(a:List Bool),j<=l.length/\g=l.length-j/\a.length=m.Exprs.length/\S6 a (l.drop j)=o/\st=Z4 m a k l j) ⟨_,Up.of ⟨0,had,AqN _,rfl,P,Y,rfl⟩⟩ ?_;rintro g st ⟨j,a,hj,rfl,K,x,rfl⟩;refine AqU (WK _ _ m a k l j _ _ rfl) ⟨λL=>?_,λM=>?_⟩
   .have t:j<l.length:=by have:=AP L;omega
    have N:(j:Int).toNat=j:=oM
    rw[N];have Q:=r _ (Au (d:=0) t);rw[Bq (d:=0) t]at x;generalize l.getD j 0=p at Q x |-;unfold S6 at x;refine⟨⟨oM,oM⟩,⟨oM,oM⟩,λu=>F4 (fin ?_),λu=>⟨⟨oM,oM⟩,l.length-(j+1),oM,?_⟩⟩
    .grind
    .rw[u,AqJ]at x;have C:(a.set p.toNat true).length=a.length:=sM
     rw[Al oM];refine Up.mk (l':=[(0,tpM m),(4,.bp 0 0),(10,.ow 1 0 (a.set p.toNat true).length),(11,Aa k),(116,Aa m.Exprs.length),(117,Aa k),(130,Ac true l),(131,Aa l.length),(132,Aa ((j+1:Nat):Int))])
      (hs':=[.box (Ag m),.arr true 0 (a.set p.toNat true).length 1 (EK (a.set p.toNat true))]) ?_ ?_ ⟨j+1,a.set p.toNat true,oM,rfl,by rw[C];exact K,x,rfl⟩
     .rw[C];exact AK _
     .rw[C];exact⟨Ob.le_refl _,Ard λi hi=>AN (Qp hi),trivial⟩
   .have E:l.length<=j:=by have:=AQ M;omega
    rw[ArV E]at x;unfold S6 at x;rw[<- x]at v;rw[Al oM];exact⟨m.Exprs.length-(k+1),oM,Up.of gD⟩
 .have w:m.Exprs.length<=k:=by have:=AQ n;omega
  rw[show m.Exprs.length-k=0 by omega]at v;unfold Gm at v;rw[<- v]<;>rfl
theorem KF (m)(k):Dt m k=bif bif bif bif !(Dn (m.Procs.getD k default))then true else !(EP (m.Procs.getD k default))then true else decide ((m.Procs.getD k default).Provided<(-1))then true else decide ((m.Procs.getD k default).Provided>=(m.Exprs.length))then true else bif(k)==m.Claim then !(Ez (m.Procs.getD k default))else false:=by
 unfold Dt;grind
theorem T3 {m}{k}(hk:k<m.Procs.length):Ef m (k+1)=Ef m k+(m.Procs.getD k default).Active:=by
 unfold Ef;grind[C1,Ar6]
def Jh {m}(a:AR m)(h:¬0<(Cj m).1):Fe m:=by
 refine⟨a,YQ ?_⟩;have b:-1<=JF m:=by
  unfold JF;have:∀(g i:Nat)(had:List Bool),-1<=Gm m g i had:=by
   intro g
   induction g with
   | zero=>intro i had;unfold Gm;omega
   | succ g ih =>
    intro i had;unfold Gm;grind
  exact this _ _ _
 refine Are λc=>h ?_
 unfold Cj;grind
def AcE {m}(p:AR m):Ai prog 52 [] [.agg (Ag m)] [] (.tup [Aa (Iw m).1,Aa (Iw m).2.1,Aa (Iw m).2.2]):=by
 have x:=p.Procs.1;refine Ax func52 (AhV _ _ _ m) ⟨Cj m,WJ p,?_⟩;generalize q:Iw m=R;unfold Iw at q;refine⟨λh=>L1 gD,λh=>?_⟩;have b:=Jh p (Aq6 h);rw[show decide (0<(Cj m).1)=false from h,AqJ]at q;refine Az m.Procs.length (λk=>Ns m (Ef m k) k) (λk=>(∀i,i<k->(!Dt m i)=true)/\0<=Ef m k/\Ef m k<=16*k) ⟨λi hi=>oM,by simp[Ef],by simp[Ef]⟩ ?_;intro k hk ⟨n,u,v⟩ J next
 refine AqU (AcG _ _ _ m (Ef m k) k J rfl rfl) ⟨λg=>?_,λj=>?_⟩
 .have a:k<m.Procs.length:=by have:=AP g;omega
  have r:(k:Int).toNat=k:=oM
  rw[r];have l:=p.Procs.2 _ (Au (d:=default) a);refine⟨⟨oM,oM⟩,Dn (m.Procs.getD k default),Acq l,EP (m.Procs.getD k default),λ_=>Ack l,Ez (m.Procs.getD k default),λ_=>VT l,?_⟩;rw[<- KF];refine⟨λo=>L1 ?_,λo=>?_⟩
  .have e:FU m=k:=EC (f:=λi=>!Dt m i) n a (by rw[o]<;>rfl);grind
  .have s:Dn (m.Procs.getD k default)=true:=by grind[KF]
   have w:0<=(m.Procs.getD k default).Active/\(m.Procs.getD k default).Active<=16:=by
    unfold Dn at s;grind
   grind[T3,Up.of,Ar7,Al,AS]
 .have c:k=m.Procs.length:=by have:=AQ j;omega
  subst c;have e:FU m=-1:=DZ (f:=λi=>!Dt m i) λi hi=>n i oM
  rw[e,show decide ((0:Int)<=-1)=false from rfl,AqJ]at q;refine⟨λh2=>L1 gD,λh2=>?_⟩;rw[show decide (16<Ef m m.Procs.length)=false from h2,AqJ]at q;have t:∀i,i<m.Procs.length->(m.Procs.getD i default).Provided<m.Exprs.length:=λi hi=>by grind[KF,Bp,ArH,Aq1,Arf]
  clear n next
  refine Az m.Procs.length (λk=>Nr m k) (λk=>∀i:Nat,i<k->DO m i=true) (λi hi=>oM) ?_;intro k hk n J next
  refine AqU (AcF _ _ _ m k J) ⟨λg=>?_,λj=>L1 ?_⟩
  .have a:k<m.Procs.length:=by have:=AP g;omega
   refine⟨DO m k,AgI b oM oM (t _ oM),λo=>L1 ?_,λo=>next _ a (λi hi=>?_) (Up.of ?_)⟩
   .have e:Jw m=k:=EC (f:=λi:Nat=>DO m i) n a (by simpa using o);grind
   .grind
   grind[Al]
  .have c:m.Procs.length<=k:=by have:=AQ j;omega
   have e:Jw m=-1:=DZ (f:=λi:Nat=>DO m i) λi hi=>n i oM
   grind
def L2 (fz:Bool)(x:D.State):List VV:=[Ac true x.Globals,AG fz x.Chans,Av fz x.Procs,Aa x.Last,Aa x.Alone,Aa x.Claim]
def BP (t:List D.Type)(l:List Int):Bool:=decide (t.length=l.length)&&CM l.length λi=>CU (t.getD i default) (l.getD i 0)
def B4 (m:D.Model)(k:Int):D.Shape:=m.Shapes.getD k.toNat default
def AT (m:D.Model)(k:Int):D.Proc:=m.Procs.getD k.toNat default
def C4 (m:D.Model)(c:D.Chan):Bool:=inP m.Shapes.length c.Shape&&decide ((c.Queue.length:Int)<=(B4 m c.Shape).Room)&&CM c.Queue.length λi=>BP (B4 m c.Shape).Fields (c.Queue.getD i [])
def Bm (m:D.Model)(p:D.Process):Bool:=CZ m p.Type_&&inP (AT m p.Type_).Locs.length p.Loc&&decide (p.Prio=(AT m p.Type_).Prio)&&BP (AT m p.Type_).Frame p.Frame
def IW (m:D.Model)(s:D.State):Bool:=BP m.Globals s.Globals&&decide (s.Chans.length<=32)&&decide (s.Procs.length<=16)&&decide (0<=s.Last)&&decide (s.Last<16)&&decide (-1<=s.Alone)&&decide (s.Alone<s.Procs.length)
def FZ (m:D.Model)(s:D.State):Bool:=bif decide (m.Claim<0)then decide (s.Claim=-1)else inP (AT m m.Claim).Locs.length s.Claim
def DM (m:D.Model)(s:D.State):Bool:=IW m s&&(CM s.Chans.length λi=>C4 m (s.Chans.getD i default))&&(CM s.Procs.length λi=>Bm m (s.Procs.getD i default))&&FZ m s
def Fs (m:D.Model):Bool:=decide ((Iw m).1=0)
def Cz (m:D.Model)(s:D.State):Int:=bif Fs m then(bif DM m s then 0 else 41)else 40
structure Lim (m:D.Model):Prop where
 room:∀k:Int,0<=k->k<m.Shapes.length->(B4 m k).Room<=16
 locs:∀k:Int,0<=k->k<m.Procs.length->(AT m k).Locs.length<=256
 one:1<=m.Procs.length
 clp:m.Claim<m.Procs.length
def CK {m}(h:Fs m):Cj m=(0,0)/\FU m=-1/\Jw m=-1:=by
 unfold Fs Iw at h;have h1:∀n (f:Nat->Bool),-1<=I0 n f:=λn f=>Ant
 have k:=h1 m.Procs.length λi=>!Dt m i
 have hp:=h1 m.Procs.length λi:Nat=>DO m i
 cases b1:decide (0<(Cj m).1)with
 | true=>rw[b1,AqL]at h;simp at h
 | false =>
  rw[b1,AqJ]at h;cases b2:decide (0<=FU m)with
  | true=>rw[b2,AqL]at h;simp at h
  | false =>
   rw[b2,AqJ]at h;cases b3:decide (16<Ef m m.Procs.length)with
   | true=>rw[b3,AqL]at h;simp at h
   | false =>
    rw[b3,AqJ]at h;cases b4:decide (0<=Jw m)with
    | true=>rw[b4,AqL]at h;simp at h
    | false =>
     have:=Aq6 b2;have:=Aq6 b4;refine⟨?_,by show I0 _ _=-1;unfold FU at *;omega,by show I0 _ _=-1;unfold Jw at *;omega⟩;have b1:=Aq6 b1;unfold Cj at b1 |-;generalize(decide (128<m.Globals.length)||!decide (m.Init.length=m.Globals.length))=a at b1 |-;generalize decide (0<=E3 m.Globals m.Init)=b at b1 |-;generalize(decide (32<m.Shapes.length)||decide (32<m.Chans.length))=c at b1 |-;generalize decide (0<=G1 m)=d at b1 |-;generalize decide (0<=JN m)=e at b1 |-;generalize(decide (m.Procs.length<1)||(decide (16<m.Procs.length)||(decide (m.Claim < -1)||(decide ((m.Procs.length:Int)<=m.Claim)||decide (4096<m.Exprs.length)))))=g at b1 |-;generalize decide (0<=JF m)=j at b1 |-;cases a<;>cases b<;>cases c<;>cases d<;>cases e<;>cases g<;>cases j<;>simp at b1 |-
structure An0 (m:D.Model):Prop where
 globals:m.Globals.length<=128
 init:m.Init.length=m.Globals.length
 types:E3 m.Globals m.Init<0
 shapes:m.Shapes.length<=32
 chans:m.Chans.length<=32
 shape:∀i,i<m.Shapes.length->CW (m.Shapes.getD i default)=true
 chan:∀i,i<m.Chans.length->inP m.Shapes.length (m.Chans.getD i 0)=true
 procs:1<=m.Procs.length/\m.Procs.length<=16
 claim:-1<=m.Claim/\m.Claim<m.Procs.length
 exprs:m.Exprs.length<=4096
def Om {m}(h:Cj m=(0,0)):An0 m:=by
 unfold Cj at h;cases a:(decide (128<m.Globals.length)||!decide (m.Init.length=m.Globals.length))with
 | true=>grind
 | false =>
 cases d:decide (0<=E3 m.Globals m.Init)with
 | true=>grind
 | false =>
 cases e:(decide (32<m.Shapes.length)||decide (32<m.Chans.length))with
 | true=>grind
 | false =>
 cases b:decide (0<=G1 m)with
 | true=>grind
 | false =>
 cases c:decide (0<=JN m)with
 | true=>grind
 | false =>
 cases g:(decide (m.Procs.length<1)||(decide (16<m.Procs.length)||(decide (m.Claim < -1)||(decide ((m.Procs.length:Int)<=m.Claim)||decide (4096<m.Exprs.length)))))with
 | true=>grind
 | false =>
 simp only[Aq1,Arf,Asq,AqO]at a d e b c g;exact⟨oM,a.2,oM,oM,oM,ET (f:=λi=>CW (m.Shapes.getD i default)) (by unfold G1 at b;omega),ET (f:=λi=>inP m.Shapes.length (m.Chans.getD i 0)) (by unfold JN at c;omega),oM,oM,oM⟩
def Eb {m}(h:FU m=-1):∀i,i<m.Procs.length->Dn (m.Procs.getD i default)/\EP (m.Procs.getD i default):=λi hi=>by
 have:=ET (f:=λi=>!Dt m i) (by unfold FU at h;omega) i hi;unfold Dt at this;grind
def GR {m}(h:Fs m):Lim m:=by
 obtain⟨h1,h2,_⟩:=CK h;have a:=Om h1;refine⟨λk h0 hk=>?_,λk h0 hk=>?_,a.procs.1,a.claim.2⟩
 .have:=a.shape k.toNat oM;unfold CW at this;simp only[AqI,AqO]at this;exact this.1.1.1.2
 .have:=(Eb h2 k.toNat oM).2;unfold EP at this;simp only[AqI,AqO]at this;exact this.1.1.1.2
structure Fit (s:D.State):Prop where
 g:s.Globals.length<=128
 c:s.Chans.length<=32
 q:∀c∈s.Chans,c.Queue.length<=16/\∀x∈c.Queue,x.length<=8
 p:s.Procs.length<=16
 f:∀p∈s.Procs,p.Frame.length<=128
theorem EB {t}{l}(h:BP t l):l.length=t.length:=by
 unfold BP at h;grind
def Sb {m}{s}(a:Fs m)(h:DM m s):Fit s:=by
 have i:=GR a;obtain⟨b,e,_⟩:=CK a;have g:=Om b;unfold DM at h;simp only[AqI]at h;obtain⟨⟨⟨h1,h2⟩,h3⟩,h4⟩:=h;unfold IW at h1;simp only[AqI,AqO]at h1;obtain⟨⟨⟨⟨⟨⟨g1,j⟩,k⟩,q⟩,r⟩,t⟩,u⟩:=h1;refine⟨?_,j,λc l=>?_,k,λp hp=>?_⟩
 .rw[EB g1];exact g.globals
 .have h:=(CP (d:=default) (f:=λc=>C4 m c)).1 h2 c l;unfold C4 at h;simp only[AqI,AqO]at h;have hi:=CC.1 h.1.1;have v:=i.room _ hi.1 hi.2;refine⟨oM,λx n=>?_⟩;have o:=(CP (d:=[]) (f:=λx=>BP (B4 m c.Shape).Fields x)).1 h.2 x n;rw[EB o];have:=g.shape c.Shape.toNat oM;unfold CW at this;simp only[AqI,AqO]at this;exact this.1.2
 .have h:=(CP (d:=default) (f:=λc=>Bm m c)).1 h3 p hp;unfold Bm CZ at h;simp only[AqI,AqO]at h;rw[EB h.2];have:=(Eb e p.Type_.toNat oM).1;unfold Dn at this;simp only[AqI,AqO]at this;exact this.1.1.1.1.1.1.1.1
def Me (f:FuncId):Shp:=bif Nat.beq f 15 then U4 else BX f
def O0:Ann:={keep:=fun
  | [0,1,0,1,1]=>[0,12,13,14]
  | _=>[]}
def KV:Ann:={keep:=fun
  | [0,1,0,1,1]=>[2,3,32,33,34]
  | _=>[]}
def HM:Ann:={keep:=fun
  | [0,1,0,1,1]=>[2,3,51,52,53]
  | [0,1,0,1,1,1]=>[2,3,63,64,65]
  | _=>[]}
def P8 (t:List D.Type)(l:List Int)(k:Int):St:=Aq [(0,AD true t),(12,Ac true l),(13,Aa l.length),(14,Aa k)] []
def Li (m:D.Model)(c:D.Chan)(k:Int):St:=Aq [(2,.bp 0 0),(3,.bp 1 0),(32,BK true c.Queue),(33,Aa c.Queue.length),(34,Aa k)] [.box (Ag m),.box (Am c)]
def Ql (m:D.Model)(s:D.State)(k:Int):St:=Aq [(2,.bp 0 0),(3,.bp 1 0),(51,AG false s.Chans),(52,Aa s.Chans.length),(53,Aa k)] [.box (Ag m),.box (L2 false s)]
def Qk (m:D.Model)(s:D.State)(k:Int):St:=Aq [(2,.bp 0 0),(3,.bp 1 0),(63,Av false s.Procs),(64,Aa s.Procs.length),(65,Aa k)] [.box (Ag m),.box (L2 false s)]
def AeU (b)(t)(l):(fc Me O0 f53 [] (Ad b)).goal (St.init [] [AD true t,Ac true l]) =
  BB ((↑t.length) != (↑l.length:Int)) (LQ (Ad false) (Ad b)) (As (fc Me O0 f53 [] (Ad b)) [1,1,0,1,0] (P8 t l (0))):=kR
def Y6 (b)(m)(c):(fc Me KV f54 [] (Ad b)).goal (St.init [] [.agg (Ag m),.agg (Am c)]) =
  (((true&&(bif decide (c.Shape<0)then true else decide (c.Shape>=(↑m.Shapes.length)))==false)->inX c.Shape m.Shapes.length)/\BB (bif bif decide (c.Shape<0)then true else decide (c.Shape>=(↑m.Shapes.length))then true else decide ((↑c.Queue.length) > (m.Shapes.getD c.Shape.toNat default).Room)) (LQ (Ad false) (Ad b)) (As (fc Me KV f54 [] (Ad b)) [1,1,0,1,0] (Li m c (0)))):=kR
def Yb (b)(m)(p){a}(c:a=m.Procs.getD p.Type_.toNat default):(fc Me AW f55 [] (Ad b)).goal (St.init [] [.agg (Ag m),.agg (Ao p)]) =
  BB (bif bif decide (p.Type_<0)then true else decide (p.Type_>=(↑m.Procs.length))then true else p.Type_==m.Claim) (LQ (Ad false) (Ad b)) (inX p.Type_ m.Procs.length/\∃(y:_),((true&&(bif bif decide (p.Loc>=0)then decide (p.Loc<(↑a.Locs.length))else false then p.Prio==a.Prio else false)==true)->VC 53 [AD true a.Frame,Ac true p.Frame] (Ad y))/\LQ (Ad (bif bif bif decide (p.Loc>=0)then decide (p.Loc<(↑a.Locs.length))else false then p.Prio==a.Prio else false then y else false)) (Ad b)):=by subst c;kernel_rfl
def Z3 (b)(m)(s):(fc Me HM f30 [] (Ad b)).goal (St.init [] [.agg (Ag m),.agg (L2 false s)]) =
  ∃(y:_),VC 53 [AD true m.Globals,Ac true s.Globals] (Ad y)/\BB (bif bif bif bif bif bif !y then true else decide ((↑s.Chans.length:Int) > 32)then true else decide ((↑s.Procs.length:Int) > 16)then true else decide (s.Last<0)then true else decide (s.Last>=16)then true else decide (s.Alone<(-1))then true else decide (s.Alone>=(↑s.Procs.length))) (LQ (Ad false) (Ad b)) (As (fc Me HM f30 [] (Ad b)) [1,1,0,1,0] (Ql m s (0))):=kR
def AmK (b)(m):(fc Me AW f29 [] (Ad b)).goal (St.init [] [.agg (Ag m)]) =
  ∃(y:Int×Int×Int),VC 52 [VV.agg (Ag m)] (VV.tup [Aa y.fst,Aa y.snd.fst,Aa y.snd.snd])/\LQ (Ad (y.fst==0)) (Ad b):=kR
def WU (r)(m)(s):(fc Me AW f15 [] (Aa r)).goal (St.init [] [.agg (Ag m),.agg (Ae s)]) =
  ∃(y:_),VC 29 [VV.agg (Ag m)] (Ad y)/\BB (!y) (LQ (Aa 40) (Aa r)) (∃(y:_),VC 30 [VV.agg (Ag m),VV.agg (Ae s)] (Ad y)/\BB (!y) (LQ (Aa 41) (Aa r)) (LQ (Aa 0) (Aa r))):=kR
def ZS (b)(t)(l)(k)(J):((fc Me O0 f53 [] (Ad b)).loop [1,1,0,1,0] J).goal (P8 t l k) =
  BB (decide (k<(↑l.length))) (inX k l.length/\inX k t.length/\∃(y:_),VC 84 [VV.agg (Bn (t.getD k.toNat default)),Aa (l.getD k.toNat 0)] (Ad y)/\BB (!y) (LQ (Ad false) (Ad b)) (J (P8 t l (i64.wrap (k+(1)))))) (LQ (Ad true) (Ad b)):=kR
def VX (b)(m)(c)(k)(J):((fc Me KV f54 [] (Ad b)).loop [1,1,0,1,0] J).goal (Li m c k) =
  BB (decide (k<(↑c.Queue.length))) (inX k c.Queue.length/\inX c.Shape m.Shapes.length/\∃(y:_),VC 53 [AD true (m.Shapes.getD c.Shape.toNat default).Fields,Ac true (c.Queue.getD k.toNat [])] (Ad y)/\BB (!y) (LQ (Ad false) (Ad b)) (J (Li m c (i64.wrap (k+(1)))))) (LQ (Ad true) (Ad b)):=kR
def WT (b)(m)(s)(k)(J):((fc Me HM f30 [] (Ad b)).loop [1,1,0,1,0] J).goal (Ql m s k) =
  BB (decide (k<(↑s.Chans.length))) (inX k s.Chans.length/\∃(y:_),VC 54 [VV.agg (Ag m),VV.agg (Am (s.Chans.getD k.toNat default))] (Ad y)/\BB (!y) (LQ (Ad false) (Ad b)) (J (Ql m s (i64.wrap (k+(1)))))) (As (fc Me HM f30 [] (Ad b)) [1,1,1,0,1,0] (Qk m s (0))):=kR
def WS (b)(m)(s)(k)(J):((fc Me HM f30 [] (Ad b)).loop [1,1,1,0,1,0] J).goal (Qk m s k) =
  BB (decide (k<(↑s.Procs.length))) (inX k s.Procs.length/\∃(y:_),VC 55 [VV.agg (Ag m),VV.agg (Ao (s.Procs.getD k.toNat default))] (Ad y)/\BB (!y) (LQ (Ad false) (Ad b)) (J (Qk m s (i64.wrap (k+(1)))))) (BB (decide (m.Claim<0)) (LQ (Ad (s.Claim==(-1))) (Ad b)) (((true&&decide (s.Claim>=0)==true)->inX m.Claim m.Procs.length)/\LQ (Ad (bif decide (s.Claim>=0)then decide (s.Claim<(↑(m.Procs.getD m.Claim.toNat default).Locs.length))else false)) (Ad b))):=kR
end Go.Proofs.YtggokmjgegoanaaGreatDoor
namespace Go.Proofs.YtggokmjgegoanaaGreatDoor
open Go.RowKit Go.Proofs.Tryz
open IntKind(i64)
def VD {xs ys}(a:ys.length=xs.length)(h:∀(j:Nat) x y,xs[j]?=some x->ys[j]?=some y->leS x y):leS (.agg xs) (.agg ys):=by
 intro w E m v b hv;obtain⟨vs,rfl,h1,h2⟩:=hv.agg_inv;refine .agg (h1.trans a.symm) λj y c=>?_
 have hj:j<xs.length:=gD
 exact h j _ y (AqX hj) c w E m _ b (h2 j _ (AqX hj))
def BU {k}{P:Nat->Prop}(a:∀i,i<k->P i)(h:P k):∀i,i<k+1->P i:=gD
def Len (n:Nat):Prop:=n<=1099511627776
def Mb {t}{l}(f:Len l.length):Ai prog 53 [] [AD true t,Ac true l] [] (Ad (BP t l)):=by
 unfold Len at f;refine Ax func53 (AeU _ t l) ⟨λh=>AA ?_,λh=>?_⟩
 .unfold BP;grind
 .have c:t.length=l.length:=by simp at h;omega
  have e:BP t l=CM l.length λi=>CU (t.getD i default) (l.getD i 0):=by unfold BP;grind
  rw[e];refine Az l.length (λk=>P8 t l k) (λk=>∀i,i<k->CU (t.getD i default) (l.getD i 0)=true) (λi hi=>oM) ?_;intro k hk g J next
  refine AqU (ZS _ t l k J) ⟨λb=>?_,λj=>AA ?_⟩
  .have a:k<l.length:=by have:=AP b;omega
   refine⟨⟨oM,oM⟩,⟨oM,oM⟩,CU (t.getD k default) (l.getD k 0),OP _ _,λd=>AA ?_,λd=>next _ a (BU g (by simpa using d)) (Up.of ?_)⟩
   .grind[BV]
   grind[Al]
  grind[AQ,AX]
structure AlH (c:D.Chan):Prop where
 q:Len c.Queue.length
 m:∀x∈c.Queue,Len x.length
def VW {m}{c}(f:AlH c):Ai prog 54 [] [.agg (Ag m),.agg (Am c)] [] (Ad (C4 m c)):=by
 have j:=f.q;unfold Len at j;refine Ax func54 (Y6 _ m c) ⟨λh=>?_,λh=>AA ?_,λh=>?_⟩
 .simp at h;omega
 .symm;rw[ArI];intro b;unfold C4 at b;simp only[AqI,AqO]at b;have:=CC.1 b.1.1;have l:(B4 m c.Shape).Room=(m.Shapes.getD c.Shape.toNat default).Room:=rfl;grind
 .have hs:0<=c.Shape/\c.Shape<m.Shapes.length/\(c.Queue.length:Int)<=(B4 m c.Shape).Room:=by
   have l:(B4 m c.Shape).Room=(m.Shapes.getD c.Shape.toNat default).Room:=rfl;grind
  have e:C4 m c=CM c.Queue.length λi=>BP (B4 m c.Shape).Fields (c.Queue.getD i []):=by
   unfold C4;grind[CC]
  rw[e];refine Az c.Queue.length (λk=>Li m c k) (λk=>∀i,i<k->BP (B4 m c.Shape).Fields (c.Queue.getD i [])=true) (λi hi=>oM) ?_;intro k hk n J next
  refine AqU (VX _ m c k J) ⟨λd=>?_,λo=>AA ?_⟩
  .have a:k<c.Queue.length:=by have:=AP d;omega
   refine⟨⟨oM,oM⟩,⟨hs.1,hs.2.1⟩,BP (B4 m c.Shape).Fields (c.Queue.getD k []),Mb (f.m _ (Au a)),λg=>AA ?_,λg=>next _ a (BU n (by simpa using g)) (Up.of ?_)⟩
   .grind[BV]
   grind[Al]
  grind[AQ,AX]
def Vl {m}{p}(hp:Len p.Frame.length):Ai prog 55 [] [.agg (Ag m),.agg (Ao p)] [] (Ad (Bm m p)):=by
 have a:(AT m p.Type_)=m.Procs.getD p.Type_.toNat default:=rfl;refine Ax func55 (Yb _ m p rfl) ⟨λh=>AA ?_,λh=>⟨?_,BP (AT m p.Type_).Frame p.Frame,λ_=>Mb hp,AA ?_⟩⟩
 .unfold Bm CZ;grind
 .simp at h;omega
 .unfold Bm CZ inP;grind
structure BZ (s:D.State):Prop where
 g:Len s.Globals.length
 c:Len s.Chans.length
 p:Len s.Procs.length
 cs:∀c∈s.Chans,AlH c
 ps:∀p∈s.Procs,Len p.Frame.length
def UR {m}{s}(hs:BZ s)(r:m.Claim<m.Procs.length):Ai prog 30 [] [.agg (Ag m),.agg (L2 false s)] [] (Ad (DM m s)):=by
 have t:=hs.c;have hp:=hs.p;unfold Len at t hp;have u:(bif bif bif bif bif bif !(BP m.Globals s.Globals)then true else decide ((s.Chans.length:Int) > 32)then true else decide ((s.Procs.length:Int) > 16)then true else decide (s.Last<0)then true else decide (s.Last>=16)then true else decide (s.Alone<(-1:Int))then true else decide (s.Alone>=(s.Procs.length:Int)))=!(IW m s):=by
  unfold IW;grind
 refine Ax func30 (Z3 _ m s) ⟨BP m.Globals s.Globals,Mb hs.g,?_⟩;rw[u];have d:DM m s=(IW m s&&(CM s.Chans.length λi=>C4 m (s.Chans.getD i default))&&(CM s.Procs.length λi=>Bm m (s.Procs.getD i default))&&FZ m s):=rfl;generalize DM m s=b at d |-;refine⟨λh=>AA ?_,λh=>?_⟩
 .grind
 rw[show IW m s=true by simpa using h,Aro]at d;refine Az s.Chans.length (λk=>Ql m s k) (λk=>∀i,i<k->C4 m (s.Chans.getD i default)=true) (λi hi=>oM) ?_;intro k hk l J next
 refine AqU (WT _ m s k J) ⟨λe=>?_,λj=>?_⟩
 .have a:k<s.Chans.length:=by have:=AP e;omega
  refine⟨⟨oM,oM⟩,C4 m (s.Chans.getD k default),VW (hs.cs _ (Au a)),λo=>AA ?_,λo=>next _ a (BU l (by simpa using o)) (Up.of ?_)⟩
  .grind[BV]
  grind[Al]
 have q:s.Chans.length<=k:=by have:=AQ j;omega
 rw[(AX (n:=s.Chans.length) (f:=λi=>C4 m (s.Chans.getD i default))).2 λi hi=>l i oM,Aro]at d;clear l next
 refine Az s.Procs.length (λk=>Qk m s k) (λk=>∀i,i<k->Bm m (s.Procs.getD i default)=true) (λi hi=>oM) ?_;intro k hk l J next
 refine AqU (WS _ m s k J) ⟨λe=>?_,λj=>?_⟩
 .have a:k<s.Procs.length:=by have:=AP e;omega
  refine⟨⟨oM,oM⟩,Bm m (s.Procs.getD k default),Vl (hs.ps _ (Au a)),λo=>AA ?_,λo=>next _ a (BU l (by simpa using o)) (Up.of ?_)⟩
  .grind[BV]
  grind[Al]
 have q:s.Procs.length<=k:=by have:=AQ j;omega
 rw[(AX (n:=s.Procs.length) (f:=λi=>Bm m (s.Procs.getD i default))).2 λi hi=>l i oM,Aro]at d;unfold FZ at d;refine⟨λh2=>AA ?_,λh2=>⟨λ_=>⟨?_,r⟩,AA ?_⟩⟩
 .grind
 .grind
 .rw[h2,AqJ]at d;rw[d,Be]<;>rfl
def WR {m}{s}(hs:BZ s)(c:m.Claim<m.Procs.length):Ai prog 30 [] [.agg (Ag m),.agg (Ae s)] [] (Ad (DM m s)):=by
 refine(UR hs c).frz rfl λj x y a b=>?_
 match j,a,b with
 | 0,a,b=>grind[Aq2,AqK,Db]
 | 1,a,b =>
  simp only[ArA,Aq2,AqK]at a b;subst a b;refine VD rfl λj x y a b=>?_
  match j,a,b with
  | 0,a,b=>simp only[Ae,L2,Aq2,AqK]at a b;subst a b;exact Db _
  | 1,a,b=>simp only[Ae,L2,ArA,Aq2,AqK]at a b;subst a b;exact It
  | 2,a,b=>simp only[Ae,L2,ArA,Aq2,AqK]at a b;subst a b;exact It
  | 3,a,b=>simp only[Ae,L2,ArA,Aq2,AqK]at a b;subst a b;exact Db _
  | 4,a,b=>simp only[Ae,L2,ArA,Aq2,AqK]at a b;subst a b;exact Db _
  | 5,a,b=>simp only[Ae,L2,ArA,Aq2,AqK]at a b;subst a b;exact Db _
  | j+6,a,b=>simp[Ae]at a
 | j+2,a,b=>simp at a
def Yu {m}(a:AR m):Ai prog 29 [] [.agg (Ag m)] [] (Ad (Fs m)) :=
 Ax func29 (AmK _ m) ⟨Iw m,AcE a,AA (ieq _ _)⟩
def FM {m}{s}(b:AR m)(hs:BZ s)(a:Fs m->m.Claim<m.Procs.length):Ai prog 15 [] [.agg (Ag m),.agg (Ae s)] [] (Aa (Cz m s)):=by
 refine Ax func15 (WU _ m s) ⟨Fs m,Yu b,λh=>BW ?_,λh=>⟨DM m s,WR hs (a (by simpa using h)),λh2=>BW ?_,λh2=>BW ?_⟩⟩
 .unfold Cz;grind
 .unfold Cz;grind
 .unfold Cz;grind
def Fit.small {s}(h:Fit s):BZ s:=by
 have hg:=h.g;have a:=h.c;have hp:=h.p;refine⟨by unfold Len;omega,by unfold Len;omega,by unfold Len;omega,λc a=>⟨by have:=(h.q c a).1;unfold Len;omega,λx b=>by have:=(h.q c a).2 x b;unfold Len;omega⟩,λp hp=>by have:=h.f p hp;unfold Len;omega⟩
def MF {m}{s}(h:Cz m s=0):Fs m/\DM m s:=by
 unfold Cz at h;grind
def Vp {w w':World}{base}{e}{size}{v}{n}{xs}(h:w.ownsRow base e size v n xs)
  (hs:∀k,v.ownBlock=some k->w'.heap[k]?=w.heap[k]?):w'.ownsRow base e size v n xs:=by
 refine⟨h.1,?_⟩;rcases h.2 with a|⟨g,cap,cur,rfl,b,hg,rest⟩
 .exact .inl a
 .exact .inr ⟨g,cap,cur,rfl,b,by rw[hs g rfl];exact hg,rest⟩
def Apt {w:World}{b}{o}(h:w.heap[b]?=some o):b<w.heap.size:=lt_of_block h
def DG {w:World}{b i}{cs}{t}{v}(h:w.heap[b]?=some (.cells cs t (0,0)))(hi:cs[i]?=some v):w.cell? ⟨b,i,none⟩=some v:=by
 simp[World.cell?,h,hi]
def EQ {w:World}{b i}{cs}{t}(h:w.heap[b]?=some (.cells cs t (0,0))):w.frozen? ⟨b,i,none⟩=false:=by
 simp[World.frozen?,h]
def N6 {w:World}{b i}{cs}{t}(h:w.heap[b]?=some (.cells cs t (0,0)))(u):(w.setCell ⟨b,i,none⟩ u).heap[b]?=some (.cells (cs.setIfInBounds i u) t (0,0)) :=
 heap_setCell_same w b i cs t u h
def EO {P:Program}{t}{z}{s b}(h:(P.info? t).map (λi=>(i.zero,i.size,i.bytes))=some (some z,s,b)):∃i,P.info? t=some i/\i.zero=some z/\i.size=s/\i.bytes=b:=by
 cases hi:P.info? t with
 | none=>rw[hi]at h;cases h
 | some i=>rw[hi]at h;simp only[Asx,AqK,Arm]at h;exact⟨i,rfl,h⟩
def YF:(prog.info? 2).map (λi=>(i.zero,i.size,i.bytes))=some (some (.int .i64 0),1,8):=kR
def AmD {w:World}{n0}{e}{v}{n}{xs}(h:w.ownsRow n0 e 1 v n xs) :
  ∃ao cap,v=.slice ao n cap/\n<=cap/\cap<=maxLen/\(0<n->∃g,ao=some ⟨g,0,none⟩/\n0<=g/\g<w.heap.size/\∀j,j<n->w.cell? ⟨g,j,none⟩=xs[j]?):=by
 rcases h.2 with⟨rfl,rfl⟩ | ⟨g,cap,cur,rfl,a,hg,h1,h2,_⟩
 .exact⟨none,0,rfl,AqQ _,AqN _,λh=>oM⟩
 .exact⟨_,cap,rfl,h1,h2,λ_=>⟨g,rfl,a,Apt hg,λj hj=>h.cellAt j oM⟩⟩
def AiF {w}{E}{m}{n0}{v}{xs}(h:w.ownsRow n0 2 1 v xs.length (xs.map (Value.int .i64)))(c:∀k,E.fz k->k<n0):V w E m (Ac true xs) v:=by
 obtain⟨ao,cap,rfl,h1,h2,h3⟩:=AmD h;refine AsP h1 h2 λhp=>?_
 obtain⟨g,rfl,hg,b,d⟩:=h3 hp;refine⟨g,0,rfl,b,λhk=>by have:=c g hk;omega,λi _=>rfl,λi _=>.int .i64 (xs.getD i 0),λi j y hi a=>?_,λi j y hi a=>?_⟩
 .match j,a with
  | 0,_ =>
   have:=d i hi;simp only[Arl,Nat.mul_one,Asf];rw[this];simp[List.getD,hi]
  | j+1,a=>simp at a
 .match j,a with
  | 0,a=>simp only[Aq2,AqK]at a;subst a;exact .sc
  | j+1,a=>simp at a
set_option maxHeartbeats 1000000 in
def Y4 {w}{ao}{cap}{xs:List Int}(h1:xs.length<=cap)(h2:cap<=maxLen)(s:xs.length*8<=140737488355328)(h3:0<xs.length->∃a,ao=some a/\∀i,i<xs.length->w.cell? (a.add i)=some (.int .i64 (xs.getD i 0))) :
  Calls prog 92 #[.slice ao xs.length cap] w λe w'=>∃h,e=.returned h/\w'.ownsRow w.heap.size 2 1 h xs.length (xs.map (Value.int .i64))/\Below w.heap.size w w':=by
 have q:∀(w:World)(a:Option Addr)(n c l m:Nat),(binOp .eql 23 (.slice a n c) (.slice none l m)).run prog w=.ok (.bool a.isNone) w:=λw a n c l m=>Lib.run_eql_slice_nil w _ _ a n c l m underlying23
 obtain⟨ki,khi,khz0,khz1,khz2⟩:=EO YF;cases ao with
 | none =>
  have h0:xs=[]:=by
   apply Ars;apply Are;intro hp;obtain⟨_,e,_⟩:=h3 oM;cases e
  subst h0;clear h3
  go_enter func92,ntmps92
  go_wp2
  go_ret
  exact⟨_,rfl,World.ownsRow_nil _ _ _ _,Below.refl _ _⟩
 | some a =>
  have o:∀(j:Nat)(u:Value),(xs.map (Value.int .i64))[j]?=some u->w.cell? (a.add j)=some u:=by
   intro j u hj;have d:j<xs.length:=by have:=(AqS.1 hj).1;simpa using this
   obtain⟨t,e,r⟩:=h3 oM;simp only[AqK]at e;subst e;rw[r j d,<- hj];simp[List.getD,d]
  have HN:=Lib.hid o;clear h3 o;have f:=h2;unfold maxLen at f
  go_enter func92,ntmps92
  go_wp2_with (at_builtin;refine wpList_append_own _ rfl _ _ 23 rfl w.heap.size 2 ki (.int .i64 0) 1 8 underlying23 khi khz0 khz1 khz2 rfl dZ _ _ _ rfl (World.ownsRow_made w #[] 0 (AqQ _) (AqN _) sM) a xs.length cap (xs.map (Value.int .i64)) rfl ?qc1 ?qc2 ?qc3 ?qc4 ?qc5 ?qc6 ?_)
  case qc1=>simp
  case qc2=>intro j u hj;have:=HN.out j u hj;exact Lib.cell?_alloc_some _ this
  case qc3=>intro u p;simp at p;obtain⟨x,_,rfl⟩:=p;rfl
  case qc4=>unfold maxLen;omega
  case qc5=>omega
  case qc6=>simp
  intro h v g b _
  go_wp2
  go_ret
  exact⟨h,rfl,by simpa using g,((Below.refl _ w).alloc (AqQ _) _).grown b sM (by intro k hk;simp[Value.ownBlock]at hk;omega)⟩
def AqA:Shp:={α:=ByteArray,enc:=λb=>([],AI b)}
def DR (f:FuncId):Shp :=
 bif Nat.beq f 140||Nat.beq f 229||Nat.beq f 201||Nat.beq f 193 then U4
 else bif Nat.beq f 97||Nat.beq f 194||Nat.beq f 186||Nat.beq f 212||Nat.beq f 214||Nat.beq f 184||Nat.beq f 185||Nat.beq f 188||Nat.beq f 183||Nat.beq f 213||Nat.beq f 189||Nat.beq f 141||Nat.beq f 216||Nat.beq f 217 then Adt
 else bif Nat.beq f 182 then Ro
 else bif Nat.beq f 92||Nat.beq f 93 then Afm else Me f
def SB:Ann:={keep:=fun
  | [0,1,0,1,1,1,1,1,1]=>[0,8,10,46,47,48]
  | _=>[]}
def Oc:Ann:={keep:=fun
  | [0,1,0,1,1,1,1,1,1]=>[0,3,8,9,51,52,53]
  | _=>[]}
def JR:Ann:={keep:=fun
  | [0,1,0,1]=>[0,9,10,11]
  | _=>[]}
def Pe:Ann:={keep:=fun
  | [0,1,0,1]=>[0,1,7,8]
  | _=>[]}
def SI:Ann:={keep:=fun
  | [0,1,0,1]=>[1,2,3,12,13,14]
  | _=>[]}
def SH:Ann:={keep:=fun
  | [0,1,0,1,1]=>[0,1,21,22,23]
  | _=>[]}
def Ec:Ann:={cut:=(λ| 1::0::1::1::0::0::0::0::q=>Nat.beq q.length 29 | 1::0::1::1::1::0::0::0::0::q=>Nat.beq q.length 29 | _=>false),keep:=fun
  | 1::0::1::1::0::0::0::0::q=>bif Nat.beq q.length 29 then[0,6,21,26]else[]
  | 1::0::1::1::1::0::0::0::0::q=>bif Nat.beq q.length 29 then[0,6,21,30]else[]
  | _=>[]}
def AmC:List Nat:=[1,1,0,1,0,0,0,0,0,0,0,0,0,0,0,0,0,0,0,0,0,0,0,0,0,0,0,0,0,0,0,0,0,1,1,0,1]
def AgR:List Nat:=[1,1,0,1,0,0,0,0,0,0,0,0,0,0,0,0,0,0,0,0,0,0,0,0,0,0,0,0,0,0,0,0,0,1,1,1,0,1]
def Ip (e:D.Env)(x:D.Expr)(i:Nat)(b:Bool):St:=Aq [(0,.tp (Af e)),(6,.bp 0 0),(21,Aa x.Op),(i,Ad b)] [.box (AE x)]
def Rj (e:D.Env)(ds:List D.Dim)(who at' k:Int):St:=Aq [(0,.tp (Af e)),(8,Aa who),(10,Aa at'),(46,Du true ds),(47,Aa ds.length),(48,Aa k)] []
def Z6 (e:D.Env)(x:D.Expr)(c:D.Chan)(l:List Int)(k:Int):St:=Aq [(0,.tp (Af e)),(3,.bp 0 0),(8,.bp 1 0),(9,.ow 2 0 l.length),(51,Ac true x.Args),(52,Aa x.Args.length),(53,Aa k)] [.box (AE x),.box (Am c),.arr true 0 l.length 1 (AC l)]
def U1 (e:D.Env)(k:Int):St:=Aq [(0,.tp (Af e)),(9,Av true e.S.Procs),(10,Aa e.S.Procs.length),(11,Aa k)] []
def Ado (l:List Int)(v k:Int):St:=Aq [(0,Ac true l),(1,Aa v),(7,Aa l.length),(8,Aa k)] []
def U3 (c:D.Chan)(l mt:List Int)(any:Bool)(k:Int):St:=Aq [(1,Ac false l),(2,Ac true mt),(3,Ad any),(12,BK true c.Queue),(13,Aa c.Queue.length),(14,Aa k)] []
def U2 (x l mt:List Int)(k:Int):St:=Aq [(0,Ac true x),(1,Ac false l),(21,Ac true mt),(22,Aa mt.length),(23,Aa k)] []
def YV (r)(e)(x):(fc DR AW f140 [] (Aa r)).goal (St.init [] [.agg (Af e),Aa x]) =
  ∃(y:_),VC 15 [VV.agg (Ag e.M),VV.agg (Ae e.S)] (Aa y)/\BB (y != 0) (LQ (Aa y) (Aa r)) (BB (bif bif bif decide (e.Pid<(-1))then true else decide (e.Pid>=(↑e.S.Procs.length))then true else decide (x<0)then true else decide (x>=(↑e.M.Exprs.length))) (LQ (Aa 42) (Aa r)) (LQ (Aa 0) (Aa r))):=kR
def AhL (v r)(e)(x):(fc DR AW f97 [] (.tup [Aa v,Aa r])).goal (St.init [] [.agg (Af e),Aa x]) =
  ∃(y:_),VC 140 [VV.agg (Af e),Aa x] (Aa y)/\BB (y != 0) (LQ (VV.tup [Aa 0,Aa y]) (VV.tup [Aa v,Aa r])) (∃(y:Int×Int),VC 141 [VV.tp (Af e),Aa x] (VV.tup [Aa y.fst,Aa y.snd])/\LQ (VV.tup [Aa y.fst,Aa y.snd]) (VV.tup [Aa v,Aa r])):=kR
def AhM (v r)(e)(x):(fc DR AW f194 [] (.tup [Aa v,Aa r])).goal (St.init [] [.agg (Af e),Aa x]) =
  ∃(y:_),VC 140 [VV.agg (Af e),Aa x] (Aa y)/\BB (y != 0) (LQ (VV.tup [Aa 0,Aa y]) (VV.tup [Aa v,Aa r])) (∃(y:Int×Int),VC 214 [VV.tp (Af e),Aa x] (VV.tup [Aa y.fst,Aa y.snd])/\LQ (VV.tup [Aa y.fst,Aa y.snd]) (VV.tup [Aa v,Aa r])):=kR
def AeZ (v r)(c):(fc DR AW f186 [] (.tup [Aa v,Aa r])).goal (St.init [] [Ad c]) =
  BB c (LQ (VV.tup [Aa 1,Aa 0]) (VV.tup [Aa v,Aa r])) (LQ (VV.tup [Aa 0,Aa 0]) (VV.tup [Aa v,Aa r])):=kR
def Aci (v r)(e)(x){c}(d:c=LQ (VV.tup [Aa 0,Aa 42]) (VV.tup [Aa v,Aa r])){a}(f:a=[Aa v,Aa r]):(fc DR AW f212 [] (.tup [Aa v,Aa r])).goal (St.init [] [.tp (Af e),.agg (BN x)]) =
  BB (x.Scope==0) (∃(y:_),VC 177 [.agg (BN x)] (Aa y)/\BB (decide (y > (↑e.S.Globals.length))) c (LQ (.tup [Aa (-1),Aa 0]) (.tup a))) (BB (x.Scope==1) (∃(y:_),((true&&decide (e.Pid<0)==false)->VC 177 [.agg (BN x)] (Aa y))/\((true&&decide (e.Pid<0)==false)->inX e.Pid e.S.Procs.length)/\BB (bif decide (e.Pid<0)then true else decide (y > (↑(e.S.Procs.getD e.Pid.toNat default).Frame.length))) c (LQ (.tup [Aa e.Pid,Aa 0]) (.tup a))) (∃(y:Int×Int),VC 141 [.tp (Af e),Aa x.Who] (.tup [Aa y.fst,Aa y.snd])/\BB (y.snd != 0) (LQ (.tup [Aa 0,Aa y.snd]) (.tup a)) (((true&&(bif decide (y.fst<0)then true else decide (y.fst>=(↑e.S.Procs.length)))==false)->inX y.fst e.S.Procs.length)/\BB (bif bif decide (y.fst<0)then true else decide (y.fst>=(↑e.S.Procs.length))then true else(e.S.Procs.getD y.fst.toNat default).Type_ != x.Type_) (LQ (.tup [Aa 0,Aa 52]) (.tup a)) (∃(b:_),VC 177 [.agg (BN x)] (Aa b)/\inX y.fst e.S.Procs.length/\BB (decide (b > (↑(e.S.Procs.getD y.fst.toNat default).Frame.length))) c (LQ (.tup [Aa y.fst,Aa 0]) (.tup a)))))):=by subst d f;kernel_rfl
def Aje (p k r)(e)(x){a}(c:a=e.M.Exprs.getD x.toNat default){b}(d:b=[Aa p,Aa k,Aa r]):(fc DR SB f182 [] (.tup [Aa p,Aa k,Aa r])).goal (St.init [] [.tp (Af e),Aa x]) =
  (inX x e.M.Exprs.length/\inX x e.M.Exprs.length/\BB (a.Op != 2) (LQ (.tup [Aa 0,Aa 0,Aa 42]) (.tup b)) (∃(y:Int×Int),VC 212 [.tp (Af e),.agg (BN a.V)] (.tup [Aa y.fst,Aa y.snd])/\BB (y.snd != 0) (LQ (.tup [Aa 0,Aa 0,Aa y.snd]) (.tup b)) (As (fc DR SB f182 [] (.tup b)) [1,1,1,1,1,1,0,1,0] (Rj e a.V.Dims y.fst a.V.Slot (0))))):=by subst c d;kernel_rfl
def AeC (v r)(e)(x):(fc DR AW f214 [] (.tup [Aa v,Aa r])).goal (St.init [] [.tp (Af e),Aa x]) =
  ∃(y:Int×Int),VC 141 [VV.tp (Af e),Aa x] (VV.tup [Aa y.fst,Aa y.snd])/\BB (y.snd != 0) (LQ (VV.tup [Aa 0,Aa y.snd]) (VV.tup [Aa v,Aa r])) (BB (bif decide (y.fst<1)then true else decide (y.fst > (↑e.S.Chans.length))) (LQ (VV.tup [Aa 0,Aa 49]) (VV.tup [Aa v,Aa r])) (LQ (VV.tup [Aa y.fst,Aa 0]) (VV.tup [Aa v,Aa r]))):=kR
def AlB (v r)(e)(x){f}(g:f=λ(y:Int×Int)=>e.S.Chans.getD (i64.wrap (y.fst-(1:Int))).toNat default){b}(h:b=λ(a:Int×Int)=>[Aa a.fst,Aa a.snd]){l}(i:l=[Aa v,Aa r]){d}(j:d=λ(y:Int×Int)=>(↑(f y).Queue.length:Int)){c}(k:c=VV.tup l):(fc DR AW f184 [] (.tup [Aa v,Aa r])).goal (St.init [] [.tp (Af e),.agg (AE x)]) =
  ∃(y:_),VC 214 [.tp (Af e),Aa x.A] (.tup [Aa y.fst,Aa y.snd])/\BB (y.snd != 0) (LQ (.tup [Aa 0,Aa y.snd]) c) (inX (i64.wrap (y.fst-(1))) e.S.Chans.length/\inX (f y).Shape e.M.Shapes.length/\BB (x.Op==25) (LQ (.tup [Aa (d y),Aa 0]) c) (BB (x.Op==26) (∃(a:_),VC 186 [Ad (decide ((d y)>=(e.M.Shapes.getD (f y).Shape.toNat default).Room))] (.tup (b a))/\LQ (.tup (b a)) c) (BB (x.Op==28) (∃(a:_),VC 186 [Ad (decide ((d y)<(e.M.Shapes.getD (f y).Shape.toNat default).Room))] (.tup (b a))/\LQ (.tup (b a)) c) (BB (x.Op==27) (∃(a:_),VC 186 [Ad ((d y)==0)] (.tup (b a))/\LQ (.tup (b a)) c) (∃(a:_),VC 186 [Ad (decide ((d y) > 0))] (.tup (b a))/\LQ (.tup (b a)) c))))):=by subst g h i j k;kernel_rfl
def Akn (v r)(e)(x):(fc DR Oc f185 [] (.tup [Aa v,Aa r])).goal (St.init [] [.tp (Af e),.agg (AE x)]) =
  (∃(y:Int×Int),VC 214 [VV.tp (Af e),Aa x.A] (VV.tup [Aa y.fst,Aa y.snd])/\BB (y.snd != 0) (LQ (VV.tup [Aa 0,Aa y.snd]) (VV.tup [Aa v,Aa r])) (inX (i64.wrap (y.fst-(1))) e.S.Chans.length/\inX (e.S.Chans.getD (i64.wrap (y.fst-(1))).toNat default).Shape e.M.Shapes.length/\BB ((↑(e.M.Shapes.getD (e.S.Chans.getD (i64.wrap (y.fst-(1))).toNat default).Shape.toNat default).Fields.length) != (↑x.Args.length:Int)) (LQ (VV.tup [Aa 0,Aa 49]) (VV.tup [Aa v,Aa r])) (((0)<=(↑x.Args.length:Int)/\(↑x.Args.length)<=(↑x.Args.length:Int)/\(↑x.Args.length)*(↑8:Int)<=140737488355328)/\As (fc DR Oc f185 [] (VV.tup [Aa v,Aa r])) [1,1,1,1,1,1,0,1,0] (Aq [(0,VV.tp (Af e)),(3,VV.bp 0 0),(8,VV.bp 1 0),(9,VV.ow 2 0 (↑x.Args.length:Int).toNat),(51,Ac true x.Args),(52,Aa (↑x.Args.length)),(53,Aa 0)] [Ob.box (AE x),Ob.box (Am (e.S.Chans.getD (i64.wrap (y.fst-(1))).toNat default)),Ob.arr true 0 (↑x.Args.length:Int).toNat 1 λ(_)=>((fc DR Oc f185 [] (VV.tup [Aa v,Aa r])).T 2).zero])))):=kR
def AaH (v r)(e)(x):(fc DR AW f188 [] (.tup [Aa v,Aa r])).goal (St.init [] [.tp (Af e),.agg (AE x)]) =
  ∃(y:Int×Int),VC 141 [VV.tp (Af e),Aa x.A] (VV.tup [Aa y.fst,Aa y.snd])/\BB (y.snd != 0) (LQ (VV.tup [Aa 0,Aa y.snd]) (VV.tup [Aa v,Aa r])) (((true&&(bif decide (y.fst<0)then true else decide (y.fst>=(↑e.S.Procs.length)))==false&&(x.Op==38)==true)->inX y.fst e.S.Procs.length)/\BB (bif bif decide (y.fst<0)then true else decide (y.fst>=(↑e.S.Procs.length))then true else bif x.Op==38 then(e.S.Procs.getD y.fst.toNat default).Type_ != x.N else false) (LQ (VV.tup [Aa 0,Aa 52]) (VV.tup [Aa v,Aa r])) (BB (x.Op==37) (inX y.fst e.S.Procs.length/\LQ (VV.tup [Aa (e.S.Procs.getD y.fst.toNat default).Loc,Aa 0]) (VV.tup [Aa v,Aa r])) (inX y.fst e.S.Procs.length/\∃(a:_),VC 215 [Ac true x.Args,Aa (e.S.Procs.getD y.fst.toNat default).Loc] (Ad a)/\∃(y:Int×Int),VC 186 [Ad a] (VV.tup [Aa y.fst,Aa y.snd])/\LQ (VV.tup [Aa y.fst,Aa y.snd]) (VV.tup [Aa v,Aa r])))):=kR
def Aha (v r)(e)(x){c}(d:c=λ(y:Int×Int)=>∃(a:Int×Int),VC 186 [Ad (y.fst != 0)] (VV.tup [Aa a.fst,Aa a.snd])/\LQ (VV.tup [Aa a.fst,Aa a.snd]) (VV.tup [Aa v,Aa r])){b}(f:b=λ(y:Int×Int)=>[Aa y.fst,Aa y.snd]):(fc DR AW f183 [] (.tup [Aa v,Aa r])).goal (St.init [] [.tp (Af e),.agg (AE x)]) =
  ∃(y:_),VC 141 [.tp (Af e),Aa x.A] (.tup (b y))/\BB (y.snd != 0) (LQ (.tup [Aa 0,Aa y.snd]) (.tup [Aa v,Aa r])) (BB (bif x.Op==24 then y.fst != 0 else false) (∃(y:_),VC 213 [Aa x.B,.tp [.tp (Af e)]] (.tup (b y))/\LQ (.tup (b y)) (.tup [Aa v,Aa r])) (BB (x.Op==24) (∃(y:_),VC 213 [Aa x.C,.tp [.tp (Af e)]] (.tup (b y))/\LQ (.tup (b y)) (.tup [Aa v,Aa r])) (BB (bif bif x.Op==22 then y.fst==0 else false then true else bif x.Op==23 then y.fst != 0 else false) (c y) (∃(y:_),VC 213 [Aa x.B,.tp [.tp (Af e)]] (.tup (b y))/\BB (y.snd != 0) (LQ (.tup [Aa 0,Aa y.snd]) (.tup [Aa v,Aa r])) (c y))))):=by subst d f;kernel_rfl
def AiN (v r)(e)(x):(fc DR AW f189 [] (.tup [Aa v,Aa r])).goal (St.init [] [.tp (Af e),.agg (AE x)]) =
  ∃(y:Int×Int),VC 141 [VV.tp (Af e),Aa x.A] (VV.tup [Aa y.fst,Aa y.snd])/\BB (y.snd != 0) (LQ (VV.tup [Aa 0,Aa y.snd]) (VV.tup [Aa v,Aa r])) (BB (bif bif x.Op==3 then true else x.Op==4 then true else x.Op==5) (∃(a:Int×Int),VC 216 [Aa x.Op,Aa y.fst] (VV.tup [Aa a.fst,Aa a.snd])/\LQ (VV.tup [Aa a.fst,Aa a.snd]) (VV.tup [Aa v,Aa r])) (∃(a:Int×Int),VC 141 [VV.tp (Af e),Aa x.B] (VV.tup [Aa a.fst,Aa a.snd])/\BB (a.snd != 0) (LQ (VV.tup [Aa 0,Aa a.snd]) (VV.tup [Aa v,Aa r])) (∃(b:Int×Int),VC 217 [Aa x.Op,Aa y.fst,Aa a.fst] (VV.tup [Aa b.fst,Aa b.snd])/\LQ (VV.tup [Aa b.fst,Aa b.snd]) (VV.tup [Aa v,Aa r])))):=kR
def Vk (b)(e):(fc DR JR f187 [] (Ad b)).goal (St.init [] [.tp (Af e)]) =
  As (fc DR JR f187 [] (Ad b)) [1,0,1,0] (U1 e (0)):=kR
def Ak8 (v r)(e)(x){a}(c:a=e.M.Exprs.getD x.toNat default){b}(d:b=fc DR Ec f141 [] (VV.tup [Aa v,Aa r])):(fc DR Ec f141 [] (.tup [Aa v,Aa r])).goal (St.init [] [.tp (Af e),Aa x]) =
  (inX x e.M.Exprs.length/\BB (a.Op==1) (LQ (.tup [Aa a.N,Aa 0]) (.tup [Aa v,Aa r])) (BB (a.Op==2) (∃(y:Int×Int×Int),VC 182 [.tp (Af e),Aa x] (.tup [Aa y.fst,Aa y.snd.fst,Aa y.snd.snd])/\BB (y.snd.snd != 0) (LQ (.tup [Aa 0,Aa y.snd.snd]) (.tup [Aa v,Aa r])) (BB (decide (y.fst<0)) (inX y.snd.fst e.S.Globals.length/\LQ (.tup [Aa (e.S.Globals.getD y.snd.fst.toNat 0),Aa 0]) (.tup [Aa v,Aa r])) (inX y.fst e.S.Procs.length/\inX y.snd.fst (e.S.Procs.getD y.fst.toNat default).Frame.length/\LQ (.tup [Aa ((e.S.Procs.getD y.fst.toNat default).Frame.getD y.snd.fst.toNat 0),Aa 0]) (.tup [Aa v,Aa r])))) (BB (a.Op==22) (As b AmC (Ip e a 26 (a.Op==22))) (BB (a.Op==23) (As b AmC (Ip e a 26 (a.Op==23))) (As b AmC (Ip e a 26 (a.Op==24))))))):=by subst c d;kernel_rfl
def VR (b)(l)(v):(fc DR AW f215 [] (Ad b)).goal (St.init [] [Ac true l,Aa v]) =
  ∃(y:_),VC 229 [Ac true l,Aa v] (Aa y)/\LQ (Ad (decide (y>=0))) (Ad b):=kR
def Ahj (r)(l)(v):(fc DR Pe f229 [] (Aa r)).goal (St.init [] [Ac true l,Aa v]) =
  As (fc DR Pe f229 [] (Aa r)) [1,0,1,0] (Ado l v (0)):=kR
def Ak5 (r)(c)(l mt)(some'):(fc DR SI f201 [] (Aa r)).goal (St.init [] [.agg (Am c),Ac false l,Ac true mt,Ad some']) =
  As (fc DR SI f201 [] (Aa r)) [1,0,1,0] (U3 c l mt some' (0)):=kR
def Akw (b)(x l mt):(fc DR SH f225 [] (Ad b)).goal (St.init [] [Ac true x,Ac false l,Ac true mt]) =
  BB (bif decide ((↑x.length)<(↑mt.length:Int))then true else decide ((↑l.length)<(↑mt.length:Int))) (LQ (Ad false) (Ad b)) (As (fc DR SH f225 [] (Ad b)) [1,1,0,1,0] (U2 x l mt (0))):=kR
def AhH (v r)(e)(x)(b){a}(c:a=fc DR Ec f141 [] (VV.tup [Aa v,Aa r])):((fc DR Ec f141 [] (.tup [Aa v,Aa r])).cut AmC).goal (Ip e x 26 b) =
  BB b (∃(y:Int×Int),VC 183 [.tp (Af e),.agg (AE x)] (.tup [Aa y.fst,Aa y.snd])/\LQ (.tup [Aa y.fst,Aa y.snd]) (.tup [Aa v,Aa r])) (BB (x.Op==25) (As a AgR (Ip e x 30 (x.Op==25))) (BB (x.Op==26) (As a AgR (Ip e x 30 (x.Op==26))) (BB (x.Op==27) (As a AgR (Ip e x 30 (x.Op==27))) (BB (x.Op==28) (As a AgR (Ip e x 30 (x.Op==28))) (As a AgR (Ip e x 30 (x.Op==29))))))):=by subst c;kernel_rfl
def AhG (v r)(e)(x)(b){f}(g:f=[Aa v,Aa r]){d}(h:d=[VV.tp (Af e),VV.agg (AE x)]){i}(j:i=(∃(y:Int×Int),VC 188 d (VV.tup [Aa y.fst,Aa y.snd])/\LQ (VV.tup [Aa y.fst,Aa y.snd]) (VV.tup f))){c}(k:c=VV.tup f):((fc DR Ec f141 [] (.tup [Aa v,Aa r])).cut AgR).goal (Ip e x 30 b) =
  (BB b (∃(y:Int×Int),VC 184 d (.tup [Aa y.fst,Aa y.snd])/\LQ (.tup [Aa y.fst,Aa y.snd]) c) (BB (x.Op==30) (∃(y:Int×Int),VC 185 d (.tup [Aa y.fst,Aa y.snd])/\LQ (.tup [Aa y.fst,Aa y.snd]) c) (BB (x.Op==31) (LQ (.tup [Aa e.Pid,Aa 0]) c) (BB (x.Op==32) (LQ (.tup [Aa e.S.Last,Aa 0]) c) (BB (x.Op==33) (LQ (.tup [Aa (↑e.S.Procs.length),Aa 0]) c) (BB (x.Op==34) (∃(y:_),VC 187 [.tp (Af e)] (Ad y)/\∃(a:Int×Int),VC 186 [Ad !y] (.tup [Aa a.fst,Aa a.snd])/\LQ (.tup [Aa a.fst,Aa a.snd]) c) (BB (x.Op==35) (∃(y:Int×Int),VC 186 [Ad e.Timeout] (.tup [Aa y.fst,Aa y.snd])/\LQ (.tup [Aa y.fst,Aa y.snd]) c) (BB (x.Op==36) (∃(y:Int×Int),VC 141 [.tp (Af e),Aa x.A] (.tup [Aa y.fst,Aa y.snd])/\BB (y.snd != 0) (LQ (.tup [Aa 0,Aa y.snd]) c) (((true&&(bif decide (y.fst>=0)then decide (y.fst<(↑e.Able.length))else false)==true)->inX y.fst e.Able.length)/\∃(a:Int×Int),VC 186 [Ad (bif bif decide (y.fst>=0)then decide (y.fst<(↑e.Able.length))else false then e.Able.getD y.fst.toNat false else false)] (.tup [Aa a.fst,Aa a.snd])/\LQ (.tup [Aa a.fst,Aa a.snd]) c)) (BB (x.Op==37) i (BB (x.Op==38) i (BB (x.Op==39) (LQ (.tup [Aa 0,Aa 42]) c) (∃(y:Int×Int),VC 189 d (.tup [Aa y.fst,Aa y.snd])/\LQ (.tup [Aa y.fst,Aa y.snd]) c)))))))))))):=by subst g h j k;kernel_rfl
def Afj (p k r)(e)(_:Int)(ds)(who at' i)(J){a}(c:a=ds.getD i.toNat default){b}(d:b=[Aa p,Aa k,Aa r]):((fc DR SB f182 [] (.tup [Aa p,Aa k,Aa r])).loop [1,1,1,1,1,1,0,1,0] J).goal (Rj e ds who at' i) =
  BB (decide (i<(↑ds.length))) (inX i ds.length/\∃(y:Int×Int),VC 141 [.tp (Af e),Aa a.I] (.tup [Aa y.fst,Aa y.snd])/\BB (y.snd != 0) (LQ (.tup [Aa 0,Aa 0,Aa y.snd]) (.tup b)) (BB (bif decide (y.fst<0)then true else decide (y.fst>=a.Len)) (LQ (.tup [Aa 0,Aa 0,Aa 47]) (.tup b)) (J (Rj e ds who (i64.wrap (at'+i64.wrap (y.fst*a.Stride))) (i64.wrap (i+(1))))))) (LQ (.tup [Aa who,Aa at',Aa 0]) (.tup b)):=by subst c d;kernel_rfl
def AgN (v r)(e)(x)(c)(l)(k)(J):((fc DR Oc f185 [] (.tup [Aa v,Aa r])).loop [1,1,1,1,1,1,0,1,0] J).goal (Z6 e x c l k) =
  BB (decide (k<(↑x.Args.length))) (inX k x.Args.length/\inX k x.Match.length/\BB (x.Match.getD k.toNat 0 != 1) (J (Z6 e x c l (i64.wrap (k+(1))))) (∃(y:Int×Int),VC 141 [VV.tp (Af e),Aa (x.Args.getD k.toNat 0)] (VV.tup [Aa y.fst,Aa y.snd])/\inX k l.length/\BB (y.snd != 0) (LQ (VV.tup [Aa 0,Aa y.snd]) (VV.tup [Aa v,Aa r])) (J (Aq [(0,VV.tp (Af e)),(3,VV.bp 0 0),(8,VV.bp 1 0),(9,VV.ow 2 0 l.length),(51,Ac true x.Args),(52,Aa (↑x.Args.length)),(53,Aa (i64.wrap (k+(1))))] [Ob.box (AE x),Ob.box (Am c),Ob.arr true 0 l.length 1 λ(j)=>bif j.beq k.toNat then[Aa y.fst]else[Aa (l.getD j 0)]])))) (∃(y:_),VC 201 [VV.agg (Am c),Ac false l,Ac true x.Match,Ad (x.N==1)] (Aa y)/\∃(a:Int×Int),VC 186 [Ad (decide (y>=0))] (VV.tup [Aa a.fst,Aa a.snd])/\LQ (VV.tup [Aa a.fst,Aa a.snd]) (VV.tup [Aa v,Aa r])):=kR
def S5 (b)(e)(k)(J){z1}(a:z1=e.S.Procs.getD k.toNat default):((fc DR JR f187 [] (Ad b)).loop [1,0,1,0] J).goal (U1 e k) =
  BB (decide (k<(↑e.S.Procs.length))) (inX k e.S.Procs.length/\inX z1.Type_ e.M.Procs.length/\inX z1.Loc (e.M.Procs.getD z1.Type_.toNat default).Locs.length/\BB ((e.M.Procs.getD z1.Type_.toNat default).Locs.getD z1.Loc.toNat default).Progress (LQ (Ad true) (Ad b)) (J (U1 e (i64.wrap (k+(1)))))) (LQ (Ad false) (Ad b)):=by subst a;kernel_rfl
def Acg (r)(l)(v k)(J):((fc DR Pe f229 [] (Aa r)).loop [1,0,1,0] J).goal (Ado l v k) =
  BB (decide (k<(↑l.length))) (inX k l.length/\BB (v==l.getD k.toNat 0) (LQ (Aa k) (Aa r)) (J (Ado l v (i64.wrap (k+(1)))))) (LQ (Aa (-1)) (Aa r)):=kR
def AhB (r)(c)(l mt)(any)(k)(J):((fc DR SI f201 [] (Aa r)).loop [1,0,1,0] J).goal (U3 c l mt any k) =
  BB (decide (k<(↑c.Queue.length))) (inX k c.Queue.length/\∃(y:_),VC 225 [Ac true (c.Queue.getD k.toNat []),Ac false l,Ac true mt] (Ad y)/\BB y (LQ (Aa k) (Aa r)) (BB (!any) (LQ (Aa (-1)) (Aa r)) (J (U3 c l mt any (i64.wrap (k+(1))))))) (LQ (Aa (-1)) (Aa r)):=kR
def Ag3 (b)(x l mt)(k)(J):((fc DR SH f225 [] (Ad b)).loop [1,1,0,1,0] J).goal (U2 x l mt k) =
  BB (decide (k<(↑mt.length))) (inX k mt.length/\((true&&(mt.getD k.toNat 0==1)==true)->inX k x.length)/\((true&&(mt.getD k.toNat 0==1)==true)->inX k l.length)/\BB (bif mt.getD k.toNat 0==1 then x.getD k.toNat 0 != l.getD k.toNat 0 else false) (LQ (Ad false) (Ad b)) (J (U2 x l mt (i64.wrap (k+(1)))))) (LQ (Ad true) (Ad b)):=kR
def Ag8 (v r)(e)(x):(fc DR AW f213 [] (.tup [Aa v,Aa r])).goal (St.init [] [Aa x,.tp [.tp (Af e)]]) =
  ∃(y:Int×Int),VC 141 [VV.tp (Af e),Aa x] (VV.tup [Aa y.fst,Aa y.snd])/\LQ (VV.tup [Aa y.fst,Aa y.snd]) (VV.tup [Aa v,Aa r]):=kR
end Go.Proofs.YtggokmjgegoanaaGreatDoor
namespace Go.Proofs.YtggokmjgegoanaaGreatDoor
open Go.RowKit Go.Proofs.Tryz
open IntKind(i64)
def FV (b:Int)(s:Bool)(v:Int):Int :=
 if 1<=b/\b<=32 then(if s then(v+2 ^ b.toNat / 2) % 2 ^ b.toNat-2 ^ b.toNat / 2 else v % 2 ^ b.toNat)else 0
def Ad1 (b v)(s)(h:b<1\/32<b):FV b s v=0:=by
 unfold FV;rw[AqY oM]
def YN (b v)(h1:1<=b)(h2:b<=32):wrap64 (v*2 ^ (64-b).toNat) / 2 ^ (64-b).toNat=FV b true v:=by
 have a:b=1\/b=2\/b=3\/b=4\/b=5\/b=6\/b=7\/b=8\/b=9\/b=10\/b=11\/b=12\/b=13\/b=14\/b=15\/b=16\/b=17\/b=18\/b=19\/b=20\/b=21\/b=22\/b=23\/b=24\/b=25\/b=26\/b=27\/b=28\/b=29\/b=30\/b=31\/b=32:=oM
 unfold wrap64 FV;rcases a with h|h|h|h|h|h|h|h|h|h|h|h|h|h|h|h|h|h|h|h|h|h|h|h|h|h|h|h|h|h|h|h <;>
  subst h<;>simp<;>omega
def Hm (r:BitVec 64):i64.wrap (r.toNat)=r.toInt:=by
 rw[IntKind.wrap_i64,BitVec.toInt_eq_toNat_cond];have:=r.isLt;split<;>omega
def Hn (r:BitVec 32):IntKind.i32.wrap (r.toNat)=r.toInt:=by
 rw[IntKind.wrap_i32,BitVec.toInt_eq_toNat_cond];have:=r.isLt;split<;>omega
def Zh (v)(m)(f:m<32):bits .and .i64 v ((2 ^ (m+1):Nat)-1)=v % (2 ^ (m+1):Nat):=by
 show i64.wrap ((BitVec.ofInt 64 v &&& BitVec.ofInt 64 (((2 ^ (m+1):Nat):Int)-1)).toNat:Int)=_;have hp:2 ^ (m+1)<=2 ^ 32:=ArZ dZ oM;have a:0<2 ^ (m+1):=Nat.two_pow_pos _;have c:(((2 ^ (m+1):Nat):Int)-1)=((2 ^ (m+1)-1:Nat):Int):=oM
 rw[BitVec.toNat_and,c,BitVec.ofInt_natCast,BitVec.toNat_ofNat,BitVec.toNat_ofInt];have d:(2 ^ (m+1)-1) % 2 ^ 64=2 ^ (m+1)-1:=Nat.mod_eq_of_lt oM;rw[d,AsG];have e:(v % ((2 ^ 64:Nat):Int)).toNat % 2 ^ (m+1)<2 ^ (m+1):=AsM _ a;rw[IntWalk.i64_in _ oM];have b:0<=v % ((2 ^ 64:Nat):Int):=AsB _ dZ;have hd:((2 ^ (m+1):Nat):Int) ∣ ((2 ^ 64:Nat):Int):=by
  have:2 ^ (m+1) ∣ 2 ^ 64:=Nat.pow_dvd_pow 2 oM;exact Int.natCast_dvd_natCast.2 this
 rw[Int.natCast_emod,Int.toNat_of_nonneg b];exact Int.emod_emod_of_dvd _ hd
def Ak0 (b v)(h1:1<=b)(h2:b<=32):bits .and .i64 v (wrap64 (wrap64 (2 ^ b.toNat)-1))=FV b false v:=by
 obtain⟨m,rfl⟩:∃m:Nat,b=(m:Int)+1:=⟨(b-1).toNat,oM⟩;have c:m<32:=oM
 have e:((m:Int)+1).toNat=m+1:=oM
 have hp:2 ^ (m+1)<=2 ^ 32:=ArZ dZ oM;have a:0<2 ^ (m+1):=Nat.two_pow_pos _;have ec:(2:Int) ^ (m+1)=((2 ^ (m+1):Nat):Int):=sM
 unfold FV;rw[Ari ⟨h1,h2⟩,e,ec,IntWalk.wrap64_in ((2 ^ (m+1):Nat):Int) oM,IntWalk.wrap64_in _ oM,Zh v m c];simp
def VN (b v)(h1:1<=b)(h2:b<=32)(s:Bool) :
  (if s then(if 2 ^ b.toNat / 2<=v % 2 ^ b.toNat then v % 2 ^ b.toNat-2 ^ b.toNat else v % 2 ^ b.toNat)else v % 2 ^ b.toNat)=FV b s v:=by
 have a:b=1\/b=2\/b=3\/b=4\/b=5\/b=6\/b=7\/b=8\/b=9\/b=10\/b=11\/b=12\/b=13\/b=14\/b=15\/b=16\/b=17\/b=18\/b=19\/b=20\/b=21\/b=22\/b=23\/b=24\/b=25\/b=26\/b=27\/b=28\/b=29\/b=30\/b=31\/b=32:=oM
 unfold FV;cases s
 .simp[h1,h2]
 .rcases a with h|h|h|h|h|h|h|h|h|h|h|h|h|h|h|h|h|h|h|h|h|h|h|h|h|h|h|h|h|h|h|h <;>
   subst h<;>simp<;>split<;>omega
def Akm (b:Int)(h1:1<=b)(h2:b<=32):(2:Int)<=2 ^ b.toNat/\(2:Int) ^ b.toNat<=4294967296:=by
 obtain⟨m,a⟩:∃m:Nat,b.toNat=m+1:=⟨b.toNat-1,oM⟩;rw[a];have hp:2 ^ (m+1)<=2 ^ 32:=ArZ dZ oM;have c:2 ^ 1<=2 ^ (m+1):=ArZ dZ oM;have ec:(2:Int) ^ (m+1)=((2 ^ (m+1):Nat):Int):=sM
 rw[ec];omega
def ApF (v m:Int)(c:0<m)(h:v.tmod m<0):v.tmod m+m=v % m:=by
 have h0:=Int.tmod_eq_emod (a:=v) (b:=m);have h1:=AsB v (b:=m) oM;have h2:=Int.emod_lt_of_pos v c;rw[h0]at h |-;split at h<;>rename_i d
 .omega
 .rw[AqY d];omega
def ApG (v m:Int)(c:0<m)(h:0<=v.tmod m):v.tmod m=v % m:=by
 have h0:=Int.tmod_eq_emod (a:=v) (b:=m);have h1:=AsB v (b:=m) oM;have h2:=Int.emod_lt_of_pos v c;rw[h0]at h |-;split at h<;>rename_i d
 .rw[Ari d];omega
 .omega
def Ahv (b v x)(h1:1<=b)(h2:b<=32)(a:x=v % 2 ^ b.toNat)(h:2 ^ b.toNat / 2<=x):x-2 ^ b.toNat=FV b true v:=by
 have:=VN b v h1 h2 true;rw[Ari rfl,<- a,Ari h]at this;exact this
def Ahw (b v x)(h1:1<=b)(h2:b<=32)(a:x=v % 2 ^ b.toNat)(h:x<2 ^ b.toNat / 2):x=FV b true v:=by
 have:=VN b v h1 h2 true;rw[Ari rfl,<- a,AqY oM]at this;exact this
def Ahu (b v x)(h1:1<=b)(h2:b<=32)(a:x=v % 2 ^ b.toNat):x=FV b false v:=by
 have:=VN b v h1 h2 false;rw[AqY dZ,<- a]at this;exact this
def Ak1 (v):FV 32 true v=wrap32 v:=by
 unfold FV wrap32;simp
def BI (n):-2147483648<=wrap32 n/\wrap32 n<=2147483647:=by unfold wrap32;omega
def KZ {n}(h:-2147483648<=n)(a:n<=2147483647):wrap32 n=n:=by unfold wrap32;omega
def H4 (n):wrap64 (wrap32 n)=wrap32 n:=by have:=BI n;exact IntWalk.wrap64_in _ oM
def QQ (n):wrap32 n % 4294967296=n % 4294967296:=by unfold wrap32;omega
def Te {m n}(h:m % 4294967296=n % 4294967296):wrap32 m=wrap32 n:=by unfold wrap32;omega
def AcT (a b):wrap32 (wrap32 a*b)=wrap32 (a*b):=Te (by rw[Int.mul_emod,QQ,<- Int.mul_emod])
def UG (a b):wrap32 (a-wrap32 b)=wrap32 (a-b):=Te (by rw[Int.sub_emod,QQ,<- Int.sub_emod])
def Ac3 (x y:Int)(h1:-2147483648<=x)(h2:x<=2147483647):-2147483648<=x.tmod y/\x.tmod y<=2147483647:=by
 by_cases h:0<=x
 .have a:=Int.tmod_nonneg y h;have b:x.tmod y<=x:=by
   have:=AsB;rw[Int.tmod_eq_emod_of_nonneg h]
   by_cases c:y=0
   .subst c;simp
   .have f:x % y=x-y*(x / y):=by have:=Int.emod_def x y;omega
    have:0<=y*(x / y):=by
     rcases Int.lt_or_gt_of_ne c with g|hp
     .exact Int.mul_nonneg_of_nonpos_of_nonpos oM (Int.ediv_nonpos_of_nonneg_of_nonpos h oM)
     .exact Int.mul_nonneg oM (Int.ediv_nonneg h oM)
    omega
  omega
 .have e:x.tmod y=-((-x).tmod y):=by rw[Int.neg_tmod];omega
  have d:0<=-x:=oM
  have a:=Int.tmod_nonneg y d;have b:(-x).tmod y<=-x:=by
   rw[Int.tmod_eq_emod_of_nonneg d]
   by_cases c:y=0
   .subst c;simp
   .have f:-x % y=-x-y*(-x / y):=by have:=Int.emod_def (-x) y;omega
    have:0<=y*(-x / y):=by
     rcases Int.lt_or_gt_of_ne c with g|hp
     .exact Int.mul_nonneg_of_nonpos_of_nonpos oM (Int.ediv_nonpos_of_nonneg_of_nonpos d oM)
     .exact Int.mul_nonneg oM (Int.ediv_nonneg d oM)
    omega
  omega
def Ams (x y)(h1:-2147483648<=x)(h2:x<=2147483647):wrap32 (x-wrap32 (wrap32 (x.tdiv y)*y))=x.tmod y:=by
 have a:=Ac3 x y h1 h2;rw[UG,<- UG,AcT,UG];have e:x-x.tdiv y*y=x.tmod y:=by have:=Int.tmod_add_mul_tdiv x y;rw[Int.mul_comm]at this;omega
 rw[e];exact KZ a.1 a.2
def Ic (b:Bool):Int:=if b then 1 else 0
def Dk (a n:Int):Int:=if 0<=n then wrap32 (a*2 ^ min n.toNat 32)else a / 2 ^ min (-n).toNat 32
def Ej (op a b:Int):Int :=
 if op=6 then wrap32 (wrap32 a*wrap32 b)
 else if op=7 then(if wrap32 b=0 then 0 else wrap32 ((wrap32 a).tdiv (wrap32 b)))
 else if op=8 then(if wrap32 b=0 then 0 else(wrap32 a).tmod (wrap32 b))
 else if op=9 then wrap32 (wrap32 a+wrap32 b)
 else if op=10 then wrap32 (wrap32 a-wrap32 b)
 else if op=11 then Dk (wrap32 a) (wrap32 b)
 else if op=12 then Dk (wrap32 a) (-wrap32 b)
 else if op=13 then Ic (decide (wrap32 a<wrap32 b))
 else if op=14 then Ic (decide (wrap32 a<=wrap32 b))
 else if op=15 then Ic (decide (wrap32 b<wrap32 a))
 else if op=16 then Ic (decide (wrap32 b<=wrap32 a))
 else if op=17 then Ic (wrap32 a==wrap32 b)
 else if op=18 then Ic (wrap32 a != wrap32 b)
 else if op=19 then bits .and .i32 (wrap32 a) (wrap32 b)
 else if op=20 then bits .xor .i32 (wrap32 a) (wrap32 b)
 else if op=21 then bits .or .i32 (wrap32 a) (wrap32 b)
 else 0
def F7 (op b:Int):Int :=
 if(op=7\/op=8)/\wrap32 b=0 then 48 else if 6<=op/\op<=21 then 0 else 42
def Mp (op a:Int):Int :=
 if op=3 then wrap32 (-wrap32 a)else if op=4 then Ic (wrap32 a==0)else if op=5 then -wrap32 a-1 else 0
def Vs (op:Int):Int:=if op=3\/op=4\/op=5 then 0 else 42
def FG (op)(c:op=.and\/op=.or\/op=.xor)(a b):-2147483648<=bits op .i32 a b/\bits op .i32 a b<=2147483647:=by
 rcases c with rfl|rfl|rfl
 all_goals
  unfold bits;simp only[];rw[IntKind.wrap_i32];omega
def DJ (n)(h1:-2147483648<=n)(h2:n<=2147483647):(BitVec.ofInt 32 n).signExtend 64=BitVec.ofInt 64 n:=by
 apply BitVec.eq_of_toInt_eq;rw[BitVec.toInt_signExtend_of_le dZ,BitVec.toInt_ofInt,BitVec.toInt_ofInt];have:(n.bmod (2 ^ 32))=n:=Int.bmod_eq_of_le oM oM;have h3:(n.bmod (2 ^ 64))=n:=Int.bmod_eq_of_le oM oM;rw[this,h3]
def OT (op)(e:op=.and\/op=.or\/op=.xor)(a b)(c:-2147483648<=a/\a<=2147483647)(d:-2147483648<=b/\b<=2147483647) :
  bits op .i64 a b=bits op .i32 a b:=by
 rcases e with rfl|rfl|rfl
 .show i64.wrap ((BitVec.ofInt 64 a &&& BitVec.ofInt 64 b).toNat:Int)=IntKind.i32.wrap ((BitVec.ofInt 32 a &&& BitVec.ofInt 32 b).toNat:Int);rw[Hm,Hn,<- DJ a c.1 c.2,<- DJ b d.1 d.2,<- BitVec.signExtend_and,BitVec.toInt_signExtend_of_le dZ]
 .show i64.wrap ((BitVec.ofInt 64 a ||| BitVec.ofInt 64 b).toNat:Int)=IntKind.i32.wrap ((BitVec.ofInt 32 a ||| BitVec.ofInt 32 b).toNat:Int);rw[Hm,Hn,<- DJ a c.1 c.2,<- DJ b d.1 d.2,<- BitVec.signExtend_or,BitVec.toInt_signExtend_of_le dZ]
 .show i64.wrap ((BitVec.ofInt 64 a ^^^ BitVec.ofInt 64 b).toNat:Int)=IntKind.i32.wrap ((BitVec.ofInt 32 a ^^^ BitVec.ofInt 32 b).toNat:Int);rw[Hm,Hn,<- DJ a c.1 c.2,<- DJ b d.1 d.2,<- BitVec.signExtend_xor,BitVec.toInt_signExtend_of_le dZ]
def Xg (a)(k)(h:32<=k):wrap32 (a*2 ^ k)=0:=by
 have e:(2:Int) ^ k=4294967296*2 ^ (k-32):=by
  rw[show k=32+(k-32)by omega,Int.pow_add];simp
 unfold wrap32;rw[e,<- Int.mul_assoc,Int.mul_comm a,Int.mul_assoc];omega
def Adu (a)(k):wrap32 (a*2 ^ k)=wrap32 (a*2 ^ min k 32):=by
 by_cases h:k<=32
 .rw[Nat.min_eq_left h]
 .rw[Nat.min_eq_right oM,Xg a k oM,Xg a 32 oM]
def Xc (a:Int)(k):a / 2 ^ k / 2=a / 2 ^ (k+1):=by
 rw[Int.ediv_ediv_of_nonneg (Int.le_of_lt (Int.pow_pos dZ)),Int.pow_succ]
def Afl (a)(k m)(c)(b:c=0\/c=-1)(h:a / 2 ^ k=c)(d:k<=m):a / 2 ^ m=c:=by
 have e:(2:Int) ^ m=2 ^ k*2 ^ (m-k):=by rw[<- Int.pow_add];congr 1;omega
 rw[e,<- Int.ediv_ediv_of_nonneg (Int.le_of_lt (Int.pow_pos dZ)),h];have hp:(0:Int)<2 ^ (m-k):=Int.pow_pos dZ;rcases b with rfl|rfl
 .simp
 .rw[Int.neg_one_ediv];have:=Int.sign_eq_one_of_pos hp;omega
def Aok (a)(h1:-2147483648<=a)(h2:a<=2147483647):a / 2 ^ 32=0\/a / 2 ^ 32=-1:=by
 have:(2:Int) ^ 32=4294967296:=dZ
 rw[this];omega
def Adr (a)(k)(h1:-2147483648<=a)(h2:a<=2147483647):a / 2 ^ k=a / 2 ^ min k 32:=by
 by_cases h:k<=32
 .rw[Nat.min_eq_left h]
 .rw[Nat.min_eq_right oM];exact Afl a 32 k _ (Aok a h1 h2) rfl oM
def Aoj (a)(k)(h1:-2147483648<=a)(h2:a<=2147483647):-2147483648<=a / 2 ^ k/\a / 2 ^ k<=2147483647:=by
 induction k with
 | zero=>simp;omega
 | succ k ih=>rw[<- Xc];omega
def Ll (a n)(h:-2147483648<=a/\a<=2147483647):-2147483648<=Dk a n/\Dk a n<=2147483647:=by
 unfold Dk;split
 .exact BI _
 .exact Aoj a _ h.1 h.2
def Aht (x)(h:-2147483648<=x/\x<=2147483647):bits .xor .i32 (-1) x=-x-1:=by
 show IntKind.i32.wrap ((BitVec.ofInt 32 (-1) ^^^ BitVec.ofInt 32 x).toNat:Int)=_;have e:BitVec.ofInt 32 (-1)=BitVec.allOnes 32:=dZ
 rw[e,BitVec.allOnes_xor,BitVec.toNat_not,BitVec.toNat_ofInt,IntKind.wrap_i32];have:(((2:Nat) ^ 32:Nat):Int)=4294967296:=dZ
 rw[this];omega
def AkW (a):wrap64 (bits .xor .i32 (-1) (wrap32 a))=-wrap32 a-1:=by
 have h:=BI a;rw[Aht _ h];exact IntWalk.wrap64_in _ oM
def AkO (a:Int)(h:a<0):(a-1).tdiv 2=a / 2:=by
 have e:(a-1).tdiv 2=-((1-a).tdiv 2):=by rw[<- Int.neg_tdiv];congr 1;omega
 rw[e,Int.tdiv_eq_ediv_of_nonneg oM];omega
def C8 (b:Bool):Int×Int:=(bif b then 1 else 0,0)
abbrev Evl:=Int->Int×Int
section
variable (e : D.Env) (ev:Evl)
def CV (a:Int):Int×Int :=
 bif decide ((ev a).2≠0)then(0,(ev a).2)else bif decide ((ev a).1<1)||decide ((e.S.Chans.length:Int)<(ev a).1)then(0,49)else((ev a).1,0)
def BQ (n:Int):D.Chan:=e.S.Chans.getD (n-1).toNat default
def Anw (op room many:Int):Int×Int :=
 if op=25 then(many,0)else if op=26 then C8 (decide (room<=many))else if op=28 then C8 (decide (many<room))else if op=27 then C8 (decide (many=0))else C8 (decide (0<many))
def L4 (x:D.Expr):Int×Int :=
 bif decide ((CV e ev x.A).2≠0)then(0,(CV e ev x.A).2)else Anw x.Op (B4 e.M (BQ e (CV e ev x.A).1).Shape).Room (BQ e (CV e ev x.A).1).Queue.length
def Acw:Nat->(Nat->Int)->Int
 | 0,_=>0
 | n+1,f=>bif decide (Acw n f≠0)then Acw n f else f n
def Dp (a m:Int):Int×Int:=bif decide (m=1)then ev a else(0,0)
def C7 (args mt:List Int):List Int:=(List.range args.length).map λi=>(Dp ev (args.getD i 0) (mt.getD i 0)).1
def Dj (args mt:List Int)(n:Nat):Int:=Acw n λi=>(Dp ev (args.getD i 0) (mt.getD i 0)).2
def Ea (x l mt:List Int):Bool:=decide (mt.length<=x.length)&&decide (mt.length<=l.length)&&CM mt.length λi=>!(decide (mt.getD i 0=1)&&decide (x.getD i 0≠l.getD i 0))
def NX (l mt:List Int)(any:Bool):Nat->List (List Int)->Int
 | _,[]=>-1
 | k,x::q=>bif Ea x l mt then(k:Int)else bif any then NX l mt any (k+1) q else -1
def FW (c:D.Chan)(l mt:List Int)(any:Bool):Int:=NX l mt any 0 c.Queue
def LZ (x:D.Expr):Int×Int :=
 bif decide ((CV e ev x.A).2≠0)then(0,(CV e ev x.A).2)
 else bif decide ((B4 e.M (BQ e (CV e ev x.A).1).Shape).Fields.length≠x.Args.length)then(0,49)
 else bif decide (Dj ev x.Args x.Match x.Args.length≠0)then(0,Dj ev x.Args x.Match x.Args.length)
 else C8 (decide (0<=FW (BQ e (CV e ev x.A).1) (C7 ev x.Args x.Match) x.Match (decide (x.N=1))))
def DA (n:Int):D.Process:=e.S.Procs.getD n.toNat default
def Gu (x:D.Expr):Int×Int :=
 bif decide ((ev x.A).2≠0)then(0,(ev x.A).2)
 else bif decide ((ev x.A).1<0)||(decide ((e.S.Procs.length:Int)<=(ev x.A).1)||(decide (x.Op=38)&&decide ((DA e (ev x.A).1).Type_≠x.N)))then(0,52)
 else bif decide (x.Op=37)then((DA e (ev x.A).1).Loc,0)else C8 (decide ((DA e (ev x.A).1).Loc∈x.Args))
def JA (x:D.Expr):Int×Int :=
 bif decide ((ev x.A).2≠0)then(0,(ev x.A).2)
 else bif decide (x.Op=24)then(bif decide ((ev x.A).1≠0)then ev x.B else ev x.C)
 else bif(decide (x.Op=22)&&decide ((ev x.A).1=0))||(decide (x.Op=23)&&decide ((ev x.A).1≠0))then C8 (decide ((ev x.A).1≠0))
 else bif decide ((ev x.B).2≠0)then(0,(ev x.B).2)else C8 (decide ((ev x.B).1≠0))
def Ra (x:D.Expr):Int×Int :=
 bif decide ((ev x.A).2≠0)then(0,(ev x.A).2)
 else bif decide (x.Op=3)||(decide (x.Op=4)||decide (x.Op=5))then(Mp x.Op (ev x.A).1,Vs x.Op)
 else bif decide ((ev x.B).2≠0)then(0,(ev x.B).2)else(Ej x.Op (ev x.A).1 (ev x.B).1,F7 x.Op (ev x.B).1)
def Dh (v:D.Var):Int×Int :=
 bif decide (v.Scope=0)then(bif decide ((e.S.Globals.length:Int)<DV v)then(0,42)else(-1,0))
 else bif decide (v.Scope=1)then(bif decide (e.Pid<0)||decide (((DA e e.Pid).Frame.length:Int)<DV v)then(0,42)else(e.Pid,0))
 else bif decide ((ev v.Who).2≠0)then(0,(ev v.Who).2)
 else bif decide ((ev v.Who).1<0)||(decide ((e.S.Procs.length:Int)<=(ev v.Who).1)||decide ((DA e (ev v.Who).1).Type_≠v.Type_))then(0,52)
 else bif decide (((DA e (ev v.Who).1).Frame.length:Int)<DV v)then(0,42)else((ev v.Who).1,0)
def D1:Int->List D.Dim->Int×Int
 | n,[]=>(n,0)
 | n,d::l=>bif decide ((ev d.I).2≠0)then(0,(ev d.I).2)else bif decide ((ev d.I).1<0)||decide (d.Len<=(ev d.I).1)then(0,47)else D1 (n+(ev d.I).1*d.Stride) l
def B8 (x:D.Expr):Int×Int×Int :=
 bif decide (x.Op≠2)then(0,0,42)
 else bif decide ((Dh e ev x.V).2≠0)then(0,0,(Dh e ev x.V).2)
 else bif decide ((D1 ev x.V.Slot x.V.Dims).2≠0)then(0,0,(D1 ev x.V.Slot x.V.Dims).2)else((Dh e ev x.V).1,(D1 ev x.V.Slot x.V.Dims).1,0)
def XF (x:D.Expr):Int×Int :=
 bif decide ((B8 e ev x).2.2≠0)then(0,(B8 e ev x).2.2)
 else bif decide ((B8 e ev x).1<0)then(e.S.Globals.getD (B8 e ev x).2.1.toNat 0,0)else((DA e (B8 e ev x).1).Frame.getD (B8 e ev x).2.1.toNat 0,0)
def Ge:Bool:=!(CM e.S.Procs.length λi=>!((Ft e.M (e.S.Procs.getD i default).Type_).getD (e.S.Procs.getD i default).Loc.toNat default).Progress)
def PQ (x:D.Expr):Int×Int :=
 bif decide ((ev x.A).2≠0)then(0,(ev x.A).2)
 else C8 (decide (0<=(ev x.A).1)&&(decide ((ev x.A).1<e.Able.length)&&e.Able.getD (ev x.A).1.toNat false))
def Cw (x:D.Expr):Int×Int :=
 if x.Op=1 then(x.N,0)else if x.Op=2 then XF e ev x else if x.Op=22\/x.Op=23\/x.Op=24 then JA ev x
 else if x.Op=25\/x.Op=26\/x.Op=27\/x.Op=28\/x.Op=29 then L4 e ev x else if x.Op=30 then LZ e ev x
 else if x.Op=31 then(e.Pid,0)else if x.Op=32 then(e.S.Last,0)else if x.Op=33 then(e.S.Procs.length,0)else if x.Op=34 then C8 (!Ge e)
 else if x.Op=35 then C8 e.Timeout else if x.Op=36 then PQ e ev x else if x.Op=37\/x.Op=38 then Gu e ev x else if x.Op=39 then(0,42)else Ra ev x
end
def PO (e:D.Env):Nat->Evl
 | 0,_=>(0,0)
 | n+1,a=>Cw e (PO e n) (Ar e.M a)
def F2 (e:D.Env):Evl:=PO e (e.M.Exprs.length-1)
def C6 (e:D.Env)(x:Int):Int :=
 bif decide (Cz e.M e.S≠0)then Cz e.M e.S
 else bif decide (e.Pid < -1)||(decide ((e.S.Procs.length:Int)<=e.Pid)||(decide (x<0)||decide ((e.M.Exprs.length:Int)<=x)))then 42 else 0
def Bh (e:D.Env)(x:Int):Int×Int:=bif decide (C6 e x≠0)then(0,C6 e x)else Cw e (F2 e) (Ar e.M x)
def AJ (e:D.Env)(x:Int):Int×Int:=bif decide (C6 e x≠0)then(0,C6 e x)else CV e (PO e e.M.Exprs.length) x
def idxP (v:Int):Nat->List Int->Int
 | _,[]=>-1
 | k,y::l=>bif decide (v=y)then(k:Int)else idxP v (k+1) l
def Ahk {v y}{k}{l}:idxP v k (y::l)=bif decide (v=y)then(k:Int)else idxP v (k+1) l:=rfl
def AdY {v}:∀{l}{k},decide (v∈l)=decide (idxP v k l>=0)
 | [],k=>by simp[idxP]
 | y::l,k=>by
  unfold idxP
  by_cases h:v=y
  .simp[h]
  .have:=AdY (v:=v) (l:=l) (k:=k+1);simp only[h,decide_false,AqJ,<- this];simp[h]
section
variable {P : Program} {a:Act} {w:World} {Q:Exit->Act->World->Prop}
def GZ {c rest}(l)(g:findLabel c l=some rest)
  (h:∀J:Act->World->Prop,(∀a w,rest.wp P (Exit.noGoto Q) a w->J a w)->c.wp P (Exit.jump l J Q) a w):(Code.scope c).wp P Q a w:=by
 refine wp_scope_jumps l (λa w=>rest.wp P (Exit.noGoto Q) a w) (λ_ _=>0) g (h _ λ_ _ h=>h) ?_;intro a w i b k cs;obtain⟨e,j,m,d,f⟩:=i b k cs;refine⟨e,j,m,?_,f⟩;cases e with
 | goto l=>exact d.elim
 | normal=>exact d
 | exit _=>exact d
 | ret=>exact d
 | panic _=>exact d
 | outgrown=>exact d
@[go_sem] theorem AnU (l) (J):Exit.jump l J Q .normal a w=Q .normal a w:=rfl
@[go_sem] theorem Apz (l) (J) (id):Exit.jump l J Q (.exit id) a w=Q (.exit id) a w:=rfl
@[go_sem] theorem Aqg (l) (J):Exit.jump l J Q .ret a w=Q .ret a w:=rfl
@[go_sem] theorem Apd (l) (J) (ch):Exit.jump l J Q (.panic ch) a w=Q (.panic ch) a w:=rfl
end
def H8 {k}{a b}(h:a=b):Ending.returned (.int k a)=.returned (.int k b):=by rw[h]
def ES (w)(o):Below w.heap.size w (w.alloc o):=(Below.refl _ _).alloc (AqQ _) _
set_option maxHeartbeats 400000 in
def Aoc (b v)(w)(h1:1<=b)(h2:b<=32) :
  Calls prog 193 #[.agg #[.int .i64 b,.bool true],.int .i64 v] w λe w'=>e=.returned (.int .i64 (FV b true v))/\Below w.heap.size w w':=by
 have a:decide (b<1)=false:=by simp;omega
 have c:decide (32<b)=false:=by simp;omega
 go_enter func193,ntmps193
 go_wp2
 go_quiet (fail)
 go_wp2
 go_ret
 exact⟨H8 (YN b v h1 h2),below_drewN (ES _ _) _⟩
set_option maxHeartbeats 400000 in
def Aob (b v)(w)(h1:1<=b)(h2:b<=32) :
  Calls prog 193 #[.agg #[.int .i64 b,.bool false],.int .i64 v] w λe w'=>e=.returned (.int .i64 (FV b false v))/\Below w.heap.size w w':=by
 have a:decide (b<1)=false:=by simp;omega
 have c:decide (32<b)=false:=by simp;omega
 go_enter func193,ntmps193
 go_wp2
 go_ret
 exact⟨H8 (Ak0 b v h1 h2),ES _ _⟩
set_option maxHeartbeats 400000 in
def Aoa (b v)(s)(w)(h1:b<1\/32<b) :
  Calls prog 193 #[.agg #[.int .i64 b,.bool s],.int .i64 v] w λe w'=>e=.returned (.int .i64 (FV b s v))/\Below w.heap.size w w':=by
 have HF:=Lib.hid (Ad1 b v s h1);rcases h1 with h1|h1
 .go_enter func193,ntmps193
  go_wp2
  go_ret
  exact⟨H8 HF.out.symm,ES _ _⟩
 .have a:decide (b<1)=false:=by simp;omega
  go_enter func193,ntmps193
  go_wp2
  go_ret
  exact⟨H8 HF.out.symm,ES _ _⟩
def Aqx (b v)(s)(w) :
  Calls prog 193 #[.agg #[.int .i64 b,.bool s],.int .i64 v] w λe w'=>e=.returned (.int .i64 (FV b s v))/\Below w.heap.size w w':=by
 by_cases h:1<=b/\b<=32
 .cases s
  .exact Aob b v w h.1 h.2
  .exact Aoc b v w h.1 h.2
 .exact Aoa b v s w oM
def G3 {k l}{a b c d}(h:a=b)(e:c=d):Ending.returned (.tuple #[.int k a,.int l c])=.returned (.tuple #[.int k b,.int l d]):=by rw[h,e]
set_option maxHeartbeats 400000 in
def ZO (b)(w) :
  Calls prog 230 #[.bool b] w λe w'=>e=.returned (.int .i64 (Ic b))/\w=w':=by
 cases b
 all_goals
  go_enter func230,ntmps230
  go_wp2
  go_ret
  exact⟨rfl,rfl⟩
set_option maxHeartbeats 400000 in
def Aip (a n)(w)(h0:-2147483648<=n)(h1:n<=2147483648) :
  Calls prog 231 #[.int .i32 a,.int .i64 n] w λe w'=>e=.returned (.int .i32 (Dk a n))/\w=w':=by
 by_cases c:0<=n
 .have HP:Hid (Dk a n=wrap32 (a*2 ^ min n.toNat 32)):=by unfold Hid Dk;rw[Ari c]
  by_cases b:63<n
  .go_enter func231,ntmps231
   go_wp2
   go_ret
   exact⟨H8 (by rw[HP.out,show min n.toNat 32=32 by omega];first | rfl | (rw[IntKind.wrap_i32]<;>rfl)),rfl⟩
  .go_enter func231,ntmps231
   go_wp2
   go_ret
   exact⟨H8 (by rw[HP.out]),rfl⟩
 .have HP:Hid (Dk a n=a / 2 ^ min (-n).toNat 32):=by unfold Hid Dk;rw[AqY c]
  have d:n<=0:=oM
  by_cases b:63 < -n
  .go_enter func231,ntmps231
   go_wp2
   go_ret
   exact⟨H8 (by rw[HP.out,show min (-n).toNat 32=32 by omega]<;>rfl),rfl⟩
  .go_enter func231,ntmps231
   go_wp2
   go_ret
   exact⟨H8 HP.out.symm,rfl⟩
set_option maxHeartbeats 400000 in
def An6 (a b)(w) :
  Calls prog 217 #[.int .i64 7,.int .i64 a,.int .i64 b] w λe w'=>e=.returned (.tuple #[.int .i64 (Ej 7 a b),.int .i64 (F7 7 b)])/\w=w':=by
 have f:=BI b;have g:=BI a
 by_cases h0:wrap32 b=0
 .have HV:Hid (Ej 7 a b=0):=by unfold Hid;simp[Ej,h0]
  have HE:Hid (F7 7 b=48):=by unfold Hid;simp[F7,h0]
  have c:(wrap32 b==0)=true:=by simpa using h0
  clear h0
  go_enter func217,ntmps217
  go_wp2
  refine GZ 0 rfl (λJ d=>?_)
  go_wp2
  go_step3
  refine⟨rfl,d _ _ ?_⟩
  go_wp2
  rw[Exit.noGoto_ret]
  go_ret2
  exact⟨G3 HV.out.symm HE.out.symm,rfl⟩
 .have HV:Hid (Ej 7 a b=wrap32 ((wrap32 a).tdiv (wrap32 b))):=by unfold Hid;simp[Ej,h0]
  have HE:Hid (F7 7 b=0):=by unfold Hid;simp[F7,h0]
  have c:(wrap32 b==0)=false:=by simpa using h0
  go_enter func217,ntmps217
  go_wp2
  go_step3
  go_wp2
  rw[Exit.noGoto_ret]
  go_ret2
  exact⟨G3 (by rw[HV.out];exact H4 _) HE.out.symm,rfl⟩
set_option maxHeartbeats 400000 in
def An5 (a b)(w) :
  Calls prog 217 #[.int .i64 8,.int .i64 a,.int .i64 b] w λe w'=>e=.returned (.tuple #[.int .i64 (Ej 8 a b),.int .i64 (F7 8 b)])/\w=w':=by
 have g:=BI b;have d:=BI a
 by_cases h0:wrap32 b=0
 .have HV:Hid (Ej 8 a b=0):=by unfold Hid;simp[Ej,h0]
  have HE:Hid (F7 8 b=48):=by unfold Hid;simp[F7,h0]
  have c:(wrap32 b==0)=true:=by simpa using h0
  clear h0
  go_enter func217,ntmps217
  go_wp2
  refine GZ 0 rfl (λJ f=>?_)
  go_wp2
  go_step3
  refine⟨rfl,f _ _ ?_⟩
  go_wp2
  rw[Exit.noGoto_ret]
  go_ret2
  exact⟨G3 HV.out.symm HE.out.symm,rfl⟩
 .have HV:Hid (Ej 8 a b=(wrap32 a).tmod (wrap32 b)):=by unfold Hid;simp[Ej,h0]
  have HE:Hid (F7 8 b=0):=by unfold Hid;simp[F7,h0]
  have c:(wrap32 b==0)=false:=by simpa using h0
  go_enter func217,ntmps217
  go_wp2
  go_step3
  go_wp2
  rw[Exit.noGoto_ret]
  go_ret2
  exact⟨G3 (by rw[HV.out];rw[H4];exact Ams _ _ d.1 d.2) HE.out.symm,rfl⟩
set_option maxHeartbeats 4000000 in
def An4 (op a b)(w)(c:op=6\/op=9\/op=10\/op=11\/op=12\/op=19\/op=20\/op=21) :
  Calls prog 217 #[.int .i64 op,.int .i64 a,.int .i64 b] w λe w'=>e=.returned (.tuple #[.int .i64 (Ej op a b),.int .i64 (F7 op b)])/\w=w':=by
 have f:=BI b;rcases c with rfl|rfl|rfl|rfl|rfl|rfl|rfl|rfl
 all_goals
  go_enter func217,ntmps217
  go_wp2
  go_step3
  go_wp2_with (first | (go_at_call 231;(with_reducible refine(Aip _ _ _ oM oM).mono ?_);rintro e d ⟨rfl,rfl⟩) | (go_at_call 230;(with_reducible refine(ZO _ _).mono ?_);rintro e d ⟨rfl,rfl⟩))
  rw[Exit.noGoto_ret]
  go_ret2
  refine⟨G3 ?_ (by simp[F7]),rfl⟩
  first
   | (simp[Ej,H4];done)
   | (have h:=Ll (wrap32 a) (wrap32 b) (BI a);simp only[Ej];exact IntWalk.wrap64_in _ oM)
   | (have h:=Ll (wrap32 a) (-wrap32 b) (BI a);simp only[Ej];exact IntWalk.wrap64_in _ oM)
   | (have h:=FG .and sM (wrap32 a) (wrap32 b);simp only[Ej];exact IntWalk.wrap64_in _ oM)
   | (have h:=FG .xor sM (wrap32 a) (wrap32 b);simp only[Ej];exact IntWalk.wrap64_in _ oM)
   | (have h:=FG .or sM (wrap32 a) (wrap32 b);simp only[Ej];exact IntWalk.wrap64_in _ oM)
set_option maxHeartbeats 4000000 in
def An3 (op a b)(w)(c:op=13\/op=14\/op=15\/op=16\/op=17\/op=18) :
  Calls prog 217 #[.int .i64 op,.int .i64 a,.int .i64 b] w λe w'=>e=.returned (.tuple #[.int .i64 (Ej op a b),.int .i64 (F7 op b)])/\w=w':=by
 have g:=BI b;rcases c with rfl|rfl|rfl|rfl|rfl|rfl
 all_goals
  go_enter func217,ntmps217
  go_wp2
  refine GZ 1 rfl (λJ d=>?_)
  go_wp2
  go_step3
  refine⟨rfl,d _ _ ?_⟩
  go_wp2_with (first | (go_at_call 231;(with_reducible refine(Aip _ _ _ oM oM).mono ?_);rintro e f ⟨rfl,rfl⟩) | (go_at_call 230;(with_reducible refine(ZO _ _).mono ?_);rintro e f ⟨rfl,rfl⟩))
  rw[Exit.noGoto_ret]
  go_ret2
  exact⟨G3 (by simp only[Ej];rfl) (by simp[F7]),rfl⟩
set_option maxHeartbeats 400000 in
def AlS (op)(a b)(w)(c:op<6\/21<op) :
  Calls prog 217 #[.int .i64 op,.int .i64 a,.int .i64 b] w λe w'=>e=.returned (.tuple #[.int .i64 (Ej op a b),.int .i64 (F7 op b)])/\w=w':=by
 have r:=BI b;have HV:Hid (Ej op a b=0):=by unfold Hid Ej;repeat (rw[AqY oM])
 have HE:Hid (F7 op b=42):=by unfold Hid F7;rw[AqY oM,AqY oM]
 have s:(op==6)=false:=by simp;omega
 have t:(op==7)=false:=by simp;omega
 have u:(op==8)=false:=by simp;omega
 have v:(op==9)=false:=by simp;omega
 have d:(op==10)=false:=by simp;omega
 have f:(op==11)=false:=by simp;omega
 have g:(op==12)=false:=by simp;omega
 have h:(op==13)=false:=by simp;omega
 have i:(op==14)=false:=by simp;omega
 have j:(op==15)=false:=by simp;omega
 have k:(op==16)=false:=by simp;omega
 have l:(op==17)=false:=by simp;omega
 have m:(op==18)=false:=by simp;omega
 have n:(op==19)=false:=by simp;omega
 have o:(op==20)=false:=by simp;omega
 have p:(op==21)=false:=by simp;omega
 clear c
 go_enter func217,ntmps217
 go_wp2
 refine GZ 1 rfl (λJ q=>?_)
 go_wp2
 go_step3
 refine⟨rfl,q _ _ ?_⟩
 go_wp2
 rw[Exit.noGoto_ret]
 go_ret2
 exact⟨G3 HV.out.symm HE.out.symm,rfl⟩
def Aqv (op a b)(w) :
  Calls prog 217 #[.int .i64 op,.int .i64 a,.int .i64 b] w λe w'=>e=.returned (.tuple #[.int .i64 (Ej op a b),.int .i64 (F7 op b)])/\w=w':=by
 by_cases c:op<6\/21<op
 .exact AlS op a b w c
 by_cases h7:op=7
 .subst h7;exact An6 a b w
 by_cases d:op=8
 .subst d;exact An5 a b w
 by_cases f:13<=op/\op<=18
 .exact An3 op a b w oM
 .exact An4 op a b w oM
set_option maxHeartbeats 1000000 in
def Aqw (op a)(w) :
  Calls prog 216 #[.int .i64 op,.int .i64 a] w λe w'=>e=.returned (.tuple #[.int .i64 (Mp op a),.int .i64 (Vs op)])/\w=w':=by
 by_cases b:op=3\/op=4\/op=5
 .rcases b with rfl|rfl|rfl
  all_goals
   have c:=BI a
   go_enter func216,ntmps216
   go_wp2_with (go_at_call 230;(with_reducible refine(ZO _ _).mono ?_);rintro e d ⟨rfl,rfl⟩)
   go_ret2
   exact⟨G3 (by simp only[Mp];first | rfl | exact H4 _ | exact(AkW a) | (simp;omega)) (by simp[Vs]),rfl⟩
 have HV:Hid (Mp op a=0):=by unfold Hid Mp;repeat (rw[AqY oM])
 have HE:Hid (Vs op=42):=by unfold Hid Vs;rw[AqY oM]
 have f:(op==3)=false:=by simp;omega
 have g:(op==4)=false:=by simp;omega
 have h:(op==5)=false:=by simp;omega
 clear b
 go_enter func216,ntmps216
 go_wp2
 go_ret2
 exact⟨G3 HV.out.symm HE.out.symm,rfl⟩
def Ae5 {m}(h:Cj m=(0,0)):JF m<0:=by
 unfold Cj at h;grind
structure BF (e:D.Env):Prop where
 fits:DM e.M e.S=true
 may:Fs e.M=true
 wf:AR e.M
 pid:-1<=e.Pid/\e.Pid<e.S.Procs.length
section
variable {e : D.Env}
def BF.fit (h:BF e):Fit e.S:=Sb h.may h.fits
def BF.tab (h:BF e):An0 e.M:=Om (CK h.may).1
def BF.expr (h:BF e):∀i:Nat,i<e.M.Exprs.length->Ey e.M i:=YQ (Ae5 (CK h.may).1)
def BF.chan (h:BF e){c}(a:c∈e.S.Chans):C4 e.M c:=by
 have h:=h.fits;unfold DM at h;simp only[AqI]at h;exact(CP (d:=default) (f:=λc=>C4 e.M c)).1 h.1.1.2 c a
def BF.proc (h:BF e){p}(hp:p∈e.S.Procs):Bm e.M p:=by
 have h:=h.fits;unfold DM at h;simp only[AqI]at h;exact(CP (d:=default) (f:=λc=>Bm e.M c)).1 h.1.2 p hp
def BF.globals (h:BF e):e.S.Globals.length=e.M.Globals.length/\BP e.M.Globals e.S.Globals:=by
 have h:=h.fits;unfold DM IW at h;simp only[AqI]at h;grind[EB]
def DN {m}{p}(h:Bm m p):(0<=p.Type_/\p.Type_<m.Procs.length)/\(0<=p.Loc/\p.Loc<(AT m p.Type_).Locs.length)/\p.Frame.length=(AT m p.Type_).Frame.length/\BP (AT m p.Type_).Frame p.Frame/\p.Prio=(AT m p.Type_).Prio/\p.Type_≠m.Claim:=by
 unfold Bm CZ at h;simp only[AqI,AqO]at h;grind[CC,EB]
def ER {m}{c}(h:C4 m c):(0<=c.Shape/\c.Shape<m.Shapes.length)/\c.Queue.length<=(B4 m c.Shape).Room/\∀x∈c.Queue,BP (B4 m c.Shape).Fields x:=by
 unfold C4 at h;simp only[AqI,AqO]at h;exact⟨CC.1 h.1.1,h.1.2,λx a=>(CP (d:=[]) (f:=λx=>BP (B4 m c.Shape).Fields x)).1 h.2 x a⟩
end
abbrev vII (p:Int×Int):VV:=.tup [Aa p.1,Aa p.2]
abbrev Kb (p:Int×Int×Int):VV:=.tup [Aa p.1,Aa p.2.1,Aa p.2.2]
def A5 {a b}{q}(h:(a,b)=q):leO [] []/\VV.le (.tup [.sc (.int .i64 a),.sc (.int .i64 b)]) (.tup [.sc (.int .i64 q.1),.sc (.int .i64 q.2)]):=by
 subst h;exact⟨trivial,lR⟩
def F3 {a b c}{q}(h:(a,b,c)=q):leO [] []/\VV.le (.tup [.sc (.int .i64 a),.sc (.int .i64 b),.sc (.int .i64 c)]) (.tup [.sc (.int .i64 q.1),.sc (.int .i64 q.2.1),.sc (.int .i64 q.2.2)]):=by
 subst h;exact⟨trivial,lR⟩
def ct {α:Type}{c}{a b x:α}(h:c=true)(k:x=a):x=bif c then a else b:=by rw[h];exact k
def cf {α:Type}{c}{a b x:α}(h:c=false)(k:x=b):x=bif c then a else b:=by rw[h];exact k
def it {α:Type}{c}[Decidable c]{a b x:α}(h:c)(k:x=a):x=if c then a else b:=by rw[Ari h];exact k
def ie {α:Type}{c}[Decidable c]{a b x:α}(h:¬c)(k:x=b):x=if c then a else b:=by rw[AqY h];exact k
abbrev EvS (e:D.Env)(a:Int)(p:Int×Int):Prop:=Ai prog 141 [] [.tp (Af e),Aa a] [] (vII p)
def DL {b}:Ai prog 186 [] [Ad b] [] (vII (C8 b)) :=
 Ax func186 (AeZ _ _ b) ⟨λh=>A5 (by rw[h]<;>rfl),λh=>A5 (by rw[h];rfl)⟩
def AU (a b:Int):(a != b)=decide (a≠b):=by rw[ArF];simp
def L6 {e}{ev}{a}(h:EvS e a (ev a)):Ai prog 214 [] [.tp (Af e),Aa a] [] (vII (CV e ev a)):=by
 refine Ax func214 (AeC _ _ e a) ⟨ev a,h,λh=>A5 (ct (by simpa using h) rfl),λh=>⟨λh2=>A5 (cf (by simpa using h) (ct ?_ rfl)),λh2=>A5 (cf (by simpa using h) (cf ?_ rfl))⟩⟩
 .rw[Bp]at h2;exact h2
 grind
def QG {e}{ev}{a}(b:BF e)(h:¬(CV e ev a).2≠0):1<=(CV e ev a).1/\(CV e ev a).1<=e.S.Chans.length/\e.S.Chans.length<=32:=by
 have d:=b.fit.c;unfold CV at h |-;grind
def Acf {l}{v}(i:Len l.length):Ai prog 229 [] [Ac true l,Aa v] [] (Aa (idxP v 0 l)):=by
 unfold Len at i;refine Ax func229 (Ahj _ l v) ?_;refine Az l.length (λk=>Ado l v k) (λk=>idxP v 0 l=idxP v k (l.drop k)) rfl ?_;intro k hk c J next
 refine AqU (Acg _ l v k J) ⟨λf=>?_,λg=>BW ?_⟩
 .have a:k<l.length:=by have:=AP f;omega
  have h:(k:Int).toNat=k:=oM
  rw[h];rw[Bq (d:=0) a]at c;rw[Ahk]at c;refine⟨oM,λj=>BW ?_,λj=>next _ a ?_ (Up.of ?_)⟩
  .grind
  .grind
  grind[Al]
 .have b:l.length<=k:=by have:=AQ g;omega
  rw[c,Aq9 b]<;>rfl
def S7 {l}{v}(a:Len l.length):Ai prog 215 [] [Ac true l,Aa v] [] (Ad (decide (v∈l))) :=
 Ax func215 (VR _ l v) ⟨_,Acf a,AA (by rw[AdY (k:=0)])⟩
def Ah6 {e}{ev}{x}(a:BF e)(h:EvS e x.A (ev x.A)):Ai prog 184 [] [.tp (Af e),.agg (AE x)] [] (vII (L4 e ev x)):=by
 refine Ax func184 (AlB _ _ e x rfl rfl rfl rfl rfl) ⟨CV e ev x.A,L6 h,λh=>A5 (ct (by simpa using h) rfl),λh=>?_⟩;have h0:decide ((CV e ev x.A).2≠0)=false:=by simpa using h
 have b:L4 e ev x=Anw x.Op (B4 e.M (BQ e (CV e ev x.A).1).Shape).Room (BQ e (CV e ev x.A).1).Queue.length:=by unfold L4;rw[h0]<;>rfl
 rw[b];have c:=QG a (Aq6 h0);generalize(CV e ev x.A).1=n at c;rw[AS oM oM];have f:=a.chan (Au (d:=default) (show(n-1).toNat<e.S.Chans.length by omega));have hs:=(ER f).1;refine⟨oM,hs,λh1=>A5 (it (by simpa using h1) rfl),λh1=>⟨λh2=>⟨_,DL,A5 (ie (by simpa using h1) (it (by simpa using h2) rfl))⟩,λh2=>⟨λh3=>⟨_,DL,A5 (ie (by simpa using h1) (ie (by simpa using h2) (it (by simpa using h3) rfl)))⟩,λh3=>⟨λh4=>⟨_,DL,A5 (ie (by simpa using h1) (ie (by simpa using h2) (ie (by simpa using h3) (it (by simpa using h4) ?_))))⟩,λh4=>⟨_,DL,A5 (ie (by simpa using h1) (ie (by simpa using h2) (ie (by simpa using h3) (ie (by simpa using h4) ?_))))⟩⟩⟩⟩⟩
 .rw[ieq]<;>rfl
 .rfl
def XD {e}{ev}{x}(h:EvS e x.A (ev x.A))(a:Len x.Args.length):Ai prog 188 [] [.tp (Af e),.agg (AE x)] [] (vII (Gu e ev x)):=by
 refine Ax func188 (AaH _ _ e x) ⟨ev x.A,h,λh=>A5 (ct (by simpa using h) rfl),λh=>?_⟩;have h0:decide ((ev x.A).2≠0)=false:=by simpa using h
 have b:Gu e ev x=bif decide ((ev x.A).1<0)||(decide ((e.S.Procs.length:Int)<=(ev x.A).1)||(decide (x.Op=38)&&decide ((DA e (ev x.A).1).Type_≠x.N)))then(0,52)
   else bif decide (x.Op=37)then((DA e (ev x.A).1).Loc,0)else C8 (decide ((DA e (ev x.A).1).Loc∈x.Args)):=by unfold Gu;rw[h0]<;>rfl
 rw[b];generalize(ev x.A).1=n;refine⟨λh1=>?_,λh1=>?_,λh1=>⟨λh2=>⟨?_,A5 (cf ?_ (ct (by simpa using h2) rfl))⟩,λh2=>⟨?_,_,S7 a,_,DL,A5 (cf ?_ (cf (by simpa using h2) rfl))⟩⟩⟩
 .simp at h1;omega
 .simp only[Bp,Be,ieq,AU,Ar1,Ar3]at h1;exact A5 (ct h1 rfl)
 .simp at h1;omega
 .grind
 .simp at h1;omega
 .simp only[Bp,Be,ieq,AU,Ar1,Ar3]at h1;exact h1
def Mt {e}{a}{p}(h:EvS e a p):Ai prog 213 [] [Aa a,.tp [.tp (Af e)]] [] (vII p) :=
 Ax func213 (Ag8 _ _ e a) ⟨p,h,A5 rfl⟩
def R1 {e}{ev}{x}(h:EvS e x.A (ev x.A))(hB:EvS e x.B (ev x.B))(b:x.Op=24->EvS e x.C (ev x.C)):Ai prog 183 [] [.tp (Af e),.agg (AE x)] [] (vII (JA ev x)):=by
 refine Ax func183 (Aha _ _ e x rfl rfl) ⟨ev x.A,h,λh=>A5 (ct (by simpa using h) rfl),λh=>?_⟩;have h0:decide ((ev x.A).2≠0)=false:=by simpa using h
 have c:JA ev x=bif decide (x.Op=24)then(bif decide ((ev x.A).1≠0)then ev x.B else ev x.C)
   else bif(decide (x.Op=22)&&decide ((ev x.A).1=0))||(decide (x.Op=23)&&decide ((ev x.A).1≠0))then C8 (decide ((ev x.A).1≠0))
   else bif decide ((ev x.B).2≠0)then(0,(ev x.B).2)else C8 (decide ((ev x.B).1≠0)):=by unfold JA;rw[h0]<;>rfl
 rw[c];generalize(ev x.A).1=n;refine⟨λh1=>⟨_,Mt hB,?_⟩,λh1=>⟨λh2=>⟨_,Mt (b (by simpa using h2)),?_⟩,λh2=>⟨λh3=>⟨_,DL,?_⟩,λh3=>⟨_,Mt hB,λh4=>?_,λh4=>⟨_,DL,?_⟩⟩⟩⟩⟩
 .simp only[Be,ieq,AU,AqI]at h1;exact A5 (ct h1.1 (ct h1.2 rfl))
 .have a:decide (x.Op=24)=true:=by simpa using h2
  simp only[Be,ieq,AU,a,Aro]at h1;exact A5 (ct a (cf h1 rfl))
 .have a:decide (x.Op=24)=false:=by simpa using h2
  simp only[Be,Bp,ieq,AU]at h3;rw[AU];exact A5 (cf a (ct h3 rfl))
 .have a:decide (x.Op=24)=false:=by simpa using h2
  simp only[Be,Bp,ieq,AU]at h3;exact A5 gD
 .have a:decide (x.Op=24)=false:=by simpa using h2
  simp only[Be,Bp,ieq,AU]at h3;rw[AU];exact A5 gD
def AgZ {op a}:Ai prog 216 [] [Aa op,Aa a] [] (vII (Mp op a,Vs op)):=by
 refine Ai.hand ⟨_,func216,rfl,kR⟩ λw E vs d f _ _ hs=>?_
 obtain⟨g,us1,rfl,b,hs⟩:=hs.cons_inv;obtain⟨h,us2,rfl,c,hs⟩:=hs.cons_inv;obtain rfl:=hs.nil_inv;rw[b.sc_inv,c.sc_inv];refine(Aqw op a w).mono ?_;rintro e w' ⟨rfl,rfl⟩;exact⟨_,rfl,AiE .sc .sc,Below.refl _ _⟩
def AeY {op a b}:Ai prog 217 [] [Aa op,Aa a,Aa b] [] (vII (Ej op a b,F7 op b)):=by
 refine Ai.hand ⟨_,func217,rfl,kR⟩ λw E vs g h _ _ hs=>?_
 obtain⟨i,us1,rfl,c,hs⟩:=hs.cons_inv;obtain⟨j,us2,rfl,d,hs⟩:=hs.cons_inv;obtain⟨k,us3,rfl,f,hs⟩:=hs.cons_inv;obtain rfl:=hs.nil_inv;rw[c.sc_inv,d.sc_inv,f.sc_inv];refine(Aqv op a b w).mono ?_;rintro e w' ⟨rfl,rfl⟩;exact⟨_,rfl,AiE .sc .sc,Below.refl _ _⟩
def Tp {e}{ev}{x}(h:EvS e x.A (ev x.A))(hB:¬(x.Op=3\/x.Op=4\/x.Op=5)->EvS e x.B (ev x.B)):Ai prog 189 [] [.tp (Af e),.agg (AE x)] [] (vII (Ra ev x)):=by
 refine Ax func189 (AiN _ _ e x) ⟨ev x.A,h,λh=>A5 (ct (by simpa using h) rfl),λh=>?_⟩;have h0:decide ((ev x.A).2≠0)=false:=by simpa using h
 have a:Ra ev x=bif decide (x.Op=3)||(decide (x.Op=4)||decide (x.Op=5))then(Mp x.Op (ev x.A).1,Vs x.Op)
   else bif decide ((ev x.B).2≠0)then(0,(ev x.B).2)else(Ej x.Op (ev x.A).1 (ev x.B).1,F7 x.Op (ev x.B).1):=by unfold Ra;rw[h0]<;>rfl
 rw[a];generalize(ev x.A).1=n;refine⟨λh1=>⟨_,AgZ,A5 (ct ?_ rfl)⟩,λh1=>⟨ev x.B,hB ?_,λh2=>A5 (cf ?_ (ct (by simpa using h2) rfl)),λh2=>⟨_,AeY,A5 (cf ?_ (cf (by simpa using h2) rfl))⟩⟩⟩
 .grind
 .simp at h1;omega
 .grind
 grind
def Ag2 {x l mt}(n:Len mt.length):Ai prog 225 [] [Ac true x,Ac false l,Ac true mt] [] (Ad (Ea x l mt)):=by
 unfold Len at n;refine Ax func225 (Akw _ x l mt) ⟨λh=>AA ?_,λh=>?_⟩
 .symm;unfold Ea;rw[Bp]at h;rw[ArI];intro o;simp only[AqI,AqO]at o;simp at h;omega
 .have g:mt.length<=x.length/\mt.length<=l.length:=by simp at h;omega
  have p:Ea x l mt=CM mt.length λi=>!(decide (mt.getD i 0=1)&&decide (x.getD i 0≠l.getD i 0)):=by
   unfold Ea;rw[Aq7 g.1,Aq7 g.2]<;>rfl
  rw[p];refine Az mt.length (λk=>U2 x l mt k) (λk=>∀i,i<k->(!(decide (mt.getD i 0=1)&&decide (x.getD i 0≠l.getD i 0)))=true) (λi hi=>oM) ?_;intro k hk j J next
  refine AqU (Ag3 _ x l mt k J) ⟨λc=>?_,λd=>AA ?_⟩
  .have a:k<mt.length:=by have:=AP c;omega
   have e:(k:Int).toNat=k:=oM
   rw[e];refine⟨oM,λ_=>oM,λ_=>oM,λb=>AA ?_,λb=>next _ a (BU j ?_) (Up.of ?_)⟩
   .simp only[Be,ieq,AU]at b;exact(BV (f:=λi=>!(decide (mt.getD i 0=1)&&decide (x.getD i 0≠l.getD i 0))) a (by rw[b]<;>rfl)).symm
   .simp only[Be,ieq,AU]at b;rw[b]<;>rfl
   .rw[Al oM]<;>rfl
  .have m:mt.length<=k:=by have:=AQ d;omega
   exact(AX.2 λi hi=>j i oM).symm
def Sd {l mt}{any}{k}{x}{q}:NX l mt any k (x::q)=bif Ea x l mt then(k:Int)else bif any then NX l mt any (k+1) q else -1:=rfl
def Uk {c}{l mt}{any}(m:Len c.Queue.length)(n:Len mt.length):Ai prog 201 [] [.agg (Am c),Ac false l,Ac true mt,Ad any] [] (Aa (FW c l mt any)):=by
 unfold Len at m;refine Ax func201 (Ak5 _ c l mt any) ?_;unfold FW;refine Az c.Queue.length (λk=>U3 c l mt any k) (λk=>NX l mt any 0 c.Queue=NX l mt any k (c.Queue.drop k)) rfl ?_;intro k hk b J next
 refine AqU (AhB _ c l mt any k J) ⟨λg=>?_,λh=>BW ?_⟩
 .have a:k<c.Queue.length:=by have:=AP g;omega
  have i:(k:Int).toNat=k:=oM
  rw[i];rw[Bq (d:=[]) a,Sd]at b;refine⟨oM,_,Ag2 n,λf=>BW ?_,λf=>⟨λj=>BW ?_,λj=>next _ a ?_ (Up.of ?_)⟩⟩
  .rw[b,f,AqL]
  .rw[b,f,AqJ,show any=false by simpa using j,AqJ]
  .rw[b,f,AqJ,show any=true by simpa using j,AqL]
  .rw[Al oM]<;>rfl
 .have e:c.Queue.length<=k:=by have:=AQ h;omega
  rw[b,Aq9 e]<;>rfl
def IY {f}:∀{n},(∀i,i<n->f i=0)->Acw n f=0
 | 0,_=>rfl
 | n+1,h=>by
  unfold Acw;rw[IY λi hi=>h i oM,h n oM]<;>rfl
theorem NZ {f}{k}(h:∀i,i<k->f i=0)(b:f k≠0):∀{n},k<n->Acw n f=f k
 | 0,hk=>oM
 | n+1,hk=>by
  unfold Acw
  by_cases a:k=n
  .subst a;rw[IY h]<;>rfl
  .rw[NZ h b (n:=n) oM,Aq7 b,AqL]
def Cy (ev:Evl)(args mt:List Int)(k:Nat):List Int:=(List.range args.length).map λi=>if i<k then(Dp ev (args.getD i 0) (mt.getD i 0)).1 else 0
theorem C0 {ev}{args mt}{k}:(Cy ev args mt k).length=args.length:=by simp[Cy]
def F6 {ev}{args mt}{k i}(hi:i<args.length):(Cy ev args mt k).getD i 0=if i<k then(Dp ev (args.getD i 0) (mt.getD i 0)).1 else 0:=by
 simp[Cy,List.getD,hi]
def QU {ev}{args mt}:Cy ev args mt args.length=C7 ev args mt:=by
 unfold Cy C7;apply AsO;intro i hi;rw[Ari (ArN.1 hi)]
def AgM {e}{ev}{x}(t:BF e)(h:EvS e x.A (ev x.A))(I:∀a∈x.Args,EvS e a (ev a))(O:x.Args.length<=8)(P:x.Match.length=x.Args.length):Ai prog 185 [] [.tp (Af e),.agg (AE x)] [] (vII (LZ e ev x)):=by
 refine Ax func185 (Akn _ _ e x) ⟨CV e ev x.A,L6 h,λh=>A5 (ct (by simpa using h) rfl),λh=>?_⟩;have h0:decide ((CV e ev x.A).2≠0)=false:=by simpa using h
 have p:LZ e ev x=bif decide ((B4 e.M (BQ e (CV e ev x.A).1).Shape).Fields.length≠x.Args.length)then(0,49)
   else bif decide (Dj ev x.Args x.Match x.Args.length≠0)then(0,Dj ev x.Args x.Match x.Args.length)
   else C8 (decide (0<=FW (BQ e (CV e ev x.A).1) (C7 ev x.Args x.Match) x.Match (decide (x.N=1)))):=by unfold LZ;rw[h0]<;>rfl
 rw[p];have J:=QG t (Aq6 h0);generalize(CV e ev x.A).1=n at J;rw[AS oM oM];have r:=Au (d:=default) (show(n-1).toNat<e.S.Chans.length by omega);have H:=t.chan r;have hs:=(ER H).1;have u:=(t.fit.q _ r).1;refine⟨oM,hs,λh1=>A5 (ct ?_ rfl),λh1=>⟨oM,?_⟩⟩
 .rw[AU]at h1;have:=AqV h1;rw[AqO];intro v;apply this;have w:(e.M.Shapes.getD (e.S.Chans.getD (n-1).toNat default).Shape.toNat default).Fields.length=x.Args.length:=v;rw[w]
 have y:decide ((B4 e.M (BQ e n).Shape).Fields.length≠x.Args.length)=false:=by
  rw[AU]at h1;have:=Aq6 h1;rw[Arf];intro v;apply this;intro h2;apply v;exact Int.ofNat.inj h2
 rw[y,AqJ];have g:e.S.Chans.getD (n-1).toNat default=BQ e n:=rfl;clear p h1 hs H;generalize BQ e n=c at g;have K:c.Queue.length<=16:=by rw[<- g];exact u
 refine Ay (λgg st=>∃k:Nat,k<=x.Args.length/\gg=x.Args.length-k/\(∀i,i<k->(Dp ev (x.Args.getD i 0) (x.Match.getD i 0)).2=0)/\st=Z6 e x c (Cy ev x.Args x.Match k) k)
  ⟨x.Args.length,Up.mk (l':=[(0,.tp (Af e)),(3,.bp 0 0),(8,.bp 1 0),(9,.ow 2 0 (Cy ev x.Args x.Match 0).length),(51,Ac true x.Args),(52,Aa x.Args.length),(53,Aa ((0:Nat):Int))])
   (hs':=[.box (AE x),.box (Am c),.arr true 0 (Cy ev x.Args x.Match 0).length 1 (AC (Cy ev x.Args x.Match 0))]) ?_ ?_ ⟨0,AqN _,rfl,λi hi=>oM,rfl⟩⟩ ?_
 .rw[C0];exact AK _
 .rw[C0];refine⟨Ob.le_refl _,by rw[<- g];exact Ob.le_refl _,Ard λi hi=>AN ?_,trivial⟩;have o:AC (Cy ev x.Args x.Match 0) i=[Aa 0]:=by
   unfold AC;rw[F6 oM,AqY (ArE _)]
  refine Eq.trans ?_ o.symm;rfl
 .rintro gg st ⟨k,hk,rfl,s,rfl⟩;refine AqU (AgN _ _ e x c _ k _) ⟨λz=>?_,λB=>?_⟩
  .have j:k<x.Args.length:=by have:=AP z;omega
   have C:(k:Int).toNat=k:=oM
   rw[C];refine⟨oM,oM,λl=>?_,λl=>⟨ev (x.Args.getD k 0),I _ (Au j),by rw[C0];omega,λo=>A5 ?_,λo=>?_⟩⟩
   .rw[AU]at l;have h1:=AqV l;have hv:Dp ev (x.Args.getD k 0) (x.Match.getD k 0)=(0,0):=by unfold Dp;rw[Ara h1]<;>rfl
    have L:Cy ev x.Args x.Match k=Cy ev x.Args x.Match (k+1):=by
     unfold Cy;apply AsO;intro i _
     by_cases E:i=k
     .subst E;rw[AqY (AsL _),Ari (ArK _),hv]
     .by_cases b:i<k
      .rw[Ari b,Ari oM]
      .rw[AqY b,AqY oM]
    rw[L,Al oM];exact⟨x.Args.length-(k+1),oM,Up.of ⟨k+1,oM,rfl,BU s (by rw[hv]),rfl⟩⟩
   .have m:decide (x.Match.getD k 0=1)=true:=by rw[AU]at l;simpa using l
    have hv:Dp ev (x.Args.getD k 0) (x.Match.getD k 0)=ev (x.Args.getD k 0):=by unfold Dp;rw[m]<;>rfl
    have F:(Dp ev (x.Args.getD k 0) (x.Match.getD k 0)).2≠0:=by rw[hv];simpa using o
    have G:Dj ev x.Args x.Match x.Args.length=(ev (x.Args.getD k 0)).2:=by
     unfold Dj;rw[NZ (f:=λi=>(Dp ev (x.Args.getD i 0) (x.Match.getD i 0)).2) s F j,hv]
    rw[G];exact ct (by simpa using o) rfl
   .have m:decide (x.Match.getD k 0=1)=true:=by rw[AU]at l;simpa using l
    have hv:Dp ev (x.Args.getD k 0) (x.Match.getD k 0)=ev (x.Args.getD k 0):=by unfold Dp;rw[m]<;>rfl
    have h2:(ev (x.Args.getD k 0)).2=0:=by simpa using o
    rw[Al oM];refine⟨x.Args.length-(k+1),oM,Up.mk (l':=[(0,.tp (Af e)),(3,.bp 0 0),(8,.bp 1 0),(9,.ow 2 0 (Cy ev x.Args x.Match (k+1)).length),(51,Ac true x.Args),(52,Aa x.Args.length),(53,Aa ((k+1:Nat):Int))])
     (hs':=[.box (AE x),.box (Am c),.arr true 0 (Cy ev x.Args x.Match (k+1)).length 1 (AC (Cy ev x.Args x.Match (k+1)))]) ?_ ?_ ⟨k+1,oM,rfl,BU s (by rw[hv];exact h2),rfl⟩⟩
    .rw[C0,C0];exact AK _
    .rw[C0,C0];refine⟨Ob.le_refl _,Ob.le_refl _,Ard λi hi=>AN ?_,trivial⟩;show(bif i.beq k then[Aa (ev (x.Args.getD k 0)).1]else[Aa ((Cy ev x.Args x.Match k).getD i 0)])=[Aa ((Cy ev x.Args x.Match (k+1)).getD i 0)];rw[F6 hi,F6 hi];cases p:i.beq k with
     | true =>
      have:=AqM p;subst this;rw[AqL,Ari (ArK _),hv]
     | false =>
      have:i≠k:=Nat.ne_of_beq_eq_false p;rw[AqJ]
      by_cases b:i<k
      .rw[Ari b,Ari oM]
      .rw[AqY b,AqY oM]
  .obtain rfl:k=x.Args.length:=by have:=AQ B;omega
   have G:Dj ev x.Args x.Match x.Args.length=0:=IY s;rw[G,QU];refine⟨_,Uk (by unfold Len;omega) (by unfold Len;omega),_,DL,A5 (cf rfl ?_)⟩;rw[ieq]
def YK {e}{ev}{v}(a:BF e)(hv:Je v)(b:¬(v.Scope=0\/v.Scope=1)->EvS e v.Who (ev v.Who)):Ai prog 212 [] [.tp (Af e),.agg (BN v)] [] (vII (Dh e ev v)):=by
 have hp:=a.pid;refine Ax func212 (Aci _ _ e v rfl rfl) ⟨λh=>⟨_,Hv hv,λh1=>A5 ?_,λh1=>A5 ?_⟩,λh=>⟨λh1=>⟨_,λ_=>Hv hv,λh2=>?_,λh2=>A5 ?_,λh2=>A5 ?_⟩,λh1=>⟨_,b ?_,λh2=>A5 ?_,λh2=>⟨λh3=>?_,λh3=>A5 ?_,λh3=>⟨_,Hv hv,?_,λh4=>A5 ?_,λh4=>A5 ?_⟩⟩⟩⟩⟩
 .exact ct (by simpa using h) (ct h1 rfl)
 .exact ct (by simpa using h) (cf h1 rfl)
 .simp at h2;omega
 .exact cf (by simpa using h) (ct (by simpa using h1) (ct (by rw[Bp]at h2;exact h2) rfl))
 .exact cf (by simpa using h) (ct (by simpa using h1) (cf (by rw[Bp]at h2;exact h2) rfl))
 .simp at h h1;omega
 .exact cf (by simpa using h) (cf (by simpa using h1) (ct (by simpa using h2) rfl))
 .simp at h3;omega
 .refine cf (by simpa using h) (cf (by simpa using h1) (cf (by simpa using h2) (ct ?_ rfl)));simp only[Bp,AU,Ar1,Ar3]at h3;exact h3
 .simp at h3;omega
 .refine cf (by simpa using h) (cf (by simpa using h1) (cf (by simpa using h2) (cf ?_ (ct h4 rfl))));simp only[Bp,AU,Ar1,Ar3]at h3;exact h3
 .refine cf (by simpa using h) (cf (by simpa using h1) (cf (by simpa using h2) (cf ?_ (cf h4 rfl))));simp only[Bp,AU,Ar1,Ar3]at h3;exact h3
def ME {ev}{n}{d}{l}:D1 ev n (d::l)=bif decide ((ev d.I).2≠0)then(0,(ev d.I).2)else bif decide ((ev d.I).1<0)||decide (d.Len<=(ev d.I).1)then(0,47)else D1 ev (n+(ev d.I).1*d.Stride) l:=rfl
structure Aeg (d:D.Dim):Prop where
 l1:1<=d.Len
 l2:d.Len<=128
 s1:0<=d.Stride
 s2:d.Stride<=128
def AbZ {i s n:Int}(h0:0<=i)(h1:i<n)(h2:n<=128)(d:0<=s)(s1:s<=128):0<=i*s/\i*s<=(n-1)*s/\(n-1)*s<=16384:=by
 have a:=Int.mul_nonneg h0 d;have b:=Int.mul_le_mul_of_nonneg_right (show i<=n-1 by omega) d;have c:=Int.mul_le_mul (show n-1<=128 by omega) s1 d oM;omega
def Afi {e}{ev}{x:Int}(w:BF e)(u:0<=x/\x<e.M.Exprs.length)(hv:Je (Ar e.M x).V)(o:(Ar e.M x).Op=2->¬((Ar e.M x).V.Scope=0\/(Ar e.M x).V.Scope=1)->EvS e (Ar e.M x).V.Who (ev (Ar e.M x).V.Who))
  (hs:(Ar e.M x).Op=2->0<=(Ar e.M x).V.Slot/\(Ar e.M x).V.Slot<=128/\(Ar e.M x).V.Dims.length<=4) (hd:(Ar e.M x).Op=2->∀d∈(Ar e.M x).V.Dims,Aeg d/\EvS e d.I (ev d.I)):Ai prog 182 [] [.tp (Af e),Aa x] [] (Kb (B8 e ev (Ar e.M x))):=by
 refine Ax func182 (Aje _ _ _ e x rfl rfl) ⟨u,u,λh=>F3 (ct (by simpa[Ar]using h) rfl),λh=>?_⟩;have h0:(Ar e.M x).Op=2:=by simpa[Ar]using h
 change ∃y:Int×Int,Ai prog 212 [] [.tp (Af e),.agg (BN (Ar e.M x).V)] [] (vII y)/\_
 replace o:=o h0
 replace hs:=hs h0
 replace hd:=hd h0
 have v:B8 e ev (Ar e.M x)=bif decide ((Dh e ev (Ar e.M x).V).2≠0)then(0,0,(Dh e ev (Ar e.M x).V).2)
   else bif decide ((D1 ev (Ar e.M x).V.Slot (Ar e.M x).V.Dims).2≠0)then(0,0,(D1 ev (Ar e.M x).V.Slot (Ar e.M x).V.Dims).2)else((Dh e ev (Ar e.M x).V).1,(D1 ev (Ar e.M x).V.Slot (Ar e.M x).V.Dims).1,0):=by
  unfold B8;rw[Ara (by rw[h0];simp)];rfl
 rw[v];refine⟨_,YK w hv o,λh1=>F3 (ct (by simpa using h1) rfl),λh1=>?_⟩;have j:decide ((Dh e ev (Ar e.M x).V).2≠0)=false:=by simpa using h1
 rw[j,AqJ];generalize(Dh e ev (Ar e.M x).V).1=who;have l:=hs.1;have f:=hs.2;change As _ [1,1,1,1,1,1,0,1,0] (Rj e (Ar e.M x).V.Dims who (Ar e.M x).V.Slot 0);clear v o hv h h1 j hs;generalize(Ar e.M x).V.Dims=ds at hd f |-;generalize(Ar e.M x).V.Slot=sl at l f |-;generalize z:D1 ev sl ds=R;refine Ay (λgg st=>∃(k:Nat)(n:Int),k<=ds.length/\gg=ds.length-k/\0<=n/\n<=128+16384*k/\D1 ev n (ds.drop k)=R/\st=Rj e ds who n k)
  ⟨ds.length,Up.of ⟨0,sl,AqN _,rfl,l,oM,z,rfl⟩⟩ ?_
 rintro gg st ⟨k,n,hk,rfl,A,B,b,rfl⟩;refine AqU (Afj _ _ _ e x ds who n k _ rfl rfl) ⟨λq=>?_,λr=>?_⟩
 .have g:k<ds.length:=by have:=AP q;omega
  have t:(k:Int).toNat=k:=oM
  rw[t];obtain⟨p,m⟩:=hd _ (Au (d:=default) g);rw[Bq (d:=default) g,ME]at b;generalize ds.getD k default=d at p m b |-;refine⟨oM,_,m,λh2=>F3 ?_,λh2=>⟨λh3=>F3 ?_,λh3=>?_⟩⟩
  .have a:decide ((ev d.I).2≠0)=true:=by simpa using h2
   rw[a,AqL]at b;subst b;exact ct a rfl
  .have a:decide ((ev d.I).2≠0)=false:=by simpa using h2
   rw[Bp]at h3;rw[a,AqJ]at b;have c:(decide ((ev d.I).1<0)||decide (d.Len<=(ev d.I).1))=true:=h3;rw[c,AqL]at b;subst b;exact ct rfl rfl
  .have a:decide ((ev d.I).2≠0)=false:=by simpa using h2
   rw[Bp]at h3;have c:(decide ((ev d.I).1<0)||decide (d.Len<=(ev d.I).1))=false:=h3;rw[a,AqJ,c,AqJ]at b;simp only[Aq1,Arf]at c;have E:=AbZ (i:=(ev d.I).1) (s:=d.Stride) (n:=d.Len) oM oM p.l2 p.s1 p.s2;have C:k<4:=oM
   rw[AS (n:=(ev d.I).1*d.Stride) oM oM,AS oM oM,Al oM];exact⟨ds.length-(k+1),oM,Up.of ⟨k+1,n+(ev d.I).1*d.Stride,oM,rfl,oM,oM,b,rfl⟩⟩
 .obtain rfl:k=ds.length:=by have:=AQ r;omega
  rw[Asp]at b;subst b;exact F3 (cf rfl rfl)
def S4 {e}(j:BF e):Ai prog 187 [] [.tp (Af e)] [] (Ad (Ge e)):=by
 have n:=j.fit.p;refine Ax func187 (Vk _ e) ?_;refine Az e.S.Procs.length (λk=>U1 e k) (λk=>∀i,i<k->(!((Ft e.M (e.S.Procs.getD i default).Type_).getD (e.S.Procs.getD i default).Loc.toNat default).Progress)=true) (λi hi=>oM) ?_;intro k hk o J next
 refine AqU (S5 _ e k J rfl) ⟨λb=>?_,λc=>AA ?_⟩
 .have a:k<e.S.Procs.length:=by have:=AP b;omega
  have g:(k:Int).toNat=k:=oM
  rw[g];have l:=DN (j.proc (Au (d:=default) a));refine⟨oM,l.1,l.2.1,λh=>AA ?_,λh=>next _ a (BU o ?_) (Up.of ?_)⟩
  .unfold Ge;rw[BV (f:=λi=>!((Ft e.M (e.S.Procs.getD i default).Type_).getD (e.S.Procs.getD i default).Loc.toNat default).Progress) a (by show(!_)=false;unfold Ft;rw[h]<;>rfl)];rfl
  .show(!_)=true;unfold Ft;rw[h]<;>rfl
  grind[Al]
 .have m:e.S.Procs.length<=k:=by have:=AQ c;omega
  unfold Ge;grind[AX]
structure Ta (m:D.Model) (k:Int) (x:D.Expr):Prop where
 op:1<=x.Op/\x.Op<=39
 a:1<=A7 x.Op->0<=x.A/\x.A<k
 b:2<=A7 x.Op->0<=x.B/\x.B<k
 c:3<=A7 x.Op->0<=x.C/\x.C<k
 num:x.Op=1->CU ⟨32,true⟩ x.N=true
 var:x.Op=2->DI m k x.V=true
 poll:x.Op=30->Cl m k x.Args x.Match=true
def Vm {k op p}{i}(h:E0 k op i p)(hi:i<A7 op):0<=p/\p<k:=by
 unfold E0 at h;simp_all[Aq7,CC]
def YW {m}{k}(h:Ey m k):Ta m k (Ar m k):=by
 unfold Ey at h;simp only[AqI,AqO]at h;obtain⟨⟨h1,⟨b,hB⟩,c⟩,h3⟩:=h;refine⟨h1,λhi=>Vm b oM,λhi=>Vm hB oM,λhi=>Vm c oM,λa=>?_,λa=>?_,λa=>?_⟩
 .grind
 .grind
 grind
def T0 {k}{l}(h:CI k l):∀a∈l,0<=a/\a<k:=λa b =>
 CC.1 ((CP (d:=0) (f:=λa=>inP k a)).1 h a b)
structure Aee (m:D.Model) (k:Int) (v:D.Var):Prop where
 scope:0<=v.Scope/\v.Scope<=2
 slot:0<=v.Slot/\v.Slot<=128
 dims:v.Dims.length<=4
 who:v.Scope=2->0<=v.Who/\v.Who<k
 dim:∀d∈v.Dims,Aeg d/\0<=d.I/\d.I<k
def Jf {m}{k}{v}(h:DI m k v):Aee m k v:=by
 unfold DI at h;simp only[AqI,AqO]at h;obtain⟨⟨⟨⟨⟨⟨h1,h2⟩,h3⟩,h4⟩,h5⟩,h6⟩,h7⟩:=h;refine⟨⟨h1,h2⟩,⟨h3,h4⟩,h5,λhs=>?_,λd hd=>?_⟩
 .simp_all[Aq7,CC]
 .have:=(CP (d:=default) (f:=λd=>N0 k d)).1 h7 d hd;unfold N0 at this;simp only[AqI,AqO]at this;obtain⟨⟨⟨⟨a,b⟩,c⟩,e⟩,g⟩:=this;have:=CC.1 a;exact⟨⟨b,c,e,g⟩,this⟩
def Ad8 {ev}:∀{l}{n r k},(∀d∈l,Aeg d)->0<=n->n<r->(D1 ev n l).2=0->(D1 ev n l).1=k->0<=k/\k<D8 r l
 | [],n,r,k,_,h0,h1,_,hk=>by subst hk;exact⟨h0,h1⟩
 | d::l,n,r,k,hd,h0,h1,h2,hk=>by
  have a:=hd d (AqP ..);rw[ME]at h2 hk;cases c:decide ((ev d.I).2≠0)with
  | true=>grind
  | false =>
   rw[c,AqJ]at h2 hk;cases b:(decide ((ev d.I).1<0)||decide (d.Len<=(ev d.I).1))with
   | true=>grind
   | false =>
    rw[b,AqJ]at h2 hk;simp only[Aq1,Arf]at b;have e:=AbZ (i:=(ev d.I).1) (s:=d.Stride) (n:=d.Len) oM oM a.l2 a.s1 a.s2;have:=Ad8 (r:=r+(d.Len-1)*d.Stride) gD oM oM h2 hk;have f:HG d=false:=by
     have:=a.l1;have:=a.l2;have:=a.s1;have:=a.s2;unfold HG;simp;omega
    show 0<=k/\k<D8 r (d::l);unfold D8;grind
structure SQ (e:D.Env) (who k:Int):Prop where
 glob:who<0->0<=k/\k<e.S.Globals.length
 own:0<=who->who<e.S.Procs.length/\0<=k/\k<(DA e who).Frame.length
def Af2 {m}{k}{v}(h:Aee m k v):DV v=D8 (v.Slot+1) v.Dims:=by
 have h1:=h.slot;have h2:=h.dims;unfold DV;grind
def Qo {e}{ev}{x}{k}(m:BF e)(hv:x.Op=2->Aee e.M k x.V)(h:(B8 e ev x).2.2=0):SQ e (B8 e ev x).1 (B8 e ev x).2.1:=by
 have b:=m.pid;unfold B8 at h |-;cases i:decide (x.Op≠2)with
 | true=>grind
 | false =>
  rw[i,AqJ]at h;rw[AqJ];have hv:=hv (by simpa using i);have o:=Af2 hv;cases a:decide ((Dh e ev x.V).2≠0)with
  | true=>grind
  | false =>
   rw[a,AqJ]at h;rw[AqJ];cases p:decide ((D1 ev x.V.Slot x.V.Dims).2≠0)with
   | true=>grind
   | false =>
    rw[AqJ];have hd:=Ad8 (ev:=ev) (l:=x.V.Dims) (n:=x.V.Slot) (r:=x.V.Slot+1) (λd hd=>(hv.dim d hd).1) hv.slot.1 oM (by simpa using p) rfl;rw[<- o]at hd;show SQ e (Dh e ev x.V).1 (D1 ev x.V.Slot x.V.Dims).1;generalize(D1 ev x.V.Slot x.V.Dims).1=n at hd;unfold Dh at a |-;cases j:decide (x.V.Scope=0)with
    | true =>
     rw[j,AqL]at a;rw[AqL];cases c:decide ((e.S.Globals.length:Int)<DV x.V)with
     | true=>grind
     | false =>
      have:=Aq6 c;exact⟨λ_=>⟨hd.1,oM⟩,λh=>by simp at h⟩
    | false =>
     rw[j,AqJ]at a;rw[AqJ];cases c:decide (x.V.Scope=1)with
     | true =>
      rw[c,AqL]at a;rw[AqL];cases f:(decide (e.Pid<0)||decide (((DA e e.Pid).Frame.length:Int)<DV x.V))with
      | true=>grind
      | false =>
       simp only[Aq1,Arf]at f;exact(show SQ e e.Pid n from⟨λh=>absurd h f.1,λ_=>⟨b.2,hd.1,oM⟩⟩)
     | false =>
      rw[c,AqJ]at a;rw[AqJ];cases f:decide ((ev x.V.Who).2≠0)with
      | true=>grind
      | false =>
       rw[f,AqJ]at a;rw[AqJ];cases g:(decide ((ev x.V.Who).1<0)||(decide ((e.S.Procs.length:Int)<=(ev x.V.Who).1)||decide ((DA e (ev x.V.Who).1).Type_≠x.V.Type_)))with
       | true=>grind
       | false =>
        rw[g,AqJ]at a;rw[AqJ];simp only[Aq1,Arf]at g;cases q:decide (((DA e (ev x.V.Who).1).Frame.length:Int)<DV x.V)with
        | true=>grind
        | false =>
         have:=Aq6 q;exact(show SQ e (ev x.V.Who).1 n from⟨λh=>absurd h g.1,λ_=>⟨oM,hd.1,oM⟩⟩)
def Ib {m}{k}{a t}(h:Cl m k a t):a.length<=8/\t.length=a.length/\∀x∈a,0<=x/\x<k:=by
 unfold Cl at h;simp only[AqI,AqO]at h;exact⟨h.1.1.1.2,h.1.1.2,T0 h.1.2⟩
def VQ {m}{x}(a:0<=x/\x<m.Exprs.length):Ar m x∈m.Exprs:=Au (d:=default) oM
def Zg {e}{x:Int}(a:BF e)(b:0<=x/\x<e.M.Exprs.length):Len (Ar e.M x).Args.length:=by
 have:=(a.wf.Exprs.2 _ (VQ b)).Args.1;unfold Len;omega
def Adq {e}{ev}{x:Int}(g:BF e)(h:0<=x/\x<e.M.Exprs.length)(b:Ta e.M x (Ar e.M x))(c:∀a,0<=a->a<x->EvS e a (ev a)):Ai prog 182 [] [.tp (Af e),Aa x] [] (Kb (B8 e ev (Ar e.M x))):=by
 refine Afi g h (g.wf.Exprs.2 _ (VQ h)).V (λf hs=>?_) (λf=>?_) (λf d hd=>?_)
 .have hv:=Jf (b.var f);have h1:=hv.scope;exact c _ (hv.who oM).1 (hv.who oM).2
 .have hv:=Jf (b.var f);exact⟨hv.slot.1,hv.slot.2,hv.dims⟩
 .have hv:=Jf (b.var f);exact⟨(hv.dim d hd).1,c _ (hv.dim d hd).2.1 (hv.dim d hd).2.2⟩
def Af1 {e}{ev}{x}(g:BF e)(c:(e.M.Exprs.getD x.toNat default).Op=2)(d:Ta e.M x (Ar e.M x))(f:Ai prog 182 [] [.tp (Af e),Aa x] [] (Kb (B8 e ev (Ar e.M x)))) :
  ∃y:Int×Int×Int,Ai prog 182 [] [.tp (Af e),Aa x] [] (Kb y)/\((y.2.2 != 0)->leO [] []/\VV.le (.tup [.sc (.int .i64 0),.sc (.int .i64 y.2.2)]) (vII (Cw e ev (Ar e.M x))))/\((y.2.2 != 0)=false ->
   (decide (y.1<0)->(0<=y.2.1/\y.2.1<(e.S.Globals.length))/\leO [] []/\VV.le (.tup [.sc (.int .i64 (e.S.Globals.getD y.2.1.toNat 0)),.sc (.int .i64 0)]) (vII (Cw e ev (Ar e.M x)))) /\
   (decide (y.1<0)=false->(0<=y.1/\y.1<(e.S.Procs.length))/\(0<=y.2.1/\y.2.1<((e.S.Procs.getD y.1.toNat default).Frame.length))/\leO [] []/\VV.le (.tup [.sc (.int .i64 ((e.S.Procs.getD y.1.toNat default).Frame.getD y.2.1.toNat 0)),.sc (.int .i64 0)]) (vII (Cw e ev (Ar e.M x))))):=by
 have a:(Ar e.M x).Op=2:=c;have i:Cw e ev (Ar e.M x)=XF e ev (Ar e.M x):=by unfold Cw;rw[a]<;>rfl
 rw[i];have b:=Qo (e:=e) (ev:=ev) g (λj=>Jf (d.var j));refine⟨B8 e ev (Ar e.M x),f,λh=>A5 (ct (by simpa using h) rfl),λh=>⟨λh1=>?_,λh1=>?_⟩⟩
 .have h0:decide ((B8 e ev (Ar e.M x)).2.2≠0)=false:=by simpa using h
  exact⟨(b (by simpa using h0)).glob (AqV h1),A5 (cf h0 (ct h1 rfl))⟩
 .have h0:decide ((B8 e ev (Ar e.M x)).2.2≠0)=false:=by simpa using h
  have hi:=b (by simpa using h0);have:=Aq6 h1;exact⟨⟨oM,(hi.own oM).1⟩,(hi.own oM).2,A5 (cf h0 (cf h1 rfl))⟩
def Aib {e}{ev}{x}(b:(e.M.Exprs.getD x.toNat default).Op=36)(h:EvS e (Ar e.M x).A (ev (Ar e.M x).A)) :
  ∃y:Int×Int,Ai prog 141 [] [.tp (Af e),Aa (Ar e.M x).A] [] (vII y)/\((y.2 != 0)->leO [] []/\VV.le (.tup [.sc (.int .i64 0),.sc (.int .i64 y.2)]) (vII (Cw e ev (Ar e.M x))))/\((y.2 != 0)=false ->
   ((true&&(bif decide (y.1>=0)then decide (y.1<(e.Able.length))else false)==true)->0<=y.1/\y.1<(e.Able.length)) /\
   ∃c:Int×Int,Ai prog 186 [] [Ad (bif bif decide (y.1>=0)then decide (y.1<(e.Able.length))else false then e.Able.getD y.1.toNat false else false)] [] (vII c)/\leO [] []/\VV.le (vII c) (vII (Cw e ev (Ar e.M x)))):=by
 have a:(Ar e.M x).Op=36:=b;have d:Cw e ev (Ar e.M x)=PQ e ev (Ar e.M x):=by unfold Cw;rw[a]<;>rfl
 rw[d];refine⟨_,h,λh1=>A5 (ct (by simpa using h1) rfl),λh1=>⟨λh2=>?_,_,DL,A5 (cf (by simpa using h1) ?_)⟩⟩
 .simp at h2;omega
 grind
def Yp {o:Int}(h:1<=o/\o<=39):o=1\/o=2\/o=3\/o=4\/o=5\/o=6\/o=7\/o=8\/o=9\/o=10\/o=11\/o=12\/o=13\/o=14\/o=15\/o=16\/o=17\/o=18\/o=19\/o=20\/o=21\/o=22\/o=23\/o=24\/o=25\/o=26\/o=27\/o=28\/o=29\/o=30\/o=31\/o=32\/o=33\/o=34\/o=35\/o=36\/o=37\/o=38\/o=39:=oM
set_option maxHeartbeats 4000000 in
def Uo {e}{ev}{x:Int}(j:BF e)(l:0<=x/\x<e.M.Exprs.length)(g:∀a,0<=a->a<x->EvS e a (ev a)):EvS e x (Cw e ev (Ar e.M x)):=by
 have m:((x.toNat:Nat):Int)=x:=oM
 have f:Ta e.M x (Ar e.M x):=YW (by have:=j.expr x.toNat oM;rwa [m]at this);have n:=Adq j l f g;have i:1<=A7 (Ar e.M x).Op->EvS e (Ar e.M x).A (ev (Ar e.M x).A):=λh=>g _ (f.a h).1 (f.a h).2
 have hB:2<=A7 (Ar e.M x).Op->EvS e (Ar e.M x).B (ev (Ar e.M x).B):=λh=>g _ (f.b h).1 (f.b h).2
 have q:3<=A7 (Ar e.M x).Op->EvS e (Ar e.M x).C (ev (Ar e.M x).C):=λh=>g _ (f.c h).1 (f.c h).2
 have r:=λb=>Di (c:=BM prog tb DR Ec true f141 [] (vII (Cw e ev (Ar e.M x)))) Aj Ak kR (AhH _ _ e (Ar e.M x) b rfl)
 have s:=λb=>Di (c:=BM prog tb DR Ec true f141 [] (vII (Cw e ev (Ar e.M x)))) Aj Ak kR (AhG _ _ e (Ar e.M x) b rfl rfl rfl rfl)
 refine Ax func141 (Ak8 _ _ e x rfl rfl) ⟨l,?_⟩;rcases Yp (o:=(Ar e.M x).Op) (by have:=f.op;omega)with d|d|d|d|d|d|d|d|d|d|d|d|d|d|d|d|d|d|d|d|d|d|d|d|d|d|d|d|d|d|d|d|d|d|d|d|d|d|d
 all_goals
  have k:(e.M.Exprs.getD x.toNat default).Op=_:=d
  repeat (first
   | refine⟨λh=>absurd h (by(first | rw[k] | rw[d]);decide),λ_=>?_⟩
   | refine⟨λ_=>?_,gD⟩
   | refine r _ ?_
   | refine s _ ?_)
  first
   | exact A5 (by unfold Cw;rw[d]<;>rfl)
   | exact⟨_,Tp (i (by rw[d];decide)) (λh=>absurd oM h),A5 (by unfold Cw;rw[d]<;>rfl)⟩
   | exact⟨_,Tp (i (by rw[d];decide)) (λ_=>hB (by rw[d];decide)),A5 (by unfold Cw;rw[d]<;>rfl)⟩
   | exact⟨_,R1 (i (by rw[d];decide)) (hB (by rw[d];decide)) (λh=>absurd h (by rw[d];decide)),A5 (by unfold Cw;rw[d]<;>rfl)⟩
   | exact⟨_,R1 (i (by rw[d];decide)) (hB (by rw[d];decide)) (λ_=>q (by rw[d];decide)),A5 (by unfold Cw;rw[d]<;>rfl)⟩
   | exact⟨_,Ah6 j (i (by rw[d];decide)),A5 (by unfold Cw;rw[d]<;>rfl)⟩
   | exact⟨_,XD (i (by rw[d];decide)) (Zg j l),A5 (by unfold Cw;rw[d]<;>rfl)⟩
   | exact⟨_,DL,A5 (by unfold Cw;rw[d]<;>rfl)⟩
   | exact⟨_,S4 j,_,DL,A5 (by unfold Cw;rw[d]<;>rfl)⟩
   | exact Af1 j k f n
   | exact Aib k (i (by rw[d];decide))
   | exact⟨_,AgM j (i (by rw[d];decide)) (λa p=>g _ ((Ib (f.poll d)).2.2 a p).1 ((Ib (f.poll d)).2.2 a p).2) (Ib (f.poll d)).1 (Ib (f.poll d)).2.1,A5 (by unfold Cw;rw[d]<;>rfl)⟩
def MC {e}(b:BF e):∀(n:Nat)(x:Int),0<=x->x<e.M.Exprs.length->x<n->EvS e x (PO e n x)
 | 0,x,h0,_,h2=>oM
 | n+1,x,h0,h1,h2=>Uo b ⟨h0,h1⟩ λa c d=>MC b n a c oM oM
def Tq {e}(b:BF e){x a:Int}(c:x<e.M.Exprs.length)(h0:0<=a)(h1:a<x):EvS e a (F2 e a):=MC b _ a h0 oM oM
def Acu {e}(a:BF e){x:Int}(b:0<=x/\x<e.M.Exprs.length):EvS e x (Cw e (F2 e) (Ar e.M x)):=Uo a b λ_ h0 h1=>Tq a b.2 h0 h1
def JG {e}(a:AR e.M)(hs:BZ e.S)(x):Ai prog 140 [] [.agg (Af e),Aa x] [] (Aa (C6 e x)):=by
 refine Ax func140 (YV _ e x) ⟨_,FM a hs (λh=>(GR h).clp),λh=>BW (ct (by simpa using h) rfl),λh=>⟨λh1=>BW (cf (by simpa using h) (ct ?_ rfl)),λh1=>BW (cf (by simpa using h) (cf ?_ rfl))⟩⟩
 .simp only[Bp,Ar1,Ar3]at h1;exact h1
 .simp only[Bp,Ar1,Ar3]at h1;exact h1
def MD {e}{x}(c:AR e.M)(h:C6 e x=0):BF e/\0<=x/\x<e.M.Exprs.length:=by
 unfold C6 at h;cases a:decide (Cz e.M e.S≠0)with
 | true=>rw[a,AqL]at h;exact absurd h (AqV a)
 | false =>
  rw[a,AqJ]at h;obtain⟨h1,h2⟩:=MF (show Cz e.M e.S=0 by simpa using a);cases b:(decide (e.Pid < -1)||(decide ((e.S.Procs.length:Int)<=e.Pid)||(decide (x<0)||decide ((e.M.Exprs.length:Int)<=x))))with
  | true=>rw[b,AqL]at h;simp at h
  | false =>
   simp only[Aq1,Arf]at b;exact⟨⟨h2,h1,c,oM,oM⟩,oM,oM⟩
def JH {e}(a:AR e.M)(hs:BZ e.S)(x):Ai prog 97 [] [.agg (Af e),Aa x] [] (vII (Bh e x)):=by
 refine Ax func97 (AhL _ _ e x) ⟨_,JG a hs x,λh=>A5 (ct (by simpa using h) rfl),λh=>?_⟩;obtain⟨b,c⟩:=MD (x:=x) a (by simpa using h);exact⟨_,Acu b c,A5 (cf (by simpa using h) rfl)⟩
def JI {e}(b:AR e.M)(hs:BZ e.S)(x):Ai prog 194 [] [.agg (Af e),Aa x] [] (vII (AJ e x)):=by
 refine Ax func194 (AhM _ _ e x) ⟨_,JG b hs x,λh=>A5 (ct (by simpa using h) rfl),λh=>?_⟩;obtain⟨c,a⟩:=MD (x:=x) b (by simpa using h);exact⟨_,L6 (MC c _ x a.1 a.2 a.2),A5 (cf (by simpa using h) rfl)⟩
def B33 (n:Int):Prop:=-2147483648<=n/\n<=4294967295
def Q33 (t:Bool)(p:Int×Int):Prop:=p.2=0->B33 p.1/\(t=true->p.1=0\/p.1=1)
def FQ {t b}:Q33 t (C8 b):=by cases b<;>simp[Q33,B33,C8]
def AdB {t}{a c}(h:c≠0):Q33 t (a,c):=λb=>absurd b h
def Kt {t}{a c}(h:decide (c≠0)):Q33 t (a,c):=AdB (AqV h)
def FR {t c}{p q}(h1:c=true->Q33 t p)(h2:c=false->Q33 t q):Q33 t (bif c then p else q):=by
 cases c
 .exact h2 rfl
 .exact h1 rfl
def GF {t}{c}[Decidable c]{p q}(h1:c->Q33 t p)(h2:¬c->Q33 t q):Q33 t (if c then p else q):=by
 split
 .rename_i h;exact h1 h
 .rename_i h;exact h2 h
def PH {t}{a c}(h:B33 a)(b:t=false):Q33 t (a,c):=λ_=>⟨h,λh=>by rw[b]at h;cases h⟩
def Vg {t}{p}(h:Q33 t p):Q33 false p:=λh0=>⟨(h h0).1,λh=>by cases h⟩
def YM {t}{v}(h:CU t v):B33 v:=by
 unfold CU EV at h;simp only[AqI,AqO]at h;obtain⟨⟨h1,h2,h3⟩,h4⟩:=h;have hp:=Akm t.Bits h1 h2;unfold B33;cases hs:t.Signed with
 | false=>rw[hs]at h4;simp at h4;omega
 | true =>
  rw[hs]at h3 h4;simp at h3 h4;rcases h3 with h3|h3
  .rw[h3]at h4;simp at h4;omega
  .rw[h3]at h4;simp at h4;omega
def WG {t}{l}{k}(h:BP t l)(hk:k<l.length):B33 (l.getD k 0):=by
 unfold BP at h;simp only[AqI,AqO]at h;exact YM (AX.1 h.2 k hk)
def Vr {b}:Ic b=0\/Ic b=1:=by cases b<;>simp[Ic]
def AnC (n:Int):Prop:=-2147483648<=n/\n<=2147483647
def DQ {c}[Decidable c]{a b}(h1:AnC a)(h2:AnC b):AnC (if c then a else b):=by
 split
 .exact h1
 .exact h2
def Aod (op a b):-2147483648<=Ej op a b/\Ej op a b<=2147483647:=by
 have c:∀b:Bool,-2147483648<=Ic b/\Ic b<=2147483647:=λb=>by rcases Vr (b:=b)with h|h<;>rw[h]<;>decide
 have d:(-2147483648:Int)<=0/\(0:Int)<=2147483647:=dZ
 show AnC (Ej op a b);unfold Ej;exact DQ (BI _) (DQ (DQ d (BI _)) (DQ (DQ d (Ac3 _ _ (BI _).1 (BI _).2)) (DQ (BI _) (DQ (BI _) (DQ (Ll _ _ (BI _)) (DQ (Ll _ _ (BI _)) (DQ (c _) (DQ (c _) (DQ (c _) (DQ (c _) (DQ (c _) (DQ (c _) (DQ (FG .and (.inl rfl) _ _) (DQ (FG .xor (.inr (.inr rfl)) _ _) (DQ (FG .or (.inr (.inl rfl)) _ _) d)))))))))))))))
def AeX {op a b}(h:13<=op/\op<=18):Ej op a b=0\/Ej op a b=1:=by
 obtain⟨h1,h2⟩:=h;have:op=13\/op=14\/op=15\/op=16\/op=17\/op=18:=oM
 rcases this with rfl|rfl|rfl|rfl|rfl|rfl<;>exact Vr
def AmG (op a):-2147483648<=Mp op a/\Mp op a<=2147483647:=by
 have c:=BI a;unfold Mp;split
 .exact BI _
 split
 .rcases Vr (b:=wrap32 a==0)with h|h<;>rw[h]<;>decide
 split
 .omega
 .decide
def K6 (op:Int):Bool:=decide (13<=op/\op<=18)||(decide (op=4)||(decide (op=22)||(decide (op=23)||(decide (26<=op/\op<=30)||(decide (op=34)||(decide (op=35)||(decide (op=36)||decide (op=38))))))))
section
variable {e : D.Env} {ev:Evl}
def Anu {op a b}:B33 (Ej op a b):=by have:=Aod op a b;unfold B33;omega
def Anv {op a}:B33 (Mp op a):=by have:=AmG op a;unfold B33;omega
def AoR {x}{t}(b:t=true->x.Op=4\/13<=x.Op/\x.Op<=18):Q33 t (Ra ev x):=by
 unfold Ra;refine FR Kt λ_=>FR (λh _=>⟨Anv,λa=>?_⟩) λh=>FR Kt λ_=>λ_=>⟨Anu,λa=>?_⟩
 .rcases b a with h4|h4
  .show Mp x.Op _=0\/Mp x.Op _=1;rw[h4];exact Vr
  .simp at h;omega
 .rcases b a with h4|h4
  .rw[h4]at h;simp at h
  .exact AeX h4
def Amx {x}{t}(b:t=true->x.Op≠24)(hB:Q33 false (ev x.B))(c:x.Op=24->Q33 false (ev x.C)):Q33 t (JA ev x):=by
 unfold JA;refine FR Kt λ_=>FR (λh=>?_) λh=>FR (λ_=>FQ) λ_=>FR Kt λ_=>FQ
 have a:=AqV h;cases t with
 | true=>exact absurd a (b rfl)
 | false=>exact FR (λ_=>hB) λ_=>c a
def Alo (a:BF e)(n):(BQ e n).Queue.length<=16:=by
 unfold BQ
 by_cases h:(n-1).toNat<e.S.Chans.length
 .exact(a.fit.q _ (Au h)).1
 .rw[List.getD,ArX (show e.S.Chans.length<=(n-1).toNat by omega)];exact AqN _
def AoU {x}{t}(a:BF e)(b:t=true->x.Op≠25):Q33 t (L4 e ev x):=by
 have c:=Alo a (CV e ev x.A).1;unfold L4;refine FR Kt λ_=>?_
 unfold Anw;refine GF (λh=>?_) λ_=>GF (λ_=>FQ) λ_=>GF (λ_=>FQ) λ_=>GF (λ_=>FQ) λ_=>FQ
 refine PH (by unfold B33;omega) ?_;cases t with
 | true=>exact absurd h (b rfl)
 | false=>rfl
def AoT {x}{t}:Q33 t (LZ e ev x):=by
 unfold LZ;exact FR Kt λ_=>FR (λ_=>AdB dZ) λ_=>FR Kt λ_=>FQ
def AoV {x}{t}:Q33 t (PQ e ev x):=by
 unfold PQ;exact FR Kt λ_=>FQ
def Akb {x}{t}(a:BF e)(c:t=true->x.Op≠37):Q33 t (Gu e ev x):=by
 unfold Gu;refine FR Kt λ_=>FR (λ_=>AdB dZ) λh2=>FR (λh=>?_) λ_=>FQ
 simp only[Aq1,Arf]at h2;have hp:=DN (a.proc (p:=DA e (ev x.A).1) (Au (d:=default) (show(ev x.A).1.toNat<e.S.Procs.length by omega)));have f:=(GR a.may).locs _ hp.1.1 hp.1.2;have b:=hp.2.1;refine PH (by unfold B33;omega) ?_;cases t with
 | true=>exact absurd (AqV h) (c rfl)
 | false=>rfl
def AoS {x}{k}(a:BF e)(hv:x.Op=2->Aee e.M k x.V):Q33 false (XF e ev x):=by
 unfold XF;refine FR Kt λh=>?_
 have hs:=Qo a hv (by simpa using h);refine FR (λh1=>?_) λh1=>?_
 .have:=hs.glob (AqV h1);exact PH (WG a.globals.2 oM) rfl
 .have h0:0<=(B8 e ev x).1:=by have:=Aq6 h1;omega
  have:=hs.own h0;have hp:=DN (a.proc (p:=DA e (B8 e ev x).1) (Au (d:=default) (show(B8 e ev x).1.toNat<e.S.Procs.length by omega)));exact PH (WG hp.2.2.2.1 oM) rfl
def YX {x}{k}(b:BF e)(f:Ta e.M k x)(hB:2<=A7 x.Op->Q33 false (ev x.B))(i:3<=A7 x.Op->Q33 false (ev x.C))(s:0<=e.S.Last/\e.S.Last<16):Q33 (K6 x.Op) (Cw e ev x):=by
 have g:=b.pid;have j:=b.fit.p;have tt:∀{o:Int},K6 o=true->(13<=o/\o<=18)\/o=4\/o=22\/o=23\/(26<=o/\o<=30)\/o=34\/o=35\/o=36\/o=38:=λh=>by
  simpa only[K6,ArP,AqO]using h
 unfold Cw;refine GF (λh=>PH (YM (f.num h)) (by rw[h]<;>rfl)) λn1=>GF (λh=>?_) λn2=>GF (λh=>?_) λt=>GF (λh=>?_) λu=>GF (λ_=>AoT) λv =>
  GF (λh=>PH (by unfold B33;omega) (by rw[h]<;>rfl)) λn6=>GF (λh=>PH (by unfold B33;omega) (by rw[h];rfl)) λw=>GF (λh=>PH (by unfold B33;omega) (by rw[h];rfl)) λy=>GF (λ_=>FQ) λz=>GF (λ_=>FQ) λl=>GF (λ_=>AoV) λm=>GF (λh=>?_) λn=>GF (λ_=>AdB dZ) λq=>?_
 .rw[show K6 x.Op=false by rw[h]<;>rfl];exact AoS b λr=>Jf (f.var r)
 .refine Amx (λa c=>by rw[c]at a;cases a) (hB ?_) λd=>i (by rw[d];decide)
  rcases h with h|h|h<;>rw[h]<;>decide
 .exact AoU b λa c=>by rw[c]at a;cases a
 .exact Akb b λa c=>by rw[c]at a;cases a
 .refine AoR λa=>?_
  have:=tt a;omega
end
def BF.last {e}(h:BF e):0<=e.S.Last/\e.S.Last<16:=by
 have h:=h.fits;unfold DM IW at h;simp only[AqI,AqO]at h;exact⟨h.1.1.1.1.1.1.2,h.1.1.1.1.1.2⟩
def LC {e}(d:BF e):∀(n:Nat)(x:Int),0<=x->x<e.M.Exprs.length->x<n->Q33 (K6 (Ar e.M x).Op) (PO e n x)
 | 0,x,h0,_,h2=>oM
 | n+1,x,h0,h1,h2=>by
  have f:((x.toNat:Nat):Int)=x:=oM
  have a:Ta e.M x (Ar e.M x):=YW (by have:=d.expr x.toNat oM;rwa [f]at this);exact YX d a (λh=>Vg (LC d n _ (a.b h).1 (by have:=a.b h;omega) (by have:=a.b h;omega))) (λh=>Vg (LC d n _ (a.c h).1 (by have:=a.c h;omega) (by have:=a.c h;omega))) d.last
def AhF {e}(g:AR e.M)(x):Q33 (K6 (Ar e.M x).Op) (Bh e x):=by
 unfold Bh;refine FR Kt λh=>?_
 obtain⟨d,h0,h1⟩:=MD (x:=x) g (by simpa using h);have f:((x.toNat:Nat):Int)=x:=oM
 have a:Ta e.M x (Ar e.M x):=YW (by have:=d.expr x.toNat oM;rwa [f]at this);exact YX d a (λh=>Vg (LC d _ _ (a.b h).1 (by have:=a.b h;omega) (by have:=a.b h;omega))) (λh=>Vg (LC d _ _ (a.c h).1 (by have:=a.c h;omega) (by have:=a.c h;omega))) d.last
def HC (t:D.Type)(v:Int):Int:=FV t.Bits t.Signed v
def setG (m:D.Model)(s:D.State)(k v:Int):D.State:={s with Globals:=s.Globals.set k.toNat (HC (m.Globals.getD k.toNat default) v)}
def Aac (m:D.Model)(p:D.Process)(k v:Int):D.Process:={p with Frame:=p.Frame.set k.toNat (HC ((AT m p.Type_).Frame.getD k.toNat default) v)}
def setO (m:D.Model)(s:D.State)(who k v:Int):D.State:={s with Procs:=s.Procs.set who.toNat (Aac m (s.Procs.getD who.toNat default) k v)}
def Jn (m:D.Model)(s:D.State)(who k v:Int):D.State:=bif decide (who<0)then setG m s k v else setO m s who k v
def Bk (e:D.Env)(x v:Int):D.State×Int :=
 bif decide (C6 e x≠0)then(default,C6 e x)
 else bif decide ((B8 e (F2 e) (Ar e.M x)).2.2≠0)then(default,(B8 e (F2 e) (Ar e.M x)).2.2)
 else(Jn e.M e.S (B8 e (F2 e) (Ar e.M x)).1 (B8 e (F2 e) (Ar e.M x)).2.1 v,0)
def Gw {α:Type}{l:List α}{i}{a x}(h:x∈l.set i a):x∈l\/x=a:=List.mem_or_eq_of_mem_set h
def Fit.setG {s:D.State}(h:Fit s)(m:D.Model)(k v:Int):Fit (setG m s k v):=⟨by show(List.set _ _ _).length<=_;rw[ArB];exact h.g,h.c,h.q,h.p,h.f⟩
def Fit.setO {s:D.State}(h:Fit s)(m:D.Model)(who k v:Int)(a:who.toNat<s.Procs.length):Fit (setO m s who k v):=by
 refine⟨h.g,h.c,h.q,by show(List.set _ _ _).length<=_;rw[ArB];exact h.p,λp hp=>?_⟩;rcases Gw hp with hp|rfl
 .exact h.f p hp
 .show(List.set _ _ _).length<=_;rw[ArB];exact h.f _ (Au (d:=default) a)
def PN:Fit (default):=⟨dZ,dZ,λc a=>(by cases a),dZ,λp hp=>(by cases hp)⟩
section
variable {e : D.Env} {x:Int}
def Ad2 (b:BF e)(h0:0<=x)(h1:x<e.M.Exprs.length):Ta e.M x (Ar e.M x):=by
 have a:((x.toNat:Nat):Int)=x:=oM
 exact YW (by have:=b.expr x.toNat oM;rwa [a]at this)
def Lj (a:BF e)(h0:0<=x)(h1:x<e.M.Exprs.length){ev}(h:(B8 e ev (Ar e.M x)).2.2=0):SQ e (B8 e ev (Ar e.M x)).1 (B8 e ev (Ar e.M x)).2.1 :=
 Qo a (λb=>Jf ((Ad2 a h0 h1).var b)) h
def Z2 (b:AR e.M)(v):Fit (Bk e x v).1:=by
 unfold Bk;cases c:decide (C6 e x≠0)with
 | true=>exact PN
 | false =>
  obtain⟨a,h0,h1⟩:=MD (x:=x) b (by simpa using c);rw[AqJ];cases d:decide ((B8 e (F2 e) (Ar e.M x)).2.2≠0)with
  | true=>exact PN
  | false =>
   rw[AqJ];have hs:=Lj a h0 h1 (ev:=F2 e) (by simpa using d);show Fit (Jn _ _ _ _ _);unfold Jn;cases f:decide ((B8 e (F2 e) (Ar e.M x)).1<0)with
   | true=>exact a.fit.setG _ _ _
   | false =>
    have g:0<=(B8 e (F2 e) (Ar e.M x)).1:=by have:=Aq6 f;omega
    exact a.fit.setO _ _ _ _ (by have:=hs.own g;omega)
end
structure Pn where
 pid:Int
 esc:Int
 way:Int
deriving DecidableEq
instance : Inhabited Pn:=⟨⟨0,0,0⟩⟩
structure Ab where
 is:Bool
 err:Int
 wth:List Pn
instance : Inhabited Ab:=⟨⟨false,0,[]⟩⟩
structure Wy where
 Esc:Int
 Way:Int
 With:Int
 WithEsc:Int
 WithWay:Int
 Err:Int
deriving DecidableEq
instance : Inhabited Wy:=⟨⟨0,0,0,0,0,0⟩⟩
section
variable (e : D.Env)
def HD:Int:=bif decide (Cz e.M e.S≠0)then Cz e.M e.S else bif decide (e.Pid<0)||decide ((e.S.Procs.length:Int)<=e.Pid)then 42 else 0
def CS:D.Proc:=AT e.M (DA e e.Pid).Type_
def CB:D.Loc:=(CS e).Locs.getD (DA e e.Pid).Loc.toNat default
def CJ (x:Int):Bool:=decide (0<=x)&&decide ((Ar e.M x).Op=39)
def Si:Nat->List (List D.Trans)->List (Int×List D.Trans)
 | _,[]=>[]
 | k,w::r=>((k:Int),w)::Si (k+1) r
def E5 (l:D.Loc):List (Int×List D.Trans):=Si 0 l.Esc++[(-1,l.Out)]
def Iy (ev:Evl):List Int->List Int->List Int×Int
 | out,[]=>(out,0)
 | out,x::l=>bif decide ((ev x).2≠0)then([],(ev x).2)else Iy ev (out++[(ev x).1]) l
def Bx (l:List Int):List Int×Int:=Iy (Bh e) [] l
def G7 (f:List D.Type)(l:List Int):List Int:=(List.range l.length).map λi=>HC (f.getD i default) (l.getD i 0)
def Bd (c:Int):List D.Type:=(B4 e.M (BQ e c).Shape).Fields
def AB (s:D.Stmt):Int×List Int×Int :=
 bif decide ((AJ e s.A).2≠0)then(0,[],(AJ e s.A).2)
 else bif decide ((Bd e (AJ e s.A).1).length≠s.Args.length)then(0,[],49)
 else bif decide ((Bx e s.Args).2≠0)then(0,[],(Bx e s.Args).2)
 else((AJ e s.A).1,G7 (Bd e (AJ e s.A).1) (Bx e s.Args).1,0)
def B7 (s:D.Stmt):List Int×Int :=
 bif decide (Dj (Bh e) s.Args s.Match s.Args.length≠0)then([],Dj (Bh e) s.Args s.Match s.Args.length)else(C7 (Bh e) s.Args s.Match,0)
def Bb (s:D.Stmt):Int×Int×Int :=
 bif decide ((AJ e s.A).2≠0)then(0,-1,(AJ e s.A).2)
 else bif decide ((Bd e (AJ e s.A).1).length≠s.Args.length)then(0,-1,49)
 else bif decide ((B7 e s).2≠0)then(0,-1,(B7 e s).2)
 else((AJ e s.A).1,FW (BQ e (AJ e s.A).1) (B7 e s).1 s.Match (decide (s.N.tmod 2=1)),0)
def Fk (s:D.Stmt)(c:Int)(m:List Int):Bool :=
 bif decide (s.Kind≠6)||(decide (1<s.N)||decide (s.Args.length≠m.length))then false
 else bif decide ((AJ e s.A).2≠0)||decide ((AJ e s.A).1≠c)then false
 else bif decide ((B7 e s).2≠0)then false else decide (FW ⟨0,[m]⟩ (B7 e s).1 s.Match false=0)
def IK:Ab:=⟨decide (e.S.Procs.length<16),0,[]⟩
def Fp (mt:Int->List Int->List Pn)(s:D.Stmt)(self:Bool):Ab :=
 bif decide ((AJ e s.A).2≠0)then⟨true,(AJ e s.A).2,[]⟩
 else bif decide ((Bd e (AJ e s.A).1).length≠s.Args.length)then⟨true,49,[]⟩
 else bif decide (0<(B4 e.M (BQ e (AJ e s.A).1).Shape).Room)then⟨decide (((BQ e (AJ e s.A).1).Queue.length:Int)<(B4 e.M (BQ e (AJ e s.A).1).Shape).Room),0,[]⟩
 else bif self then⟨false,0,[]⟩
 else bif decide ((AB e s).2.2≠0)then⟨true,(AB e s).2.2,[]⟩
 else⟨decide (0<(mt (AJ e s.A).1 (AB e s).2.1).length),0,mt (AJ e s.A).1 (AB e s).2.1⟩
def Cg (mt:Int->List Int->List Pn)(s:D.Stmt)(self:Bool):Ab :=
 if s.Kind=1 then(bif CJ e s.A then IK e else⟨decide ((Bh e s.A).1≠0)||decide ((Bh e s.A).2≠0),(Bh e s.A).2,[]⟩)
 else if s.Kind=2 then(bif CJ e s.B then IK e else⟨true,0,[]⟩)
 else if s.Kind=9 then⟨decide (e.S.Chans.length<32),0,[]⟩
 else if s.Kind=5 then Fp e mt s self
 else if s.Kind=6 then⟨decide (0<=(Bb e s).2.1)||decide ((Bb e s).2.2≠0),(Bb e s).2.2,[]⟩
 else if s.Kind=7 then⟨false,0,[]⟩else⟨true,0,[]⟩
def Eu (mt:Int->List Int->List Pn)(ways:List D.Trans)(self:Bool):Nat->Bool
 | 0=>false
 | n+1=>Eu mt ways self n||(Cg e mt (ways.getD n default).S self).is
def Eh (mt:Int->List Int->List Pn)(ways:List D.Trans)(self:Bool)(i:Nat):Ab :=
 let x:=Cg e mt (ways.getD i default).S self
 bif decide ((ways.getD i default).S.Kind=7)&&!(Eu e mt ways self ways.length)then{x with is:=true}else x
def Dv (mt:Int->List Int->List Pn)(ways:List D.Trans)(self:Bool):List Ab:=(List.range ways.length).map (Eh e mt ways self)
def G6:Int->List Int->List Pn:=λ_ _=>[]
def isSome (l:List Ab):Bool:=l.any Ab.is
def DT (c:Int)(m:List Int)(i:Int):Nat->List D.Trans->List Pn
 | _,[]=>[]
 | k,t::r=>(bif Fk e t.S c m then[⟨e.Pid,i,k⟩]else[])++DT c m i (k+1) r
def Hu (c:Int)(m:List Int):List (Int×List D.Trans)->List Pn
 | []=>[]
 | (i,ws)::r=>bif decide (0<(DT e c m i 0 ws).length)||isSome (Dv e G6 ws true)then DT e c m i 0 ws else Hu c m r
def A8:Bool×Int:=bif decide ((CS e).Provided<0)then(true,0)else(decide ((Bh e (CS e).Provided).1≠0),(Bh e (CS e).Provided).2)
def EL (c:Int)(m:List Int):List Pn:=bif !(A8 e).1||decide ((A8 e).2≠0)then[]else Hu e c m (E5 (CB e))
def BO (q:Int):D.Env:={e with Pid:=q}
def CO (c:Int)(m:List Int):Nat->List Pn
 | 0=>[]
 | n+1=>CO c m n++bif decide ((n:Int)≠e.Pid)then EL (BO e n) c m else[]
def B0 (c:Int)(m:List Int):List Pn:=CO e c m e.S.Procs.length
def IT (err:Int):Wy:=⟨-1,-1,-1,-1,-1,err⟩
def FB (i:Int)(k:Nat)(err:Int)(p:Pn):Wy:=⟨i,k,p.pid,p.esc,p.way,err⟩
def FI (i:Int)(k:Nat)(x:Ab):List Wy:=(bif x.is&&decide (x.wth.length=0)then[⟨i,k,-1,-1,-1,x.err⟩]else[])++x.wth.map (FB i k x.err)
def C5 (i:Int):Nat->List Ab->List Wy
 | _,[]=>[]
 | k,x::r=>FI i k x++C5 i (k+1) r
def E9:List (Int×List D.Trans)->List Wy
 | []=>[]
 | (i,ws)::r=>bif decide (0<(C5 i 0 (Dv e (B0 e) ws false)).length)then C5 i 0 (Dv e (B0 e) ws false)else E9 r
def A2:List Wy :=
 bif decide ((DA e e.Pid).Loc=(CS e).Final)then(bif decide (e.Pid=(e.S.Procs.length:Int)-1)then[IT 0]else[])
 else bif decide ((A8 e).2≠0)then[IT (A8 e).2]
 else bif !(A8 e).1 then[]else E9 e (E5 (CB e))
def FC:List Wy×Int:=bif decide (HD e≠0)then([],HD e)else(A2 e,0)
end
def Q7 (y x:VV):Prop:=∀(w:World)(E:A1)(v:Value),V w E none y v->∀B,V w ⟨λ_=>False,B,0,[]⟩ none x v
def Kg:List VV->List VV->Prop
 | [],[]=>True
 | y::ys,x::xs=>Q7 y x/\Kg ys xs
 | _,_=>False
def ID:∀{ys xs},Kg ys xs->ys.length=xs.length
 | [],[],_=>rfl
 | y::ys,x::xs,h=>by simp[ID h.2]
 | [],_::_,h=>h.elim
 | _::_,[],h=>h.elim
def Ho:∀{ys xs},Kg ys xs->∀(j:Nat) x,xs[j]?=some x->∃y,ys[j]?=some y/\Q7 y x
 | y::ys,x::xs,h,0,z,hz=>by simp only[Aq2,AqK]at hz;subst hz;exact⟨y,rfl,h.1⟩
 | y::ys,x::xs,h,j+1,z,hz=>by simpa using Ho h.2 j z (by simpa using hz)
 | [],_::_,h,_,_,_=>h.elim
 | _,[],_,_,_,hz=>by simp at hz
def P4 {u}:Q7 (.sc u) (.sc u):=λw E v h B=>by
 obtain rfl:=h.sc_inv;exact .sc
def P3 {b}{n s}{f l}(c:∀i,i<n->Kg (f i) (l i)):Q7 (.sl b n s f) (.sl true n s l):=λw E v h B=>by
 obtain⟨a,cap,rfl,h1,h2,h3⟩:=V.sl_inv h;refine AsP h1 h2 λhp=>?_
 obtain⟨g,off,rfl,m,_,o,u,p,hv⟩:=h3 hp;refine⟨g,off,rfl,m,λh=>h,λi hi=>by rw[<- ID (c i hi)];exact o i hi,u,λi j x hi d=>?_,λi j x hi d=>?_⟩
 .obtain⟨y,e,_⟩:=Ho (c i hi) j x d;exact p i j y hi e
 .obtain⟨y,e,k⟩:=Ho (c i hi) j x d;exact k _ _ _ (hv i j y hi e) _
def WI {ys xs}(b:Kg ys xs):Q7 (.agg ys) (.agg xs):=λw E v h B=>by
 obtain⟨vs,rfl,h1,h2⟩:=h.agg_inv;refine .agg (h1.trans (ID b)) λj x c=>?_
 obtain⟨y,d,a⟩:=Ho b j x c;exact a _ _ _ (h2 j y d) _
def SR (r:VV):Prop:=∀(w:World)(E E':A1)(m m':Option Phi)(v:Value),V w E m r v->V w E' m' r v
def Kw {u}:SR (.sc u):=λw E E' m m' v h=>by
 obtain rfl:=h.sc_inv;exact .sc
def Lo {xs}(h:∀x∈xs,SR x):SR (.tup xs):=λw E E' m m' v hv=>by
 cases hv with
 | tup h1 h2=>exact .tup h1 λj x a=>h x (Art a) _ _ _ _ _ _ (h2 j x a)
def Ai.thaw {P}{f}{xs ys}{r}(h:Ai P f [] xs [] r)(c:SR r)(a:Kg ys xs):Ai P f [] ys [] r:=by
 refine Ai.hand h.callable λw E vs l d hB m hs=>?_
 refine(h.start d hB ⟨hs.1.trans (ID a),λj x g=>?_⟩).mono ?_
 .obtain⟨y,i,k⟩:=Ho a j x g;exact k _ _ _ (hs.2 j y i) _
 .rintro e w' ⟨v,rfl,b,hv⟩;exact⟨v,rfl,c _ _ _ _ _ _ hv,b⟩
def AkC:Value->Value->Bool
 | .int k a,.int l b=>decide (k=l)&&decide (a=b)
 | .bool a,.bool b=>a==b
 | .string a,.string b=>decide (a=b)
 | _,_=>false
def AkB {u v}(h:AkC u v):u=v:=by
 unfold AkC at h;split at h
 .simp only[AqI,AqO]at h;rw[h.1,h.2]
 .simp only[beq_iff_eq]at h;rw[h]
 .simp only[AqO]at h;rw[h]
 .cases h
section
variable {P : Program} {w:World} {E:A1} {φ:Phi} {hs hs' hs1:List Ob} {xs:List VV} {r:VV} {f:FuncId}
def AdP (h:HRel E (BT hs) φ w)(hφ:∀id,φ id≠none↔id<hs.length)(j:∀k,E.fz k->k<w.heap.size)(sz)(g) :
  HRel E (BT (hs++[.arr true 0 0 sz g])) (addP φ hs.length [Pl.arr 0 0 none]) w/\Ext w φ w (addP φ hs.length [Pl.arr 0 0 none]) /\
   (∀id,addP φ hs.length [Pl.arr 0 0 none] id≠none↔id<(hs++[Ob.arr true 0 0 sz g]).length)/\addP φ hs.length [Pl.arr 0 0 none] hs.length=some (.arr 0 0 none):=by
 have c:φ hs.length=none:=Are λl=>by have:=(hφ _).1 l;omega
 have d:Room w [Pl.arr 0 0 none] w:=Room.one (Below.refl _ _) λk hk=>by obtain⟨_,m⟩:=hk;cases m
 have b:∀i,i<[Ob.arr true 0 0 sz g].length->φ (hs.length+i)=none:=λi hi=>by
  simp only[Aru,ArT,Arl,Nat.lt_one_iff]at hi;subst hi;exact c
 have a:EZ w E φ hs.length [Ob.arr true 0 0 sz g] [Pl.arr 0 0 none] w:=EZ.one d ⟨rfl,rfl,rfl⟩;have e:addP φ hs.length [Pl.arr 0 0 none] hs.length=some (.arr 0 0 none):=Fi (i:=0) rfl;refine⟨h.news j a b (λk hk=>?_) λi o n=>?_,a.ext b,λid=>?_,e⟩
 .have:=(hφ k).1 hk;show BT (hs++_) k=BT hs k;simp[BT,Aq3 this]
 .show BT (hs++_) (hs.length+i)=o;unfold BT;rw[Aq4,Arh oM,show hs.length+i-hs.length=i by omega,n];rfl
 .simp only[AqT,Aru,ArT]
  by_cases p:id=hs.length
  .subst p;rw[e];simp
  .rw[EA (by simp;omega)];rw[hφ id];omega
def Ai.conv {r2}{hs2}(h:Ai P f hs xs hs1 r)
  (c:∀(w:World)(E:A1) (φ:Phi) (v:Value),HRel E (BT hs1) φ w->(∀id,φ id≠none↔id<hs1.length)->(∀k,E.fz k->k<w.heap.size)->V w (E.up φ) (some φ) r v ->
   ∃φ',HRel E (BT hs2) φ' w/\Ext w φ w φ'/\(∀id,φ' id≠none↔id<hs2.length)/\V w (E.up φ') (some φ') r2 v):Ai P f hs xs hs2 r2:=by
 refine⟨h.callable,λw E φ vs b d hφ a=>(h.call w E φ vs b d hφ a).mono ?_⟩;rintro e w' ⟨v,φ',rfl,h1,h2,h3,h4⟩;obtain⟨φ2,k1,k2,g,i⟩:=c w' E φ' v h1 h3 (λk hk=>Aq5 (b.lt k hk) h2.size) h4;exact⟨v,φ2,rfl,k1,h2.trans (Asa k2),g,i⟩
def Ai.ownR {ys}(h:Ai P f hs xs hs1 (.tup ys))(j)(hj:ys[j]?=some .nl)(sz)(g):Ai P f hs xs (hs1++[.arr true 0 0 sz g]) (.tup (ys.set j (.ow hs1.length 0 0))):=by
 refine h.conv λw E φ v c hφ d hv=>?_
 obtain⟨h1,h2,h3,h4⟩:=AdP c hφ d sz g;refine⟨_,h1,h2,h3,?_⟩;cases hv with
 | tup k1 k2 =>
  refine .tup (by simp[k1]) λi x a=>?_
  rw[AsF]at a;split at a
  .rename_i b;subst b;split at a
   .simp only[AqK]at a;subst a;rw[(k2 j _ hj).nl_inv];exact .ow h4 (AqQ _) (hd0:=none) ⟨rfl,rfl⟩ λ_=>⟨rfl,AqQ _⟩
   .cases a
  .exact(k2 i x a).ext h2
def Fr.less {b a}{w w'}{φ φ'}(h:Fr b w φ w' φ')(c:a<=b):Fr a w φ w' φ' :=
 ⟨h.os,h.tape,h.output,h.size,h.block,h.new,λid p hi e=>h.kind id p (Aq5 hi c) e⟩
def Ai.ownB {i j}{cs}(hi:hs[i]?=some (.box cs))(hj:cs[j]?=some .nl)(sz)(g)
  (h:Ai P f (hs.set i (.box (cs.set j (.ow hs.length 0 0)))++[.arr true 0 0 sz g]) xs hs' r):Ai P f hs xs hs' r:=by
 refine⟨h.callable,λw E φ vs s u hφ l=>?_⟩;obtain⟨h1,h2,h3,h4⟩:=AdP u hφ s.lt sz g;have m:i<hs.length:=(AqS.1 hi).1;refine(h.call w E _ vs (s.ext h2) ⟨h1.sub,λid p e=>?_,h1.inj,h1.free⟩ (λid=>by rw[h3 id];simp) ⟨l.1,λk x a=>(l.2 k x a).ext h2⟩).mono ?_
 .have d:=h1.ob id p e;show ObV w E _ (BT (hs.set i _++_) id) p
  by_cases t:id=i
  .subst t;have n:BT (hs++[Ob.arr true 0 0 sz g]) id=.box cs:=by simp[BT,Aq3 m,hi]
   have y:BT (hs.set id (.box (cs.set j (.ow hs.length 0 0)))++[Ob.arr true 0 0 sz g]) id=.box (cs.set j (.ow hs.length 0 0)):=by
    simp[BT,Aq3,m]
   rw[n]at d;rw[y];cases p with
   | arr=>exact d.elim
   | box b =>
    obtain⟨c,ty,k1,k2⟩:=d;refine⟨c,ty,k1,by simp[k2.1],λk x a=>?_⟩;rw[AsF]at a;split at a
    .rename_i o;subst o;split at a
     .simp only[AqK]at a;subst a;rw[(k2.2 j _ hj).nl_inv];exact .ow h4 (AqQ _) (hd0:=none) ⟨rfl,rfl⟩ λ_=>⟨rfl,AqQ _⟩
     .cases a
    .exact k2.2 k x a
  .have n:BT (hs.set i (.box (cs.set j (.ow hs.length 0 0)))++[Ob.arr true 0 0 sz g]) id=BT (hs++[Ob.arr true 0 0 sz g]) id:=by
    rcases Arp id hs.length with q|q
    .simp[BT,Aq3,q,List.getElem_set_ne (Ne.symm t)]
    .simp[BT,Arh,q]
   rw[n];exact d
 .rintro e w' ⟨v,φ',rfl,k1,k2,z,A⟩;refine⟨v,φ',rfl,k1,(Asa h2).trans (k2.less sM),z,A⟩
end
def GW (x:Pn):List VV:=[Aa x.pid,Aa x.esc,Aa x.way]
def Dz (l:List Pn):Nat->List VV:=λi=>GW (l.getD i default)
def Bz (fz:Bool)(l:List Pn):VV:=.sl fz l.length 3 λi=>GW (l.getD i default)
def A4 (x:Ab):List VV:=[Ad x.is,Aa x.err,Bz true x.wth]
def Em (l:List Ab):Nat->List VV:=λi=>A4 (l.getD i default)
def BD (fz:Bool)(l:List Ab):VV:=.sl fz l.length 3 λi=>A4 (l.getD i default)
def AV (x:Wy):List VV:=[Aa x.Esc,Aa x.Way,Aa x.With,Aa x.WithEsc,Aa x.WithWay,Aa x.Err]
def E4 (l:List Wy):Nat->List VV:=λi=>AV (l.getD i default)
def AZ (fz:Bool)(l:List Wy):VV:=.sl fz l.length 6 λi=>AV (l.getD i default)
def Bo (x:D.Env):List VV:=[AD true x.M.Globals,Ac true x.M.Init,A3 true x.M.Shapes,Ac true x.M.Chans,A9 true x.M.Procs,Aa x.M.Claim,Bc true x.M.Exprs,Ac true x.S.Globals,AG false x.S.Chans,Av false x.S.Procs,Aa x.S.Last,Aa x.S.Alone,Aa x.S.Claim,Aa x.Pid,Ad x.Timeout,AL true x.Able]
def AnN:Shp:={α:=List Pn,enc:=λy=>([],Bz true y)}
def AnQ:Shp:={α:=Ab,enc:=λy=>([],.agg (A4 y))}
def Ajn:Shp:={α:=List Ab,enc:=λy=>([],BD true y)}
def AnL:Shp:={α:=Wy,enc:=λy=>([],.agg (AV y))}
def Ajf:Shp:={α:=List Wy,enc:=λy=>([],AZ true y)}
def Aor:Shp:={α:=D.Loc,enc:=λy=>([],.agg (A0 y))}
def Al6:Shp:={α:=D.Proc,enc:=λy=>([],.agg (A6 y))}
def Ajh:Shp:={α:=D.Trans,enc:=λy=>([],.agg (DK y))}
def AnP:Shp:={α:=Bool×Int,enc:=λy=>([],.tup [Ad y.1,Aa y.2])}
def Ajk:Shp:={α:=Int×List Int×Int,enc:=λy=>([],.tup [Aa y.1,Ac true y.2.1,Aa y.2.2])}
def AnO:Shp:={α:=List Int×Int,enc:=λy=>([],.tup [Ac true y.1,Aa y.2])}
def ApO:Shp:={α:=List Wy×Int,enc:=λy=>([],.tup [AZ true y.1,Aa y.2])}
def AoB:Shp:={α:=List Int×Int,enc:=λy=>([.arr true 0 y.1.length 1 (AC y.1)],.tup [.ow 0 0 y.1.length,Aa y.2])}
def CY (f:FuncId):Shp :=
 bif Nat.beq f 58||Nat.beq f 91||Nat.beq f 245 then U4
 else bif Nat.beq f 63 then Aor
 else bif Nat.beq f 85 then Al6
 else bif Nat.beq f 62 then Ajh
 else bif Nat.beq f 94||Nat.beq f 239||Nat.beq f 240||Nat.beq f 59||Nat.beq f 241 then Xf
 else bif Nat.beq f 98 then AoB
 else bif Nat.beq f 153 then Ajk
 else bif Nat.beq f 200 then AnO
 else bif Nat.beq f 156 then Ro
 else bif Nat.beq f 228||Nat.beq f 211 then AnN
 else bif Nat.beq f 87 then AnP
 else bif Nat.beq f 179||Nat.beq f 138||Nat.beq f 180 then AnQ
 else bif Nat.beq f 90 then Ajn
 else bif Nat.beq f 86 then AnL
 else bif Nat.beq f 56 then Ajf
 else bif Nat.beq f 65 then ApO
 else DR f
def hsR (e:D.Env)(c:Int)(m:List Int)(out:List Pn):List Ob:=[.box (Af e),.box [Aa c],.box [Ac true m],.box [.ow 4 0 out.length],.arr true 0 out.length 3 (Dz out)]
def Aps:VV:=.fn (.func 238) [.bp 0 0,.bp 1 0,.bp 2 0,.bp 3 0]
def shR (e:D.Env)(c:Int)(m:List Int)(f:FuncId):Shp :=
 bif Nat.beq f 238 then{α:=List Pn×Bool,enc:=λy=>(hsR e c m y.1,Ad y.2),lend:=true}
 else bif Nat.beq f 88 then{α:=List Pn,enc:=λy=>(hsR e c m y,.tup []),lend:=true}
 else CY f
def hsW (e:D.Env)(out:List Wy):List Ob:=[.box (Af e),.box [.ow 2 0 out.length],.arr true 0 out.length 6 (E4 out)]
def Apr:VV:=.fn (.func 89) [.bp 0 0,.bp 1 0]
def shW (e:D.Env)(f:FuncId):Shp :=
 bif Nat.beq f 89 then{α:=List Wy×Bool,enc:=λy=>(hsW e y.1,Ad y.2),lend:=true}
 else bif Nat.beq f 88 then{α:=List Wy,enc:=λy=>(hsW e y,.tup []),lend:=true}
 else CY f
def SA:Ann:={keep:=fun
  | [0,1,0,1,1]=>[2,6,11,12,13]
  | _=>[]}
def Sz:Ann:={keep:=fun
  | [0,1,0,1,1,1,1,1,1,1]=>[7,9,10,53,54,55]
  | _=>[]}
def JP:Ann:={keep:=fun
  | [0,1,0,1,1]=>[2,3,6,16,17,18]
  | _=>[]}
def MH:Ann:={keep:=fun
  | [0,1,0,1,1]=>[1,2,3,7,13,14]
  | _=>[]}
def GN:Ann:={cut:=(λ| [1,1,0,0,1,1,0,0,1,0,1,1,1]=>true | _=>false),keep:=fun
  | [0,1,0,1,1,1]=>[1,2,3,7,8,16,17,18]
  | [0,1,0,1,1,1,1]=>[7,8,40,41,42]
  | [1,1,0,0,1,1,0,0,1,0,1,1,1]=>[1,2,3,7,8,9,16,17,18]
  | _=>[]}
def OX:Ann:={keep:=fun
  | [0,1,0,1]=>[0,1,7,8]
  | _=>[]}
def OW:Ann:={keep:=fun
  | [0,1,0,1]=>[0,3,7,8]
  | _=>[]}
def KM:Ann:={base:=5,keep:=fun
  | [0,1,0,1]=>[1,2,7,8,9]
  | _=>[]}
def KL:Ann:={base:=3,keep:=fun
  | [0,1,0,1]=>[1,2,7,8,9]
  | _=>[]}
def Sy:Ann:={base:=5,keep:=fun
  | [0,1,0,1]=>[0,1,2,3,4,5,11,12,13]
  | _=>[]}
def HL:Ann:={base:=3,keep:=fun
  | [0,1,0,1]=>[0,3,14,15,16]
  | [0,1,1,1,1,0,0,1,1,0,0,1,0,1]=>[0,3,9,14,15,16,39,40,41]
  | _=>[]}
def UU (e:D.Env)(l out:List Int)(k:Int):St:=Aq [(2,.bp 0 0),(6,.ow 1 0 out.length),(11,Ac true l),(12,Aa l.length),(13,Aa k)] [.box (Bo e),.arr true 0 out.length 1 (AC out)]
def Rh (c:Int)(f:List D.Type)(l:List Int)(k:Int):St:=Aq [(7,Aa c),(9,AD true f),(10,.ow 0 0 l.length),(53,.ow 0 0 l.length),(54,Aa l.length),(55,Aa k)] [.arr true 0 l.length 1 (AC l)]
def Rf (e:D.Env)(s:D.Stmt)(want:List Int)(k:Int):St:=Aq [(2,.bp 0 0),(3,.bp 1 0),(6,.ow 2 0 want.length),(16,Ac true s.Args),(17,Aa s.Args.length),(18,Aa k)] [.box (Af e),.box (An s),.arr true 0 want.length 1 (AC want)]
def Na (e:D.Env)(c:Int)(m:List Int)(out:List Pn)(k:Int):St:=Aq [(1,Aa c),(2,Ac true m),(3,.bp 0 0),(7,.ow 1 0 out.length),(13,Aa e.S.Procs.length),(14,Aa k)] [.box (Af e),.arr true 0 out.length 3 (Dz out)]
def UT (e:D.Env)(ws:List D.Trans)(self:Bool)(n:Nat)(F:Nat->List VV)(some:Bool)(k:Int):St:=Aq [(1,Aw true ws),(2,Ad self),(3,.bp 0 0),(7,.ow 1 0 n),(8,Ad some),(16,Aw true ws),(17,Aa ws.length),(18,Aa k)] [.box (Af e),.arr true 0 n 3 F]
def US (e:D.Env)(ws:List D.Trans)(self:Bool)(l:List Ab)(some:Bool)(i k:Int):St:=Aq [(1,Aw true ws),(2,Ad self),(3,.bp 0 0),(7,.ow 1 0 l.length),(8,Ad some),(9,Aa i),(16,Aw true ws),(17,Aa ws.length),(18,Aa k)] [.box (Af e),.arr true 0 l.length 3 (Em l)]
def Nb (ws:List D.Trans)(l:List Ab)(some:Bool)(k:Int):St:=Aq [(7,.ow 0 0 l.length),(8,Ad some),(40,Aw true ws),(41,Aa ws.length),(42,Aa k)] [.arr true 0 l.length 3 (Em l)]
def P6 (l:List Ab)(k:Int):St:=Aq [(0,BD true l),(1,.fn (.func 241) []),(7,Aa l.length),(8,Aa k)] []
def P5 (l:List Wy)(w:Wy)(k:Int):St:=Aq [(0,AZ true l),(3,.bp 0 0),(7,Aa l.length),(8,Aa k)] [.box (AV w)]
def K9 (e:D.Env)(c:Int)(m:List Int)(out:List Pn)(l:D.Loc)(k:Int):St:=Aq [(1,Aps),(2,.bp 5 0),(7,Bw true l.Esc),(8,Aa l.Esc.length),(9,Aa k)] (hsR e c m out++[.box (A0 l)])
def K8 (e:D.Env)(out:List Wy)(l:D.Loc)(k:Int):St:=Aq [(1,Apr),(2,.bp 3 0),(7,Bw true l.Esc),(8,Aa l.Esc.length),(9,Aa k)] (hsW e out++[.box (A0 l)])
def Rg (e:D.Env)(c:Int)(m:List Int)(out:List Pn)(i:Int)(ws:List D.Trans)(k:Int):St:=Aq [(0,Aa i),(1,Aw true ws),(2,.bp 0 0),(3,.bp 1 0),(4,.bp 2 0),(5,.bp 3 0),(11,Aw true ws),(12,Aa ws.length),(13,Aa k)] (hsR e c m out)
def Jj (e:D.Env)(out:List Wy)(i:Int)(l:List Ab)(k:Int):St:=Aq [(0,Aa i),(3,.bp 1 0),(14,BD true l),(15,Aa l.length),(16,Aa k)] (hsW e out)
def M9 (e:D.Env)(out:List Wy)(i:Int)(l:List Ab)(k:Int)(w:Wy)(ps:List Pn)(j:Int):St:=Aq [(0,Aa i),(3,.bp 1 0),(9,.bp 3 0),(14,BD true l),(15,Aa l.length),(16,Aa k),(39,Bz true ps),(40,Aa ps.length),(41,Aa j)] (hsW e out++[.box (AV w)])
def AlM (r)(e):(fc CY AW f58 [] (Aa r)).goal (St.init [] [.agg (Af e)]) =
  ∃(y:_),VC 15 [VV.agg (Ag e.M),VV.agg (Ae e.S)] (Aa y)/\BB (y != 0) (LQ (Aa y) (Aa r)) (BB (bif decide (e.Pid<0)then true else decide (e.Pid>=(↑e.S.Procs.length))) (LQ (Aa 42) (Aa r)) (LQ (Aa 0) (Aa r))):=kR
def Aim (l)(e){z1}(a:z1=e.S.Procs.getD e.Pid.toNat default):(fc CY AW f63 [] (.agg (A0 l))).goal (St.init [] [.agg (Af e)]) =
  (inX e.Pid e.S.Procs.length/\inX z1.Type_ e.M.Procs.length/\inX z1.Loc (e.M.Procs.getD z1.Type_.toNat default).Locs.length/\LQ (.agg (A0 ((e.M.Procs.getD z1.Type_.toNat default).Locs.getD z1.Loc.toNat default))) (.agg (A0 l))):=by subst a;kernel_rfl
def Aeq (p)(e):(fc CY AW f85 [] (.agg (A6 p))).goal (St.init [] [.agg (Af e)]) =
  (inX e.Pid e.S.Procs.length/\inX (e.S.Procs.getD e.Pid.toNat default).Type_ e.M.Procs.length/\LQ (VV.agg (A6 (e.M.Procs.getD (e.S.Procs.getD e.Pid.toNat default).Type_.toNat default))) (VV.agg (A6 p))):=kR
def Ael (b)(m)(x):(fc CY AW f94 [] (Ad b)).goal (St.init [] [.agg (Ag m),Aa x]) =
  (((true&&decide (x>=0)==true)->inX x m.Exprs.length)/\LQ (Ad (bif decide (x>=0)then(m.Exprs.getD x.toNat default).Op==39 else false)) (Ad b)):=kR
def Aio (hs')(r)(e)(l):(BM prog tb CY SA false f98 hs' (r)).goal (St.init [] [.agg (Bo e),Ac true l]) =
  As (BM prog tb CY SA false f98 hs' r) [1,1,0,1,0] (Aq [(2,VV.bp 0 0),(6,VV.nl),(11,Ac true l),(12,Aa (↑l.length)),(13,Aa 0)] [Ob.box (Bo e)]):=kR
def Ail (r:Int×List Int×Int)(e)(s){b}(d:b=[Aa r.fst,Ac true r.snd.fst,Aa r.snd.snd]){c}(f:c=λ(y:Int×Int)=>e.S.Chans.getD (i64.wrap (y.fst-(1:Int))).toNat default):(fc CY Sz f153 [] (.tup [Aa r.1,Ac true r.2.1,Aa r.2.2])).goal (St.init [] [.agg (Bo e),.agg (An s)]) =
  ∃(y:_),VC 194 [.agg (Bo e),Aa s.A] (vII y)/\BB (y.snd != 0) (LQ (.tup [Aa 0,.nl,Aa y.snd]) (.tup b)) (inX (i64.wrap (y.fst-(1))) e.S.Chans.length/\inX (c y).Shape e.M.Shapes.length/\BB ((↑(e.M.Shapes.getD (c y).Shape.toNat default).Fields.length) != (↑s.Args.length:Int)) (LQ (.tup [Aa 0,.nl,Aa 49]) (.tup b)) (∃(a:List Int×Int),Ai prog 98 [] [.agg (Bo e),Ac true s.Args] [.arr true 0 a.fst.length 1 (AC a.fst)] (.tup [.ow 0 0 a.fst.length,Aa a.snd])/\BB (a.snd != 0) (LQ (.tup [Aa 0,.nl,Aa a.snd]) (.tup b)) (As (fc CY Sz f153 [] (.tup b)) [1,1,1,1,1,1,1,0,1,0] (Rh y.fst (e.M.Shapes.getD (c y).Shape.toNat default).Fields a.fst (0))))):=by subst d f;kernel_rfl
def Zm (r:List Int×Int)(e)(s){z1}(a:z1=(↑s.Args.length:Int)){b}(c:b=fc CY JP f200 [] (VV.tup [Ac true r.fst,Aa r.snd])):(fc CY JP f200 [] (.tup [Ac true r.1,Aa r.2])).goal (St.init [] [.agg (Af e),.agg (An s)]) =
  (((0)<=z1/\z1<=z1/\z1*(↑8)<=140737488355328)/\As b [1,1,0,1,0] (Aq [(2,.bp 0 0),(3,.bp 1 0),(6,.ow 2 0 z1.toNat),(16,Ac true s.Args),(17,Aa z1),(18,Aa 0)] [.box (Af e),.box (An s),.arr true 0 z1.toNat 1 λ(_)=>(b.T 2).zero])):=by subst a c;kernel_rfl
def ZD (r)(e)(s){b}(d:b=λ(y:Int×Int)=>i64.wrap (y.fst-(1:Int))):(fc CY AW f156 [] (.tup [Aa r.1,Aa r.2.1,Aa r.2.2])).goal (St.init [] [.agg (Af e),.agg (An s)]) =
  ∃(y:_),VC 194 [.agg (Af e),Aa s.A] (vII y)/\BB (y.snd != 0) (LQ (.tup [Aa 0,Aa (-1),Aa y.snd]) (Kb r)) (inX (b y) e.S.Chans.length/\inX (e.S.Chans.getD (b y).toNat default).Shape e.M.Shapes.length/\BB ((↑(e.M.Shapes.getD (e.S.Chans.getD (b y).toNat default).Shape.toNat default).Fields.length) != (↑s.Args.length:Int)) (LQ (.tup [Aa 0,Aa (-1),Aa 49]) (Kb r)) (∃(a:List Int×Int),VC 200 [.agg (Af e),.agg (An s)] (.tup [Ac true a.fst,Aa a.snd])/\BB (a.snd != 0) (LQ (.tup [Aa 0,Aa (-1),Aa a.snd]) (Kb r)) (inX (b y) e.S.Chans.length/\(2)≠(0:Int)/\∃(c:_),VC 201 [.agg (Am (e.S.Chans.getD (b y).toNat default)),Ac true a.fst,Ac true s.Match,Ad (s.N.tmod (2:Int)==1)] (Aa c)/\LQ (.tup [Aa y.fst,Aa c,Aa 0]) (Kb r)))):=by subst d;kernel_rfl
def Zn (b)(e)(s)(c)(m):(fc CY AW f239 [] (Ad b)).goal (St.init [] [.agg (Af e),.agg (An s),Aa c,Ac true m]) =
  BB (bif bif s.Kind != 6 then true else decide (s.N > 1)then true else(↑s.Args.length) != (↑m.length:Int)) (LQ (Ad false) (Ad b)) (∃(y:_),VC 194 [VV.agg (Af e),Aa s.A] (vII y)/\BB (bif y.snd != 0 then true else y.fst != c) (LQ (Ad false) (Ad b)) (∃(y:List Int×Int),VC 200 [VV.agg (Af e),VV.agg (An s)] (VV.tup [Ac true y.fst,Aa y.snd])/\∃(a:_),((true&&(y.snd==0)==true)->VC 201 [VV.agg [Aa 0,VV.sl true 1 1 λ(i)=>List.take 1 (List.drop (i*1) [Ac true m])],Ac true y.fst,Ac true s.Match,Ad false] (Aa a))/\LQ (Ad (bif y.snd==0 then a==0 else false)) (Ad b))):=kR
def Zv (r)(e)(c)(m):(fc CY MH f211 [] (Bz true r)).goal (St.init [] [.agg (Af e),Aa c,Ac true m]) =
  As (fc CY MH f211 [] (Bz true r)) [1,1,0,1,0] (Aq [(1,Aa c),(2,Ac true m),(3,VV.bp 0 0),(7,VV.nl),(13,Aa (↑e.S.Procs.length)),(14,Aa 0)] [Ob.box (Af e)]):=kR
def Aep (r:Bool×Int)(e):(fc CY AW f87 [] (.tup [Ad r.1,Aa r.2])).goal (St.init [] [.agg (Af e)]) =
  ∃(y:_),VC 85 [VV.agg (Af e)] (VV.agg (A6 y))/\BB (decide (y.Provided<0)) (LQ (VV.tup [Ad true,Aa 0]) (VV.tup [Ad r.fst,Aa r.snd])) (∃(a:_),VC 97 [VV.agg (Af e),Aa y.Provided] (vII a)/\LQ (VV.tup [Ad (a.fst != 0),Aa a.snd]) (VV.tup [Ad r.fst,Aa r.snd])):=kR
def Aem (r)(e):(fc CY AW f179 [] (.agg (A4 r))).goal (St.init [] [.agg (Af e)]) =
  LQ (VV.agg [Ad (decide ((↑e.S.Procs.length:Int)<16)),Aa 0,VV.nl]) (VV.agg (A4 r)):=kR
def Aei (r)(e)(s)(self){a}(b:a=VV.agg (A4 r)){c}(d:c=∃(y:Ab),VC 179 [VV.agg (Af e)] (VV.agg (A4 y))/\LQ (VV.agg (A4 y)) a){f}(g:f=LQ (VV.agg [Ad true,Aa 0,VV.nl]) a):(fc CY AW f138 [] (.agg (A4 r))).goal (St.init [] [.agg (Af e),.agg (An s),Ad self]) =
  BB (s.Kind==1) (∃(y:_),VC 94 [.agg (Ag e.M),Aa s.A] (Ad y)/\BB y c (∃(y:_),VC 97 [.agg (Af e),Aa s.A] (vII y)/\LQ (.agg [Ad (bif y.fst != 0 then true else y.snd != 0),Aa y.snd,.nl]) a)) (BB (s.Kind==2) (∃(y:_),VC 94 [.agg (Ag e.M),Aa s.B] (Ad y)/\BB y c f) (BB (s.Kind==9) (LQ (.agg [Ad (decide ((↑e.S.Chans.length:Int)<32)),Aa 0,.nl]) a) (BB (s.Kind==5) (∃(y:_),VC 180 [.agg (Af e),.agg (An s),Ad self] (.agg (A4 y))/\LQ (.agg (A4 y)) a) (BB (s.Kind==6) (∃(y:_),VC 156 [.agg (Af e),.agg (An s)] (Kb y)/\LQ (.agg [Ad (bif decide (y.snd.fst>=0)then true else y.snd.snd != 0),Aa y.snd.snd,.nl]) a) (BB (s.Kind==7) (LQ (.agg [Ad false,Aa 0,.nl]) a) f))))):=by subst b d g;kernel_rfl
def Zr (r)(e)(s)(self){d}(g:d=λ(y:Int×Int)=>e.S.Chans.getD (i64.wrap (y.fst-(1:Int))).toNat default){b}(h:b=VV.agg (A4 r)){f}(i:f=λ(y:Int×Int)=>e.M.Shapes.getD (d y).Shape.toNat default):(fc CY AW f180 [] (.agg (A4 r))).goal (St.init [] [.agg (Af e),.agg (An s),Ad self]) =
  ∃(y:_),VC 194 [.agg (Af e),Aa s.A] (vII y)/\BB (y.snd != 0) (LQ (.agg [Ad true,Aa y.snd,.nl]) b) (inX (i64.wrap (y.fst-(1))) e.S.Chans.length/\inX (d y).Shape e.M.Shapes.length/\BB ((↑(f y).Fields.length) != (↑s.Args.length:Int)) (LQ (.agg [Ad true,Aa 49,.nl]) b) (BB (decide ((f y).Room > 0)) (LQ (.agg [Ad (decide ((↑(d y).Queue.length)<(f y).Room)),Aa 0,.nl]) b) (BB self (LQ (.agg [Ad false,Aa 0,.nl]) b) (∃(a:Int×List Int×Int),VC 153 [.agg (Af e),.agg (An s)] (.tup [Aa a.fst,Ac true a.snd.fst,Aa a.snd.snd])/\BB (a.snd.snd != 0) (LQ (.agg [Ad true,Aa a.snd.snd,.nl]) b) (∃(c:_),VC 211 [.agg (Af e),Aa y.fst,Ac true a.snd.fst] (Bz true c)/\LQ (.agg [Ad (decide ((↑c.length:Int) > 0)),Aa 0,Bz true c]) b))))):=by subst g h i;kernel_rfl
def Ain (r)(e)(ws)(self){z1}(a:z1=(↑ws.length:Int)){b}(c:b=fc CY GN f90 [] (BD true r)):(fc CY GN f90 [] (BD true r)).goal (St.init [] [.agg (Af e),Aw true ws,Ad self]) =
  (((0)<=z1/\z1<=z1/\z1*(↑40)<=140737488355328)/\As b [1,1,1,0,1,0] (Aq [(1,Aw true ws),(2,Ad self),(3,.bp 0 0),(7,.ow 1 0 z1.toNat),(8,Ad false),(16,Aw true ws),(17,Aa z1),(18,Aa 0)] [.box (Af e),.arr true 0 z1.toNat 3 λ(_)=>(b.T 176).zero])):=by subst a c;kernel_rfl
def Aet (r)(err):(fc CY AW f86 [] (.agg (AV r))).goal (St.init [] [Aa err]) =
  LQ (VV.agg [Aa (-1),Aa (-1),Aa (-1),Aa (-1),Aa (-1),Aa err]) (VV.agg (AV r)):=kR
def AeI (r:List Wy×Int)(e):(fc CY AW f65 [] (.tup [AZ true r.1,Aa r.2])).goal (St.init [] [.agg (Af e)]) =
  ∃(y:_),VC 58 [VV.agg (Af e)] (Aa y)/\BB (y != 0) (LQ (VV.tup [VV.nl,Aa y]) (VV.tup [AZ true r.fst,Aa r.snd])) (∃(y:_),VC 56 [VV.agg (Af e)] (AZ true y)/\LQ (VV.tup [AZ true y,Aa 0]) (VV.tup [AZ true r.fst,Aa r.snd])):=kR
def Aii (t)(l)(esc i):(fc CY AW f62 [] (.agg (DK t))).goal (St.init [] [.agg (A0 l),Aa esc,Aa i]) =
  BB (decide (esc<0)) (inX i l.Out.length/\LQ (VV.agg (DK (l.Out.getD i.toNat default))) (VV.agg (DK t))) (inX esc l.Esc.length/\inX i (l.Esc.getD esc.toNat []).length/\LQ (VV.agg (DK ((l.Esc.getD esc.toNat []).getD i.toNat default))) (VV.agg (DK t))):=kR
def ZG (b)(l):(fc CY AW f240 [] (Ad b)).goal (St.init [] [BD true l,.fn (.func 241) []]) =
  ∃(y:_),VC 245 [BD true l,VV.fn (Fn.func (nat_lit 241)) []] (Aa y)/\LQ (Ad (decide (y>=0))) (Ad b):=kR
def Aez (r)(l):(fc CY OX f245 [] (Aa r)).goal (St.init [] [BD true l,.fn (.func 241) []]) =
  As (fc CY OX f245 [] (Aa r)) [1,0,1,0] (P6 l (0)):=kR
def Aex (b)(x):(fc CY AW f241 [] (Ad b)).goal (St.init [] [.agg (A4 x)]) =
  LQ (Ad x.is) (Ad b):=kR
def ZF (b)(l)(w):(fc CY AW f59 [] (Ad b)).goal (St.init [] [AZ true l,.agg (AV w)]) =
  ∃(y:_),VC 91 [AZ true l,VV.agg (AV w)] (Aa y)/\LQ (Ad (decide (y>=0))) (Ad b):=kR
def Aey (r)(l)(w):(fc CY OW f91 [] (Aa r)).goal (St.init [] [AZ true l,.agg (AV w)]) =
  As (fc CY OW f91 [] (Aa r)) [1,0,1,0] (P5 l w (0)):=kR
def Aen (r)(e)(c)(m):(BM prog tb (shR e c m) AW true f228 [] (Bz true r)).goal (St.init [] [.agg (Af e),Aa c,Ac true m]) =
  ∃(y:Bool×Int),VC 87 [VV.agg (Af e)] (VV.tup [Ad y.fst,Aa y.snd])/\BB (bif !y.fst then true else y.snd != 0) (LQ VV.nl (Bz true r)) (∃(y:_),VC 63 [VV.agg (Af e)] (VV.agg (A0 y))/\∃(a:_),Ai prog 88 [Ob.box (Af e),Ob.box [Aa c],Ob.box [Ac true m],Ob.box [VV.nl]] [VV.agg (A0 y),VV.fn (Fn.func (nat_lit 238)) [VV.bp 0 0,VV.bp 1 0,VV.bp 2 0,VV.bp 3 0]] (hsR e c m a) (VV.tup [])/\LQ (Bz true a) (Bz true r)):=kR
def Wg (r out)(e)(c)(m)(l):(BM prog tb (shR e c m) KM true f88 (hsR e c m r) (.tup [])).goal (St.init (hsR e c m out) [.agg (A0 l),Aps]) =
  As (fc (shR e c m) KM f88 (hsR e c m r) (VV.tup [])) [1,0,1,0] (K9 e c m out l (0)):=kR
def Wf (r out)(e)(l):(BM prog tb (shW e) KL true f88 (hsW e r) (.tup [])).goal (St.init (hsW e out) [.agg (A0 l),Apr]) =
  As (fc (shW e) KL f88 (hsW e r) (VV.tup [])) [1,0,1,0] (K8 e out l (0)):=kR
def Aij (r out)(b)(e)(c)(m)(i)(ws):(fc CY Sy f238 (hsR e c m r) (Ad b)).goal (St.init (hsR e c m out) [Aa i,Aw true ws,.bp 0 0,.bp 1 0,.bp 2 0,.bp 3 0]) =
  As (fc CY Sy f238 (hsR e c m r) (Ad b)) [1,0,1,0] (Rg e c m out i ws (0)):=kR
def Aik (r out)(b)(e)(i)(ws):(fc CY HL f89 (hsW e r) (Ad b)).goal (St.init (hsW e out) [Aa i,Aw true ws,.bp 0 0,.bp 1 0]) =
  ∃(y:_),VC 90 [VV.agg (Af e),Aw true ws,Ad false] (BD true y)/\As (fc CY HL f89 (hsW e r) (Ad b)) [1,0,1,0] (Jj e out i y (0)):=kR
def Zu (r)(e){b}(c:b=AZ true r):(BM prog tb (shW e) AW true f56 [] (AZ true r)).goal (St.init [] [.agg (Af e)]) =
  (inX e.Pid e.S.Procs.length/\∃(y:_),VC 85 [.agg (Af e)] (.agg (A6 y))/\BB ((e.S.Procs.getD e.Pid.toNat default).Loc==y.Final) (BB (e.Pid==i64.wrap ((↑e.S.Procs.length)-(1))) (∃(y:_),VC 86 [Aa 0] (.agg (AV y))/\LQ (.sl true 1 6 λ(i)=>List.take 6 (List.drop (i*6) (AV y))) b) (LQ .nl b)) (∃(y:Bool×Int),VC 87 [.agg (Af e)] (.tup [Ad y.fst,Aa y.snd])/\BB (y.snd != 0) (∃(a:_),VC 86 [Aa y.snd] (.agg (AV a))/\LQ (.sl true 1 6 λ(i)=>List.take 6 (List.drop (i*6) (AV a))) b) (BB (!y.fst) (LQ .nl b) (∃(y:_),VC 63 [.agg (Af e)] (.agg (A0 y))/\∃(a:_),Ai prog 88 [.box (Af e),.box [.nl]] [.agg (A0 y),.fn (Fn.func (nat_lit 89)) [.bp 0 0,.bp 1 0]] (hsW e a) (.tup [])/\LQ (AZ true a) b)))):=by subst c;kernel_rfl
def AeG (hs')(r)(e)(l out)(k)(J):((BM prog tb CY SA false f98 hs' (r)).loop [1,1,0,1,0] J).goal (UU e l out k) =
  BB (decide (k<(↑l.length))) (inX k l.length/\∃(y:_),VC 97 [VV.agg (Bo e),Aa (l.getD k.toNat 0)] (vII y)/\BB (y.snd != 0) (leO [] hs'/\(VV.tup [VV.nl,Aa y.snd]).le r) ((out.length+1)*8<=140737488355328/\J (Aq [(2,VV.bp 0 0),(6,VV.ow 1 0 (out.length+1)),(11,Ac true l),(12,Aa (↑l.length)),(13,Aa (i64.wrap (k+(1))))] [Ob.box (Bo e),Ob.arr true 0 (out.length+1) 1 λ(i)=>bif i.blt out.length then[Aa (out.getD i 0)]else(λ(i)=>List.take 1 (List.drop (i*1) [Aa y.fst])) (i-out.length)]))) (leO [Ob.arr true 0 out.length 1 (AC out)] hs'/\(VV.tup [VV.ow 0 0 out.length,Aa 0]).le r):=kR
def Aev (r:Int×List Int×Int)(c)(f)(l)(k)(J):((fc CY Sz f153 [] (.tup [Aa r.1,Ac true r.2.1,Aa r.2.2])).loop [1,1,1,1,1,1,1,0,1,0] J).goal (Rh c f l k) =
  BB (decide (k<(↑l.length))) (inX k l.length/\inX k f.length/\∃(y:_),VC 193 [VV.agg (Bn (f.getD k.toNat default)),Aa (l.getD k.toNat 0)] (Aa y)/\inX k l.length/\J (Aq [(7,Aa c),(9,AD true f),(10,VV.ow 0 0 l.length),(53,VV.ow 0 0 l.length),(54,Aa (↑l.length)),(55,Aa (i64.wrap (k+(1))))] [Ob.arr true 0 l.length 1 λ(j)=>bif j.beq k.toNat then[Aa y]else[Aa (l.getD j 0)]])) (LQ (VV.tup [Aa c,Ac true l,Aa 0]) (VV.tup [Aa r.fst,Ac true r.snd.fst,Aa r.snd.snd])):=kR
def V6 (r:List Int×Int)(e)(s)(want)(k)(J):((fc CY JP f200 [] (.tup [Ac true r.1,Aa r.2])).loop [1,1,0,1,0] J).goal (Rf e s want k) =
  BB (decide (k<(↑s.Args.length))) (inX k s.Args.length/\inX k s.Match.length/\BB (s.Match.getD k.toNat 0 != 1) (J (Rf e s want (i64.wrap (k+(1))))) (∃(y:_),VC 97 [VV.agg (Af e),Aa (s.Args.getD k.toNat 0)] (vII y)/\BB (y.snd != 0) (LQ (VV.tup [VV.nl,Aa y.snd]) (VV.tup [Ac true r.fst,Aa r.snd])) (inX k want.length/\J (Aq [(2,VV.bp 0 0),(3,VV.bp 1 0),(6,VV.ow 2 0 want.length),(16,Ac true s.Args),(17,Aa (↑s.Args.length)),(18,Aa (i64.wrap (k+(1))))] [Ob.box (Af e),Ob.box (An s),Ob.arr true 0 want.length 1 λ(j)=>bif j.beq k.toNat then[Aa y.fst]else[Aa (want.getD j 0)]])))) (LQ (VV.tup [Ac true want,Aa 0]) (VV.tup [Ac true r.fst,Aa r.snd])):=kR
def We (r)(e)(c)(m)(out)(k)(J):((fc CY MH f211 [] (Bz true r)).loop [1,1,0,1,0] J).goal (Na e c m out k) =
  BB (decide (k<(↑e.S.Procs.length))) (BB (k != e.Pid) (∃(y:_),VC 228 [VV.agg [AD true e.M.Globals,Ac true e.M.Init,A3 true e.M.Shapes,Ac true e.M.Chans,A9 true e.M.Procs,Aa e.M.Claim,Bc true e.M.Exprs,Ac true e.S.Globals,AG true e.S.Chans,Av true e.S.Procs,Aa e.S.Last,Aa e.S.Alone,Aa e.S.Claim,Aa k,Ad e.Timeout,AL true e.Able],Aa c,Ac true m] (Bz true y)/\(out.length+y.length)*24<=140737488355328/\(∀(i),i<y.length->(Dz y i).all VV.mem1)/\J (Aq [(1,Aa c),(2,Ac true m),(3,VV.bp 0 0),(7,VV.ow 1 0 (out.length+y.length)),(13,Aa (↑e.S.Procs.length)),(14,Aa (i64.wrap (k+(1))))] [Ob.box (Af e),Ob.arr true 0 (out.length+y.length) 3 λ(i)=>bif i.blt out.length then Dz out i else Dz y (i-out.length)])) (J (Na e c m out (i64.wrap (k+(1)))))) (LQ (Bz true out) (Bz true r)):=kR
def AeF (r)(e)(ws)(self)(n)(F)(some)(k)(J){a}(b:a=fc CY GN f90 [] (BD true r)):((fc CY GN f90 [] (BD true r)).loop [1,1,1,0,1,0] J).goal (UT e ws self n F some k) =
  BB (decide (k<(↑ws.length))) (inX k ws.length/\∃(y:_),VC 138 [.agg (Af e),.agg (An (ws.getD k.toNat default).S),Ad self] (.agg (A4 y))/\inX k n/\As (a.loop [1,1,1,0,1,0] J) [1,1,0,0,1,1] (Aq [(1,Aw true ws),(2,Ad self),(3,.bp 0 0),(7,.ow 1 0 n),(8,Ad some),(9,Aa k),(16,Aw true ws),(17,Aa (↑ws.length)),(18,Aa k)] [.box (Af e),.arr true 0 n 3 λ(j)=>bif j.beq k.toNat then A4 y else F j])) (As a [1,1,1,1,0,1,0] (Aq [(7,.ow 0 0 n),(8,Ad some),(40,Aw true ws),(41,Aa (↑ws.length)),(42,Aa 0)] [.arr true 0 n 3 F])):=by subst b;kernel_rfl
def AeD (r)(e)(ws)(self)(l)(some)(i k)(J):(((fc CY GN f90 [] (BD true r)).loop [1,1,1,0,1,0] J).cut [1,1,0,0,1,1]).goal (US e ws self l some i k) =
  (((true&&some==false)->inX i l.length)/\J (Aq [(1,Aw true ws),(2,Ad self),(3,VV.bp 0 0),(7,VV.ow 1 0 l.length),(8,Ad (bif some then true else(l.getD i.toNat default).is)),(16,Aw true ws),(17,Aa (↑ws.length)),(18,Aa (i64.wrap (k+(1))))] [Ob.box (Af e),Ob.arr true 0 l.length 3 (Em l)])):=kR
def AeE (r)(ws)(l)(some)(k)(J):((fc CY GN f90 [] (BD true r)).loop [1,1,1,1,0,1,0] J).goal (Nb ws l some k) =
  BB (decide (k<(↑ws.length))) (inX k ws.length/\BB (bif(ws.getD k.toNat default).S.Kind==7 then !some else false) (inX k l.length/\J (Aq [(7,VV.ow 0 0 l.length),(8,Ad some),(40,Aw true ws),(41,Aa (↑ws.length)),(42,Aa (i64.wrap (k+(1))))] [Ob.arr true 0 l.length 3 λ(j)=>bif j.beq k.toNat then[Ad true,Aa (l.getD k.toNat default).err,Bz true (l.getD k.toNat default).wth]else A4 (l.getD j default)])) (J (Nb ws l some (i64.wrap (k+(1)))))) (LQ (BD true l) (BD true r)):=kR
def ZB (r)(l)(k)(J):((fc CY OX f245 [] (Aa r)).loop [1,0,1,0] J).goal (P6 l k) =
  BB (decide (k<(↑l.length))) (inX k l.length/\∃(y:_),VC 241 [VV.agg (A4 (l.getD k.toNat default))] (Ad y)/\BB y (LQ (Aa k) (Aa r)) (J (P6 l (i64.wrap (k+(1)))))) (LQ (Aa (-1)) (Aa r)):=kR
def Zz (r)(l)(w)(k)(J){z1}(a:z1=l.getD k.toNat default):((fc CY OW f91 [] (Aa r)).loop [1,0,1,0] J).goal (P5 l w k) =
  BB (decide (k<(↑l.length))) (inX k l.length/\BB (w.Esc==z1.Esc&&(w.Way==z1.Way&&(w.With==z1.With&&(w.WithEsc==z1.WithEsc&&(w.WithWay==z1.WithWay&&(w.Err==z1.Err&&true)))))) (LQ (Aa k) (Aa r)) (J (P5 l w (i64.wrap (k+(1)))))) (LQ (Aa (-1)) (Aa r)):=by subst a;kernel_rfl
def UD (r)(e)(c)(m)(out)(l)(k)(J):((BM prog tb (shR e c m) KM true f88 (hsR e c m r) (.tup [])).loop [1,0,1,0] J).goal (K9 e c m out l k) =
  BB (decide (k<(↑l.Esc.length))) (inX k l.Esc.length/\∃(y:List Pn×Bool),Ai prog 238 (hsR e c m out) [Aa k,Aw true (l.Esc.getD k.toNat []),VV.bp 0 0,VV.bp 1 0,VV.bp 2 0,VV.bp 3 0] (hsR e c m y.fst) (Ad y.snd)/\BB y.snd (leO (hsR e c m y.fst) (hsR e c m r)/\(VV.tup []).le (VV.tup [])) (J (K9 e c m y.fst l (i64.wrap (k+(1)))))) (∃(y:List Pn×Bool),Ai prog 238 (hsR e c m out) [Aa (-1),Aw true l.Out,VV.bp 0 0,VV.bp 1 0,VV.bp 2 0,VV.bp 3 0] (hsR e c m y.fst) (Ad y.snd)/\leO (hsR e c m y.fst) (hsR e c m r)/\(VV.tup []).le (VV.tup [])):=kR
def UB (r)(e)(out)(l)(k)(J):((BM prog tb (shW e) KL true f88 (hsW e r) (.tup [])).loop [1,0,1,0] J).goal (K8 e out l k) =
  BB (decide (k<(↑l.Esc.length))) (inX k l.Esc.length/\∃(y:List Wy×Bool),Ai prog 89 (hsW e out) [Aa k,Aw true (l.Esc.getD k.toNat []),VV.bp 0 0,VV.bp 1 0] (hsW e y.fst) (Ad y.snd)/\BB y.snd (leO (hsW e y.fst) (hsW e r)/\(VV.tup []).le (VV.tup [])) (J (K8 e y.fst l (i64.wrap (k+(1)))))) (∃(y:List Wy×Bool),Ai prog 89 (hsW e out) [Aa (-1),Aw true l.Out,VV.bp 0 0,VV.bp 1 0] (hsW e y.fst) (Ad y.snd)/\leO (hsW e y.fst) (hsW e r)/\(VV.tup []).le (VV.tup [])):=kR
def Aeo (r)(b)(e)(c)(m)(out)(i)(ws)(k)(J){d}(f:d=(true&&decide ((↑out.length:Int) > 0)==false)):((fc CY Sy f238 (hsR e c m r) (Ad b)).loop [1,0,1,0] J).goal (Rg e c m out i ws k) =
  BB (decide (k<(↑ws.length))) (inX k ws.length/\∃(y:_),VC 239 [.agg (Af e),.agg (An (ws.getD k.toNat default).S),Aa c,Ac true m] (Ad y)/\BB y ((out.length+1)*24<=140737488355328/\J (Aq [(0,Aa i),(1,Aw true ws),(2,.bp 0 0),(3,.bp 1 0),(4,.bp 2 0),(5,.bp 3 0),(11,Aw true ws),(12,Aa (↑ws.length)),(13,Aa (i64.wrap (k+(1))))] [.box (Af e),.box [Aa c],.box [Ac true m],.box [.ow 4 0 (out.length+1)],.arr true 0 (out.length+1) 3 λ(i_1)=>bif i_1.blt out.length then GW (out.getD i_1 default)else(λ(i_2)=>List.take 3 (List.drop (i_2*3) [Aa e.Pid,Aa i,Aa k])) (i_1-out.length)])) (J (Rg e c m out i ws (i64.wrap (k+(1)))))) (∃(y:_),(d->VC 90 [.agg (Af e),Aw true ws,Ad true] (BD true y))/\∃(a:_),(d->VC 240 [BD true y,.fn (Fn.func (nat_lit 241)) []] (Ad a))/\leO (hsR e c m out) (hsR e c m r)/\(Ad (bif decide ((↑out.length:Int) > 0)then true else a)).le (Ad b)):=by subst f;kernel_rfl
def Aes (r)(b)(e)(out)(i)(l)(k)(J){c}(d:c=[(0,Aa i),(3,VV.bp 1 0),(9,VV.bp 3 0),(14,BD true l),(15,Aa (↑l.length:Int)),(16,Aa k),(39,Bz true (l.getD k.toNat default).wth),(40,Aa (↑(l.getD k.toNat default).wth.length:Int)),(41,Aa 0)]){a}(f:a=[Aa i,Aa k,Aa (-1),Aa (-1),Aa (-1),Aa (l.getD k.toNat default).err]){g}(h:g=(fc CY HL f89 (hsW e r) (Ad b)).loop [1,0,1,0] J):((fc CY HL f89 (hsW e r) (Ad b)).loop [1,0,1,0] J).goal (Jj e out i l k) =
  BB (decide (k<(↑l.length))) (inX k l.length/\BB (bif(l.getD k.toNat default).is then(↑(l.getD k.toNat default).wth.length:Int)==0 else false) ((out.length+1)*48<=140737488355328/\As g [1,1,0,0,1,1,1,1,0] (Aq c [.box (Af e),.box [.ow 2 0 (out.length+1)],.arr true 0 (out.length+1) 6 λ(i_1)=>bif i_1.blt out.length then AV (out.getD i_1 default)else(λ(i_2)=>List.take 6 (List.drop (i_2*6) a)) (i_1-out.length),.box a])) (As g [1,1,0,0,1,1,1,1,0] (Aq c [.box (Af e),.box [.ow 2 0 out.length],.arr true 0 out.length 6 (E4 out),.box a]))) (leO (hsW e out) (hsW e r)/\(Ad (decide ((↑out.length:Int) > 0))).le (Ad b)):=by subst d f h;kernel_rfl
def Aer (r)(b)(e)(out)(i)(l)(k)(w)(ps)(j)(J J2){a}(c:a=[Aa w.Esc,Aa w.Way,Aa (ps.getD j.toNat default).pid,Aa (ps.getD j.toNat default).esc,Aa (ps.getD j.toNat default).way,Aa w.Err]):(((fc CY HL f89 (hsW e r) (Ad b)).loop [1,0,1,0] J).loop [1,1,0,0,1,1,1,1,0] J2).goal (M9 e out i l k w ps j) =
  BB (decide (j<(↑ps.length))) (inX j ps.length/\(out.length+1)*48<=140737488355328/\J2 (Aq [(0,Aa i),(3,.bp 1 0),(9,.bp 3 0),(14,BD true l),(15,Aa (↑l.length)),(16,Aa k),(39,Bz true ps),(40,Aa (↑ps.length)),(41,Aa (i64.wrap (j+(1))))] [.box (Af e),.box [.ow 2 0 (out.length+1)],.arr true 0 (out.length+1) 6 λ(i)=>bif i.blt out.length then AV (out.getD i default)else(λ(i)=>List.take 6 (List.drop (i*6) a)) (i-out.length),.box a])) (J (Jj e out i l (i64.wrap (k+(1))))):=by subst c;kernel_rfl
end Go.Proofs.YtggokmjgegoanaaGreatDoor
namespace Go.Proofs.YtggokmjgegoanaaGreatDoor
open Go.RowKit Go.Proofs.Tryz
open IntKind(i64)
structure Ci (e:D.Env):Prop where
 ok:BF e
 p0:0<=e.Pid
section
variable {e : D.Env}
def AhD (b:AR e.M)(h:HD e=0):Ci e:=by
 unfold HD at h;cases a:decide (Cz e.M e.S≠0)with
 | true=>grind
 | false =>
  rw[a,AqJ]at h;obtain⟨h1,h2⟩:=MF (show Cz e.M e.S=0 by simpa using a);cases c:(decide (e.Pid<0)||decide ((e.S.Procs.length:Int)<=e.Pid))with
  | true=>grind
  | false =>
   simp only[Aq1,Arf]at c;exact⟨⟨h2,h1,b,oM,oM⟩,oM⟩
def Ci.small (h:Ci e):BZ e.S:=h.ok.fit.small
def Ci.lt (h:Ci e):e.Pid.toNat<e.S.Procs.length:=by have:=h.ok.pid;have:=h.p0;omega
def Ci.mem (h:Ci e):DA e e.Pid∈e.S.Procs:=Au h.lt
def Ci.facts (h:Ci e):(0<=(DA e e.Pid).Type_/\(DA e e.Pid).Type_<e.M.Procs.length)/\0<=(DA e e.Pid).Loc/\(DA e e.Pid).Loc<(CS e).Locs.length :=
 let hp:=DN (h.ok.proc h.mem);⟨hp.1,hp.2.1⟩
def Ci.wproc (h:Ci e):G0 (CS e):=h.ok.wf.Procs.2 _ (Au (by have:=h.facts.1;omega))
def Ci.wloc (h:Ci e):UE (CB e):=h.wproc.Locs.2 _ (Au (by have:=h.facts.2;omega))
def Wk (a:AR e.M)(hs:BZ e.S):Ai prog 58 [] [.agg (Af e)] [] (Aa (HD e)):=by
 refine Ax func58 (AlM _ e) ⟨_,FM a hs (λh=>(GR h).clp),λh=>BW (ct (by simpa using h) rfl),λh=>⟨λh1=>BW (cf (by simpa using h) (ct ?_ rfl)),λh1=>BW (cf (by simpa using h) (cf ?_ rfl))⟩⟩
 .grind
 grind
def KY (h:Ci e):Ai prog 63 [] [.agg (Af e)] [] (.agg (A0 (CB e))) :=
 Ax func63 (Aim _ e rfl) ⟨⟨h.p0,h.ok.pid.2⟩,h.facts.1,h.facts.2,trivial,lR⟩
def QL (h:Ci e):Ai prog 85 [] [.agg (Af e)] [] (.agg (A6 (CS e))) :=
 Ax func85 (Aeq _ e) ⟨⟨h.p0,h.ok.pid.2⟩,h.facts.1,trivial,lR⟩
def Jd {x:Int}(h:0<=x->x<e.M.Exprs.length):Ai prog 94 [] [.agg (Ag e.M),Aa x] [] (Ad (CJ e x)):=by
 refine Ax func94 (Ael _ e.M x) ⟨λa=>?_,AA ?_⟩
 .grind
 .unfold CJ Ar;rw[Be,ieq]
def QJ:Ai prog 179 [] [.agg (Af e)] [] (.agg (A4 (IK e))):=by
 refine Ax func179 (Aem _ e) ⟨trivial,Arw ⟨ArR ?_,lR,Arc,trivial⟩⟩;have:decide ((e.S.Procs.length:Int)<16)=decide (e.S.Procs.length<16):=gD
 rw[this]<;>rfl
def QM {err}:Ai prog 86 [] [Aa err] [] (.agg (AV (IT err))) :=
 Ax func86 (Aet _ err) ⟨trivial,lR⟩
def Aeh {l}{esc i}(h1:esc<0->0<=i/\i<l.Out.length)(h2:0<=esc->esc<l.Esc.length/\0<=i/\i<(l.Esc.getD esc.toNat []).length) :
  Ai prog 62 [] [.agg (A0 l),Aa esc,Aa i] [] (.agg (DK ((bif decide (esc<0)then l.Out else l.Esc.getD esc.toNat []).getD i.toNat default))):=by
 refine Ax func62 (Aii _ l esc i) ⟨λh=>⟨h1 (by simpa using h),trivial,?_⟩,λh=>?_⟩
 .rw[h,AqL];exact lR
 .have h0:0<=esc:=by simpa using h
  refine⟨⟨h0,(h2 h0).1⟩,(h2 h0).2,trivial,?_⟩;rw[h,AqJ];exact lR
def LO {ev}{out}{x}{l}:Iy ev out (x::l)=bif decide ((ev x).2≠0)then([],(ev x).2)else Iy ev (out++[(ev x).1]) l:=rfl
def Wl {l}{hs'}{r}(c:∀x∈l,Ai prog 97 [] [.agg (Bo e),Aa x] [] (vII (Bh e x)))(q:l.length<=1048576)
  (h1:∀er,Bx e l=([],er)->er≠0->leO [] hs'/\VV.le (.tup [.nl,Aa er]) r) (h2:∀out,Bx e l=(out,0)->leO [.arr true 0 out.length 1 (AC out)] hs'/\VV.le (.tup [.ow 0 0 out.length,Aa 0]) r) :
  Ai prog 98 [] [.agg (Bo e),Ac true l] hs' r:=by
 refine Ax func98 (Aio hs' r e l) ?_;refine As.own 1 6 1 (AC []) rfl ?_;change As _ _ (UU e l [] 0);refine Ay (λg st=>∃(k:Nat)(out:List Int),k<=l.length/\g=l.length-k/\out.length<=k/\Iy (Bh e) out (l.drop k)=Bx e l/\st=UU e l out k) ⟨_,Up.of ⟨0,[],AqN _,rfl,AqN _,rfl,rfl⟩⟩ ?_;rintro g st ⟨k,out,hk,rfl,s,h,rfl⟩;refine AqU (AeG hs' r e l out k _) ⟨λj=>?_,λm=>?_⟩
 .have a:k<l.length:=by have:=AP j;omega
  have o:(k:Int).toNat=k:=oM
  rw[o];rw[Bq (d:=0) a,LO]at h;refine⟨⟨oM,oM⟩,Bh e (l.getD k 0),c _ (Au a),λp=>?_,λp=>⟨oM,l.length-(k+1),oM,Up.mk (hs':=[.box (Bo e),.arr true 0 (out.length+1) 1 (AC (out++[(Bh e (l.getD k 0)).1]))]) (AK _) ⟨Ob.le_refl _,Ard λi hi=>AN (Bu (f:=λn=>[Aa n]) (d:=0) (l:=out) (r:=[(Bh e (l.getD k 0)).1]) (F:=λi=>[.sc (.int .i64 (out.getD i 0))]) (λ_ _=>rfl) Ff (by simp;omega)),trivial⟩ ⟨k+1,out++[(Bh e (l.getD k 0)).1],oM,rfl,by simp;omega,?_,?_⟩⟩⟩
  .grind
  .grind
  .rw[Al oM];unfold UU;simp_all
 .have b:l.length<=k:=by have:=AQ m;omega
  rw[Aq9 b]at h;exact h2 out h.symm
def Oe {l}(a:∀x∈l,Ai prog 97 [] [.agg (Bo e),Aa x] [] (vII (Bh e x)))(f:l.length<=1048576) :
  Ai prog 98 [] [.agg (Bo e),Ac true l] [.arr true 0 (Bx e l).1.length 1 (AC (Bx e l).1)] (.tup [.ow 0 0 (Bx e l).1.length,Aa (Bx e l).2]):=by
 rcases c:Bx e l with⟨out,er⟩
 by_cases g:er=0
 .subst g;refine Wl a f (λer' h i=>?_) λout' h=>?_
  .grind
  .rw[c]at h;obtain rfl:out=out':=congrArg Prod.fst h;exact⟨⟨Ob.le_refl _,trivial⟩,lR⟩
 .have b:out=[]:=by
   have d:∀(l:List Int)(o:List Int),(Iy (Bh e) o l).2≠0->(Iy (Bh e) o l).1=[]:=by
    intro l
    induction l with
    | nil=>intro o h;exact absurd rfl h
    | cons x l ih =>
     intro o h;rw[LO]at h |-;grind
   have:=d l [] (by have:Iy (Bh e) [] l=(out,er):=c;rw[this];exact g);have j:Iy (Bh e) [] l=(out,er):=c;rw[j]at this;exact this
  subst b;have h:=Wl (hs':=[]) (r:=.tup [.nl,Aa er]) a f (λer' h i=>?_) λout' h=>?_
  .exact h.ownR 0 rfl 1 (AC [])
  .rw[c]at h;obtain rfl:er=er':=congrArg Prod.snd h;exact⟨trivial,lR⟩
  grind
end
def Br {x}(a:x.mem):Q7 x x:=λ_ E _ h B =>
 (h.mem (E':=⟨E.fz,B,0,[]⟩) (m':=none) a rfl).less (λ_ h=>h.elim) λ_ h=>h
def IC:∀{l},l.all VV.mem->Kg l l
 | [],_=>trivial
 | x::l,h=>by
  simp only[AsA,AqI]at h;exact⟨Br h.1,IC h.2⟩
def M7 {e}:Q7 (.agg (Bo e)) (.agg (Af e)) :=
 WI ⟨Br rfl,Br rfl,Br rfl,Br rfl,Br rfl,Br rfl,Br rfl,Br rfl,P3 λ_ _=>IC rfl,P3 λ_ _=>IC rfl,Br rfl,Br rfl,Br rfl,Br rfl,Br rfl,Br rfl,trivial⟩
theorem Am3 {e}:leS (.agg (Af e)) (.agg (Bo e)):=by
 refine VD rfl λj x y a b=>?_
 rcases Arp j 16 with hj|hj
 .rcases(show j=0\/j=1\/j=2\/j=3\/j=4\/j=5\/j=6\/j=7\/j=8\/j=9\/j=10\/j=11\/j=12\/j=13\/j=14\/j=15 by omega)with rfl|rfl|rfl|rfl|rfl|rfl|rfl|rfl|rfl|rfl|rfl|rfl|rfl|rfl|rfl|rfl <;>
   (obtain rfl:=Aq8 a;obtain rfl:=Aq8 b;first | exact Db _ | exact It)
 .rw[ArX (by show(16:Nat)<=j;exact hj)]at a;cases a
section
variable {e : D.Env}
def Sk (b:AR e.M)(hs:BZ e.S)(x):Ai prog 97 [] [.agg (Bo e),Aa x] [] (vII (Bh e x)) :=
 (JH b hs x).thaw (Lo λx a=>by
  simp only[Ary,List.not_mem_nil,or_false]at a;rcases a with rfl|rfl<;>exact Kw) ⟨M7,P4,trivial⟩
def App (b:AR e.M)(hs:BZ e.S)(x):Ai prog 194 [] [.agg (Bo e),Aa x] [] (vII (AJ e x)) :=
 (JI b hs x).thaw (Lo λx a=>by
  simp only[Ary,List.not_mem_nil,or_false]at a;rcases a with rfl|rfl<;>exact Kw) ⟨M7,P4,trivial⟩
def KG (t)(v):Ai prog 193 [] [.agg (Bn t),Aa v] [] (Aa (HC t v)):=by
 refine Ai.hand ⟨_,func193,rfl,kR⟩ λw E vs h i hB _ c=>?_
 obtain⟨j,us1,rfl,d,c⟩:=c.cons_inv;obtain⟨k,us2,rfl,f,c⟩:=c.cons_inv;obtain rfl:=c.nil_inv;obtain⟨a,b,rfl,va,vb⟩:=d.agg2_inv;rw[va.sc_inv,vb.sc_inv,f.sc_inv];refine(Aqx t.Bits v t.Signed w).mono ?_;rintro r w' ⟨rfl,g⟩;exact⟨_,rfl,.sc,g⟩
structure Aie (e:D.Env) (n:Int):Prop where
 ok:BF e
 lo:1<=n
 hi:n<=e.S.Chans.length
 le:e.S.Chans.length<=32
 sh:0<=(BQ e n).Shape/\(BQ e n).Shape<e.M.Shapes.length
 q:(BQ e n).Queue.length<=16
theorem Fc (g:AR e.M){x}(h:(AJ e x).2=0):Aie e (AJ e x).1:=by
 unfold AJ at h |-;cases c:decide (C6 e x≠0)with
 | true=>grind
 | false =>
  rw[c,AqJ]at h;rw[AqJ];obtain⟨b,_,_⟩:=MD (x:=x) g (by simpa using c);have d:=QG b (a:=x) (by simpa using h);generalize(CV e (PO e e.M.Exprs.length) x).1=n at d |-;have f:BQ e n∈e.S.Chans:=Au oM;exact⟨b,d.1,d.2.1,d.2.2,(ER (b.chan f)).1,(b.fit.q _ f).1⟩
def Gg {a b:Nat}:((a) != (b:Int))=decide (a≠b):=gD
def Aqa {a c}{l}{r}(h:(a,l,c)=r):leO [] []/\VV.le (.tup [.sc (.int .i64 a),Ac true l,.sc (.int .i64 c)]) (.tup [.sc (.int .i64 r.1),Ac true r.2.1,.sc (.int .i64 r.2.2)]):=by
 subst h;exact⟨trivial,lR⟩
def Ab5 {a c}{r}(h:(a,[],c)=r):leO [] []/\VV.le (.tup [.sc (.int .i64 a),.nl,.sc (.int .i64 c)]) (.tup [.sc (.int .i64 r.1),Ac true r.2.1,.sc (.int .i64 r.2.2)]):=by
 subst h;exact⟨trivial,ArG ⟨lR,Arc,lR,trivial⟩⟩
def Ja {l}(h:(Bx e l).2=0):(Bx e l).1.length=l.length:=by
 have a:∀(l o:List Int),(Iy (Bh e) o l).2=0->(Iy (Bh e) o l).1.length=o.length+l.length:=by
  intro l
  induction l with
  | nil=>intro o _;rfl
  | cons x l ih =>
   intro o h;rw[LO]at h |-;grind
 have:=a l [] h;simpa[Bx]using this
def KH (f:List D.Type)(l:List Int)(k:Nat):List Int:=(List.range l.length).map λi=>if i<k then HC (f.getD i default) (l.getD i 0)else l.getD i 0
theorem LA {f}{l}{k}:(KH f l k).length=l.length:=by simp[KH]
def LB {f}{l}{k i}(hi:i<l.length):(KH f l k).getD i 0=if i<k then HC (f.getD i default) (l.getD i 0)else l.getD i 0:=by simp[KH,List.getD,hi]
def Acr {f}{l}:KH f l 0=l:=by
 apply List.ext_getElem (by simp[KH]);intro i h1 h2;simp[KH,List.getD,h2]
theorem Ahy {f}{l}:KH f l l.length=G7 f l:=by
 unfold KH G7;simp_all
def QN {s}(p:AR e.M)(hs:BZ e.S)(w:s.Args.length<=1048576) :
  Ai prog 153 [] [.agg (Bo e),.agg (An s)] [] (.tup [Aa (AB e s).1,Ac true (AB e s).2.1,Aa (AB e s).2.2]):=by
 have a:AB e s=bif decide ((AJ e s.A).2≠0)then(0,[],(AJ e s.A).2)
  else bif decide ((Bd e (AJ e s.A).1).length≠s.Args.length)then(0,[],49)
  else bif decide ((Bx e s.Args).2≠0)then(0,[],(Bx e s.Args).2)
  else((AJ e s.A).1,G7 (Bd e (AJ e s.A).1) (Bx e s.Args).1,0):=rfl
 generalize AB e s=r at a;refine Ax func153 (Ail r e s rfl rfl) ⟨AJ e s.A,App p hs s.A,λh=>Ab5 ?_,λh=>?_⟩
 .grind
 have h0:(AJ e s.A).2=0:=by simpa using h
 rw[h0]at a;have d:=Fc p h0;generalize(AJ e s.A).1=n at d a |-;have h1:=d.lo;have h2:=d.hi;have h3:=d.le;rw[AS oM oM];refine⟨oM,d.sh,λb=>Ab5 ?_,λb=>⟨Bx e s.Args,Oe (λx _=>Sk p hs x) w,λq=>Ab5 ?_,λq=>?_⟩⟩
 .rw[Gg]at b;rw[a];have:decide ((Bd e n).length≠s.Args.length)=true:=b;rw[this]<;>rfl
 .rw[Gg]at b;rw[a,show decide ((Bd e n).length≠s.Args.length)=false from b,show decide ((Bx e s.Args).2≠0)=true by simpa using q]<;>rfl
 rw[Gg]at b;have j:(Bx e s.Args).2=0:=by simpa using q
 have m:=Ja j;rw[show decide ((Bd e n).length≠s.Args.length)=false from b,j]at a;have t:(Bd e n).length=s.Args.length:=Classical.not_not.1 (Aq6 b);change As _ _ (Aq [(7,Aa n),(9,AD true (Bd e n)),(10,.ow 0 0 (Bx e s.Args).1.length),(53,.ow 0 0 (Bx e s.Args).1.length),(54,Aa (Bx e s.Args).1.length),(55,Aa 0)] [.arr true 0 (Bx e s.Args).1.length 1 (AC (Bx e s.Args).1)]);generalize Bd e n=f at a t |-;generalize(Bx e s.Args).1=l at a m |-;change r=(n,G7 f l,0)at a;refine Ay (λg st=>∃k:Nat,k<=l.length/\g=l.length-k/\st=Rh n f (KH f l k) k) ⟨_,Up.of ⟨0,AqN _,rfl,by unfold Rh;rw[Acr]<;>rfl⟩⟩ ?_;rintro g st ⟨k,hk,rfl,rfl⟩;refine AqU (Aev r n f _ k _) ⟨λo=>?_,λy=>Aqa ?_⟩
 .rw[LA]at o;have c:k<l.length:=by have:=AP o;omega
  have u:(k:Int).toNat=k:=oM
  rw[u,LA,LB c,AqY (AsL _)];refine⟨oM,oM,HC (f.getD k default) (l.getD k 0),KG _ _,oM,l.length-(k+1),oM,Up.mk (hs':=[.arr true 0 l.length 1 (AC (KH f l (k+1)))]) (AK _) ⟨Ard λi hi=>AN ?_,trivial⟩ ⟨k+1,oM,rfl,?_⟩⟩
  .by_cases v:i=k
   .subst v;simp only[ArQ,AqL];unfold AC;rw[LB c,Ari (ArK _)]<;>rfl
   .have z:Nat.beq i k=false:=by grind[AqM]
    simp only[z,AqJ];unfold AC;rw[LB hi,LB hi]
    by_cases h:i<k
    .grind
    .rw[AqY h,AqY oM]<;>rfl
  .rw[Al oM];unfold Rh;rw[LA]<;>rfl
 grind[LA,AQ,Ahy]
def Aeu {s}(a:AR e.M)(hs:BZ e.S)(b:s.Args.length<=1048576) :
  Ai prog 153 [] [.agg (Af e),.agg (An s)] [] (.tup [Aa (AB e s).1,Ac true (AB e s).2.1,Aa (AB e s).2.2]) :=
 (QN a hs b).frz rfl λj x y c d=>by grind[Aq8,Am3,Db]
end
def Aqb {c}{l}{r}(h:(l,c)=r):leO [] []/\VV.le (.tup [Ac true l,.sc (.int .i64 c)]) (.tup [Ac true r.1,.sc (.int .i64 r.2)]):=by
 subst h;exact⟨trivial,lR⟩
def Ao8 {c}{r}(h:([],c)=r):leO [] []/\VV.le (.tup [.nl,.sc (.int .i64 c)]) (.tup [Ac true r.1,.sc (.int .i64 r.2)]):=by
 subst h;exact⟨trivial,ArG ⟨Arc,lR,trivial⟩⟩
section
variable {e : D.Env}
def Pk {s}(p:AR e.M)(hs:BZ e.S)(v:s.Args.length<=1048576)(w:s.Match.length=s.Args.length) :
  Ai prog 200 [] [.agg (Af e),.agg (An s)] [] (.tup [Ac true (B7 e s).1,Aa (B7 e s).2]):=by
 have b:B7 e s=bif decide (Dj (Bh e) s.Args s.Match s.Args.length≠0)then([],Dj (Bh e) s.Args s.Match s.Args.length)else(C7 (Bh e) s.Args s.Match,0):=rfl
 generalize B7 e s=r at b;generalize f:Bh e=ev at b;have q:∀x,Ai prog 97 [] [.agg (Af e),Aa x] [] (vII (ev x)):=λx=>by rw[<- f];exact JH p hs x
 refine Ax func200 (Zm r e s rfl rfl) ⟨⟨oM,oM,oM⟩,?_⟩;refine Ay (λgg st=>∃k:Nat,k<=s.Args.length/\gg=s.Args.length-k/\(∀i,i<k->(Dp ev (s.Args.getD i 0) (s.Match.getD i 0)).2=0)/\st=Rf e s (Cy ev s.Args s.Match k) k)
  ⟨s.Args.length,Up.mk (l':=[(2,.bp 0 0),(3,.bp 1 0),(6,.ow 2 0 (Cy ev s.Args s.Match 0).length),(16,Ac true s.Args),(17,Aa s.Args.length),(18,Aa ((0:Nat):Int))])
   (hs':=[.box (Af e),.box (An s),.arr true 0 (Cy ev s.Args s.Match 0).length 1 (AC (Cy ev s.Args s.Match 0))]) ?_ ?_ ⟨0,AqN _,rfl,λi hi=>oM,rfl⟩⟩ ?_
 .rw[C0];exact AK _
 .rw[C0];refine⟨Ob.le_refl _,Ob.le_refl _,Ard λi hi=>AN ?_,trivial⟩;have c:AC (Cy ev s.Args s.Match 0) i=[Aa 0]:=by
   unfold AC;rw[F6 oM,AqY (ArE _)]
  refine Eq.trans ?_ c.symm;rfl
 .rintro gg st ⟨k,hk,rfl,m,rfl⟩;refine AqU (V6 r e s _ k _) ⟨λg=>?_,λh=>Aqb ?_⟩
  .have n:k<s.Args.length:=by have:=AP g;omega
   have j:(k:Int).toNat=k:=oM
   rw[j];refine⟨oM,oM,λl=>?_,λl=>⟨ev (s.Args.getD k 0),q _,λc=>Ao8 ?_,λc=>⟨by rw[C0];omega,?_⟩⟩⟩
   .rw[AU]at l;have h1:=AqV l;have hv:Dp ev (s.Args.getD k 0) (s.Match.getD k 0)=(0,0):=by unfold Dp;grind
    have t:Cy ev s.Args s.Match k=Cy ev s.Args s.Match (k+1):=by
     unfold Cy;grind
    rw[t,Al oM];exact⟨s.Args.length-(k+1),oM,Up.of gD⟩
   .have a:decide (s.Match.getD k 0=1)=true:=gD
    have hv:Dp ev (s.Args.getD k 0) (s.Match.getD k 0)=ev (s.Args.getD k 0):=by unfold Dp;rw[a]<;>rfl
    have u:(Dp ev (s.Args.getD k 0) (s.Match.getD k 0)).2≠0:=by rw[hv];simpa using c
    have o:Dj ev s.Args s.Match s.Args.length=(ev (s.Args.getD k 0)).2:=by
     unfold Dj;grind[NZ]
    grind
   .have a:decide (s.Match.getD k 0=1)=true:=gD
    have hv:Dp ev (s.Args.getD k 0) (s.Match.getD k 0)=ev (s.Args.getD k 0):=by unfold Dp;rw[a]<;>rfl
    have h2:(ev (s.Args.getD k 0)).2=0:=by simpa using c
    rw[Al oM];refine⟨s.Args.length-(k+1),oM,Up.mk (l':=[(2,.bp 0 0),(3,.bp 1 0),(6,.ow 2 0 (Cy ev s.Args s.Match (k+1)).length),(16,Ac true s.Args),(17,Aa s.Args.length),(18,Aa ((k+1:Nat):Int))])
     (hs':=[.box (Af e),.box (An s),.arr true 0 (Cy ev s.Args s.Match (k+1)).length 1 (AC (Cy ev s.Args s.Match (k+1)))]) ?_ ?_ ⟨k+1,oM,rfl,BU m (by rw[hv];exact h2),rfl⟩⟩
    .grind[C0,AK]
    .rw[C0,C0];refine⟨Ob.le_refl _,Ob.le_refl _,Ard λi hi=>AN ?_,trivial⟩;show(bif i.beq k then[Aa (ev (s.Args.getD k 0)).1]else[Aa ((Cy ev s.Args s.Match k).getD i 0)])=[Aa ((Cy ev s.Args s.Match (k+1)).getD i 0)];rw[F6 hi,F6 hi];cases b:i.beq k with
     | true =>
      simp_all
     | false =>
      have:i≠k:=Nat.ne_of_beq_eq_false b;rw[AqJ]
      by_cases d:i<k
      .grind
      .rw[AqY d,AqY oM]
  .obtain rfl:k=s.Args.length:=by have:=AQ h;omega
   have o:Dj ev s.Args s.Match s.Args.length=0:=IY m;rw[b,o,QU]<;>rfl
def YO {c}{l mt}{any}(d:Len c.Queue.length)(f:Len mt.length):Ai prog 201 [] [.agg (Am c),Ac true l,Ac true mt,Ad any] [] (Aa (FW c l mt any)) :=
 (Uk d f).frz rfl λj x y a b=>by
  match j,a,b with
  | 0,a,b=>grind[Aq8,Db]
  | 1,a,b=>obtain rfl:=Aq8 a;obtain rfl:=Aq8 b;exact It
  | 2,a,b=>grind[Aq8,Db]
  | 3,a,b=>grind[Aq8,Db]
  | j+4,a,_=>simp at a
def Po {s}(f:AR e.M)(hs:BZ e.S)(i:s.Args.length<=1048576)(j:s.Match.length=s.Args.length) :
  Ai prog 156 [] [.agg (Af e),.agg (An s)] [] (Kb (Bb e s)):=by
 have b:Bb e s=bif decide ((AJ e s.A).2≠0)then(0,-1,(AJ e s.A).2)
  else bif decide ((Bd e (AJ e s.A).1).length≠s.Args.length)then(0,-1,49)
  else bif decide ((B7 e s).2≠0)then(0,-1,(B7 e s).2)
  else((AJ e s.A).1,FW (BQ e (AJ e s.A).1) (B7 e s).1 s.Match (decide (s.N.tmod 2=1)),0):=rfl
 generalize Bb e s=r at b;refine Ax func156 (ZD r e s rfl) ⟨AJ e s.A,JI f hs s.A,λh=>F3 ?_,λh=>?_⟩
 .grind
 have h0:(AJ e s.A).2=0:=by simpa using h
 rw[h0]at b;have d:=Fc f h0;generalize(AJ e s.A).1=n at d b |-;have h1:=d.lo;have h2:=d.hi;have h3:=d.le;have h4:=d.q;rw[AS oM oM];refine⟨oM,d.sh,λa=>F3 ?_,λa=>⟨B7 e s,Pk f hs i j,λg=>F3 ?_,λg=>⟨oM,dZ,FW (BQ e n) (B7 e s).1 s.Match (s.N.tmod 2==1),YO (c:=BQ e n) (by unfold Len;omega) (by unfold Len;omega),F3 ?_⟩⟩⟩
 .rw[Gg]at a;rw[b,show decide ((Bd e n).length≠s.Args.length)=true from a]<;>rfl
 .rw[Gg]at a;rw[b,show decide ((Bd e n).length≠s.Args.length)=false from a,show decide ((B7 e s).2≠0)=true by simpa using g]<;>rfl
 .rw[Gg]at a;rw[b,show decide ((Bd e n).length≠s.Args.length)=false from a,show decide ((B7 e s).2≠0)=false by simpa using g,ieq]<;>rfl
def AlL {s}(b:AR e.M)(hs:BZ e.S)(c:s.Args.length<=1048576)(d:s.Match.length=s.Args.length) :
  Ai prog 156 [] [.agg (Bo e),.agg (An s)] [] (Kb (Bb e s)) :=
 (Po b hs c d).thaw (Lo λx a=>by
  simp only[Ary,List.not_mem_nil,or_false]at a;rcases a with rfl|rfl|rfl<;>exact Kw) ⟨M7,WI ⟨Br rfl,Br rfl,Br rfl,Br rfl,Br rfl,Br rfl,Br rfl,trivial⟩,trivial⟩
def V7 {s}{c}{m}(d:AR e.M)(hs:BZ e.S)(f:s.Args.length<=1048576)(g:s.Kind=6->s.Match.length=s.Args.length) :
  Ai prog 239 [] [.agg (Af e),.agg (An s),Aa c,Ac true m] [] (Ad (Fk e s c m)):=by
 have j:Fk e s c m=bif decide (s.Kind≠6)||(decide (1<s.N)||decide (s.Args.length≠m.length))then false
  else bif decide ((AJ e s.A).2≠0)||decide ((AJ e s.A).1≠c)then false
  else bif decide ((B7 e s).2≠0)then false else decide (FW ⟨0,[m]⟩ (B7 e s).1 s.Match false=0):=rfl
 generalize Fk e s c m=b at j;have k:(bif bif s.Kind != (6:Int)then true else decide (s.N > (1:Int))then true else(s.Args.length:Int) != (m.length:Int))=(decide (s.Kind≠6)||(decide (1<s.N)||decide (s.Args.length≠m.length))):=gD
 refine Ax func239 (Zn b e s c m) ⟨λh=>AA ?_,λh=>⟨AJ e s.A,JI d hs s.A,λh2=>AA ?_,λh2=>?_⟩⟩
 .grind
 .grind
 .rw[k]at h;rw[Bp,AU,AU]at h2;have hk:s.Kind=6:=gD
  have a:=g hk;refine⟨B7 e s,Pk d hs f a,FW ⟨0,[m]⟩ (B7 e s).1 s.Match false,λ_=>?_,AA ?_⟩
  .have n:=YO (c:=⟨0,[m]⟩) (l:=(B7 e s).1) (mt:=s.Match) (any:=false) (by unfold Len;simp) (by unfold Len;omega);refine n.le trivial ⟨Arw ⟨lR,ArJ (.inl rfl) λi hi=>AN ?_,trivial⟩,lR,lR,lR,trivial⟩ trivial lR;grind
  grind
def QK (h:Ci e):Ai prog 87 [] [.agg (Af e)] [] (.tup [Ad (A8 e).1,Aa (A8 e).2]):=by
 have a:A8 e=bif decide ((CS e).Provided<0)then(true,0)else(decide ((Bh e (CS e).Provided).1≠0),(Bh e (CS e).Provided).2):=rfl
 generalize A8 e=r at a;refine Ax func87 (Aep r e) ⟨CS e,QL h,λh1=>⟨trivial,?_⟩,λh1=>⟨Bh e (CS e).Provided,JH h.ok.wf h.small _,trivial,?_⟩⟩
 .rw[a,h1];exact lR
 simp_all[AU,VV.le_refl]
end
def Pr {n}:∀{ws} {many k many'},Hl n many k ws=some many'->∀w∈ws,w.length<=1024/\∀t∈w,inP n t.To
 | [],_,_,_,_,w,a=>by cases a
 | v::r,many,k,many',h,w,a=>by
  unfold Hl at h;cases g:(decide (0<k)&&decide (v.length=0))with
  | true=>grind
  | false =>
  cases b:decide (1024<many+v.length)with
  | true=>grind
  | false =>
  cases c:CM v.length (λi=>inP n (v.getD i default).To)with
  | false=>grind
  | true =>
   rw[g,b,c,AqJ,AqJ,AqL]at h;rcases Ary.1 a with rfl|a
   .have:=Aq6 b;exact⟨oM,(CP (d:=default) (f:=λt:D.Trans=>inP n t.To)).1 c⟩
   .exact Pr h w a
def R2 {n}{final}:∀{ls}{many i},Iq n final many i ls->∀l∈ls,∀w∈B5 l,w.length<=1024/\∀t∈w,inP n t.To
 | [],_,_,_,l,a,_,_=>by cases a
 | v::r,many,i,h,l,a,w,hw=>by
  unfold Iq at h;cases c:OF final i v with
  | true=>grind
  | false =>
   rw[c,AqJ]at h;cases b:Hl n many 0 (B5 v)with
   | none=>rw[b]at h;cases h
   | some many' =>
    rw[b]at h;rcases Ary.1 a with rfl|a
    .exact Pr b w hw
    .exact R2 h l a w hw
def Acj {p}(h:EP p):∀l∈p.Locs,∀w∈B5 l,w.length<=1024/\∀t∈w,inP p.Locs.length t.To:=by
 unfold EP at h;simp only[AqI]at h;exact R2 h.2
def Akj {m}(h:Fs m)(i)(hi:i<m.Procs.length):DO m i:=by
 obtain⟨_,_,h3⟩:=CK h;exact ET (f:=λi:Nat=>DO m i) (by unfold Jw at h3;omega) i hi
def Aiu {m}(h:Fs m){i}(hi:i<m.Procs.length){l}(a:l∈(m.Procs.getD i default).Locs){w}(b:w∈B5 l){t}(c:t∈w):L7 m i t.S:=by
 have h1:=Akj h i hi;unfold DO at h1;simp only[AqI]at h1;have h2:=(CP (d:=default) (f:=λl:D.Loc=>Vx m i l)).1 h1.1 l a;unfold Vx at h2;have h3:=(CP (d:=[]) (f:=λw=>Ke m i w)).1 h2 w b;unfold Ke at h3;exact(CP (d:=default) (f:=λt:D.Trans=>L7 m i t.S)).1 h3 t c
structure DY (m:D.Model) (s:D.Stmt):Prop where
 st:AF m s=true
 wf:P1 s
def DY.args {m}{s}(h:DY m s):s.Args.length<=1048576:=h.wf.Args.1
def DY.k1 {m}{s}(h:DY m s)(hk:s.Kind=1):0<=s.A/\s.A<m.Exprs.length:=by
 have:=h.st;unfold AF at this;rw[Ari (.inl hk)]at this;simp only[AqI]at this;exact CC.1 this.1.1
def DY.k2 {m}{s}(h:DY m s)(hk:s.Kind=2):0<=s.B/\s.B<m.Exprs.length:=by
 have:=h.st;unfold AF at this;rw[AqY oM,Ari hk]at this;simp only[AqI]at this;exact CC.1 this.1.2
def DY.k6 {m}{s}(h:DY m s)(hk:s.Kind=6):s.Match.length=s.Args.length:=by
 have:=h.st;unfold AF at this;rw[AqY oM,AqY oM,AqY oM,AqY oM,Ari hk]at this;simp only[AqI]at this;have:=this.1.1.1.2;unfold F8 Cl at this;grind
structure Zk (m:D.Model) (n:Nat) (ws:List D.Trans):Prop where
 len:ws.length<=1024
 st:∀t∈ws,DY m t.S
 to:∀t∈ws,inP n t.To=true
section
variable {e : D.Env}
def Ci.ws (h:Ci e){ws}(a:ws∈B5 (CB e)):Zk e.M (CS e).Locs.length ws:=by
 have f:=h.facts;have hi:(DA e e.Pid).Type_.toNat<e.M.Procs.length:=oM
 have d:CB e∈(CS e).Locs:=Au oM;have hg:=Acj (Eb (CK h.ok.may).2.1 _ hi).2 _ d _ a;refine⟨hg.1,λt c=>⟨?_,?_⟩,hg.2⟩
 .have:=Aiu h.ok.may hi d a c;unfold L7 at this;grind
 .have b:=h.wloc;rcases Ary.1 a with rfl|a
  .exact(b.Out.2 t c).S
  .exact((b.Esc.2 _ a).2 t c).S
def AnT {b}{er}{l}{r}(h:(⟨b,er,l⟩:Ab)=r):leO [] []/\VV.le (.agg [.sc (.bool b),.sc (.int .i64 er),Bz true l]) (.agg (A4 r)):=by
 subst h;exact⟨trivial,lR⟩
def Dm {b}{er}{r}(h:(⟨b,er,[]⟩:Ab)=r):leO [] []/\VV.le (.agg [.sc (.bool b),.sc (.int .i64 er),.nl]) (.agg (A4 r)):=by
 subst h;exact⟨trivial,Arw ⟨lR,lR,Arc,trivial⟩⟩
abbrev MtS (e:D.Env)(mt:Int->List Int->List Pn):Prop:=∀c m,Ai prog 211 [] [.agg (Af e),Aa c,Ac true m] [] (Bz true (mt c m))
def V8 {s}{self}{mt}(h:Ci e)(hs:DY e.M s)(i:self=false->MtS e mt) :
  Ai prog 180 [] [.agg (Af e),.agg (An s),Ad self] [] (.agg (A4 (Fp e mt s self))):=by
 have j:=h.ok.wf;have d:=h.small;have c:Fp e mt s self=bif decide ((AJ e s.A).2≠0)then⟨true,(AJ e s.A).2,[]⟩
  else bif decide ((Bd e (AJ e s.A).1).length≠s.Args.length)then⟨true,49,[]⟩
  else bif decide (0<(B4 e.M (BQ e (AJ e s.A).1).Shape).Room)then⟨decide (((BQ e (AJ e s.A).1).Queue.length:Int)<(B4 e.M (BQ e (AJ e s.A).1).Shape).Room),0,[]⟩
  else bif self then⟨false,0,[]⟩
  else bif decide ((AB e s).2.2≠0)then⟨true,(AB e s).2.2,[]⟩
  else⟨decide (0<(mt (AJ e s.A).1 (AB e s).2.1).length),0,mt (AJ e s.A).1 (AB e s).2.1⟩:=rfl
 generalize Fp e mt s self=r at c;refine Ax func180 (Zr r e s self rfl rfl rfl) ⟨AJ e s.A,JI j d s.A,λh1=>Dm ?_,λh1=>?_⟩
 .grind
 have h0:(AJ e s.A).2=0:=by simpa using h1
 rw[h0]at c;have f:=Fc j h0;generalize(AJ e s.A).1=n at f c |-;have h2:=f.lo;have h3:=f.hi;have h4:=f.le;rw[AS oM oM];refine⟨oM,f.sh,λb=>Dm ?_,λb=>⟨λg=>Dm ?_,λg=>⟨λa=>Dm ?_,λa=>⟨AB e s,Aeu j d hs.args,λk=>Dm ?_,λk=>⟨mt n (AB e s).2.1,i a _ _,AnT ?_⟩⟩⟩⟩⟩
 .rw[Gg]at b;rw[c,show decide ((Bd e n).length≠s.Args.length)=true from b]<;>rfl
 .rw[Gg]at b;rw[c,show decide ((Bd e n).length≠s.Args.length)=false from b,show decide (0<(B4 e.M (BQ e n).Shape).Room)=true from g]<;>rfl
 .rw[Gg]at b;rw[c,show decide ((Bd e n).length≠s.Args.length)=false from b,show decide (0<(B4 e.M (BQ e n).Shape).Room)=false from g,a]<;>rfl
 .rw[Gg]at b;rw[c,show decide ((Bd e n).length≠s.Args.length)=false from b,show decide (0<(B4 e.M (BQ e n).Shape).Room)=false from g,a,show decide ((AB e s).2.2≠0)=true by simpa using k]<;>rfl
 .rw[Gg]at b;rw[c,show decide ((Bd e n).length≠s.Args.length)=false from b,show decide (0<(B4 e.M (BQ e n).Shape).Room)=false from g,a,show decide ((AB e s).2.2≠0)=false by simpa using k];simp_all
def Zo {s}{self}{mt}(h:Ci e)(hs:DY e.M s)(c:self=false->MtS e mt) :
  Ai prog 138 [] [.agg (Af e),.agg (An s),Ad self] [] (.agg (A4 (Cg e mt s self))):=by
 have f:=h.ok.wf;have b:=h.small;have g:Cg e mt s self=if s.Kind=1 then(bif CJ e s.A then IK e else⟨decide ((Bh e s.A).1≠0)||decide ((Bh e s.A).2≠0),(Bh e s.A).2,[]⟩)
  else if s.Kind=2 then(bif CJ e s.B then IK e else⟨true,0,[]⟩)
  else if s.Kind=9 then⟨decide (e.S.Chans.length<32),0,[]⟩
  else if s.Kind=5 then Fp e mt s self
  else if s.Kind=6 then⟨decide (0<=(Bb e s).2.1)||decide ((Bb e s).2.2≠0),(Bb e s).2.2,[]⟩
  else if s.Kind=7 then⟨false,0,[]⟩else⟨true,0,[]⟩:=rfl
 generalize Cg e mt s self=r at g;have lf:∀{a:Ab},a=r->leO [] []/\VV.le (.agg (A4 a)) (.agg (A4 r)):=λh=>by subst h;exact⟨trivial,lR⟩
 refine Ax func138 (Aei r e s self rfl rfl rfl) ⟨λk1=>⟨CJ e s.A,Jd λ_=>(hs.k1 (by simpa using k1)).2,λd=>⟨IK e,QJ,lf ?_⟩,λd=>⟨Bh e s.A,JH f b _,Dm ?_⟩⟩,
  λk1=>⟨λk2=>⟨CJ e s.B,Jd λ_=>(hs.k2 (by simpa using k2)).2,λd=>⟨IK e,QJ,lf ?_⟩,λd=>Dm ?_⟩,
  λk2=>⟨λi=>Dm ?_,λi=>⟨λj=>⟨Fp e mt s self,V8 h hs c,lf ?_⟩,λj=>⟨λk6=>⟨Bb e s,Po f b hs.args (hs.k6 (by simpa using k6)),Dm ?_⟩,λk6=>⟨λk=>Dm ?_,λk=>Dm ?_⟩⟩⟩⟩⟩⟩
 .grind
 .grind
 .grind
 .grind
 .rw[g,AqY (by simpa using k1),AqY (by simpa using k2),Ari (by simpa using i)];have:decide ((e.S.Chans.length:Int)<32)=decide (e.S.Chans.length<32):=gD
  rw[this]
 .grind
 .grind
 .grind
 grind
end
section
variable {e : D.Env} {mt:Int->List Int->List Pn} {ws:List D.Trans} {self:Bool}
def PV (e:D.Env)(mt:Int->List Int->List Pn)(ws:List D.Trans)(self:Bool)(k:Nat):List Ab:=(List.range ws.length).map λi=>if i<k then Cg e mt (ws.getD i default).S self else default
def HI (e:D.Env)(mt:Int->List Int->List Pn)(ws:List D.Trans)(self:Bool)(k:Nat):List Ab:=(List.range ws.length).map λi=>if i<k then Eh e mt ws self i else Cg e mt (ws.getD i default).S self
def Sp {k}:(PV e mt ws self k).length=ws.length:=by simp[PV]
theorem HH {k}:(HI e mt ws self k).length=ws.length:=by simp[HI]
def N4 {k i}(hi:i<ws.length):(PV e mt ws self k).getD i default=if i<k then Cg e mt (ws.getD i default).S self else default:=by simp[PV,List.getD,hi]
def IZ {k i}(hi:i<ws.length):(HI e mt ws self k).getD i default=if i<k then Eh e mt ws self i else Cg e mt (ws.getD i default).S self:=by simp[HI,List.getD,hi]
theorem Y7:HI e mt ws self ws.length=Dv e mt ws self:=by
 unfold HI Dv;simp_all
def Alv:PV e mt ws self ws.length=HI e mt ws self 0:=by
 unfold HI PV;simp_all
def Sr:(Dv e mt ws self).length=ws.length:=by simp[Dv]
def AcJ {i k:Nat}(h:i≠k):Nat.beq i k=false:=by grind[AqM]
def Td {n}(h:Ci e)(o:Zk e.M n ws)(m:self=false->MtS e mt) :
  Ai prog 90 [] [.agg (Af e),Aw true ws,Ad self] [] (BD true (Dv e mt ws self)):=by
 have p:=o.len;refine Ax func90 (Ain _ e ws self rfl rfl) ⟨⟨oM,oM,oM⟩,?_⟩;refine Ay (λg st=>∃k:Nat,k<=ws.length/\g=ws.length-k/\st=UT e ws self ws.length (Em (PV e mt ws self k)) (Eu e mt ws self k) k)
  ⟨ws.length,Up.mk (l':=[(1,Aw true ws),(2,Ad self),(3,.bp 0 0),(7,.ow 1 0 ws.length),(8,Ad false),(16,Aw true ws),(17,Aa ws.length),(18,Aa ((0:Nat):Int))]) (hs':=[.box (Af e),.arr true 0 ws.length 3 (Em (PV e mt ws self 0))]) (AK _) ⟨Ob.le_refl _,Ard λi hi=>?_,trivial⟩ ⟨0,AqN _,rfl,rfl⟩⟩ ?_
 .have q:Em (PV e mt ws self 0) i=A4 default:=by
   unfold Em;rw[N4 oM,AqY (ArE _)]
  rw[q];exact⟨lR,lR,Arc,trivial⟩
 rintro g st ⟨k,hk,rfl,rfl⟩;refine AqU (AeF _ e ws self _ _ _ k _ rfl) ⟨λd=>?_,λj=>?_⟩
 .have a:k<ws.length:=by have:=AP d;omega
  have b:(k:Int).toNat=k:=oM
  rw[b];refine⟨⟨oM,oM⟩,Cg e mt (ws.getD k default).S self,Zo h (o.st _ (Au a)) m,⟨oM,oM⟩,?_⟩;refine As.le (hs':=[.box (Af e),.arr true 0 ws.length 3 (Em (PV e mt ws self (k+1)))]) (AK _) ⟨Ob.le_refl _,Ard λi hi=>AN ?_,trivial⟩ ?_
  .unfold Em;rw[N4 hi,N4 hi]
   by_cases c:i=k
   .simp_all
   .rw[AcJ c,AqJ];grind
  .have r:Aq [(1,Aw true ws),(2,Ad self),(3,.bp 0 0),(7,.ow 1 0 ws.length),(8,Ad (Eu e mt ws self k)),(9,Aa k),(16,Aw true ws),(17,Aa ws.length),(18,Aa k)] [.box (Af e),.arr true 0 ws.length 3 (Em (PV e mt ws self (k+1)))]=US e ws self (PV e mt ws self (k+1)) (Eu e mt ws self k) k k:=by
    unfold US;rw[Sp]
   refine Eq.mpr (congrArg (As _ _) r) ?_;refine Di Aj Ak kR (AeD _ e ws self _ _ k k _) ⟨λ_=>by rw[Sp];omega,ws.length-(k+1),oM,Up.of ⟨k+1,a,rfl,?_⟩⟩;rw[Al oM,b,N4 a,Ari (ArK _),Sp];have:Eu e mt ws self (k+1)=bif Eu e mt ws self k then true else(Cg e mt (ws.getD k default).S self).is:=by
    rw[Bp]<;>rfl
   unfold UT;rw[this]<;>rfl
 .obtain rfl:k=ws.length:=by have:=AQ j;omega
  generalize f:Eu e mt ws self ws.length=some;refine Ay (λg st=>∃k:Nat,k<=ws.length/\g=ws.length-k/\st=Nb ws (HI e mt ws self k) some k) ⟨ws.length,Up.of ⟨0,AqN _,rfl,by unfold Nb;rw[HH,Alv]<;>rfl⟩⟩ ?_;rintro g st ⟨k,hk,rfl,rfl⟩;refine AqU (AeE _ ws _ some k _) ⟨λd=>?_,λj=>⟨trivial,?_⟩⟩
  .have a:k<ws.length:=by have:=AP d;omega
   have b:(k:Int).toNat=k:=oM
   rw[b];have ek:(bif(ws.getD k default).S.Kind==(7:Int)then !some else false)=(decide ((ws.getD k default).S.Kind=7)&&!(Eu e mt ws self ws.length)):=by rw[Be,ieq,f]
   have ea:Eh e mt ws self k=bif decide ((ws.getD k default).S.Kind=7)&&!(Eu e mt ws self ws.length)then{Cg e mt (ws.getD k default).S self with is:=true}else Cg e mt (ws.getD k default).S self:=rfl
   refine⟨⟨oM,oM⟩,λl=>⟨by rw[HH];omega,ws.length-(k+1),oM,Up.mk (hs':=[.arr true 0 (HI e mt ws self k).length 3 (Em (HI e mt ws self (k+1)))]) (AK _) ⟨Ard λi hi=>AN ?_,trivial⟩ ⟨k+1,a,rfl,?_⟩⟩,λl=>⟨ws.length-(k+1),oM,Up.of ⟨k+1,a,rfl,?_⟩⟩⟩
   .rw[ek]at l;rw[HH]at hi;rw[IZ a,AqY (AsL _)];unfold Em;rw[IZ hi,IZ hi]
    by_cases c:i=k
    .subst c;rw[Ari (ArK _),ArQ,AqL,ea,l,AqL]<;>rfl
    .rw[AcJ c,AqJ];grind
   .rw[Al oM];unfold Nb;grind[HH]
   .rw[ek]at l;have em:HI e mt ws self k=HI e mt ws self (k+1):=by
     unfold HI;grind
    grind[Al]
  grind[AQ,Y7,VV.le_refl]
end
def YI:Nat->List Ab->Int
 | _,[]=>-1
 | k,x::r=>bif x.is then(k:Int)else YI (k+1) r
def Uf {k}{x}{r}:YI k (x::r)=bif x.is then(k:Int)else YI (k+1) r:=rfl
def Ue:∀{l}{k},decide (YI k l>=0)=isSome l
 | [],k=>by simp[YI,isSome]
 | x::r,k=>by
  have ih:=Ue (l:=r) (k:=k+1);unfold isSome at *;rw[Asz,Uf];grind
abbrev AnV:VV:=.fn (.func 241) []
def Zx {x}:Ai prog 241 [] [.agg (A4 x)] [] (Ad x.is) :=
 Ax func241 (Aex _ x) (AA rfl)
def ZA {l}(n:l.length<=1048576):Ai prog 245 [] [BD true l,AnV] [] (Aa (YI 0 l)):=by
 refine Ax func245 (Aez _ l) ?_;refine Az l.length (λk=>P6 l k) (λk=>YI 0 l=YI k (l.drop k)) rfl ?_;intro k hk i J next
 refine AqU (ZB _ l k J) ⟨λf=>?_,λg=>BW ?_⟩
 .have a:k<l.length:=by have:=AP f;omega
  have h:(k:Int).toNat=k:=oM
  rw[h];rw[Bq (d:=default) a,Uf]at i;refine⟨oM,(l.getD k default).is,Zx,λj=>BW ?_,λj=>next _ a ?_ (Up.of ?_)⟩
  .grind
  .grind
  grind[Al]
 .have b:l.length<=k:=by have:=AQ g;omega
  rw[i,Aq9 b]<;>rfl
def Wj {l}(a:l.length<=1048576):Ai prog 240 [] [BD true l,AnV] [] (Ad (isSome l)) :=
 Ax func240 (ZG _ l) ⟨_,ZA a,AA Ue⟩
section
variable {e : D.Env} {c:Int} {m:List Int}
def TJ {i}:∀{ws}{k},(DT e c m i k ws).length<=ws.length
 | [],_=>AqQ _
 | t::r,k=>by
  have:=TJ (i:=i) (ws:=r) (k:=k+1);unfold DT;cases Fk e t.S c m<;>simp<;>omega
def Rz {i}{k}{t}{r}:DT e c m i k (t::r)=(bif Fk e t.S c m then[⟨e.Pid,i,k⟩]else[])++DT e c m i (k+1) r:=rfl
def AjM {out}{x}{G:Nat->List VV}(a:G 0=GW x){i}(hi:i<out.length+1):(bif i.blt out.length then Dz out i else G (i-out.length))=Dz (out++[x]) i :=
 Bu (f:=GW) (d:=default) (l:=out) (r:=[x]) (F:=Dz out) (λ_ _=>rfl) gD (by simp;omega)
def Tb {n}{i}{ws}(h:Ci e)(l:Zk e.M n ws) :
  Ai prog 238 (hsR e c m []) [Aa i,Aw true ws,.bp 0 0,.bp 1 0,.bp 2 0,.bp 3 0] (hsR e c m (DT e c m i 0 ws)) (Ad (decide (0<(DT e c m i 0 ws).length)||isSome (Dv e G6 ws true))):=by
 have s:=l.len;generalize t:DT e c m i 0 ws=r;refine Ax func238 (Aij r [] _ e c m i ws) ?_;refine Ay (λg st=>∃(k:Nat)(out:List Pn),k<=ws.length/\g=ws.length-k/\out.length<=k/\out++DT e c m i k (ws.drop k)=r/\st=Rg e c m out i ws k) ⟨ws.length,Up.of ⟨0,[],AqN _,rfl,AqN _,t,rfl⟩⟩ ?_;rintro g st ⟨k,out,hk,rfl,v,b,rfl⟩;refine AqU (Aeo r _ e c m out i ws k _ rfl) ⟨λo=>?_,λp=>?_⟩
 .have a:k<ws.length:=by have:=AP o;omega
  have q:(k:Int).toNat=k:=oM
  rw[q];rw[Bq (d:=default) a,Rz]at b;have hs:=l.st _ (Au (d:=default) a);refine⟨⟨oM,oM⟩,Fk e (ws.getD k default).S c m,V7 h.ok.wf h.small hs.args hs.k6,λu=>⟨oM,ws.length-(k+1),oM,
   Up.mk (hs':=[.box (Af e),.box [Aa c],.box [Ac true m],.box [.ow 4 0 (out.length+1)],.arr true 0 (out.length+1) 3 (Dz (out++[Pn.mk e.Pid i k]))]) (AK _) ⟨Ob.le_refl _,Ob.le_refl _,Ob.le_refl _,Ob.le_refl _,Ard λj hj=>AN (AjM (x:=Pn.mk e.Pid i k) (G:=λj=>List.take 3 (List.drop (j*3) (GW (Pn.mk e.Pid i k)))) rfl hj),trivial⟩ ⟨k+1,out++[Pn.mk e.Pid i k],a,rfl,by simp;omega,?_,?_⟩⟩,λu=>⟨ws.length-(k+1),oM,Up.of ⟨k+1,out,a,rfl,oM,?_,?_⟩⟩⟩
  .grind
  .rw[Al oM];unfold Rg hsR;grind
  .grind
  grind[Al]
 .have f:ws.length<=k:=by have:=AQ p;omega
  rw[Aq9 f]at b;have b:out=r:=by simpa[DT]using b
  subst b;refine⟨Dv e G6 ws true,λ_=>Td h l (λh=>by cases h),isSome (Dv e G6 ws true),λ_=>Wj (by rw[Sr];omega),⟨Ob.le_refl _,Ob.le_refl _,Ob.le_refl _,Ob.le_refl _,Ob.le_refl _,trivial⟩,ArR ?_⟩;grind
def Jt {i}{ws}{r}:Hu e c m ((i,ws)::r)=bif decide (0<(DT e c m i 0 ws).length)||isSome (Dv e G6 ws true)then DT e c m i 0 ws else Hu e c m r:=rfl
def UC {n}{l}(h:Ci e)(t:l.Esc.length<=1048576)(q:∀ws∈B5 l,Zk e.M n ws) :
  Ai prog 88 (hsR e c m []) [.agg (A0 l),Aps] (hsR e c m (Hu e c m (E5 l))) (.tup []):=by
 generalize s:Hu e c m (E5 l)=r;refine Ax func88 (Wg r [] e c m l) ?_;refine Ay (λg st=>∃k:Nat,k<=l.Esc.length/\g=l.Esc.length-k/\Hu e c m (Si k (l.Esc.drop k)++[(-1,l.Out)])=r/\st=K9 e c m [] l k) ⟨l.Esc.length,Up.of ⟨0,AqN _,rfl,s,rfl⟩⟩ ?_;rintro g st ⟨k,hk,rfl,b,rfl⟩;refine AqU (UD r e c m [] l k _) ⟨λj=>?_,λo=>?_⟩
 .have a:k<l.Esc.length:=by have:=AP j;omega
  have p:(k:Int).toNat=k:=oM
  rw[p];rw[Bq (d:=[]) a]at b;unfold Si at b;rw[Ar0,Jt]at b;refine⟨⟨oM,oM⟩,(DT e c m k 0 (l.Esc.getD k []),decide (0<(DT e c m k 0 (l.Esc.getD k [])).length)||isSome (Dv e G6 (l.Esc.getD k []) true)),Tb h (q _ (Aq0 _ (Au a))),λf=>?_,λf=>⟨l.Esc.length-(k+1),oM,Up.of ⟨k+1,a,rfl,?_,?_⟩⟩⟩
  .have f:(decide (0<(DT e c m k 0 (l.Esc.getD k [])).length)||isSome (Dv e G6 (l.Esc.getD k []) true))=true:=f;rw[f,AqL]at b;subst b;exact⟨⟨Ob.le_refl _,Ob.le_refl _,Ob.le_refl _,Ob.le_refl _,Ob.le_refl _,trivial⟩,lR⟩
  .grind
  grind[Aq1,Ars,Aq6,Al]
 .have i:l.Esc.length<=k:=by have:=AQ o;omega
  rw[Aq9 i]at b;refine⟨(DT e c m (-1) 0 l.Out,decide (0<(DT e c m (-1) 0 l.Out).length)||isSome (Dv e G6 l.Out true)),Tb h (q _ (AqP ..)),?_,lR⟩;have h0:DT e c m (-1) 0 l.Out=r:=by
   rw[<- b];show _=Hu e c m ([]++[(-1,l.Out)]);rw[Asg,Jt];cases f:(decide (0<(DT e c m (-1) 0 l.Out).length)||isSome (Dv e G6 l.Out true))with
   | true=>rfl
   | false =>
    rw[Aq1]at f;exact Ars gD
  subst h0;exact⟨Ob.le_refl _,Ob.le_refl _,Ob.le_refl _,Ob.le_refl _,Ob.le_refl _,trivial⟩
def TH {N}:∀{ls},(∀p∈ls,p.2.length<=N)->(Hu e c m ls).length<=N
 | [],_=>AqN _
 | (i,ws)::r,h=>by
  have h1:=h _ (AqP ..);have h2:=TH (ls:=r) λp hp=>h p (Aq0 _ hp)
  have h3:=TJ (e:=e) (c:=c) (m:=m) (i:=i) (ws:=ws) (k:=0);rw[Jt];grind
def TZ:∀{r} {k} {p},p∈Si k r->p.2∈r
 | [],_,_,h=>by cases h
 | w::r,k,p,h=>by
  rcases Ary.1 h with rfl|h
  .exact AqP ..
  .exact Aq0 _ (TZ h)
def Ab1 {l}{p}(h:p∈E5 l):p.2∈B5 l:=by
 rcases Arg.1 h with h|h
 .exact Aq0 _ (TZ h)
 .rw[Arn.1 h];exact AqP ..
def Ov (h:Ci e):(EL e c m).length<=1024:=by
 unfold EL;cases(!(A8 e).1||decide ((A8 e).2≠0))with
 | true=>exact AqN _
 | false=>exact TH λp hp=>(h.ws (Ab1 hp)).len
def Zt (h:Ci e):Ai prog 228 [] [.agg (Af e),Aa c,Ac true m] [] (Bz true (EL e c m)):=by
 have a:EL e c m=bif !(A8 e).1||decide ((A8 e).2≠0)then[]else Hu e c m (E5 (CB e)):=rfl
 generalize EL e c m=r at a;refine Ax func228 (Aen r e c m) ⟨A8 e,QK h,λh1=>?_,λh1=>⟨CB e,KY h,r,?_,trivial,lR⟩⟩
 .rw[Bp,AU]at h1;rw[h1,AqL]at a;rw[a];exact⟨trivial,Arc⟩
 .rw[Bp,AU]at h1;rw[h1,AqJ]at a;rw[a];exact Ai.ownB (i:=3) (j:=0) (cs:=[.nl]) rfl rfl 3 (Dz []) (UC h h.wloc.Esc.1 λws b=>h.ws b)
def Ci.at (h:Ci e){k}(hk:k<e.S.Procs.length):Ci (BO e k):=⟨⟨h.ok.fits,h.ok.may,h.ok.wf,by show -1<=(k:Int);omega,by show(k:Int)<_;exact Int.ofNat_lt.2 hk⟩,by show 0<=(k:Int);omega⟩
def Jy (h:Ci e):∀{n},n<=e.S.Procs.length->(CO e c m n).length<=n*1024
 | 0,_=>AqN _
 | n+1,hn=>by
  have h1:=Jy h (n:=n) oM;have h2:=Ov (c:=c) (m:=m) (h.at (k:=n) oM);unfold CO;grind
def Wd (h:Ci e):MtS e (B0 e):=by
 intro c m;have hp:=h.ok.fit.p;refine Ax func211 (Zv _ e c m) ?_;refine As.own 3 7 3 (Dz []) rfl ?_;refine Ay (λg st=>∃k:Nat,k<=e.S.Procs.length/\g=e.S.Procs.length-k/\st=Na e c m (CO e c m k) k) ⟨e.S.Procs.length,Up.of ⟨0,AqN _,rfl,rfl⟩⟩ ?_;rintro g st ⟨k,hk,rfl,rfl⟩;have o:=Jy (c:=c) (m:=m) h hk;refine AqU (We _ e c m _ k _) ⟨λj=>?_,λn=>⟨trivial,?_⟩⟩
 .have a:k<e.S.Procs.length:=by have:=AP j;omega
  have s:=Ov (c:=c) (m:=m) (h.at a);refine⟨λb=>⟨EL (BO e k) c m,Zt (h.at a),oM,λi _=>rfl,e.S.Procs.length-(k+1),oM,
   Up.mk (hs':=[.box (Af e),.arr true 0 ((CO e c m k).length+(EL (BO e k) c m).length) 3 (Dz (CO e c m k++EL (BO e k) c m))]) (AK _) ⟨Ob.le_refl _,Ard λi hi=>AN ?_,trivial⟩ ⟨k+1,a,rfl,?_⟩⟩,λb=>⟨e.S.Procs.length-(k+1),oM,Up.of ⟨k+1,a,rfl,?_⟩⟩⟩
  .exact Bu (f:=GW) (d:=default) (l:=CO e c m k) (r:=EL (BO e k) c m) (F:=Dz (CO e c m k)) (λ_ _=>rfl) (λ_ _=>rfl) (by simpa using hi)
  .rw[AU]at b;have q:CO e c m (k+1)=CO e c m k++EL (BO e k) c m:=by
    show CO e c m k++(bif decide ((k:Int)≠e.Pid)then _ else _)=_;rw[b,AqL]
   rw[Al oM,q];unfold Na;grind
  .rw[AU]at b;have q:CO e c m (k+1)=CO e c m k:=by
    show CO e c m k++(bif decide ((k:Int)≠e.Pid)then _ else _)=_;grind
   grind[Al]
 .obtain rfl:k=e.S.Procs.length:=by have:=AQ n;omega
  exact lR
end
section
variable {e : D.Env}
theorem Ab2 (h:Ci e){c}{m}:(B0 e c m).length<=16384:=by
 have h1:=Jy (c:=c) (m:=m) h (AqQ _);have h2:=h.ok.fit.p;have h3:e.S.Procs.length*1024<=16*1024:=Arb _ h2;exact Arq h1 h3
theorem Afa (h:Ci e){s}{self}:(Cg e (B0 e) s self).wth.length<=16384:=by
 have a:([]:List Pn).length<=16384:=AqN _;unfold Cg;split
 .cases CJ e s.A<;>exact a
 split
 .cases CJ e s.B<;>exact a
 split
 .exact a
 split
 .unfold Fp;grind[Ab2]
 grind
theorem AhY {mt}{ws}{self}{i}:(Eh e mt ws self i).wth=(Cg e mt (ws.getD i default).S self).wth:=by
 unfold Eh;grind
def Sq (h:Ci e){ws}{self}:∀x∈Dv e (B0 e) ws self,x.wth.length<=16384:=by
 intro x a;unfold Dv at a;grind[Ar4,AhY,Afa]
def Oh {i}{k}{x}{r}:C5 i k (x::r)=FI i k x++C5 i (k+1) r:=rfl
def Aay {out}{x}{G:Nat->List VV}(a:G 0=AV x){i}(hi:i<out.length+1):(bif i.blt out.length then E4 out i else G (i-out.length))=E4 (out++[x]) i :=
 Bu (f:=AV) (d:=default) (l:=out) (r:=[x]) (F:=E4 out) (λ_ _=>rfl) gD (by simp;omega)
def Tc {n}{i}{ws}(h:Ci e)(P:Zk e.M n ws) :
  Ai prog 89 (hsW e []) [Aa i,Aw true ws,.bp 0 0,.bp 1 0] (hsW e (C5 i 0 (Dv e (B0 e) ws false))) (Ad (decide (0<(C5 i 0 (Dv e (B0 e) ws false)).length))):=by
 have R:(Dv e (B0 e) ws false).length<=1024:=by rw[Sr];exact P.len
 have l:=Sq h (ws:=ws) (self:=false);have m:=Td h P (self:=false) (λ_=>Wd h);generalize Dv e (B0 e) ws false=L at R l m;generalize S:C5 i 0 L=r;refine Ax func89 (Aik r [] _ e i ws) ⟨L,m,?_⟩;refine Ay (λg st=>∃(k:Nat)(out:List Wy),k<=L.length/\g=L.length-k/\out.length<=k*16385/\out++C5 i k (L.drop k)=r/\st=Jj e out i L k) ⟨L.length,Up.of ⟨0,[],AqN _,rfl,AqN _,S,rfl⟩⟩ ?_;rintro g st ⟨k,out,hk,rfl,T,f,rfl⟩;refine AqU (Aes r _ e out i L k _ rfl rfl rfl) ⟨λE=>?_,λF=>?_⟩
 .have b:k<L.length:=by have:=AP E;omega
  have H:(k:Int).toNat=k:=oM
  rw[H];rw[Bq (d:=default) b,Oh]at f;have U:=l _ (Au (d:=default) b);generalize L.getD k default=x at f U |-;have V:k*16385<=1024*16385:=Arb _ oM;have u:∀(J:St->Prop)(out1:List Wy),out1.length<=k*16385+1->out1++(x.wth.map (FB i k x.err)++C5 i (k+1) (L.drop (k+1)))=r ->
    (∀a,Up (λst=>∃out2:List Wy,out2.length<=(k+1)*16385/\out2++C5 i (k+1) (L.drop (k+1))=r/\st=Jj e out2 i L ((k+1:Nat):Int)) a->J a) ->
    As ((BM prog tb CY HL true f89 (hsW e r) (Ad (decide (0<r.length)))).loop [1,0,1,0] J) [1,1,0,0,1,1,1,1,0] (M9 e out1 i L k ⟨i,k,-1,-1,-1,x.err⟩ x.wth 0):=by
   intro J out1 I K hJ;refine Ay (λg st=>∃(j:Nat)(w:Wy)(o:List Wy),j<=x.wth.length/\g=x.wth.length-j/\o.length<=k*16385+1+j/\o++((x.wth.drop j).map (FB i k x.err)++C5 i (k+1) (L.drop (k+1)))=r/\(w.Esc=i/\w.Way=k/\w.Err=x.err)/\st=M9 e o i L k w x.wth j)
    ⟨x.wth.length,Up.of ⟨0,_,out1,AqN _,rfl,I,K,⟨rfl,rfl,rfl⟩,rfl⟩⟩ ?_
   rintro g st ⟨j,w,o,hj,rfl,W,v,⟨X,Y,Z⟩,rfl⟩;refine AqU (Aer r _ e o i L k w x.wth j _ _ rfl) ⟨λy=>?_,λz=>?_⟩
   .have c:j<x.wth.length:=by have:=AP y;omega
    have A:(j:Int).toNat=j:=oM
    rw[A];rw[Bq (d:=default) c,ArD,Ar0]at v;generalize x.wth.getD j default=p at v |-;rw[X,Y,Z];refine⟨⟨oM,oM⟩,oM,x.wth.length-(j+1),oM,Up.mk (hs':=[.box (Af e),.box [.ow 2 0 (o.length+1)],.arr true 0 (o.length+1) 6 (E4 (o++[FB i k x.err p])),.box (AV (FB i k x.err p))]) (AK _)
     ⟨Ob.le_refl _,Ob.le_refl _,Ard λt N=>AN (Aay (x:=FB i k x.err p) (G:=λt=>List.take 6 (List.drop (t*6) (AV (FB i k x.err p)))) rfl N),Ob.le_refl _,trivial⟩ ⟨j+1,FB i k x.err p,o++[FB i k x.err p],c,rfl,by simp;omega,gD,⟨rfl,rfl,rfl⟩,?_⟩⟩
    rw[Al oM];unfold M9 hsW;grind
   .have O:x.wth.length<=j:=by have:=AQ z;omega
    grind[Aq9,Ar5,Asg,Up.of,Al]
  have next:∀a,Up (λst=>∃out2:List Wy,out2.length<=(k+1)*16385/\out2++C5 i (k+1) (L.drop (k+1))=r/\st=Jj e out2 i L ((k+1:Nat):Int)) a ->
    ∃Q,Q<L.length-k/\Up (λst=>∃(k:Nat)(out:List Wy),k<=L.length/\Q=L.length-k/\out.length<=k*16385/\out++C5 i k (L.drop k)=r/\st=Jj e out i L k) a:=by
   rintro a ⟨s',hc,out2,h1,h2,h3⟩;exact⟨L.length-(k+1),oM,s',hc,k+1,out2,b,rfl,h1,h2,h3⟩
  have ez:((x.wth.length:Int)==0)=decide (x.wth.length=0):=gD
  refine⟨⟨oM,oM⟩,λB=>⟨oM,?_⟩,λB=>?_⟩
  .rw[Be,ez]at B;have q:FI i k x=Wy.mk i k (-1) (-1) (-1) x.err::x.wth.map (FB i k x.err):=by unfold FI;rw[B]<;>rfl
   rw[q]at f;refine As.le (hs':=[.box (Af e),.box [.ow 2 0 (out.length+1)],.arr true 0 (out.length+1) 6 (E4 (out++[Wy.mk i k (-1) (-1) (-1) x.err])),.box (AV (Wy.mk i k (-1) (-1) (-1) x.err))]) (AK _)
     ⟨Ob.le_refl _,Ob.le_refl _,Ard λt N=>AN (Aay (x:=Wy.mk i k (-1) (-1) (-1) x.err) (G:=λt=>List.take 6 (List.drop (t*6) (AV (Wy.mk i k (-1) (-1) (-1) x.err)))) rfl N),Ob.le_refl _,trivial⟩ ?_
   have s:=u _ (out++[Wy.mk i k (-1) (-1) (-1) x.err]) (by simp;omega) (by rw[Arx];exact f) next
   unfold M9 hsW at s;rw[AqT]at s;exact s
  .rw[Be,ez]at B;have q:FI i k x=x.wth.map (FB i k x.err):=by unfold FI;rw[B]<;>rfl
   rw[q]at f;exact u _ out (Nat.le_succ_of_le T) f next
 .have C:L.length<=k:=by have:=AQ F;omega
  rw[Aq9 C]at f;have f:out=r:=by simpa[C5]using f
  subst f;refine⟨⟨Ob.le_refl _,Ob.le_refl _,Ob.le_refl _,trivial⟩,ArR ?_⟩;simp_all
def Mn {i}{ws}{r}:E9 e ((i,ws)::r)=bif decide (0<(C5 i 0 (Dv e (B0 e) ws false)).length)then C5 i 0 (Dv e (B0 e) ws false)else E9 e r:=rfl
def UA {n}{l}(h:Ci e)(q:l.Esc.length<=1048576)(o:∀ws∈B5 l,Zk e.M n ws) :
  Ai prog 88 (hsW e []) [.agg (A0 l),Apr] (hsW e (E9 e (E5 l))) (.tup []):=by
 generalize p:E9 e (E5 l)=r;refine Ax func88 (Wf r [] e l) ?_;refine Ay (λg st=>∃k:Nat,k<=l.Esc.length/\g=l.Esc.length-k/\E9 e (Si k (l.Esc.drop k)++[(-1,l.Out)])=r/\st=K8 e [] l k) ⟨l.Esc.length,Up.of ⟨0,AqN _,rfl,p,rfl⟩⟩ ?_;rintro g st ⟨k,hk,rfl,b,rfl⟩;refine AqU (UB r e [] l k _) ⟨λi=>?_,λj=>?_⟩
 .have a:k<l.Esc.length:=by have:=AP i;omega
  have m:(k:Int).toNat=k:=oM
  rw[m];rw[Bq (d:=[]) a]at b;unfold Si at b;rw[Ar0,Mn]at b;refine⟨⟨oM,oM⟩,(C5 k 0 (Dv e (B0 e) (l.Esc.getD k []) false),decide (0<(C5 k 0 (Dv e (B0 e) (l.Esc.getD k []) false)).length)),Tc h (o _ (Aq0 _ (Au a))),λc=>?_,λc=>⟨l.Esc.length-(k+1),oM,Up.of ⟨k+1,a,rfl,?_,?_⟩⟩⟩
  .have c:decide (0<(C5 k 0 (Dv e (B0 e) (l.Esc.getD k []) false)).length)=true:=c;rw[c,AqL]at b;subst b;exact⟨⟨Ob.le_refl _,Ob.le_refl _,Ob.le_refl _,trivial⟩,lR⟩
  .grind
  grind[Ars,Aq6,Al]
 .have f:l.Esc.length<=k:=by have:=AQ j;omega
  rw[Aq9 f]at b;refine⟨(C5 (-1) 0 (Dv e (B0 e) l.Out false),decide (0<(C5 (-1) 0 (Dv e (B0 e) l.Out false)).length)),Tc h (o _ (AqP ..)),?_,lR⟩;have h0:C5 (-1) 0 (Dv e (B0 e) l.Out false)=r:=by
   rw[<- b];show _=E9 e ([]++[(-1,l.Out)]);rw[Asg,Mn];cases c:decide (0<(C5 (-1) 0 (Dv e (B0 e) l.Out false)).length)with
   | true=>rfl
   | false=>exact Ars gD
  subst h0;exact⟨Ob.le_refl _,Ob.le_refl _,Ob.le_refl _,trivial⟩
def VB {w}{r}(h:[w]=r):leO [] []/\VV.le (.sl true 1 6 λi=>List.take 6 (List.drop (i*6) (AV w))) (AZ true r):=by
 subst h;refine⟨trivial,ArJ (.inl rfl) λi hi=>AN ?_⟩;obtain rfl:i=0:=oM
 rfl
def J5 (h:Ci e):Ai prog 56 [] [.agg (Af e)] [] (AZ true (A2 e)):=by
 have hp:=h.ok.fit.p;have a:A2 e=bif decide ((DA e e.Pid).Loc=(CS e).Final)then(bif decide (e.Pid=(e.S.Procs.length:Int)-1)then[IT 0]else[])
  else bif decide ((A8 e).2≠0)then[IT (A8 e).2]
  else bif !(A8 e).1 then[]else E9 e (E5 (CB e)):=rfl
 generalize A2 e=r at a;refine Ax func56 (Zu r e rfl) ⟨⟨h.p0,h.ok.pid.2⟩,CS e,QL h,λh1=>⟨λh2=>⟨IT 0,QM,VB ?_⟩,λh2=>?_⟩,
  λh1=>⟨A8 e,QK h,λh2=>⟨IT (A8 e).2,QM,VB ?_⟩,λh2=>⟨λh3=>?_,λh3=>⟨CB e,KY h,E9 e (E5 (CB e)),?_,?_⟩⟩⟩⟩
 .rw[ieq]at h1;rw[AS oM oM,ieq]at h2;rw[a,show decide ((DA e e.Pid).Loc=(CS e).Final)=true from h1,h2]<;>rfl
 .rw[ieq]at h1;rw[AS oM oM,ieq]at h2;rw[a,show decide ((DA e e.Pid).Loc=(CS e).Final)=true from h1,h2];exact⟨trivial,Arc⟩
 .rw[ieq]at h1;rw[AU]at h2;rw[a,show decide ((DA e e.Pid).Loc=(CS e).Final)=false from h1,h2]<;>rfl
 .rw[ieq]at h1;rw[AU]at h2;rw[a,show decide ((DA e e.Pid).Loc=(CS e).Final)=false from h1,h2,h3];exact⟨trivial,Arc⟩
 .exact Ai.ownB (i:=1) (j:=0) (cs:=[.nl]) rfl rfl 6 (E4 []) (UA h h.wloc.Esc.1 λws b=>h.ws b)
 .rw[ieq]at h1;rw[AU]at h2;rw[a,show decide ((DA e e.Pid).Loc=(CS e).Final)=false from h1,h2,h3];exact⟨trivial,lR⟩
def QP (b:AR e.M)(hs:BZ e.S):Ai prog 65 [] [.agg (Af e)] [] (.tup [AZ true (FC e).1,Aa (FC e).2]):=by
 have a:FC e=bif decide (HD e≠0)then([],HD e)else(A2 e,0):=rfl
 generalize FC e=r at a;refine Ax func65 (AeI r e) ⟨HD e,Wk b hs,λh1=>?_,λh1=>⟨A2 e,J5 (AhD b (by simpa using h1)),?_⟩⟩
 .rw[AU]at h1;rw[a,h1];exact⟨trivial,ArG ⟨Arc,lR,trivial⟩⟩
 .rw[AU]at h1;rw[a,h1];exact⟨trivial,lR⟩
def YH (w:Wy):Nat->List Wy->Int
 | _,[]=>-1
 | k,x::r=>bif decide (w=x)then(k:Int)else YH w (k+1) r
def Ud {w x}{k}{r}:YH w k (x::r)=bif decide (w=x)then(k:Int)else YH w (k+1) r:=rfl
def YG {w}:∀{l}{k},decide (YH w k l>=0)=decide (w∈l)
 | [],k=>by simp[YH]
 | x::r,k=>by
  have ih:=YG (w:=w) (l:=r) (k:=k+1);rw[Ud];grind
def ApA {w x:Wy}:(w.Esc==x.Esc&&(w.Way==x.Way&&(w.With==x.With&&(w.WithEsc==x.WithEsc&&(w.WithWay==x.WithWay&&(w.Err==x.Err&&true))))))=decide (w=x):=by
 obtain⟨a,b,c,d,f,g⟩:=w;obtain⟨b1,b2,b3,b4,h,i⟩:=x;rw[ArF];simp
def Zy {l}{w}(j:l.length<=1099511627776):Ai prog 91 [] [AZ true l,.agg (AV w)] [] (Aa (YH w 0 l)):=by
 refine Ax func91 (Aey _ l w) ?_;refine Az l.length (λk=>P5 l w k) (λk=>YH w 0 l=YH w k (l.drop k)) rfl ?_;intro k hk h J next
 refine AqU (Zz _ l w k J rfl) ⟨λc=>?_,λf=>BW ?_⟩
 .have a:k<l.length:=by have:=AP c;omega
  have g:(k:Int).toNat=k:=oM
  rw[g,ApA];rw[Bq (d:=default) a,Ud]at h;refine⟨oM,λi=>BW ?_,λi=>next _ a ?_ (Up.of ?_)⟩
  .grind
  .grind
  grind[Al]
 .have b:l.length<=k:=by have:=AQ f;omega
  rw[h,Aq9 b]<;>rfl
def Wi {l}{w}(a:l.length<=1099511627776):Ai prog 59 [] [AZ true l,.agg (AV w)] [] (Ad (decide (w∈l))) :=
 Ax func59 (ZF _ l w) ⟨_,Zy a,AA YG⟩
end
def AtL (w:World)(n:Nat)(R:Nat->Nat->Nat->Prop)(v:Value):Prop :=
 ∃ao cap,v=.slice ao n cap/\n<=cap/\cap<=maxLen/\(0<n->∃b off,ao=some ⟨b,off,none⟩/\b<w.heap.size/\∀i,i<n->R b off i)
def AtI (w:World)(xs:List Int)(v:Value):Prop:=AtL w xs.length (λb off i=>w.cell? ⟨b,off+i,none⟩=some (.int .i64 (xs.getD i 0))) v
section
variable {w : World} {E:A1} {m:Option Phi} {v:Value} {fz:Bool}
def Aqr {xs}(h:V w E m (Ac fz xs) v):AtI w xs v:=by
 obtain⟨ao,cap,rfl,h1,h2,h3⟩:=V.sl_inv h;refine⟨ao,cap,rfl,h1,h2,λhp=>?_⟩;obtain⟨b,off,rfl,c,_,_,u,d,hv⟩:=h3 hp;refine⟨b,off,rfl,c,λi hi=>?_⟩;have a:=d i 0 _ hi rfl;have e:=(hv i 0 _ hi rfl).sc_inv;rw[e]at a;simpa using a
end
set_option maxHeartbeats 1000000 in
def VS {w}{ao}{cap}{xs:List Int}(h1:xs.length<=cap)(h2:cap<=maxLen)(q:xs.length*8<=140737488355328)(h3:0<xs.length->∃a,ao=some a/\∀i,i<xs.length->w.cell? (a.add i)=some (.int .i64 (xs.getD i 0))) :
  Calls prog 93 #[.slice ao xs.length cap] w λe w'=>∃g,e=.returned g/\w'.ownsRow w.heap.size 2 1 g xs.length (xs.map (Value.int .i64))/\Below w.heap.size w w':=by
 have p:∀(w:World)(a:Option Addr)(n c h l:Nat),(binOp .eql 80 (.slice a n c) (.slice none h l)).run prog w=.ok (.bool a.isNone) w:=λw a n c h l=>Lib.run_eql_slice_nil w _ _ a n c h l underlying80
 obtain⟨ki,khi,khz0,khz1,khz2⟩:=EO YF;cases ao with
 | none =>
  have h0:xs=[]:=gD
  subst h0;clear h3
  go_enter func93,ntmps93
  go_wp2
  go_ret
  simp_all[World.ownsRow_nil,Below.refl]
 | some a =>
  have m:∀(j:Nat)(u:Value),(xs.map (Value.int .i64))[j]?=some u->w.cell? (a.add j)=some u:=gD
  have HN:=Lib.hid m;clear h3 m;have d:=h2;unfold maxLen at d
  go_enter func93,ntmps93
  go_wp2_with (at_builtin;refine wpList_append_own _ rfl _ _ 80 rfl w.heap.size 2 ki (.int .i64 0) 1 8 underlying80 khi khz0 khz1 khz2 rfl dZ _ _ _ rfl (World.ownsRow_made w #[] 0 (AqQ _) (AqN _) sM) a xs.length cap (xs.map (Value.int .i64)) rfl ?qc1 ?qc2 ?qc3 ?qc4 ?qc5 ?qc6 ?_)
  case qc1=>simp
  case qc2=>intro j u hj;have:=HN.out j u hj;exact Lib.cell?_alloc_some _ this
  case qc3=>intro u o;simp at o;obtain⟨x,_,rfl⟩:=o;rfl
  case qc4=>unfold maxLen;omega
  case qc5=>omega
  case qc6=>simp
  intro g r f b _
  go_wp2
  go_ret
  exact⟨g,rfl,by simpa using f,((Below.refl _ w).alloc (AqQ _) _).grown b sM (by intro k hk;simp[Value.ownBlock]at hk;omega)⟩
def Ajg:Shp:={α:=List D.Trans,enc:=λy=>([],Aw true y)}
def Xd:Shp:={α:=D.Proc,enc:=λy=>([],.agg (A6 y))}
def Bl (f:FuncId):Shp :=
 bif Nat.beq f 128||Nat.beq f 72||Nat.beq f 122||Nat.beq f 129||Nat.beq f 5 then U4 else bif Nat.beq f 75 then Afm else bif Nat.beq f 76 then ApP else bif Nat.beq f 48 then Adt else bif Nat.beq f 27 then Ro else bif Nat.beq f 43 then Ajg else bif Nat.beq f 38 then Xd else Xf
def I1:Ann:={keep:=fun
  | [0,1,0,1,1,1,1,1,1]=>[1,2,6,7,8]
  | _=>[]}
def ML:Ann:={keep:=fun
  | [0,1,0,1,1,1]=>[1,3,4]
  | _=>[]}
def MJ:Ann:={keep:=fun
  | [0,1,0,1]=>[0,1,5]
  | _=>[]}
def MK:Ann:={keep:=fun
  | [0,1,0,1,1]=>[1,3]
  | _=>[]}
def MM:Ann:={keep:=fun
  | [0,1,0,1]=>[0,1,5]
  | _=>[]}
def BL:Ann:={cut:=(λ| [1,1,1,1]=>true | [1,1,1,1,1]=>true | [1,1,1,1,1,1]=>true | [1,1,1,1,1,1,1]=>true | _=>false),keep:=fun
  | [0,1,1,0,1,0,1,1,1,1,1,1,1]=>[1,3,5]
  | [1,1,1,1]=>[1,3,4]
  | [1,1,1,1,1]=>[1,3,4]
  | [1,1,1,1,1,1]=>[1,3]
  | [1,1,1,1,1,1,1]=>[1,3]
  | _=>[]}
def O3:Ann:={keep:=fun
  | [0,1,0,1,1,1,1,1]=>[1,5,9]
  | _=>[]}
def JQ:Ann:={keep:=fun
  | [0,1,0,1,1,1]=>[2,3,4,10]
  | _=>[]}
def LN:Ann:={keep:=fun
  | [0,1,0,1,1,1,1,1]=>[1,2,5,6,7,8]
  | _=>[]}
def Fy:Ann:={keep:=fun
  | [0,1,0,1,1,1,1,1,1,1]=>[1,2,5,7,8]
  | [0,1,1,1,1,0,0,1,0,0,1,0,1,1,1,1,1,1,1]=>[1,2,5,7,8,10,11]
  | [0,1,1,1,0,0,1,0,0,1,1,1,1,0,0,1,0,0,1,0,1,1,1,1,1,1,1]=>[1,2,5,7,8,10,11,12]
  | _=>[]}
def LM:Ann:={keep:=fun
  | [0,1,0,1,1,0,1,1,1,1,1,1,1,1,1,0,1,0,1,1,1,1,1,1,1]=>[2,3,12]
  | _=>[]}
def O4:Ann:={keep:=fun
  | [0,1,0,1,1,1,1,1]=>[1,4,10,11]
  | _=>[]}
def HO:Ann:={keep:=fun
  | [0,1,0,1,1,1,1,1]=>[1,3,5,8]
  | _=>[]}
def Er:Ann:={keep:=fun
  | [0,1,0,1,1]=>[1,2,5,6]
  | [0,1,1,0,0,1,0,0,1,0,1,1]=>[1,2,5,6,7,8]
  | [0,1,0,0,1,0,0,1,1,0,0,1,0,0,1,0,1,1]=>[1,2,5,6,7,8,9]
  | _=>[]}
def DH:Ann:={keep:=fun
  | [0,1,0,1,1,1,1,1]=>[1,5]
  | [0,1,0,1,1,1,1,1,1]=>[1,7]
  | [0,1,0,1,1,1,1,1,1,1,1,1]=>[1,8,9]
  | [0,1,1,1,1,0,0,1,0,0,1,0,1,1,1,1,1,1,1,1,1]=>[1,8,9,11,12]
  | _=>[]}
def HT:Ann:={keep:=fun
  | [0,1,0,1,1,1,1]=>[1,7,8]
  | [0,1,0,1,1,1,1,1,1]=>[1,10]
  | _=>[]}
def KQ:Ann:={keep:=fun
  | [0,1,0,1,1]=>[0,1,5]
  | _=>[]}
def HQ:Ann:={keep:=fun
  | [0,1,0,1,1,1,1]=>[2,3,6]
  | [0,1,1,1,0,0,1,0,0,1,0,1,1,1,1]=>[2,3,6,7,8]
  | [0,1,0,1,1,1,1,1]=>[2,3,9]
  | _=>[]}
def Lb (t:D.Type)(v most n i:Int):St:=Aq [(1,Aa v),(2,.bp 0 0),(6,Aa most),(7,Aa n),(8,Aa i)] [.box (Bn t)]
def Ng (v:D.Var)(n k:Int):St:=Aq [(1,.bp 0 0),(3,Aa n),(4,Aa k)] [.box (BN v)]
def IF (t:List D.Type)(v:List Int)(k:Int):St:=Aq [(0,AD true t),(1,Ac true v),(5,Aa k)] []
def Nf (s:D.Shape)(k:Int):St:=Aq [(1,.bp 0 0),(3,Aa k)] [.box (BE s)]
def Nj (fz:Bool)(a:Int)(l:List Int)(k:Int):St:=Aq [(0,Aa a),(1,Ac fz l),(5,Aa k)] []
def Qg (x:D.Expr)(l:List Int)(k:Int):St:=Aq [(1,.bp 0 0),(3,.ow 1 0 l.length),(5,Aa k)] [.box (AE x),.arr true 0 l.length 1 (AC l)]
def Gz (x:D.Expr)(l:List Int)(n:Int):St:=Aq [(1,.bp 0 0),(3,.ow 1 0 l.length),(4,Aa n)] [.box (AE x),.arr true 0 l.length 1 (AC l)]
def IH (x:D.Expr)(l:List Int):St:=Aq [(1,.bp 0 0),(3,.ow 1 0 l.length)] [.box (AE x),.arr true 0 l.length 1 (AC l)]
def Qb (a:Int)(v:D.Var)(k:Int):St:=Aq [(1,Aa a),(5,.bp 0 0),(9,Aa k)] [.box (BN v)]
def Jk (m:D.Model)(args mt:List Int)(k:Int):St:=Aq [(2,Ac true args),(3,Ac true mt),(4,.bp 0 0),(10,Aa k)] [.box (Ag m)]
def Qh (m:D.Model)(a:Int)(x:D.Expr)(n k:Int):St:=Aq [(1,Aa a),(2,.bp 0 0),(5,.bp 1 0),(6,Aa n),(7,.ow 2 0 3),(8,Aa k)] [.box (Ag m),.box (AE x),.arr true 0 3 1 (AC [x.A,x.B,x.C])]
def Hd (m:D.Model)(a:Int)(p:D.Proc)(many k:Int):St:=Aq [(1,Aa a),(2,.bp 0 0),(5,.bp 1 0),(7,Aa many),(8,Aa k)] [.box (Ag m),.box (A6 p)]
def IG (m:D.Model)(a:Int)(p:D.Proc)(many k:Int)(ws:List (List D.Trans))(j:Int):St:=Aq [(1,Aa a),(2,.bp 0 0),(5,.bp 1 0),(7,Aa many),(8,Aa k),(10,Bw true ws),(11,Aa j)] [.box (Ag m),.box (A6 p)]
def La (m:D.Model)(a:Int)(p:D.Proc)(many k:Int)(ws:List (List D.Trans))(j h:Int):St:=Aq [(1,Aa a),(2,.bp 0 0),(5,.bp 1 0),(7,Aa many),(8,Aa k),(10,Bw true ws),(11,Aa j),(12,Aa h)] [.box (Ag m),.box (A6 p)]
def Nd (m:D.Model)(s:D.Stmt)(k:Int):St:=Aq [(2,.bp 0 0),(3,.bp 1 0),(12,Aa k)] [.box (Ag m),.box (An s)]
def Qc (m:D.Model)(a:Int)(l:List Int)(k:Int):St:=Aq [(1,Aa a),(4,.bp 0 0),(10,Ac true l),(11,Aa k)] [.box (Ag m)]
def Kl (m:D.Model)(a:Int)(s:D.Stmt)(k:Int):St:=Aq [(1,Aa a),(3,.bp 0 0),(5,.bp 1 0),(8,Aa k)] [.box (Ag m),.box (An s)]
def IE (m:D.Model)(a:Int)(p:D.Proc)(k:Int):St:=Aq [(1,Aa a),(2,.bp 0 0),(5,.bp 1 0),(6,Aa k)] [.box (Ag m),.box (A6 p)]
def Kk (m:D.Model)(a:Int)(p:D.Proc)(k:Int)(ws:List (List D.Trans))(j:Int):St:=Aq [(1,Aa a),(2,.bp 0 0),(5,.bp 1 0),(6,Aa k),(7,Bw true ws),(8,Aa j)] [.box (Ag m),.box (A6 p)]
def Nc (m:D.Model)(a:Int)(p:D.Proc)(k:Int)(ws:List (List D.Trans))(j h:Int):St:=Aq [(1,Aa a),(2,.bp 0 0),(5,.bp 1 0),(6,Aa k),(7,Bw true ws),(8,Aa j),(9,Aa h)] [.box (Ag m),.box (A6 p)]
def Qe (m:D.Model)(k:Int):St:=Aq [(1,.bp 0 0),(5,Aa k)] [.box (Ag m)]
def Qd (m:D.Model)(k:Int):St:=Aq [(1,.bp 0 0),(7,Aa k)] [.box (Ag m)]
def U0 (m:D.Model)(had:List Bool)(k:Int):St:=Aq [(1,.bp 0 0),(8,.ow 1 0 had.length),(9,Aa k)] [.box (Ag m),.arr true 0 had.length 1 (EK had)]
def UZ (m:D.Model)(had:List Bool)(k:Int)(l:List Int)(j:Int):St:=Aq [(1,.bp 0 0),(8,.ow 1 0 had.length),(9,Aa k),(11,Ac true l),(12,Aa j)] [.box (Ag m),.arr true 0 had.length 1 (EK had)]
def Ld (m:D.Model)(many k:Int):St:=Aq [(1,.bp 0 0),(7,Aa many),(8,Aa k)] [.box (Ag m)]
def Lc (m:D.Model)(k:Int):St:=Aq [(1,.bp 0 0),(10,Aa k)] [.box (Ag m)]
def Tt (t:List D.Type)(l:List Int)(k:Int):St:=Aq [(0,AD true t),(1,Ac true l),(5,Aa k)] []
def Ni (m:D.Model)(s:D.State)(k:Int):St:=Aq [(2,.bp 0 0),(3,.bp 1 0),(6,Aa k)] [.box (Ag m),.box (Ae s)]
def Qf (m:D.Model)(s:D.State)(k:Int)(c:D.Chan)(j:Int):St:=Aq [(2,.bp 0 0),(3,.bp 1 0),(6,Aa k),(7,.bp 2 0),(8,Aa j)] [.box (Ag m),.box (Ae s),.box (Am c)]
def Nh (m:D.Model)(s:D.State)(k:Int):St:=Aq [(2,.bp 0 0),(3,.bp 1 0),(9,Aa k)] [.box (Ag m),.box (Ae s)]
def Km (a b:List Int)(k:Int):St:=Aq [(0,Ac true a),(1,Ac true b),(5,Aa k)] []
end Go.Proofs.YtggokmjgegoanaaGreatDoor
